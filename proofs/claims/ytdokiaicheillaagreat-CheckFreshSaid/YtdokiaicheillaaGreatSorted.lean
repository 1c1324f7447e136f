/-
  slices.Sorted at int and at string, over any iterator that goes through a permutation of keys.
-/
import Derived.Test.YtdokiaicheillaaGreatKeys
import Derived.Test.YtdokiaicheillaaGreatShelf
namespace Go.Proofs.YtdokiaicheillaaGreat
open Go.RowKit Go.Shelf Go.Sort

theorem own_holds {α : Type} [Inhabited α] {w : World} {base e n cap g : Nat} {enc : α → Value} {xs : List α} (h : w.ownsRow base e 1 (.slice (some ⟨g, 0, none⟩) n cap) n (xs.map enc)) : Holds enc w g 0 xs.toArray := by
  intro j hj
  have hj' : j < xs.length := by simpa using hj
  rcases h.2 with ⟨e1, _⟩ | ⟨g', cap', cur, e1, _, hh, _, _, hs, ht⟩
  · cases e1
  · simp only [Value.slice.injEq, Option.some.injEq, Addr.mk.injEq, and_true, true_and] at e1
    obtain ⟨rfl, rfl⟩ := e1
    constructor
    · have hq : (cur.toList.take (n * 1))[j]? = some (enc xs[j]) := by rw [ht]; simp [hj']
      rw [List.getElem?_take] at hq
      split at hq
      · simp only [World.cell?, hh, Option.isSome_none, Bool.false_eq_true, if_false, Nat.zero_add]
        rw [getElem!_pos _ j hj]
        simpa using hq
      · cases hq
    · simp [World.frozen?, hh]

theorem own_sort {α : Type} [Inhabited α] {w w' : World} {base e n cap g k : Nat} {enc : α → Value} {xs ys : List α} {os : Array Obj} (h : w.ownsRow base e 1 (.slice (some ⟨g, 0, none⟩) n cap) n (xs.map enc)) (hw : w' = grow (putRow enc (Sort.ahead w k) g 0 ys.toArray) os) (hl : ys.length = xs.length) :
    w'.ownsRow base e 1 (.slice (some ⟨g, 0, none⟩) n cap) n (ys.map enc) ∧ w.grownBy w' (some g) := by
  have hn : xs.length = n := by have := h.1; simpa using this
  rcases h.2 with ⟨e1, _⟩ | ⟨g', cap', cur, e1, hb, hh, h1, h2, hs, ht⟩
  · cases e1
  · simp only [Value.slice.injEq, Option.some.injEq, Addr.mk.injEq, and_true, true_and] at e1
    obtain ⟨rfl, rfl⟩ := e1
    have hlt := (Array.getElem?_eq_some_iff.1 hh).1
    subst hw
    refine ⟨⟨by simp [hl, hn], .inr ⟨g, cap, putCells enc 0 ys.toArray cur, rfl, hb, ?_, h1, h2, by simp [putCells, hs], ?_⟩⟩, ⟨rfl, rfl, rfl, ?_, ?_⟩⟩
    · simp only [grow, putRow, mapBlock, Sort.ahead]
      rw [Array.getElem?_append_left (by simpa using hlt), Array.getElem?_modify, if_pos rfl, hh]
      rfl
    · apply List.ext_getElem?
      intro j
      rw [List.getElem?_take]
      by_cases hj : j < n
      · have hj2 : j < ys.length := by omega
        have hj3 : j < cur.size := by omega
        simp only [Nat.mul_one, hj, if_true, Array.getElem?_toList, putCells, Array.getElem?_mapIdx, List.getElem?_map]
        simp [hj3, hj2]
      · have hj2 : ¬ j < (ys.map enc).length := by rw [List.length_map]; omega
        rw [if_neg (by omega), List.getElem?_eq_none (by omega)]
    · simp [grow, putRow, mapBlock, Sort.ahead]
    · intro i hi hne
      simp only [grow, putRow, mapBlock, Sort.ahead]
      rw [Array.getElem?_append_left (by simpa using hi), Array.getElem?_modify, if_neg (fun e => hne (by rw [e]))]
end Go.Proofs.YtdokiaicheillaaGreat

namespace Go.Proofs.YtdokiaicheillaaGreat
open Go.RowKit Go.Shelf Go.Sort

theorem sort_perm {α : Type} (le : α → α → Bool) (ht : ∀ a b c, le a b = true → le b c = true → le a c = true) (hto : ∀ a b, (le a b || le b a) = true) (ha : ∀ a b, le a b = true → le b a = true → a = b) {xs ys : List α} (h : xs.Perm ys) : xs.mergeSort le = ys.mergeSort le :=
  List.Perm.eq_of_pairwise (le := fun a b => le a b = true) (fun a b _ _ h1 h2 => ha a b h1 h2) (List.pairwise_mergeSort ht hto xs) (List.pairwise_mergeSort ht hto ys) (((List.mergeSort_perm xs le).trans h).trans (List.mergeSort_perm ys le).symm)

theorem own_zero {α : Type} {w w1 : World} {e : Ending} {t : TypeId} {enc : α → Value} (h : ∃ (v : Value) (xs : List α), xs.Perm ([] : List α) ∧ e = .returned v ∧ w1.ownsRow w.heap.size t 1 v xs.length (xs.map enc) ∧ Below w.heap.size w w1) :
    ∃ A c, e = .returned (.slice A 0 c) ∧ w1.ownsRow w.heap.size t 1 (.slice A 0 c) 0 [] ∧ Below w.heap.size w w1 := by
  obtain ⟨v, xs, hS, rfl, ho, hb⟩ := h
  obtain rfl := List.Perm.eq_nil hS
  rcases ho.2 with ⟨e1, -⟩ | ⟨g, cap, cur, e1, -⟩ <;> subst e1 <;> exact ⟨_, _, rfl, by simpa using ho, hb⟩
theorem own_some {α : Type} {w w1 : World} {e : Ending} {t : TypeId} {enc : α → Value} {ks : List α} (hne : ks.length ≠ 0) (h : ∃ (v : Value) (xs : List α), xs.Perm ks ∧ e = .returned v ∧ w1.ownsRow w.heap.size t 1 v xs.length (xs.map enc) ∧ Below w.heap.size w w1) :
    ∃ (g cap : Nat) (xs : List α), e = .returned (.slice (some ⟨g, 0, none⟩) xs.length cap) ∧ xs.Perm ks ∧ w.heap.size ≤ g ∧ g < w1.heap.size ∧ w1.ownsRow w.heap.size t 1 (.slice (some ⟨g, 0, none⟩) xs.length cap) xs.length (xs.map enc) ∧ Below w.heap.size w w1 := by
  obtain ⟨v, xs, hS, rfl, ho, hb⟩ := h
  rcases ho.2 with ⟨-, e1⟩ | ⟨g, cap, cur, e1, h2, hh, -⟩
  · exact absurd (by rw [← hS.length_eq]; simpa using e1) hne
  · subst e1
    exact ⟨_, _, xs, rfl, hS, h2, (Array.getElem?_eq_some_iff.1 hh).1, ho, hb⟩
namespace S
abbrev leI (x y : Int) : Bool := decide (x ≤ y)
abbrev leT (x y : Text) : Bool := decide (x ≤ y)
theorem sortI_perm {xs ys : List Int} (h : xs.Perm ys) : xs.mergeSort leI = ys.mergeSort leI :=
  sort_perm leI (fun a b c h1 h2 => by simp only [leI, decide_eq_true_eq] at *; omega) (fun a b => by simp only [leI, Bool.or_eq_true, decide_eq_true_eq]; omega) (fun a b h1 h2 => by simp only [leI, decide_eq_true_eq] at *; omega) h
theorem sortT_perm {xs ys : List Text} (h : xs.Perm ys) : xs.mergeSort leT = ys.mergeSort leT :=
  sort_perm leT (fun a b c h1 h2 => by simp only [leT, decide_eq_true_eq] at *; exact List.le_trans h1 h2) (fun a b => by simp only [leT, Bool.or_eq_true, decide_eq_true_eq]; exact List.le_total a b) (fun a b h1 h2 => by simp only [leT, decide_eq_true_eq] at *; exact List.le_antisymm h1 h2) h
end S

set_option maxHeartbeats 1000000 in
theorem sorted_ints (gf : Nat) (lb : Array Value) (eg : ∀ args w, (callFunc gf args).run Tryz.prog w = .ok (.enter gf args) w) (ks : List Int) (Sp : List Int → Prop) (N : Nat) (w0 w : World) (hseq : SeqStopsK Fence.wide 7 Tryz.prog gf lb (fun x : Int => #[Value.int .i64 x]) KeepsWalks (fun xs => xs.Perm ks) Sp N w0) (hb0 : Below w0.heap.size w0 w) (hN : N ≤ 1073741824) (hk : ks.length ≤ 1073741824) :
    Calls Tryz.prog 171 #[.func (.func gf) #[] lb] w fun e w' => ∃ v, e = .returned v ∧ w'.ownsRow w.heap.size 3 1 v ks.length ((ks.mergeSort S.leI).map fun x : Int => Value.int .i64 x) ∧ Below w.heap.size w w' := by
  have h0 := collect_ints gf lb eg _ Sp N w0 w hseq hb0 hN
  clear hseq eg hb0
  rcases ks with _ | ⟨k0, ks'⟩
  · have h1 := Hid.mk (h0.mono fun e w1 h => own_zero h)
    clear h0
    go_enter Tryz.func171, Tryz.ntmps171
    go_wp2_with (first | (go_at_call 204; refine h1.out.mono ?_; rintro e w1 ⟨A, c, rfl, ho, hb⟩; have ho1 := Hid.mk ho; have hb1 := Hid.mk hb; clear ho hb) | (go_at_call 205; refine (Tryz.slices_Sort_int_none A c w1).mono ?_; rintro e w2 ⟨rfl, rfl⟩))
    go_ret
    go_light
    exact ⟨_, rfl, by simpa using ho1.out, hb1.out⟩
  · have hne : (k0 :: ks').length ≠ 0 := by simp
    generalize k0 :: ks' = ks at *
    have h1 := Hid.mk (h0.mono fun e w1 h => own_some hne h)
    clear h0
    go_enter Tryz.func171, Tryz.ntmps171
    go_wp2_with (first | (go_at_call 204; refine h1.out.mono ?_; rintro e w1 ⟨g, cap, xs, rfl, hS, hg, hlt, ho, hb⟩; have hS1 := Hid.mk hS; have hb1 := Hid.mk hb; have ho1 := Hid.mk ho; have hg1 := Hid.mk hg; have hlt1 := Hid.mk hlt; clear ho hb hS hg hlt) | (go_at_call 205; refine (Tryz.slices_Sort_int g 0 cap xs w1 (own_holds ho1.out) hlt1.out (by have := hS1.out.length_eq; omega)).mono ?_; rintro e w2 ⟨rfl, n, os, hw⟩; have hw1 := Hid.mk hw; clear hw))
    go_ret
    go_light
    have hs := own_sort ho1.out hw1.out (by simp [List.length_mergeSort])
    have hl := hS1.out.length_eq
    have he : xs.mergeSort (fun x y => decide (x ≤ y)) = ks.mergeSort S.leI := S.sortI_perm hS1.out
    refine ⟨_, rfl, ?_, ?_⟩
    · have h2 := hs.1
      rw [he] at h2
      rw [← hl]
      exact h2
    · exact hb1.out.grown hs.2 hb1.out.size (fun k e => by cases e; exact hg1.out)

set_option maxHeartbeats 1000000 in
theorem sorted_strs (gf : Nat) (lb : Array Value) (eg : ∀ args w, (callFunc gf args).run Tryz.prog w = .ok (.enter gf args) w) (ks : List S.Text) (Sp : List S.Text → Prop) (N : Nat) (w0 w : World) (hseq : SeqStopsK Fence.wide 7 Tryz.prog gf lb (fun x : S.Text => #[Value.string (S.mk x)]) KeepsWalks (fun xs => xs.Perm ks) Sp N w0) (hb0 : Below w0.heap.size w0 w) (hN : N ≤ 1073741824) (hk : ks.length ≤ 1073741824) :
    Calls Tryz.prog 61 #[.func (.func gf) #[] lb] w fun e w' => ∃ v, e = .returned v ∧ w'.ownsRow w.heap.size 9 1 v ks.length ((ks.mergeSort S.leT).map fun x : S.Text => Value.string (S.mk x)) ∧ Below w.heap.size w w' := by
  have h0 := collect_strs gf lb eg _ Sp N w0 w hseq hb0 hN
  clear hseq eg hb0
  rcases ks with _ | ⟨k0, ks'⟩
  · have h1 := Hid.mk (h0.mono fun e w1 h => own_zero h)
    clear h0
    go_enter Tryz.func61, Tryz.ntmps61
    go_wp2_with (first | (go_at_call 102; refine h1.out.mono ?_; rintro e w1 ⟨A, c, rfl, ho, hb⟩; have ho1 := Hid.mk ho; have hb1 := Hid.mk hb; clear ho hb) | (go_at_call 103; refine (Tryz.slices_Sort_string_none A c w1).mono ?_; rintro e w2 ⟨rfl, rfl⟩))
    go_ret
    go_light
    exact ⟨_, rfl, by simpa using ho1.out, hb1.out⟩
  · have hne : (k0 :: ks').length ≠ 0 := by simp
    generalize k0 :: ks' = ks at *
    have h1 := Hid.mk (h0.mono fun e w1 h => own_some hne h)
    clear h0
    go_enter Tryz.func61, Tryz.ntmps61
    go_wp2_with (first | (go_at_call 102; refine h1.out.mono ?_; rintro e w1 ⟨g, cap, xs, rfl, hS, hg, hlt, ho, hb⟩; have hS1 := Hid.mk hS; have hb1 := Hid.mk hb; have ho1 := Hid.mk ho; have hg1 := Hid.mk hg; have hlt1 := Hid.mk hlt; clear ho hb hS hg hlt) | (go_at_call 103; refine (Tryz.slices_Sort_string g 0 cap xs w1 (own_holds ho1.out) hlt1.out (by have := hS1.out.length_eq; omega)).mono ?_; rintro e w2 ⟨rfl, n, os, hw⟩; have hw1 := Hid.mk hw; clear hw))
    go_ret
    go_light
    have hs := own_sort ho1.out hw1.out (by simp [List.length_mergeSort])
    have hl := hS1.out.length_eq
    have he : xs.mergeSort (fun x y => decide (x ≤ y)) = ks.mergeSort S.leT := S.sortT_perm hS1.out
    refine ⟨_, rfl, ?_, ?_⟩
    · have h2 := hs.1
      rw [he] at h2
      rw [← hl]
      exact h2
    · exact hb1.out.grown hs.2 hb1.out.size (fun k e => by cases e; exact hg1.out)
end Go.Proofs.YtdokiaicheillaaGreat
