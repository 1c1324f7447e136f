/-
  The walk of (*Blocks).Each: the iterator over all blocks, in order.
-/
import Derived.Test.YtdokiaicheillaaGreatSorted
import Derived.Test.YtdokiaicheillaaGreatRange
import Derived.Sort.QuietIn
import Derived.Deep.DeepMust
namespace Go.Proofs.YtdokiaicheillaaGreat.S
open Go.RowKit

/-- Blocks in order. -/
def each (l : List (Int × Int)) : List (Int × Int) := ((l.map (·.1)).mergeSort leI).map fun k => (k, (getK l k).getD 0)
theorem each_length (l : List (Int × Int)) : (each l).length = l.length := by simp [each, List.length_mergeSort]

def gaps : Int → List (Int × Int) → List (Int × Int)
  | _, [] => []
  | e, x :: r => (if e < x.1 then [(e, x.1 - e)] else []) ++ gaps (x.1 + x.2) r
def endOf : Int → List (Int × Int) → Int
  | e, [] => e
  | _, x :: r => endOf (x.1 + x.2) r
theorem endOf_append : ∀ (l m : List (Int × Int)) (e : Int), endOf e (l ++ m) = endOf (endOf e l) m
  | [], _, _ => rfl
  | x :: r, m, e => by simp [endOf, endOf_append r]
theorem gaps_append : ∀ (l m : List (Int × Int)) (e : Int), gaps e (l ++ m) = gaps e l ++ gaps (endOf e l) m
  | [], _, _ => rfl
  | x :: r, m, e => by simp [gaps, endOf, gaps_append r]
/-- The pieces that are free, of so many units. -/
def holes (u : Int) (l : List (Int × Int)) : List (Int × Int) := gaps 0 l ++ (if endOf 0 l < u then [(endOf 0 l, u - endOf 0 l)] else [])
theorem gaps_length : ∀ (l : List (Int × Int)) (e : Int), (gaps e l).length ≤ l.length
  | [], _ => by simp [gaps]
  | x :: r, e => by
    have := gaps_length r (x.1 + x.2)
    simp only [gaps, List.length_append, List.length_cons]
    split <;> simp <;> omega
theorem holes_length (u : Int) (l : List (Int × Int)) : (holes u l).length ≤ l.length + 1 := by
  have := gaps_length l 0
  simp only [holes, List.length_append]
  split <;> simp <;> omega
/-- Blocks that lie within u units. -/
def within (u : Int) (l : List (Int × Int)) : Prop := ∀ x, x ∈ l → 0 ≤ x.1 ∧ 1 ≤ x.2 ∧ x.1 + x.2 ≤ u
theorem getK_mem {K V : Type} [DecidableEq K] {l : List (K × V)} {k : K} (h : k ∈ l.map (·.1)) : ∃ v, getK l k = some v ∧ (k, v) ∈ l := by
  obtain ⟨x, hx, rfl⟩ := List.mem_map.1 h
  have hs : (l.find? (fun y => decide (x.1 = y.1))).isSome := by rw [List.find?_isSome]; exact ⟨x, hx, by simp⟩
  obtain ⟨y, hy⟩ := Option.isSome_iff_exists.1 hs
  refine ⟨y.2, by simp [getK, hy], ?_⟩
  have h1 := List.find?_some hy
  have h2 := List.mem_of_find?_eq_some hy
  simp only [decide_eq_true_eq] at h1
  rw [h1]; exact h2
theorem mem_each {l : List (Int × Int)} {x : Int × Int} (h : x ∈ each l) : x ∈ l := by
  obtain ⟨k, hk, rfl⟩ := List.mem_map.1 h
  obtain ⟨v, hv, hm⟩ := getK_mem (l := l) (k := k) ((List.mergeSort_perm _ _).mem_iff.1 hk)
  rw [hv]; exact hm
theorem within_each {u : Int} {l : List (Int × Int)} (h : within u l) : within u (each l) := fun x hx => h x (mem_each hx)
theorem endOf_bounds {u : Int} : ∀ {l : List (Int × Int)} {e : Int}, within u l → 0 ≤ e → e ≤ u → 0 ≤ endOf e l ∧ endOf e l ≤ u
  | [], e, _, h0, h1 => ⟨h0, h1⟩
  | x :: r, e, hw, _, _ => by
    have h := hw x (by simp)
    exact endOf_bounds (l := r) (fun y hy => hw y (by simp [hy])) (by omega) (by omega)
theorem within_take {u : Int} {l : List (Int × Int)} (h : within u l) (i : Nat) : within u (l.take i) := fun x hx => h x (List.mem_of_mem_take hx)
theorem each_getK {l : List (Int × Int)} {i : Nat} {k : Int} (h : ((l.map (·.1)).mergeSort leI)[i]? = some k) : ∃ v, getK l k = some v ∧ (each l)[i]? = some (k, v) := by
  have hk : k ∈ l.map (·.1) := (List.mergeSort_perm _ _).mem_iff.1 (List.mem_of_getElem? h)
  obtain ⟨v, hv, -⟩ := getK_mem hk
  exact ⟨v, hv, by simp [each, h, hv]⟩
end Go.Proofs.YtdokiaicheillaaGreat.S

namespace Go.Proofs.YtdokiaicheillaaGreat
open Go.RowKit Go.Shelf
attribute [local go_sem] Oper.semAt_some

abbrev encI (x : Int) : Value := Value.int .i64 x
abbrev encP (x : Int × Int) : Array Value := #[Value.int .i64 x.1, Value.int .i64 x.2]

/-- A row of the call's own, one cell an element, can be read; and it lies in cells of its kind. -/
theorem own_row {α : Type} {w : World} {base n : Nat} {t : TypeId} {v : Value} {enc : α → Value} {xs : List α} (h : w.ownsRow base t 1 v n (xs.map enc)) (hn : n = xs.length) (hb : n ≤ 1073741824) :
    ∃ A c, v = .slice A n c ∧ Row w.cell? A 1 (fun x => [enc x]) xs ∧ (∀ b off, A = some ⟨b, off, none⟩ → base ≤ b ∧ ∃ cs, w.heap[b]? = some (.cells cs t (0, 0))) := by
  rcases h.2 with ⟨rfl, e⟩ | ⟨g, cap, cur, rfl, hg, hh, h1, h2, h3, h4⟩
  · obtain rfl : n = 0 := e
    obtain rfl : xs = [] := List.eq_nil_of_length_eq_zero hn.symm
    exact ⟨none, 0, rfl, Row.nil _ _ _ _, fun b off e => by cases e⟩
  · refine ⟨some ⟨g, 0, none⟩, cap, rfl, ⟨by omega, fun i x hx => ⟨g, 0, rfl, fun j u hu => ?_⟩⟩, fun b off e => by cases e; exact ⟨hg, cur, hh⟩⟩
    obtain ⟨hi, hx'⟩ := List.getElem?_eq_some_iff.1 hx
    rcases j with _ | j
    · have hu' : u = enc x := by simpa using hu.symm
      subst hu'
      have hq : (cur.toList.take (n * 1))[i]? = some (enc x) := by rw [h4]; simp [hi, hx']
      rw [List.getElem?_take] at hq
      split at hq
      · simpa [World.cell?, hh] using hq
      · cases hq
    · simp at hu
theorem Row.kept {α : Type} {w w' : World} {A : Option Addr} {k : Nat} {enc : α → List Value} {l : List α} (h : Row w.cell? A k enc l) (hk : ∀ b off, A = some ⟨b, off, none⟩ → w'.heap[b]? = w.heap[b]?) : Row w'.cell? A k enc l :=
  ⟨h.1, fun i x hx => by
    obtain ⟨b, off, hA, hc⟩ := h.2 i x hx
    refine ⟨b, off, hA, fun j v hv => ?_⟩
    have := hc j v hv
    simpa only [World.cell?, hk b off hA] using this⟩

theorem cell_alloc_lt (W : World) (o : Obj) {k off : Nat} (h : k < W.heap.size) : (W.alloc o).cell? ⟨k, off, none⟩ = W.cell? ⟨k, off, none⟩ := by
  simp only [World.cell?, Below.heap_alloc W o k h]

set_option maxHeartbeats 400000 in
theorem blocks_Each (b : Nat) (w : World) :
    Calls Tryz.prog 141 #[.pointer (some ⟨b, 0, none⟩)] w fun e w' => e = .returned (.func (.func 170) #[] #[.pointer (some ⟨w.heap.size, 0, none⟩)]) ∧ w' = w.alloc (.cells #[.pointer (some ⟨b, 0, none⟩)] 75) := by
  go_enter Tryz.func141, Tryz.ntmps141
  go_wp2
  go_ret
  exact ⟨rfl, rfl⟩

/-- What the iterator reads between two rounds. -/
def eachInv (B Bb b mb : Nat) (l : List (Int × Int)) (A : Option Addr) (ks : List Int) (wr : World) : Prop :=
  wr.cell? ⟨Bb, 0, none⟩ = some (.pointer (some ⟨b, 0, none⟩)) ∧ wr.cell? ⟨b, 1, none⟩ = some (.map (some mb)) ∧ MapAt encI encI wr mb l ∧ Row wr.cell? A 1 (fun x => [Value.int .i64 x]) ks ∧ (∀ g off, A = some ⟨g, off, none⟩ → B ≤ g ∧ ∃ cs, wr.heap[g]? = some (.cells cs 3 (0, 0)))
theorem eachInv.keeps {B Bb b mb : Nat} {l : List (Int × Int)} {A : Option Addr} {ks : List Int} {w w' : World} {T : TypeId → Prop} {bs : Nat → Prop} (h : eachInv B Bb b mb l A ks w) (hT : T 3) (hbs : bs Bb ∧ bs b ∧ bs mb) (hk : KeepsX B T bs w w') : eachInv B Bb b mb l A ks w' := by
  obtain ⟨h1, h2, h3, h4, h5⟩ := h
  refine ⟨(hk.cell hbs.1).trans h1, (hk.cell hbs.2.1).trans h2, h3.kept (hk.fixed _ hbs.2.2), h4.kept fun g off e => ?_, fun g off e => ?_⟩
  · obtain ⟨hg, cs, hc⟩ := h5 g off e
    exact (hk.cells g cs _ _ hg hT hc).trans hc.symm
  · obtain ⟨hg, cs, hc⟩ := h5 g off e
    exact ⟨hg, cs, hk.cells g cs _ _ hg hT hc⟩

set_option maxHeartbeats 2000000 in
theorem each_at (n : Nat) (hn : 2 ≤ n) (T : TypeId → Prop) (hT : T 3) (bs : Nat → Prop) (Bb b mb : Nat) (l : List (Int × Int)) (W : World) (hbs : bs Bb ∧ bs b ∧ bs mb) (hB : W.cell? ⟨Bb, 0, none⟩ = some (.pointer (some ⟨b, 0, none⟩))) (hb1 : W.cell? ⟨b, 1, none⟩ = some (.map (some mb)))
    (hm : MapAt encI encI W mb l) (hl : l.length ≤ 1073741824) :
    SeqAt Fence.wide n Tryz.prog 170 #[.pointer (some ⟨Bb, 0, none⟩)] encP T (KeepsX W.heap.size T bs) (fun xs => xs = S.each l) (fun pre => pre <+: S.each l) l.length W := by
  intro lp J Jx hJo hJxo hY hJ0
  have hJ := ownFrom_abides (ownT_from hJo)
  clear hJo hJxo
  have hn1 : 1 ≤ n := by omega
  have hkeys := fun W1 (h : W1.cell? ⟨W.heap.size, 0, none⟩ = some (.map (some mb))) (h2 : MapAt encI encI W1 mb l) => sorted_ints 206 #[.pointer (some ⟨W.heap.size, 0, none⟩)] (enters_of Tryz.func206 (by kernel_rfl) rfl) (l.map (·.1)) _ _ W1 W1 (keys_stops_int encI 7 (by omega) W.heap.size mb l W1 h h2) (Below.refl _ _) hl (by simpa using hl)
  have hkeys1 := Hid.mk hkeys
  have hY1 := Hid.mk hY
  have hm1 := Hid.mk hm
  have hJ01 := Hid.mk hJ0
  have hBlt : Bb < W.heap.size := World.block_lt_of_cell? W _ hB
  have hblt : b < W.heap.size := World.block_lt_of_cell? W _ hb1
  have hB1 := Hid.mk hB
  have hb11 := Hid.mk hb1
  have hbs1 := Hid.mk hbs
  clear hkeys hY hm hJ0 hbs
  refine callsIn_of_wp Tryz.func170 rfl trivial ?_ rfl
  simp only [Tryz.ntmps170, List.size_toArray, List.length_cons, List.length_nil, Nat.reduceAdd, Nat.reduceSub, Array.replicate_succ, Array.replicate_zero, List.push_toArray, List.append_toArray, List.nil_append, List.cons_append]
  have hFw : ∀ f, Fence.wide.fn f := fun _ => trivial
  have hFd : Fence.wide.depth = none := rfl
  have hFo : Fence.wide.round = none := rfl
  gi_wp2_with (first | (gi_at_call 172; refine (callsIn_wide.2 (keys_int mb _)).mono ?_; rintro e w1 ⟨rfl, rfl⟩) | (gi_at_call 171; go_must (refine (callsIn_wide.2 (hkeys1.out _ (Boxed.new W _ _).cell (hm1.out.kept (Below.heap_alloc _ _ _ hm1.out.lt)))).mono ?_; rintro e w2 ⟨v, rfl, ho, hbw⟩; rw [List.length_map] at ho; obtain ⟨A, c, rfl, hrow, hty⟩ := own_row ho (by rw [List.length_mergeSort, List.length_map]) hl; have hrow1 := Hid.mk hrow; have hty1 := Hid.mk hty; have hbw1 := Hid.mk hbw; clear ho hrow hty hbw)))
  obtain ⟨hc2, -⟩ := bcell hbw1.out
  have hBw2 : w2.cell? ⟨Bb, 0, none⟩ = some (.pointer (some ⟨b, 0, none⟩)) := (hc2 Bb 0 (by simp; omega)).trans ((cell_alloc_lt W _ hBlt).trans hB1.out)
  have hbw2 : w2.cell? ⟨b, 1, none⟩ = some (.map (some mb)) := (hc2 b 1 (by simp; omega)).trans ((cell_alloc_lt W _ hblt).trans hb11.out)
  have hmw2 := Hid.mk (hm1.out.kept ((hbw1.out.block mb (by have := hm1.out.lt; simp; omega)).trans (Below.heap_alloc W (.cells #[.map (some mb)] 159) _ hm1.out.lt)))
  have hJw2 := Hid.mk (abides_below hJ (abides_below hJ hJ01.out (below_one W (.cells #[.map (some mb)] 159))) hbw1.out)
  have hgw2 : W.heap.size < w2.heap.size := Nat.lt_of_lt_of_le (by simp) hbw1.out.size
  generalize hks : (l.map (·.1)).mergeSort S.leI = ks at *
  have hks1 := Hid.mk hks
  have hkl : ks.length = l.length := by rw [← hks, List.length_mergeSort, List.length_map]
  have hrow2 : Hid (eachInv W.heap.size Bb b mb l A ks w2) := ⟨hBw2, hbw2, hmw2.out, hrow1.out, fun g off e => ⟨by have := (hty1.out g off e).1; simp at this; omega, (hty1.out g off e).2⟩⟩
  clear hks hc2 hB hb1 hBw2 hbw2 hmw2 hrow1 hty1 hB1 hb11 hm1 hJ01 hbw1
  gi_loopw [4, 12] (fun _ v12 wr => ∃ i : Nat, i ≤ l.length ∧ v12 = .int .i64 i ∧ J ((S.each l).take i) wr ∧ Hid (eachInv W.heap.size Bb b mb l A ks wr) ∧ W.heap.size < wr.heap.size) (fun _ v12 _ => l.length - (intOf v12).toNat)
  case atStart => exact ⟨0, Nat.zero_le _, rfl, hJw2.out, hrow2, hgw2⟩
  case round =>
    obtain ⟨i, hi, rfl, hj, hfacts, hsz⟩ := hrel
    by_cases hlt : i < l.length
    · obtain ⟨f1, f2, f3, f4, f5⟩ := hfacts.out
      obtain ⟨v, hv, hei⟩ := S.each_getK (l := l) (i := i) (by rw [hks1.out]; exact List.getElem?_eq_getElem (by omega))
      obtain ⟨g, off, rfl, hcell⟩ := f4.2 i _ (List.getElem?_eq_getElem (by omega))
      have h0 : wr.cell? ⟨g, off + i, none⟩ = some (.int .i64 ks[i]) := by simpa using hcell 0 _ rfl
      have hgl : g < wr.heap.size := World.block_lt_of_cell? wr _ h0
      have hlook := run_look (P := Tryz.prog) (key_int Tryz.underlying3) Tryz.underlying159 f3 ks[i] hv false
      have hlen : ((S.each l).take i).length < l.length := by rw [List.length_take, S.each_length]; omega
      obtain ⟨fn, tmps, assign, body, hy, hR⟩ := hY1.out _ (ks[i], v) _ hj hlen (by rw [← S.take_succ' hei]; exact List.take_prefix _ _)
      dsimp only [encP] at hy
      generalize ks[i] = k at *
      have hei1 := Hid.mk hei
      clear hj f3 f4 f5 hcell hlen hei hv
      gi_wp2
      refine hR.mono ?_
      rintro e W' (⟨rfl, hJ', hk⟩ | ⟨rfl, hJx', -⟩)
      · have hk1 := Hid.mk hk
        have hJ1 := Hid.mk hJ'
        clear hk hy hR hlook hJ' f1 f2 h0
        gi_wp2
        go_roundw
        case rel =>
          go_light
          refine ⟨i + 1, by omega, by go_num, ?_, hfacts.out.keeps hT hbs1.out hk1.out, Nat.lt_of_lt_of_le hsz hk1.out.size⟩
          rw [S.take_succ' hei1.out]
          exact hJ1.out
        case measure => go_light; simp [intOf]; omega
      · gi_wp2
        refine bodyPost_ret (results_none rfl _ _ _) rfl ?_
        go_light
        refine ⟨⟨_, rfl⟩, .inr ⟨_, ?_, hJx'⟩⟩
        rw [← S.take_succ' hei1.out]
        exact List.take_prefix _ _
    · have hi' : i = l.length := by omega
      clear hi
      subst hi'
      gi_wp2
      go_end0
      go_light
      exact ⟨⟨_, rfl⟩, .inl ⟨_, by rw [List.take_of_length_le (by rw [S.each_length]; exact Nat.le_refl _)], hj⟩⟩
end Go.Proofs.YtdokiaicheillaaGreat
