/-
  The walk of ecdysislaw20.CheckFresh: true at every pair of numbers.
-/
import Derived.Test.YtdokiaicheillaaGreatHeld
import Derived.Test.YtdokiaicheillaaGreatTidyAll
import Derived.Deep.RegionHeld3
import Derived.Deep.MidRow
namespace Go.Proofs.YtdokiaicheillaaGreat
open Go.RowKit

theorem blocks_New_no (u : Int) (h : u < 0 ∨ 1024 < u) (w : World) : Calls Tryz.prog 42 #[.int .i64 u] w fun e w' => e = .returned (.tuple #[.pointer none, .int .i64 1]) ∧ Below w.heap.size w w' := by
  by_cases hu : u < 0
  · have t1 : decide (u < 0) = true := by simp; omega
    go_enter Tryz.func42, Tryz.ntmps42
    go_wp2
    go_ret2
    go_light
    exact ⟨rfl, Below.refl _ _⟩
  · have t1 : decide (u < 0) = false := by simp; omega
    have t2 : decide (1024 < u) = true := by simp; omega
    go_enter Tryz.func42, Tryz.ntmps42
    go_wp2
    go_ret2
    go_light
    exact ⟨rfl, Below.refl _ _⟩
theorem slots_New_no (n : Int) (h : n < 0 ∨ 256 < n) (w : World) : Calls Tryz.prog 43 #[.int .i64 n] w fun e w' => e = .returned (.tuple #[.pointer none, .int .i64 1]) ∧ Below w.heap.size w w' := by
  by_cases hu : n < 0
  · have t1 : decide (n < 0) = true := by simp; omega
    go_enter Tryz.func43, Tryz.ntmps43
    go_wp2
    go_ret2
    go_light
    exact ⟨rfl, Below.refl _ _⟩
  · have t1 : decide (n < 0) = false := by simp; omega
    have t2 : decide (256 < n) = true := by simp; omega
    go_enter Tryz.func43, Tryz.ntmps43
    go_wp2
    go_ret2
    go_light
    exact ⟨rfl, Below.refl _ _⟩
theorem blocks_New_any (u : Int) (w : World) : Calls Tryz.prog 42 #[.int .i64 u] w fun e w' => ∃ a k, e = .returned (.tuple #[.pointer a, .int .i64 k]) ∧ (u < 0 ∨ 1024 < u → k = 1) ∧ (0 ≤ u → u ≤ 1024 → k = 0) ∧ Below w.heap.size w w' := by
  by_cases h : u < 0 ∨ 1024 < u
  · exact (blocks_New_no u h w).mono fun e w' ⟨e1, hb⟩ => ⟨none, 1, e1, fun _ => rfl, fun _ _ => by omega, hb⟩
  · exact (blocks_New_yes u (by omega) (by omega) w).mono fun e w' ⟨b, mb, e1, _, _, _, hb⟩ => ⟨_, 0, e1, fun h9 => absurd h9 h, fun _ _ => rfl, hb⟩
theorem slots_New_any (n : Int) (w : World) : Calls Tryz.prog 43 #[.int .i64 n] w fun e w' => ∃ a k, e = .returned (.tuple #[.pointer a, .int .i64 k]) ∧ (n < 0 ∨ 256 < n → k = 1) ∧ (0 ≤ n → n ≤ 256 → k = 0) ∧ Below w.heap.size w w' := by
  by_cases h : n < 0 ∨ 256 < n
  · exact (slots_New_no n h w).mono fun e w' ⟨e1, hb⟩ => ⟨none, 1, e1, fun _ => rfl, fun _ _ => by omega, hb⟩
  · obtain ⟨m, rfl⟩ := Int.eq_ofNat_of_zero_le (show 0 ≤ n by omega)
    exact (slots_New_yes m (by omega) w).mono fun e w' ⟨b, mb, e1, _, _, _, hb⟩ => ⟨_, 0, e1, fun h9 => absurd h9 h, fun _ _ => rfl, hb⟩
def bad (u n : Int) : Prop := u < 0 ∨ 1024 < u ∨ n < 0 ∨ 256 < n
theorem object_New_no (u n : Int) (h : bad u n) (w : World) : Calls Tryz.prog 10 #[.int .i64 u, .int .i64 n] w fun e w' => e = .returned (.tuple #[.pointer none, .int .i64 1]) ∧ Below w.heap.size w w' := by
  unfold bad at h
  by_cases hu : u < 0 ∨ 1024 < u
  · clear h
    go_enter Tryz.func10, Tryz.ntmps10
    go_wp2_with (first | (go_at_call 42; (with_reducible refine (blocks_New_no u hu _).mono ?_); rintro e w1 ⟨rfl, hb⟩; have hb1 := Hid.mk hb; clear hb) | (go_at_call 43; (with_reducible refine (slots_New_any n _).mono ?_); rintro e w2 ⟨a, k, rfl, -, -, hb⟩; have hb2 := Hid.mk hb; clear hb))
    go_ret2
    go_light
    exact ⟨rfl, below_then hb1.out hb2.out⟩
  · have h1 : n < 0 ∨ 256 < n := by omega
    clear h
    have hB : ∀ w : World, Hid (Calls Tryz.prog 42 #[.int .i64 u] w fun e w' => ∃ a, e = .returned (.tuple #[.pointer a, .int .i64 0]) ∧ Below w.heap.size w w') := fun w => (blocks_New_any u w).mono fun e w' ⟨a, k, e1, _, h2, hb⟩ => ⟨a, by rw [e1, h2 (by omega) (by omega)], hb⟩
    go_enter Tryz.func10, Tryz.ntmps10
    go_wp2_with (first | (go_at_call 42; (with_reducible refine (hB _).out.mono ?_); rintro e w1 ⟨a, rfl, hb⟩; have hb1 := Hid.mk hb; clear hb) | (go_at_call 43; (with_reducible refine (slots_New_no n h1 _).mono ?_); rintro e w2 ⟨rfl, hb⟩; have hb2 := Hid.mk hb; clear hb))
    go_ret2
    go_light
    exact ⟨rfl, below_then hb1.out hb2.out⟩
theorem trans_New_no (u n : Int) (h : bad u n) (w : World) : Calls Tryz.prog 4 #[.int .i64 u, .int .i64 n] w fun e w' => e = .returned (.tuple #[.pointer none, .int .i64 1]) ∧ Below w.heap.size w w' := by
  go_enter Tryz.func4, Tryz.ntmps4
  go_wp2_with (go_at_call 10; (with_reducible refine (object_New_no u n h _).mono ?_); rintro e w1 ⟨rfl, hb⟩; have hb1 := Hid.mk hb; clear hb)
  go_ret2
  go_light
  exact ⟨rfl, hb1.out⟩
end Go.Proofs.YtdokiaicheillaaGreat

namespace Go.Proofs.YtdokiaicheillaaGreat
open Go.RowKit

theorem each_one (x : Int × Int) : S.each [x] = [x] := by simp [S.each, getK]
def kA : S.Kinds := ⟨1, [S.same []]⟩
theorem long_A : S.Kinds.long kA = 0 := by decide
def heapB : S.Heap := ⟨catA, 20, [(0, 3)], [⟨1, true, 0⟩, S.noSlot, S.noSlot, S.noSlot, S.noSlot], [⟨0, tA, 1, []⟩]⟩
def heapC : S.Heap := ⟨catA, 20, [(0, 3), (3, 3)], [⟨1, true, 0⟩, ⟨1, true, 3⟩, S.noSlot, S.noSlot, S.noSlot], [⟨0, tA, 1, []⟩, ⟨3, tA, 1, []⟩]⟩
def heapD : S.Heap := ⟨catA, 20, [(3, 3)], [⟨1, false, 0⟩, ⟨1, true, 3⟩, S.noSlot, S.noSlot, S.noSlot], [⟨3, tA, 1, []⟩]⟩
def heapE : S.Heap := ⟨catA, 20, [], [⟨1, false, 0⟩, ⟨1, false, 0⟩, S.noSlot, S.noSlot, S.noSlot], []⟩
theorem create_A1 : S.create heapA tA = (heapB, ⟨0, 1⟩, 0) := by
  have hk : getK heapA.cat tA = some kA := by decide
  have hm : S.slotMake heapA.slots 0 = ([⟨1, true, 0⟩, S.noSlot, S.noSlot, S.noSlot, S.noSlot], ⟨0, 1⟩, 0) := by decide
  have ht : S.take heapA.units heapA.blks (3 + ((kA.long / 8 : Nat) : Int)) = ([((0 : Int), (3 : Int))], 0, 0) := by
    rw [long_A]
    have he : S.each ([] : List (Int × Int)) = [] := by simp [S.each]
    show S.take 20 [] 3 = _
    rw [S.take, if_neg (by decide), he]
    rfl
  rw [S.create_yes hk ht hm, long_A]
  rfl
theorem create_A2 : S.create heapB tA = (heapC, ⟨1, 1⟩, 0) := by
  have hk : getK heapB.cat tA = some kA := by decide
  have hm : S.slotMake heapB.slots 3 = ([⟨1, true, 0⟩, ⟨1, true, 3⟩, S.noSlot, S.noSlot, S.noSlot], ⟨1, 1⟩, 0) := by decide
  have ht : S.take heapB.units heapB.blks (3 + ((kA.long / 8 : Nat) : Int)) = ([((0 : Int), (3 : Int)), (3, 3)], 3, 0) := by
    rw [long_A]
    show S.take 20 [(0, 3)] 3 = _
    rw [S.take, if_neg (by decide), each_one]
    rfl
  rw [S.create_yes hk ht hm, long_A]
  rfl
theorem drop_C : heapC.drop ⟨0, 1⟩ ⟨1, true, 0⟩ = heapD := by rfl
theorem drop_D : heapD.drop ⟨1, 1⟩ ⟨1, true, 3⟩ = heapE := by rfl
theorem good_C : S.goodAt heapC.slots ⟨0, 1⟩ = some ⟨1, true, 0⟩ := by decide
theorem good_D : S.goodAt heapD.slots ⟨1, 1⟩ = some ⟨1, true, 3⟩ := by decide
theorem handles_D : S.handles heapD.slots = [⟨1, 1⟩] := by decide
theorem handles_E : S.handles heapE.slots = [] := by decide
theorem used_D : S.used 20 [(3, 3)] = 3 := by
  rw [S.used, each_one]
  rfl
theorem cat_A_one : ∀ x, x ∈ catA → x.2.tabs.length = 1 := by decide
theorem fresh_D : heapD.fresh := by
  intro t ht
  simp only [heapD, List.mem_singleton] at ht
  subst ht
  exact ⟨kA, by decide, by decide⟩
theorem fresh_E : heapE.fresh := fun t ht => by cases ht
theorem plain_D : ∀ t, t ∈ heapD.things → heapD.plain t := by
  intro t ht
  simp only [heapD, List.mem_singleton] at ht
  subst ht
  exact ⟨kA, 0, S.same [], by decide, rfl, by decide, by decide⟩
theorem calm_D (hX : heapD.ok) : Calm2 ⟨⟨heapD, [(tR, ⟨0, 1⟩)]⟩, none⟩ [3] where
  old := rfl
  ok := hX
  few := by simp
  bad := by decide
  bad2 := by decide
  plain := plain_D
  fresh := fresh_D
  cat := by decide
  names := by decide
  long := by simp only [handles_D]; rfl
  units := by
    intro i x n hx hn
    simp only [handles_D] at hx
    have hi : i = 0 := by have := (List.getElem?_eq_some_iff.1 hx).1; simp at this; omega
    subst hi
    simp only [List.getElem?_cons_zero, Option.some.injEq] at hx hn
    subst hx hn
    exact ⟨_, ⟨3, tA, 1, []⟩, good_D, by simp [heapD], rfl, rfl⟩
  used := used_D
  none := fun h => by cases h
theorem sweeps_D {p : Parts} (hX : heapD.ok) : Sweeps p heapD heapE 1 := by
  have := sweeps_one (p := p) hX fresh_D (y := ⟨1, 1⟩) (by rw [handles_D]; rfl) good_D (by rw [drop_D]; exact handles_E) (by decide) cat_A_one
  rwa [drop_D] at this
theorem used_nil (u : Int) (h : 0 ≤ u) : S.used u [] = 0 := by
  have he : S.each ([] : List (Int × Int)) = [] := by simp [S.each]
  rw [S.used, he]
  have hh : S.holes u [] = if 0 < u then [(0, u - 0)] else [] := rfl
  rw [hh]
  by_cases hu : 0 < u
  · rw [if_pos hu]; simp [S.holeSum]
  · rw [if_neg hu]; simp [S.holeSum]; omega
theorem handles_New (u n : Nat) : S.handles (S.Heap.new u n).slots = [] := handles_new n 0
theorem calm_new (u n : Nat) (hu : u ≤ 1024) : Calm2 ⟨⟨S.Heap.new u n, []⟩, none⟩ [] where
  old := rfl
  ok := S.Heap.new_ok hu
  few := by simp
  bad := fun x hx => by cases hx
  bad2 := fun x hx => by cases hx
  plain := fun x hx => by cases hx
  fresh := fun x hx => by cases hx
  cat := by simp [S.Heap.new]
  names := fun x hx => by cases hx
  long := by simp only [handles_New]; rfl
  units := fun i x n hx => by simp [handles_New] at hx
  used := used_nil u (by omega)
  none := fun _ => rfl
theorem sweeps_new {p : Parts} (u n : Nat) (hu : u ≤ 1024) : Sweeps p (S.Heap.new u n) (S.Heap.new u n) 0 :=
  sweeps_none (S.Heap.new_ok hu) (fun x hx => by cases hx) (handles_New u n) (by simp [S.Heap.new]) (fun x hx => by cases hx)

/-- Only what was made is touched. -/
theorem Only.fresh {q : WPlace} {w w1 w2 : World} (h : Only q.F w1 w2) (hn : ∀ k, k ∈ q.F → w.heap.size ≤ k) (hb : Below w.heap.size w w1) : Below w.heap.size w w2 := hb.trans (h.toBelow hn hb.size)
end Go.Proofs.YtdokiaicheillaaGreat

namespace Go.Proofs.YtdokiaicheillaaGreat
open Go.RowKit

theorem stg_Free {w W : World} {T r mb : Nat} {p : Parts} {o : Option (Nat × SPlace)} {Y : S.World} (h : Stg w W ⟨T, ⟨p, r, mb⟩, o⟩ Y) (x : S.Handle) (sl : S.Slot) (hg : S.goodAt Y.now.X.slots x = some sl) :
    Calls Tryz.prog 18 #[.pointer (some ⟨p.H, 0, none⟩), x.val] W fun e w' => e = .returned (.int .i64 0) ∧ Stg w w' ⟨T, ⟨p, r, mb⟩, o⟩ ⟨⟨Y.now.X.drop x sl, Y.now.R⟩, Y.old⟩ ∧ Only p.F W w' :=
  (obj_Free_yes p Y.now.X x sl W h.at_.now.heap h.at_.now.ok hg).mono fun e w' ⟨e1, h1, h2⟩ => ⟨e1, h.only (h.at_.setHeap h1 (h.at_.now.ok.drop hg) rfl (fun k hk => .inl hk) h2) h2 (fun k hk => h.new k (q_sub (q := ⟨T, ⟨p, r, mb⟩, o⟩) hk)) (fun k hk => .inl hk), h2⟩
theorem stg_Create2 {w W : World} {T r mb : Nat} {p : Parts} {o : Option (Nat × SPlace)} {Y : S.World} (h : Stg w W ⟨T, ⟨p, r, mb⟩, o⟩ Y) (name : S.Text) :
    Calls Tryz.prog 16 #[.pointer (some ⟨p.H, 0, none⟩), .string (S.mk name)] W fun e w' => e = .returned (.tuple #[(S.create Y.now.X name).2.1.val, .int .i64 (S.create Y.now.X name).2.2]) ∧ Stg w w' ⟨T, ⟨p, r, mb⟩, o⟩ ⟨⟨(S.create Y.now.X name).1, Y.now.R⟩, Y.old⟩ ∧ Only p.F W w' :=
  (obj_Create p Y.now.X name W h.at_.now.heap h.at_.now.ok).mono fun e w' ⟨e1, h1, h2, h3⟩ => ⟨e1, h.only (h.at_.setHeap h1 h2 rfl (fun k hk => .inl hk) h3) h3 (fun k hk => h.new k (q_sub (q := ⟨T, ⟨p, r, mb⟩, o⟩) hk)) (fun k hk => .inl hk), h3⟩
theorem stg_Look {w W : World} {q : WPlace} {Y : S.World} {us : List Nat} (h : Stg w W q Y) (hc : Calm2 Y us) :
    Calls Tryz.prog 6 #[.pointer (some ⟨q.T, 0, none⟩)] W fun e w' => ∃ A0 c0 A2 c2, e = .returned (.agg #[.slice A0 Y.now.R.length c0, .slice none 0 0, .slice A2 (S.handles Y.now.X.slots).length c2, .slice none 0 0, .int .i64 0]) ∧ Stg w w' q Y ∧ Below W.heap.size W w' :=
  (look_calm W (look_c h.at_ hc)).mono fun e w' ⟨A0, c0, A2, c2, e1, _, hb⟩ => ⟨A0, c0, A2, c2, e1, h.then hb, hb⟩
theorem stg_Mend {w W : World} {q : WPlace} {Y : S.World} {us : List Nat} (h : Stg w W q Y) (hc : Calm2 Y us) :
    Calls Tryz.prog 7 #[.pointer (some ⟨q.T, 0, none⟩)] W fun e w' => e = .returned (.tuple #[.int .i64 (Y.now.R.length : Nat), .int .i64 0]) ∧ Stg w w' q ⟨⟨Y.now.X, []⟩, Y.old⟩ ∧ Only [q.s.mb] W w' :=
  (mend_calm q Y us W h.at_ hc).mono fun e w' ⟨e1, h1, h2⟩ => ⟨e1, h.only h1 h2 (fun k hk => by simp only [List.mem_singleton] at hk; rw [hk]; exact h.new _ (q_mb q)) (fun k hk => .inl hk), h2⟩

theorem cell_below {w w' : World} {b o : Nat} {v : Value} (hb : Below w.heap.size w w') (h : w.cell? ⟨b, o, none⟩ = some v) : w'.cell? ⟨b, o, none⟩ = w.cell? ⟨b, o, none⟩ := cell_block (hb.block b (World.block_lt_of_cell? w _ h))
theorem rep_kept {wa wb wc wd : World} {q : WPlace} {r1 r2 : Array Value} (h1 : Only [q.s.mb] (wa.alloc (.cells r1 30)) wb) (h2 : Below wb.heap.size wb wc)
    (h3 : ∀ k, k < (wc.alloc (.cells r2 30)).heap.size → k ∉ q.F → wd.heap[k]? = (wc.alloc (.cells r2 30)).heap[k]?) (hA : ∀ k, k ∈ q.F → k < wa.heap.size) (hC : ∀ k, k ∈ q.F → k < wc.heap.size) :
    wd.heap[wa.heap.size]? = some (.cells r1 30 (0, 0)) ∧ wd.heap[wc.heap.size]? = some (.cells r2 30 (0, 0)) := by
  have z1 := h1.size
  have z2 := h2.size
  rw [World.size_alloc] at z1
  have hmb := hA _ (q_mb q)
  refine ⟨?_, ?_⟩
  · rw [h3 wa.heap.size (by simp; omega) (fun hk => by have := hA _ hk; omega), Below.heap_alloc _ _ _ (by omega), h2.block _ (by omega), h1.block _ (by simp) (by simp; omega)]
    exact heap_alloc_new _ _
  · rw [h3 wc.heap.size (by simp) (fun hk => by have := hC _ hk; omega)]
    exact heap_alloc_new _ _

abbrev rep1 (A0 A2 : Option Addr) (c0 c2 : Nat) : Array Value := #[.slice A0 1 c0, .slice none 0 0, .slice A2 1 c2, .slice none 0 0, .int .i64 0]
abbrev rep0 (A0 A2 : Option Addr) (c0 c2 n : Nat) : Array Value := #[.slice A0 0 c0, .slice none 0 0, .slice A2 n c2, .slice none 0 0, .int .i64 0]

set_option maxRecDepth 100000 in
set_option maxHeartbeats 16000000 in
theorem alive20_yes (w : World) : Calls Tryz.prog 5 #[] w fun e w' => e = .returned (.bool true) ∧ Below w.heap.size w w' := by
  have hN : Hid (Calls Tryz.prog 4 #[.int .i64 20, .int .i64 5] w fun e w' => ∃ T s o, e = .returned (.tuple #[.pointer (some ⟨T, 0, none⟩), .int .i64 0]) ∧ Stg w w' ⟨T, s, o⟩ ⟨⟨S.Heap.new 20 5, []⟩, none⟩) := stg_New 20 5 (by decide) (by decide) w
  have hDf : ∀ (w1 : World) (T r mb : Nat) (p : Parts) (o : Option (Nat × SPlace)), Stg w w1 ⟨T, ⟨p, r, mb⟩, o⟩ ⟨⟨S.Heap.new 20 5, []⟩, none⟩ → Hid (Calls Tryz.prog 15 #[.pointer (some ⟨p.c, 0, none⟩), .string { data := #[97] }, .slice none 0 0] w1 fun e w' => e = .returned (.int .i64 0) ∧ ∃ p', Stg w w' ⟨T, ⟨p', r, mb⟩, o⟩ ⟨⟨heapA, []⟩, none⟩) := fun w1 T r mb p o g => by
    have h := stg_Define g tA none 0 [] (by decide) (Row.nil _ _ _ _) (fun _ => rfl) (fun i f hf => by simp at hf)
    have e : S.define (S.Heap.new 20 5).cat tA [] = (catA, 0) := def_A
    simp only at h
    rw [e] at h
    exact h
  have hC1 : ∀ (w1 : World) (T r mb : Nat) (p : Parts) (o : Option (Nat × SPlace)), Stg w w1 ⟨T, ⟨p, r, mb⟩, o⟩ ⟨⟨heapA, []⟩, none⟩ → Hid (Calls Tryz.prog 16 #[.pointer (some ⟨p.H, 0, none⟩), .string { data := #[97] }] w1 fun e w' => e = .returned (.tuple #[.agg #[.int .i64 0, .int .i64 1], .int .i64 0]) ∧ Stg w w' ⟨T, ⟨p, r, mb⟩, o⟩ ⟨⟨heapB, []⟩, none⟩) := fun w1 T r mb p o g => by
    have h := stg_Create g tA
    simp only [create_A1] at h
    exact h
  have hC2 : ∀ (w1 : World) (T r mb : Nat) (p : Parts) (o : Option (Nat × SPlace)), Stg w w1 ⟨T, ⟨p, r, mb⟩, o⟩ ⟨⟨heapB, []⟩, none⟩ → Hid (Calls Tryz.prog 16 #[.pointer (some ⟨p.H, 0, none⟩), .string { data := #[97] }] w1 fun e w' => e = .returned (.tuple #[.agg #[.int .i64 1, .int .i64 1], .int .i64 0]) ∧ Stg w w' ⟨T, ⟨p, r, mb⟩, o⟩ ⟨⟨heapC, []⟩, none⟩ ∧ Only p.F w1 w') := fun w1 T r mb p o g => by
    have h := stg_Create2 g tA
    simp only [create_A2] at h
    exact h
  have hSe : ∀ (w1 : World) (T r mb : Nat) (p : Parts) (o : Option (Nat × SPlace)), Stg w w1 ⟨T, ⟨p, r, mb⟩, o⟩ ⟨⟨heapC, []⟩, none⟩ → Hid (Calls Tryz.prog 17 #[.pointer (some ⟨r, 0, none⟩), .string { data := #[114] }, .agg #[.int .i64 0, .int .i64 1]] w1 fun e w' => e = .returned (.int .i64 0) ∧ Stg w w' ⟨T, ⟨p, r, mb⟩, o⟩ ⟨⟨heapC, [(tR, ⟨0, 1⟩)]⟩, none⟩ ∧ Only [mb] w1 w') := fun w1 T r mb p o g => by
    have h := stg_Set g tR ⟨0, 1⟩ (by decide) (by simp)
    simp only [rset_A] at h
    exact h
  have hFr : ∀ (w1 : World) (T r mb : Nat) (p : Parts) (o : Option (Nat × SPlace)), Stg w w1 ⟨T, ⟨p, r, mb⟩, o⟩ ⟨⟨heapC, [(tR, ⟨0, 1⟩)]⟩, none⟩ → Hid (Calls Tryz.prog 18 #[.pointer (some ⟨p.H, 0, none⟩), .agg #[.int .i64 0, .int .i64 1]] w1 fun e w' => e = .returned (.int .i64 0) ∧ Stg w w' ⟨T, ⟨p, r, mb⟩, o⟩ ⟨⟨heapD, [(tR, ⟨0, 1⟩)]⟩, none⟩ ∧ Only p.F w1 w') := fun w1 T r mb p o g => by
    have h := stg_Free g ⟨0, 1⟩ ⟨1, true, 0⟩ good_C
    simp only [drop_C] at h
    exact h
  have hL1 : ∀ (w1 : World) (T r mb : Nat) (p : Parts) (o : Option (Nat × SPlace)), Stg w w1 ⟨T, ⟨p, r, mb⟩, o⟩ ⟨⟨heapD, [(tR, ⟨0, 1⟩)]⟩, none⟩ → Hid (Calls Tryz.prog 6 #[.pointer (some ⟨T, 0, none⟩)] w1 fun e w' => ∃ A0 c0 A2 c2, e = .returned (.agg #[.slice A0 1 c0, .slice none 0 0, .slice A2 1 c2, .slice none 0 0, .int .i64 0]) ∧ Stg w w' ⟨T, ⟨p, r, mb⟩, o⟩ ⟨⟨heapD, [(tR, ⟨0, 1⟩)]⟩, none⟩ ∧ Below w1.heap.size w1 w') := fun w1 T r mb p o g => by
    have h := stg_Look g (calm_D g.at_.now.ok)
    simp only [handles_D] at h
    exact h
  have hMe : ∀ (w1 : World) (T r mb : Nat) (p : Parts) (o : Option (Nat × SPlace)), Stg w w1 ⟨T, ⟨p, r, mb⟩, o⟩ ⟨⟨heapD, [(tR, ⟨0, 1⟩)]⟩, none⟩ → Hid (Calls Tryz.prog 7 #[.pointer (some ⟨T, 0, none⟩)] w1 fun e w' => e = .returned (.tuple #[.int .i64 1, .int .i64 0]) ∧ Stg w w' ⟨T, ⟨p, r, mb⟩, o⟩ ⟨⟨heapD, []⟩, none⟩ ∧ Only [mb] w1 w') := fun w1 T r mb p o g => stg_Mend g (calm_D g.at_.now.ok)
  have hL2 : ∀ (w1 : World) (T r mb : Nat) (p : Parts) (o : Option (Nat × SPlace)), Stg w w1 ⟨T, ⟨p, r, mb⟩, o⟩ ⟨⟨heapD, []⟩, none⟩ → Hid (Calls Tryz.prog 6 #[.pointer (some ⟨T, 0, none⟩)] w1 fun e w' => ∃ A0 c0 A2 c2, e = .returned (.agg #[.slice A0 0 c0, .slice none 0 0, .slice A2 1 c2, .slice none 0 0, .int .i64 0]) ∧ Stg w w' ⟨T, ⟨p, r, mb⟩, o⟩ ⟨⟨heapD, []⟩, none⟩ ∧ Below w1.heap.size w1 w') := fun w1 T r mb p o g => by
    have h := stg_Look g (calm_D g.at_.now.ok).noRoots
    simp only [handles_D] at h
    exact h
  have hTi : ∀ (w1 : World) (T r mb : Nat) (p : Parts) (o : Option (Nat × SPlace)), Stg w w1 ⟨T, ⟨p, r, mb⟩, o⟩ ⟨⟨heapD, []⟩, none⟩ → Hid (Calls Tryz.prog 8 #[.pointer (some ⟨T, 0, none⟩)] w1 fun e w' => e = .returned (.tuple #[.int .i64 1, .int .i64 0]) ∧ Below w.heap.size w w' ∧ (∀ k, k < w1.heap.size → k ∉ (⟨T, ⟨p, r, mb⟩, o⟩ : WPlace).F → w'.heap[k]? = w1.heap[k]?) ∧ w'.cell? ⟨T, 0, none⟩ = some (.pointer (some ⟨p.H, 0, none⟩)) ∧ w'.cell? ⟨p.H, 2, none⟩ = some (.pointer (some ⟨p.s, 0, none⟩)) ∧ SlotsAt w' p.s p.vs heapE.slots) := fun w1 T r mb p o g => by
    refine (tidy_calm ⟨T, ⟨p, r, mb⟩, o⟩ _ _ heapE 1 w1 g.at_ (calm_D g.at_.now.ok).noRoots (sweeps_D g.at_.now.ok)).mono fun e w' ⟨e1, e2, e3, e4, e5⟩ => ⟨e1, Only.fresh e2 g.new g.below, fun k hk hn => e2.block k hk hn, e3, e4, e5⟩
  have hHa : ∀ (w1 : World) (p : Parts), w1.cell? ⟨p.H, 2, none⟩ = some (.pointer (some ⟨p.s, 0, none⟩)) → SlotsAt w1 p.s p.vs heapE.slots → Hid (Calls Tryz.prog 19 #[.pointer (some ⟨p.H, 0, none⟩)] w1 fun e w' => ∃ A c, e = .returned (.slice A 0 c) ∧ Below w1.heap.size w1 w') := fun w1 p h2 h3 =>
    (obj_Handles_at p.H p.s p.vs _ w1 h2 h3).mono fun e w' ⟨v, e1, h1, h2⟩ => by
      rw [handles_E] at h1
      obtain ⟨A, c, rfl⟩ := own_slice h1
      exact ⟨A, c, e1, h2⟩
  go_enter Tryz.func5, Tryz.ntmps5
  go_wp2_with (first
    | (go_at_call 4; (with_reducible refine hN.out.mono ?_); rintro e w1 ⟨T, s, o, rfl, g⟩; obtain ⟨p, r, mb⟩ := s; have g1 := Hid.mk g; clear g)
    | (go_at_call 12; (with_reducible refine (trans_Heap _ _ _ g4.out.at_).mono ?_); rintro e w0 ⟨rfl, hw⟩; obtain rfl := hw.symm)
    | (go_at_call 12; (with_reducible refine (trans_Heap _ _ _ g2.out.at_).mono ?_); rintro e w0 ⟨rfl, hw⟩; obtain rfl := hw.symm)
    | (go_at_call 12; (with_reducible refine (trans_Heap _ _ _ g1.out.at_).mono ?_); rintro e w0 ⟨rfl, hw⟩; obtain rfl := hw.symm)
    | (go_at_call 13; (with_reducible refine (trans_Roots _ _ _ g1.out.at_).mono ?_); rintro e w0 ⟨rfl, hw⟩; obtain rfl := hw.symm)
    | (go_at_call 14; (with_reducible refine (obj_Schema _ _ _ g1.out.at_.now.heap).mono ?_); rintro e w0 ⟨rfl, hw⟩; obtain rfl := hw.symm)
    | (go_at_call 15; (with_reducible refine (hDf _ _ _ _ _ _ g1.out).out.mono ?_); rintro e w2 ⟨rfl, p2, g⟩; have g2 := Hid.mk g; clear g)
    | (go_at_call 16; (with_reducible refine (hC2 _ _ _ _ _ _ g4.out).out.mono ?_); rintro e w5 ⟨rfl, g, hO⟩; have g5 := Hid.mk g; have hO5 := Hid.mk hO; clear g hO)
    | (go_at_call 16; (with_reducible refine (hC1 _ _ _ _ _ _ g2.out).out.mono ?_); rintro e w3 ⟨rfl, g⟩; have g3 := Hid.mk g; have g4 := Hid.mk (g.then (below_one w3 (.cells #[.int .i64 0, .int .i64 1] 51))); clear g))
  have g6 := Hid.mk (g5.out.then (show Below w5.heap.size w5 w5.drew from (Below.refl _ w5).drew))
  have hpl : w3.heap.size ∉ p2.F := fun hk => by have := g3.out.at_.now.heap.lt _ hk; omega
  have hml : mb < w3.heap.size := g3.out.at_.now.roots.lt.2
  have hz5 : w3.heap.size + 1 ≤ w5.heap.size := by have := hO5.out.size; simp at this; omega
  have hT5 := (hO5.out.block w3.heap.size (by simp) hpl).trans (heap_alloc_new w3 (.cells #[.int .i64 0, .int .i64 1] 51))
  have t0 := (heap_cell hT5 (o := 0) (v := .int .i64 0) rfl).1
  have t1 := (heap_cell hT5 (o := 1) (v := .int .i64 1) rfl).1
  clear hT5
  go_region_held3 (fun W => W.cell? ⟨w3.heap.size, 0, none⟩ = some (.int .i64 0) ∧ W.cell? ⟨w3.heap.size, 1, none⟩ = some (.int .i64 1))
    (first | go_keep | (go_split_ands; exact ⟨(cell_block (hO7.out.block _ (show w3.heap.size < w5.heap.size by omega) (by simp; omega))).trans (by assumption), (cell_block (hO7.out.block _ (show w3.heap.size < w5.heap.size by omega) (by simp; omega))).trans (by assumption)⟩))
    (first
      | ((with_reducible refine (trans_Roots _ _ _ g6.out.at_).mono ?_); rintro e w0 ⟨rfl, hw⟩; obtain rfl := hw.symm)
      | ((with_reducible refine (hSe _ _ _ _ _ _ g6.out).out.mono ?_); rintro e w7 ⟨rfl, g, hO⟩; have g7 := Hid.mk g; have hO7 := Hid.mk hO; clear g hO)
      | fail)
  have g8 := Hid.mk (g7.out.then (show Below w7.heap.size w7 w7.drew from (Below.refl _ w7).drew))
  have hz7 : w3.heap.size + 1 ≤ w7.heap.size := Nat.le_trans hz5 hO7.out.size
  rename_i hc7
  obtain ⟨t0', t1'⟩ := hc7
  clear t0 t1
  go_wp2
  go_region_held3 (fun W => W.cell? ⟨w3.heap.size, 0, none⟩ = some (.int .i64 0) ∧ W.cell? ⟨w3.heap.size, 1, none⟩ = some (.int .i64 1))
    (first | go_keep | (go_split_ands; exact ⟨(cell_block (hO9.out.block _ (show w3.heap.size < w7.heap.size by omega) hpl)).trans (by assumption), (cell_block (hO9.out.block _ (show w3.heap.size < w7.heap.size by omega) hpl)).trans (by assumption)⟩))
    (first
      | ((with_reducible refine (trans_Heap _ _ _ g8.out.at_).mono ?_); rintro e w0 ⟨rfl, hw⟩; obtain rfl := hw.symm)
      | ((with_reducible refine (hFr _ _ _ _ _ _ g8.out).out.mono ?_); rintro e w9 ⟨rfl, g, hO⟩; have g9 := Hid.mk g; have hO9 := Hid.mk hO; clear g hO)
      | fail)
  have hs1 : Hid ((Tryz.prog.info? 30).map (fun i => i.size) = some 5) := rep_size
  go_wp2_with (first
    | (go_at_call 6; (with_reducible refine (hL1 _ _ _ _ _ _ g9.out).out.mono ?_); rintro e wa ⟨A0, c0, A2, c2, rfl, g, hb⟩; clear hb; have ga := Hid.mk (g.then (below_one wa (.cells (rep1 A0 A2 c0 c2) 30))); have hlA := Hid.mk g.at_.lt; clear g)
    | (go_at_call 7; (with_reducible refine (hMe _ _ _ _ _ _ ga.out).out.mono ?_); rintro e wb ⟨rfl, g, hO⟩; have gb := Hid.mk g; have hOb := Hid.mk hO; clear g hO)
    | (go_at_call 6; (with_reducible refine (hL2 _ _ _ _ _ _ gb.out).out.mono ?_); rintro e wc ⟨B0, d0, B2, d2, rfl, g, hb⟩; have gc := Hid.mk (g.then (below_one wc (.cells (rep0 B0 B2 d0 d2 1) 30))); have hlC := Hid.mk g.at_.lt; have hbC := Hid.mk hb; clear g)
    | (go_at_call 8; (with_reducible refine (hTi _ _ _ _ _ _ gc.out).out.mono ?_); rintro e wd ⟨rfl, hbd, hkd, hT, hH, hS⟩; obtain ⟨hA4, hC4⟩ := rep_kept (hOb.out) (hbC.out) hkd hlA.out hlC.out; have a0 := (heap_cell hA4 (o := 0) (v := .slice A0 1 c0) rfl).1; have a1 := (heap_cell hA4 (o := 1) (v := .slice none 0 0) rfl).1; have a2 := (heap_cell hA4 (o := 2) (v := .slice A2 1 c2) rfl).1; have a3 := (heap_cell hA4 (o := 3) (v := .slice none 0 0) rfl).1; have a4 := (heap_cell hA4 (o := 4) (v := .int .i64 0) rfl).1; have x0 := (heap_cell hC4 (o := 0) (v := .slice B0 0 d0) rfl).1; have x1 := (heap_cell hC4 (o := 1) (v := .slice none 0 0) rfl).1; have x2 := (heap_cell hC4 (o := 2) (v := .slice B2 1 d2) rfl).1; have x3 := (heap_cell hC4 (o := 3) (v := .slice none 0 0) rfl).1; have x4 := (heap_cell hC4 (o := 4) (v := .int .i64 0) rfl).1; have hT2 := hT; have hH2 := hH; have hC41 := Hid.mk hC4; clear hC4 hA4 hkd; have hbd1 := Hid.mk hbd; have hT21 := Hid.mk hT2; have hH21 := Hid.mk hH2; have hS1 := Hid.mk hS; clear hbd hT2 hH2 hS)
    | (go_at_call 9; (with_reducible refine (clean_no A0 A2 c0 1 c2 _).mono ?_); rintro e we ⟨rfl, hb⟩; have hbe := Hid.mk hb; have hC5 := (hb.block _ (Array.getElem?_eq_some_iff.1 hC41.out).1).trans hC41.out; have y0 := (heap_cell hC5 (o := 0) (v := .slice B0 0 d0) rfl).1; have y1 := (heap_cell hC5 (o := 1) (v := .slice none 0 0) rfl).1; have y2 := (heap_cell hC5 (o := 2) (v := .slice B2 1 d2) rfl).1; have y3 := (heap_cell hC5 (o := 3) (v := .slice none 0 0) rfl).1; have y4 := (heap_cell hC5 (o := 4) (v := .int .i64 0) rfl).1; have hC51 := Hid.mk hC5; clear hb hC5)
    | (go_at_call 9; (with_reducible refine (clean_yes B0 B2 d0 1 d2 _).mono ?_); rintro e wf ⟨rfl, hb⟩; have hbf := Hid.mk hb; have hC6 := (hb.block _ (Array.getElem?_eq_some_iff.1 hC51.out).1).trans hC51.out; have z0 := (heap_cell hC6 (o := 0) (v := .slice B0 0 d0) rfl).1; have z1 := (heap_cell hC6 (o := 1) (v := .slice none 0 0) rfl).1; have z2 := (heap_cell hC6 (o := 2) (v := .slice B2 1 d2) rfl).1; have z3 := (heap_cell hC6 (o := 3) (v := .slice none 0 0) rfl).1; have z4 := (heap_cell hC6 (o := 4) (v := .int .i64 0) rfl).1; have hbdf := Hid.mk (below_then hbe.out hb); have hTf := Hid.mk ((cell_below hbdf.out hT21.out).trans hT21.out); have hHf := Hid.mk ((cell_below hbdf.out hH21.out).trans hH21.out); clear hb hC6)
    | (go_at_call 12; (with_reducible refine (trans_Heap_at _ _ _ hTf.out).mono ?_); rintro e w0 ⟨rfl, hw⟩; obtain rfl := hw.symm)
    | (go_at_call 19; (with_reducible refine (hHa _ p2 hHf.out (hS1.out.below hbdf.out)).out.mono ?_); rintro e wg ⟨Ag, cg, rfl, hb⟩; have hbg := Hid.mk hb; clear hb))
  go_ret
  go_light
  exact ⟨rfl, below_then (below_then hbd1.out hbdf.out) hbg.out⟩
end Go.Proofs.YtdokiaicheillaaGreat

namespace Go.Proofs.YtdokiaicheillaaGreat
open Go.RowKit

theorem rep_kept1 {wa wb wd : World} {q : WPlace} {r1 : Array Value} (h1 : Only [q.s.mb] (wa.alloc (.cells r1 30)) wb) (h3 : ∀ k, k < wb.heap.size → k ∉ q.F → wd.heap[k]? = wb.heap[k]?) (hA : ∀ k, k ∈ q.F → k < wa.heap.size) :
    wd.heap[wa.heap.size]? = some (.cells r1 30 (0, 0)) := by
  have z1 := h1.size
  rw [World.size_alloc] at z1
  have hmb := hA _ (q_mb q)
  rw [h3 wa.heap.size (by omega) (fun hk => by have := hA _ hk; omega), h1.block _ (by simp) (by simp; omega)]
  exact heap_alloc_new _ _

set_option maxRecDepth 100000 in
set_option maxHeartbeats 16000000 in
theorem fresh_yes (u n : Nat) (hu : u ≤ 1024) (hn : n ≤ 256) (w : World) : Calls Tryz.prog 3 #[.int .i64 u, .int .i64 n] w fun e w' => e = .returned (.bool true) ∧ Below w.heap.size w w' := by
  have hN := Hid.mk (stg_New u n hu hn w)
  have hL1 : ∀ (w1 : World) (T r mb : Nat) (p : Parts) (o : Option (Nat × SPlace)), Stg w w1 ⟨T, ⟨p, r, mb⟩, o⟩ ⟨⟨S.Heap.new u n, []⟩, none⟩ → Hid (Calls Tryz.prog 6 #[.pointer (some ⟨T, 0, none⟩)] w1 fun e w' => ∃ A0 c0 A2 c2, e = .returned (.agg #[.slice A0 0 c0, .slice none 0 0, .slice A2 0 c2, .slice none 0 0, .int .i64 0]) ∧ Stg w w' ⟨T, ⟨p, r, mb⟩, o⟩ ⟨⟨S.Heap.new u n, []⟩, none⟩) := fun w1 T r mb p o g => by
    have h := stg_Look g (calm_new u n hu)
    simp only [handles_New] at h
    exact h.mono fun e w' ⟨A0, c0, A2, c2, e1, e2, e3⟩ => ⟨A0, c0, A2, c2, e1, e2⟩
  have hMe : ∀ (w1 : World) (T r mb : Nat) (p : Parts) (o : Option (Nat × SPlace)), Stg w w1 ⟨T, ⟨p, r, mb⟩, o⟩ ⟨⟨S.Heap.new u n, []⟩, none⟩ → Hid (Calls Tryz.prog 7 #[.pointer (some ⟨T, 0, none⟩)] w1 fun e w' => e = .returned (.tuple #[.int .i64 0, .int .i64 0]) ∧ Stg w w' ⟨T, ⟨p, r, mb⟩, o⟩ ⟨⟨S.Heap.new u n, []⟩, none⟩ ∧ Only [mb] w1 w') := fun w1 T r mb p o g => stg_Mend g (calm_new u n hu)
  have hTi : ∀ (w1 : World) (T r mb : Nat) (p : Parts) (o : Option (Nat × SPlace)), Stg w w1 ⟨T, ⟨p, r, mb⟩, o⟩ ⟨⟨S.Heap.new u n, []⟩, none⟩ → Hid (Calls Tryz.prog 8 #[.pointer (some ⟨T, 0, none⟩)] w1 fun e w' => e = .returned (.tuple #[.int .i64 0, .int .i64 0]) ∧ Below w.heap.size w w' ∧ (∀ k, k < w1.heap.size → k ∉ (⟨T, ⟨p, r, mb⟩, o⟩ : WPlace).F → w'.heap[k]? = w1.heap[k]?)) := fun w1 T r mb p o g => by
    refine (tidy_calm ⟨T, ⟨p, r, mb⟩, o⟩ _ _ (S.Heap.new u n) 0 w1 g.at_ (calm_new u n hu) (sweeps_new u n hu)).mono fun e w' ⟨e1, e2, e3, e4, e5⟩ => ⟨e1, Only.fresh e2 g.new g.below, fun k hk hn => e2.block k hk hn⟩
  go_enter Tryz.func3, Tryz.ntmps3
  go_wp2_with (first
    | (go_at_call 4; (with_reducible refine hN.out.mono ?_); rintro e w1 ⟨T, s, o, rfl, g⟩; obtain ⟨p, r, mb⟩ := s; have g1 := Hid.mk g; clear g)
    | (go_at_call 6; (with_reducible refine (hL1 _ _ _ _ _ _ g1.out).out.mono ?_); rintro e wa ⟨A0, c0, A2, c2, rfl, g⟩; have ga := Hid.mk (g.then (below_one wa (.cells (rep0 A0 A2 c0 c2 0) 30))); have hlA := Hid.mk g.at_.lt; clear g)
    | (go_at_call 7; (with_reducible refine (hMe _ _ _ _ _ _ ga.out).out.mono ?_); rintro e wb ⟨rfl, g, hO⟩; have gb := Hid.mk g; have hOb := Hid.mk hO; clear g hO)
    | (go_at_call 8; (with_reducible refine (hTi _ _ _ _ _ _ gb.out).out.mono ?_); rintro e wd ⟨rfl, hbd, hkd⟩; have hA1 := Hid.mk (rep_kept1 hOb.out hkd hlA.out); have hbd1 := Hid.mk hbd; clear hbd; clear hkd)
    | (go_at_call 5; (with_reducible refine (alive20_yes _).mono ?_); rintro e we ⟨rfl, hb⟩; have hA2 := (hb.block _ (Array.getElem?_eq_some_iff.1 hA1.out).1).trans hA1.out; have a0 := (heap_cell hA2 (o := 0) (v := .slice A0 0 c0) rfl).1; have a1 := (heap_cell hA2 (o := 1) (v := .slice none 0 0) rfl).1; have a2 := (heap_cell hA2 (o := 2) (v := .slice A2 0 c2) rfl).1; have a3 := (heap_cell hA2 (o := 3) (v := .slice none 0 0) rfl).1; have a4 := (heap_cell hA2 (o := 4) (v := .int .i64 0) rfl).1; have hbe := Hid.mk (below_then hbd1.out hb); have hA3 := Hid.mk hA2; clear hb hA2)
    | (go_at_call 9; (with_reducible refine (clean_yes A0 A2 c0 0 c2 _).mono ?_); rintro e wf ⟨rfl, hb⟩; have hA4 := (hb.block _ (Array.getElem?_eq_some_iff.1 hA3.out).1).trans hA3.out; have x0 := (heap_cell hA4 (o := 0) (v := .slice A0 0 c0) rfl).1; have x1 := (heap_cell hA4 (o := 1) (v := .slice none 0 0) rfl).1; have x2 := (heap_cell hA4 (o := 2) (v := .slice A2 0 c2) rfl).1; have x3 := (heap_cell hA4 (o := 3) (v := .slice none 0 0) rfl).1; have x4 := (heap_cell hA4 (o := 4) (v := .int .i64 0) rfl).1; have hbf := Hid.mk (below_then hbe.out hb); clear hb hA4))
  go_ret
  go_light
  exact ⟨rfl, hbf.out⟩
set_option maxRecDepth 100000 in
set_option maxHeartbeats 4000000 in
theorem fresh_no (u n : Int) (h : bad u n) (w : World) : Calls Tryz.prog 3 #[.int .i64 u, .int .i64 n] w fun e w' => e = .returned (.bool true) ∧ Below w.heap.size w w' := by
  go_enter Tryz.func3, Tryz.ntmps3
  go_wp2_with (first
    | (go_at_call 4; (with_reducible refine (trans_New_no u n h _).mono ?_); rintro e w1 ⟨rfl, hb⟩; have hb1 := Hid.mk hb; clear hb)
    | (go_at_call 5; (with_reducible refine (alive20_yes _).mono ?_); rintro e we ⟨rfl, hb⟩; have hbe := Hid.mk (below_then hb1.out hb); clear hb))
  go_ret
  go_light
  exact ⟨rfl, hbe.out⟩
theorem fresh_all (u n : Int) (w : World) : Calls Tryz.prog 3 #[.int .i64 u, .int .i64 n] w fun e w' => e = .returned (.bool true) ∧ Below w.heap.size w w' := by
  by_cases h : bad u n
  · exact fresh_no u n h w
  · unfold bad at h
    obtain ⟨a, rfl⟩ := Int.eq_ofNat_of_zero_le (show 0 ≤ u by omega)
    obtain ⟨b, rfl⟩ := Int.eq_ofNat_of_zero_le (show 0 ≤ n by omega)
    exact fresh_yes a b (by omega) (by omega) w
end Go.Proofs.YtdokiaicheillaaGreat
