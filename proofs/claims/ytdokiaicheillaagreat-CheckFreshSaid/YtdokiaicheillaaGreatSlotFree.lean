/-
  The walks of slots.Get and slots.Free.
-/
import Derived.Test.YtdokiaicheillaaGreatWord
import Derived.Laws.BitsAllLaws
import Derived.Laws.BitsLemmas
import Derived.Test.YtdokiaicheillaaGreatMake
import Derived.Test.YtdokiaicheillaaGreatSame
import Derived.Deep.DeepMust
import Derived.Deep.RegionHeld3
namespace Go.Proofs.YtdokiaicheillaaGreat
open Go.RowKit

namespace S
/-- The number of which bytes are the lowest first. -/
def num : List UInt8 → Nat
  | [] => 0
  | b :: r => b.toNat + 256 * num r
theorem num_lt : ∀ l : List UInt8, num l < 256 ^ l.length
  | [] => by simp [num]
  | b :: r => by
    have := num_lt r
    have hb := b.toNat_lt
    simp only [num, List.length_cons, Nat.pow_succ]
    omega
theorem num_snoc : ∀ (l : List UInt8) (b : UInt8), num (l ++ [b]) = num l + b.toNat * 256 ^ l.length
  | [], b => by simp [num]
  | a :: r, b => by
    have h1 := num_snoc r b
    have h2 : b.toNat * 256 ^ (r.length + 1) = 256 * (b.toNat * 256 ^ r.length) := by rw [Nat.pow_succ, ← Nat.mul_assoc, Nat.mul_comm]
    simp only [num, List.cons_append, List.length_cons]
    rw [h1, h2, Nat.mul_add]
    omega
theorem or_step (l : List UInt8) (b : UInt8) (i : Nat) (hi : i < 8) (hl : l.length = i) : bits .or .u64 (num l : Int) (IntKind.u64.wrap ((b.toNat : Int) * 2 ^ (8 * i))) = (num (l ++ [b]) : Int) := by
  have hb := b.toNat_lt
  have hn := num_lt l
  have e256 : (256 : Nat) ^ i = 2 ^ (8 * i) := by rw [Nat.pow_mul]
  rw [hl, e256] at hn
  have hp : b.toNat * 2 ^ (8 * i) < 18446744073709551616 := by
    have h1 : b.toNat * 2 ^ (8 * i) < 2 ^ 8 * 2 ^ (8 * i) := Nat.mul_lt_mul_of_pos_right hb (Nat.two_pow_pos _)
    have h2 : 2 ^ 8 * 2 ^ (8 * i) ≤ 2 ^ 64 := by rw [← Nat.pow_add]; exact Nat.pow_le_pow_right (by decide) (by omega)
    have h3 : (2 : Nat) ^ 64 = 18446744073709551616 := by decide
    omega
  have hq : num l < 18446744073709551616 := by
    have h2 : 2 ^ (8 * i) ≤ 2 ^ 64 := Nat.pow_le_pow_right (by decide) (by omega)
    have h3 : (2 : Nat) ^ 64 = 18446744073709551616 := by decide
    omega
  have ew : IntKind.u64.wrap ((b.toNat : Int) * 2 ^ (8 * i)) = ((b.toNat * 2 ^ (8 * i) : Nat) : Int) := by
    have e1 : ((b.toNat : Int) * 2 ^ (8 * i)) = ((b.toNat * 2 ^ (8 * i) : Nat) : Int) := by push_cast; rfl
    rw [e1]
    simp only [IntKind.wrap, IntKind.bits, IntKind.signed]
    simp
    omega
  rw [ew, u64_or_nat _ _ hq hp, Nat.or_comm, nat_join (8 * i) _ _ (Nat.mul_mod_left _ _) hn, num_snoc, hl, e256, Nat.add_comm]
end S

set_option maxRecDepth 100000 in
set_option maxHeartbeats 2000000 in
theorem word_Get1 (pa pb pk : Nat) (at_ k : Int) (A : Option Addr) (L c : Nat) (w : World) (h0 : w.cell? ⟨pa, 0, none⟩ = some (.int .i64 at_)) (h1 : w.cell? ⟨pb, 0, none⟩ = some (.slice A L c)) (h2 : w.cell? ⟨pk, 0, none⟩ = some (.int .i64 k)) (h3 : 0 ≤ at_) (h4 : at_ ≤ L) (h5 : k ≤ L - at_) (h6 : (L : Int) ≤ 4294967296) :
    Calls Tryz.prog 115 #[.pointer (some ⟨pa, 0, none⟩), .pointer (some ⟨pb, 0, none⟩), .pointer (some ⟨pk, 0, none⟩)] w fun e w' => e = .returned (.bool true) ∧ w' = w := by
  have t1 : decide (0 ≤ at_) = true := by simp; omega
  have t2 : decide (at_ ≤ (L : Int)) = true := by simp; omega
  have t3 : decide (k ≤ (L : Int) - at_) = true := by simp; omega
  have e1 : IntKind.i64.wrap ((L : Int) - at_) = (L : Int) - at_ := by rw [IntWalk.i64_left]; unfold wrap64; omega
  have e2 : wrap64 ((L : Int) - at_) = (L : Int) - at_ := by unfold wrap64; omega
  go_enter Tryz.func115, Tryz.ntmps115
  go_wp2
  go_ret
  go_light
  exact ⟨rfl, rfl⟩

theorem cell_alloc_old {w : World} {k o : Nat} {ob : Obj} (h : k < w.heap.size) : (w.alloc ob).cell? ⟨k, o, none⟩ = w.cell? ⟨k, o, none⟩ := World.cell?_of_block (w := w) (Below.heap_alloc _ _ _ h)
theorem box3 (w : World) (a b c : Value) (t u s : TypeId) : (((w.alloc (.cells #[a] t)).alloc (.cells #[b] u)).alloc (.cells #[c] s)).cell? ⟨w.heap.size, 0, none⟩ = some a ∧
    (((w.alloc (.cells #[a] t)).alloc (.cells #[b] u)).alloc (.cells #[c] s)).cell? ⟨w.heap.size + 1, 0, none⟩ = some b ∧ (((w.alloc (.cells #[a] t)).alloc (.cells #[b] u)).alloc (.cells #[c] s)).cell? ⟨w.heap.size + 1 + 1, 0, none⟩ = some c := by
  have z1 := World.size_alloc w (.cells #[a] t)
  have z2 := World.size_alloc (w.alloc (.cells #[a] t)) (.cells #[b] u)
  refine ⟨?_, ?_, ?_⟩
  · rw [cell_alloc_old (by omega), cell_alloc_old (by omega)]
    exact cell_one_new _ _ _ 0 _ rfl
  · rw [cell_alloc_old (by omega), ← z1]
    exact cell_one_new _ _ _ 0 _ rfl
  · rw [← z1, ← z2]
    exact cell_one_new _ _ _ 0 _ rfl

set_option maxRecDepth 100000 in
set_option maxHeartbeats 4000000 in
theorem word_Get (A : Option Addr) (l : List UInt8) (c at_ k : Nat) (w : World) (h : Bytes w.cell? A l) (hk : S.width k = true) (hin : at_ + k ≤ l.length) (hl : l.length ≤ 1073741824) :
    Calls Tryz.prog 77 #[.slice A l.length c, .int .i64 at_, .int .i64 k] w fun e w' => e = .returned (.tuple #[.int .u64 (S.num ((l.drop at_).take k)), .bool true]) ∧ Below w.heap.size w w' := by
  have hc := fun (t u s : TypeId) => Hid.mk (word_Get1 (w.heap.size + 1) w.heap.size (w.heap.size + 1 + 1) (at_ : Int) (k : Int) A l.length c (((w.alloc (.cells #[.slice A l.length c] t)).alloc (.cells #[.int .i64 at_] u)).alloc (.cells #[.int .i64 k] s)) (box3 w _ _ _ _ _ _).2.1 (box3 w _ _ _ _ _ _).1 (box3 w _ _ _ _ _ _).2.2 (by omega) (by omega) (by omega) (by omega))
  have hk8 : k ≤ 8 := by
    simp only [S.width, Bool.or_eq_true, beq_iff_eq] at hk
    omega
  have hr := Hid.mk h
  clear h
  go_enter Tryz.func77, Tryz.ntmps77
  go_wp2_with (first | (go_at_call 115; (with_reducible refine (hc _ _ _).out.mono ?_); rintro e w2 ⟨rfl, hw⟩; obtain rfl := hw.symm) | (go_at_call 116; (with_reducible refine (word_right _ _).mono ?_); rintro e w1 ⟨rfl, hw⟩; obtain rfl := hw.symm; rw [hk]))
  generalize hW : (((w.alloc (.cells #[.slice A l.length c] 81)).alloc (.cells #[.int .i64 at_] 3)).alloc (.cells #[.int .i64 k] 3)) = W
  have hb : Below w.heap.size w W := by rw [← hW]; exact (((Below.refl _ w).alloc (Nat.le_refl _) _).alloc (by simp) _).alloc (by simp; omega) _
  obtain ⟨q0, q1, q2⟩ := box3 w (.slice A l.length c) (.int .i64 at_) (.int .i64 k) 81 3 3
  rw [hW] at q0 q1 q2
  have hrW : Bytes W.cell? A l := Row.below hr.out hb
  have hB := Hid.mk hb
  clear hW hb hr
  have hrW1 := Hid.mk hrW; clear hrW
  go_wp2
  go_loopw [9, 21] (fun v9 v21 wr => ∃ (i : Nat), i ≤ k ∧ v21 = .int .i64 i ∧ v9 = .int .u64 (S.num ((l.drop at_).take i)) ∧ wr = W) (fun _ v21 _ => k - (intOf v21).toNat)
  case atStart => exact ⟨0, Nat.zero_le _, rfl, by simp [S.num], rfl⟩
  case round =>
    obtain ⟨i, hi, rfl, rfl, rfl⟩ := hrel
    by_cases hlt : i < k
    · obtain ⟨b, off, rfl, hb0⟩ := hrW1.out.2 (at_ + i) (l[at_ + i]'(by omega)) (List.getElem?_eq_getElem _)
      have hb1 : wr.cell? ⟨b, off + (at_ + i), none⟩ = some (.int .u8 ((l[at_ + i]'(by omega)).toNat : Int)) := by simpa using hb0 0 _ rfl
      have hb9 : ((l[at_ + i]'(by omega)).toNat : Int) < 256 := by have := (l[at_ + i]'(by omega)).toNat_lt; omega
      clear hb0
      have e1 : IntKind.i64.wrap ((at_ : Int) + (i : Int)) = (at_ : Int) + (i : Int) := by rw [IntWalk.i64_left]; unfold wrap64; omega
      have e2 : IntKind.i64.wrap ((8 : Int) * (i : Int)) = (8 : Int) * (i : Int) := by rw [IntWalk.i64_left]; unfold wrap64; omega
      go_wp2
      go_roundw
      case rel =>
        go_light
        refine ⟨i + 1, by omega, by go_num, ?_, trivial⟩
        have hd : (l.drop at_)[i]? = some (l[at_ + i]'(by omega)) := by rw [List.getElem?_drop]; exact List.getElem?_eq_getElem _
        have ht : (l.drop at_).take (i + 1) = (l.drop at_).take i ++ [l[at_ + i]'(by omega)] := by rw [List.take_add_one, hd]; rfl
        rw [ht]
        exact congrArg (Value.int .u64) (S.or_step _ _ i (by omega) (by rw [List.length_take, List.length_drop]; omega))
      case measure => simp [intOf]; omega
    · go_wp2
      go_ret2
      go_light
      obtain rfl : i = k := by omega
      exact ⟨rfl, hB.out⟩
end Go.Proofs.YtdokiaicheillaaGreat

namespace Go.Proofs.YtdokiaicheillaaGreat
open Go.RowKit

namespace S
/-- The slot of a good handle. -/
def goodAt (l : List Slot) (h : Handle) : Option Slot :=
  match l[h.slot.toNat]? with
  | some x => if 0 ≤ h.slot ∧ x.used = true ∧ x.gen = h.gen then some x else none
  | none => none
theorem goodAt_some {l : List Slot} {h : Handle} {x : Slot} (hg : goodAt l h = some x) : ∃ k : Nat, h.slot = k ∧ l[k]? = some x ∧ x.used = true ∧ x.gen = h.gen := by
  unfold goodAt at hg
  split at hg
  · rename_i y hy
    split at hg
    · rename_i hc
      cases hg
      exact ⟨h.slot.toNat, by omega, hy, hc.2.1, hc.2.2⟩
    · cases hg
  · cases hg
end S

theorem SlotsAt.below {w w' : World} {s : Nat} {v : Value} {l : List S.Slot} (h : SlotsAt w s v l) (hb : Below w.heap.size w w') : SlotsAt w' s v l :=
  h.kept (hb.block _ (Array.getElem?_eq_some_iff.1 h.head).1) (fun k hk => hb.block _ (own_lt h.row (mem_rowF.1 hk)))
set_option maxRecDepth 100000 in
set_option maxHeartbeats 2000000 in
theorem slots_At_out (s : Nat) (v : Value) (l : List S.Slot) (k : Int) (hk : k < 0 ∨ (l.length : Int) ≤ k) (w : World) (h : SlotsAt w s v l) :
    Calls Tryz.prog 59 #[.pointer (some ⟨s, 0, none⟩), .int .i64 k] w fun e w' => e = .returned (.tuple #[S.noHandle.val, .bool false]) ∧ Below w.heap.size w w' := by
  obtain ⟨A, c, rfl, hr⟩ := h.reads
  have hc := h.cell
  have hm := h.many
  have hs : s < w.heap.size := World.block_lt_of_cell? w _ hc
  clear h hr
  by_cases h0 : k < 0
  · have t1 : decide (k < 0) = true := by simp; omega
    clear hk
    go_enter Tryz.func59, Tryz.ntmps59
    go_wp2
    go_returns
    go_light
    exact ⟨rfl, below_one _ _⟩
  · have t1 : decide (k < 0) = false := by simp; omega
    have t2 : decide ((l.length : Int) ≤ k) = true := by simp; omega
    clear hk h0
    go_enter Tryz.func59, Tryz.ntmps59
    go_wp2
    go_returns
    go_light
    exact ⟨rfl, below_one _ _⟩

set_option maxRecDepth 100000 in
set_option maxHeartbeats 2000000 in
theorem slots_Get1 (b o p : Nat) (v : Int) (u : Value) (w : World) (h : w.cell? ⟨b, o + 2, none⟩ = some (.int .u64 v)) (hp : w.cell? ⟨p, 0, none⟩ = some u) (hf : w.frozen? ⟨p, 0, none⟩ = false) :
    Calls Tryz.prog 166 #[.pointer (some ⟨b, o, none⟩), .pointer (some ⟨p, 0, none⟩)] w fun e w' => e = .returned (.tuple #[]) ∧ w' = w.setCell ⟨p, 0, none⟩ (.int .u64 v) := by
  go_enter Tryz.func166, Tryz.ntmps166
  go_wp2
  go_end0
  go_light
  exact ⟨rfl, rfl⟩

theorem two_cells (w : World) (a b : Value) (t : TypeId) : (w.alloc (.cells #[a, b] t)).cell? ⟨w.heap.size, 0, none⟩ = some a ∧ (w.alloc (.cells #[a, b] t)).cell? ⟨w.heap.size, 1, none⟩ = some b := by
  have h : (w.alloc (.cells #[a, b] t)).heap[w.heap.size]? = some (.cells #[a, b] t) := heap_alloc_new _ _
  exact ⟨by simp only [World.cell?, h]; rfl, by simp only [World.cell?, h]; rfl⟩
/-- What stands behind a call that only makes memory, in a world with one block more. -/
theorem boxed_on {w w1 : World} {a b : Value} {t : TypeId} (hb : Below (w.alloc (.cells #[a, b] t)).heap.size (w.alloc (.cells #[a, b] t)) w1) :
    w1.cell? ⟨w.heap.size, 0, none⟩ = some a ∧ w1.cell? ⟨w.heap.size, 1, none⟩ = some b ∧ w.heap.size < w1.heap.size ∧ Below w.heap.size w w1 ∧ (∀ k o, k < w.heap.size → w1.cell? ⟨k, o, none⟩ = w.cell? ⟨k, o, none⟩) ∧ (∀ k o, k < w.heap.size → w1.frozen? ⟨k, o, none⟩ = w.frozen? ⟨k, o, none⟩) := by
  have z := World.size_alloc w (.cells #[a, b] t)
  have h2 := two_cells w a b t
  have hB : Below w.heap.size w w1 := (below_one w _).trans (hb.mono (by omega))
  exact ⟨(hb.cell (p := ⟨w.heap.size, 0, none⟩) (by simp [z])).trans h2.1, (hb.cell (p := ⟨w.heap.size, 1, none⟩) (by simp [z])).trans h2.2, by have := hb.size; omega, hB, fun k o hk => hB.cell hk, fun k o hk => hB.frozen hk⟩

set_option maxRecDepth 100000 in
set_option maxHeartbeats 4000000 in
theorem slots_good_get (s : Nat) (v : Value) (l : List S.Slot) (k p : Nat) (x : S.Slot) (hx : l[k]? = some x) (hu : x.used = true) (w : World) (h : SlotsAt w s v l) (u : Value) (hp : w.cell? ⟨p, 0, none⟩ = some u) (hf : w.frozen? ⟨p, 0, none⟩ = false) (hps : s ≠ p) :
    Calls Tryz.prog 100 #[.pointer (some ⟨s, 0, none⟩), .agg #[.int .i64 k, .int .i64 x.gen], .func (.func 166) #[] #[.pointer (some ⟨p, 0, none⟩)]] w fun e w' => e = .returned (.int .i64 0) ∧ ∃ W, Below w.heap.size w W ∧ w' = W.setCell ⟨p, 0, none⟩ (.int .u64 x.v) := by
  have hk : k < l.length := (List.getElem?_eq_some_iff.1 hx).1
  have hat : S.slotAt l k = (⟨k, x.gen⟩, true) := by
    have e : l[k] = x := by rw [List.getElem?_eq_getElem hk] at hx; exact Option.some.inj hx
    simp [S.slotAt, hk, e, hu]
  have hs : s < w.heap.size := World.block_lt_of_cell? w _ h.cell
  have hA := Hid.mk (fun W (hW : Below w.heap.size w W) => slots_At s v l k hk W (h.below hW))
  rw [hat] at hA
  obtain ⟨A, c, rfl, hr⟩ := h.reads
  obtain ⟨b, off, rfl, q0, q1, q2, hb0⟩ := slot_at hr hx
  have q := h.cell
  have hpl : p < w.heap.size := World.block_lt_of_cell? w _ hp
  have hG := Hid.mk (fun W (hW : Below w.heap.size w W) => slots_Get1 b (off + k * 3) p x.v u W ((hW.cell hb0).trans q2) ((hW.cell hpl).trans hp) ((hW.frozen hpl).trans hf))
  clear h hr hat hx hp hf q0 q1 q2
  have q1 := Hid.mk q; clear q
  go_enter Tryz.func100, Tryz.ntmps100
  go_wp2_with (go_at_call 59; (with_reducible refine (hA.out _ (below_one _ _)).mono ?_); rintro e w1 ⟨rfl, hb⟩; obtain ⟨r0, r1, z1, hB, hc1, -⟩ := boxed_on hb; have q' := (hc1 _ _ hs).trans q1.out; have hB1 := Hid.mk hB; clear hB hb hc1)
  generalize hW : w1.alloc (.cells #[.int .i64 k, .int .i64 x.gen] 51) = W
  have hBW : Below w.heap.size w W := hW ▸ hB1.out.new_ _
  have c0 : W.cell? ⟨w.heap.size, 0, none⟩ = some (.int .i64 k) := by rw [← hW, cell_alloc_old z1]; exact r0
  have c1 : W.cell? ⟨s, 0, none⟩ = some (.slice (some ⟨b, off, none⟩) l.length c) := by rw [← hW, cell_alloc_old (by omega)]; exact q'
  have hX := Hid.mk hBW
  clear hW hBW r0 r1 q'
  have hK1 : Hid ((W.setCell ⟨p, 0, none⟩ (.int .u64 x.v)).cell? ⟨w.heap.size, 0, none⟩ = some (.int .i64 k)) := (cell_block (Below.heap_setCell W ⟨p, 0, none⟩ _ _ (show w.heap.size ≠ p by omega))).trans c0
  have hK2 : Hid ((W.setCell ⟨p, 0, none⟩ (.int .u64 x.v)).cell? ⟨s, 0, none⟩ = some (.slice (some ⟨b, off, none⟩) l.length c)) := (cell_block (Below.heap_setCell W ⟨p, 0, none⟩ _ _ (show s ≠ p by omega))).trans c1
  go_region_held3 (fun V => V.cell? ⟨w.heap.size, 0, none⟩ = some (.int .i64 k) ∧ V.cell? ⟨s, 0, none⟩ = some (.slice (some ⟨b, off, none⟩) l.length c))
    (first | exact ⟨hK1.out, hK2.out⟩ | go_keep)
    (first | (go_at_call 166; (with_reducible refine (hG.out _ (by first | exact hX.out | exact hX.out.drew)).mono ?_); rintro e w2 ⟨rfl, rfl⟩) | fail)
  all_goals go_wp2
  all_goals go_ret
  all_goals go_light
  all_goals exact ⟨rfl, _, hX.out.drew, rfl⟩

set_option maxRecDepth 100000 in
set_option maxHeartbeats 2000000 in
theorem slots_Free1 (b o : Nat) (g : Int) (u v : Value) (w : World) (h0 : w.cell? ⟨b, o, none⟩ = some (.int .i64 g)) (h1 : w.cell? ⟨b, o + 1, none⟩ = some u) (h2 : w.cell? ⟨b, o + 2, none⟩ = some v) (f0 : w.frozen? ⟨b, o, none⟩ = false) (f1 : w.frozen? ⟨b, o + 1, none⟩ = false) (f2 : w.frozen? ⟨b, o + 2, none⟩ = false) :
    Calls Tryz.prog 101 #[.pointer (some ⟨b, o, none⟩)] w fun e w' => e = .returned (.tuple #[]) ∧ w' = ((w.setCell ⟨b, o, none⟩ (.int .i64 g)).setCell ⟨b, o + 1, none⟩ (.bool false)).setCell ⟨b, o + 2, none⟩ (.int .u64 0) := by
  go_enter Tryz.func101, Tryz.ntmps101
  go_wp2
  go_end0
  go_light
  exact ⟨rfl, rfl⟩

set_option maxRecDepth 100000 in
set_option maxHeartbeats 4000000 in
theorem slots_good_free (s : Nat) (v : Value) (l : List S.Slot) (k : Nat) (x : S.Slot) (hx : l[k]? = some x) (hu : x.used = true) (w : World) (h : SlotsAt w s v l) (hne : ∀ g, g ∈ rowF v → g ≠ s) :
    Calls Tryz.prog 100 #[.pointer (some ⟨s, 0, none⟩), .agg #[.int .i64 k, .int .i64 x.gen], .func (.func 101) #[] #[]] w fun e w' => e = .returned (.int .i64 0) ∧ SlotsAt w' s v (l.set k ⟨x.gen, false, 0⟩) ∧ Only (rowF v) w w' := by
  have hk : k < l.length := (List.getElem?_eq_some_iff.1 hx).1
  have hat : S.slotAt l k = (⟨k, x.gen⟩, true) := by
    have e : l[k] = x := by rw [List.getElem?_eq_getElem hk] at hx; exact Option.some.inj hx
    simp [S.slotAt, hk, e, hu]
  have hs : s < w.heap.size := World.block_lt_of_cell? w _ h.cell
  have hS := Hid.mk h
  have hxo := h.ok x (List.mem_of_getElem? hx)
  have hA := Hid.mk (fun W (hW : Below w.heap.size w W) => slots_At s v l k hk W (h.below hW))
  rw [hat] at hA
  obtain ⟨A, c, rfl, hr⟩ := h.reads
  obtain ⟨b, off, rfl, q0, q1, q2, hb0⟩ := slot_at hr hx
  obtain rfl := own_off h.row
  have hsb : s ≠ b := fun e => hne b (by rw [rowF_slice]; simp) e.symm
  have q := h.cell
  obtain ⟨cc, hcc⟩ := own_cells (k := b) h.row rfl
  have hfr : ∀ o, w.frozen? ⟨b, o, none⟩ = false := fun o => by simp [World.frozen?, hcc]
  have hG := Hid.mk (fun W (hW : Below w.heap.size w W) => slots_Free1 b (0 + k * 3) x.gen _ _ W ((hW.cell hb0).trans q0) ((hW.cell hb0).trans q1) ((hW.cell hb0).trans q2) ((hW.frozen hb0).trans (hfr _)) ((hW.frozen hb0).trans (hfr _)) ((hW.frozen hb0).trans (hfr _)))
  clear h hr hat hx q0 q1 q2 hfr hcc
  have q1 := Hid.mk q; have hxo1 := Hid.mk hxo; clear q hxo
  simp only [Nat.zero_add] at hG
  go_enter Tryz.func100, Tryz.ntmps100
  go_wp2_with (go_at_call 59; (with_reducible refine (hA.out _ (below_one _ _)).mono ?_); rintro e w1 ⟨rfl, hb⟩; obtain ⟨r0, r1, z1, hB, hc1, -⟩ := boxed_on hb; have q' := (hc1 _ _ hs).trans q1.out; have hB1 := Hid.mk hB; clear hB hb hc1)
  generalize hW : w1.alloc (.cells #[.int .i64 k, .int .i64 x.gen] 51) = W
  have hBW : Below w.heap.size w W := hW ▸ hB1.out.new_ _
  have c0 : W.cell? ⟨w.heap.size, 0, none⟩ = some (.int .i64 k) := by rw [← hW, cell_alloc_old z1]; exact r0
  have c1 : W.cell? ⟨s, 0, none⟩ = some (.slice (some ⟨b, 0, none⟩) l.length c) := by rw [← hW, cell_alloc_old (by omega)]; exact q'
  have hX := Hid.mk hBW
  clear hW hBW r0 r1 q'
  have hK1 : Hid ((((W.setCell ⟨b, k * 3, none⟩ (.int .i64 x.gen)).setCell ⟨b, k * 3 + 1, none⟩ (.bool false)).setCell ⟨b, k * 3 + 2, none⟩ (.int .u64 0)).cell? ⟨w.heap.size, 0, none⟩ = some (.int .i64 k)) := (cell_block ((Below.heap_setCell _ ⟨b, k * 3 + 2, none⟩ _ _ (show w.heap.size ≠ b by omega)).trans ((Below.heap_setCell _ ⟨b, k * 3 + 1, none⟩ _ _ (show w.heap.size ≠ b by omega)).trans (Below.heap_setCell W ⟨b, k * 3, none⟩ _ _ (show w.heap.size ≠ b by omega))))).trans c0
  have hK2 : Hid ((((W.setCell ⟨b, k * 3, none⟩ (.int .i64 x.gen)).setCell ⟨b, k * 3 + 1, none⟩ (.bool false)).setCell ⟨b, k * 3 + 2, none⟩ (.int .u64 0)).cell? ⟨s, 0, none⟩ = some (.slice (some ⟨b, 0, none⟩) l.length c)) := (cell_block ((Below.heap_setCell _ ⟨b, k * 3 + 2, none⟩ _ _ (show s ≠ b by omega)).trans ((Below.heap_setCell _ ⟨b, k * 3 + 1, none⟩ _ _ (show s ≠ b by omega)).trans (Below.heap_setCell W ⟨b, k * 3, none⟩ _ _ (show s ≠ b by omega))))).trans c1
  go_region_held3 (fun V => V.cell? ⟨w.heap.size, 0, none⟩ = some (.int .i64 k) ∧ V.cell? ⟨s, 0, none⟩ = some (.slice (some ⟨b, 0, none⟩) l.length c))
    (first | exact ⟨hK1.out, hK2.out⟩ | go_keep)
    (first | (go_at_call 101; go_must ((with_reducible refine (hG.out _ (by first | exact hX.out | exact hX.out.drew)).mono ?_); rintro e w2 ⟨rfl, rfl⟩)) | fail)
  all_goals go_wp2
  all_goals go_ret
  all_goals go_light
  all_goals (obtain ⟨k1, k2⟩ := slots_stored (w := W.drew) (i := k) (y := ⟨x.gen, false, 0⟩) (hS.out.below hX.out.drew) hsb hk ⟨hxo1.out.1, hxo1.out.2.1, fun h => by cases h⟩; exact ⟨rfl, k1, (Only.below hX.out.drew _).trans k2 (fun g hg => .inl (by rw [rowF_slice]; exact hg))⟩)

set_option maxRecDepth 100000 in
set_option maxHeartbeats 4000000 in
theorem slots_good_no (s : Nat) (v : Value) (l : List S.Slot) (h : S.Handle) (hg : S.goodAt l h = none) (fv : Value) (w : World) (hS : SlotsAt w s v l) :
    Calls Tryz.prog 100 #[.pointer (some ⟨s, 0, none⟩), h.val, fv] w fun e w' => e = .returned (.int .i64 111) ∧ Below w.heap.size w w' := by
  obtain ⟨a, g⟩ := h
  have hA : (∃ a' g', Hid (∀ W, Below w.heap.size w W → Calls Tryz.prog 59 #[.pointer (some ⟨s, 0, none⟩), .int .i64 a] W fun e w' => e = .returned (.tuple #[.agg #[.int .i64 a', .int .i64 g'], .bool false]) ∧ Below W.heap.size W w')) ∨
      (∃ g', g' ≠ g ∧ Hid (∀ W, Below w.heap.size w W → Calls Tryz.prog 59 #[.pointer (some ⟨s, 0, none⟩), .int .i64 a] W fun e w' => e = .returned (.tuple #[.agg #[.int .i64 a, .int .i64 g'], .bool true]) ∧ Below W.heap.size W w')) := by
    by_cases ho : a < 0 ∨ (l.length : Int) ≤ a
    · exact .inl ⟨0, 0, fun W hW => slots_At_out s v l a ho W (hS.below hW)⟩
    · obtain ⟨k, rfl⟩ : ∃ k : Nat, a = k := ⟨a.toNat, by omega⟩
      have hk : k < l.length := by omega
      have hx := List.getElem?_eq_getElem hk
      by_cases hu : l[k].used = true
      · refine .inr ⟨l[k].gen, fun e => ?_, fun W hW => ?_⟩
        · simp [S.goodAt, hu, e, hk] at hg
        · have := slots_At s v l k hk W (hS.below hW)
          rwa [show S.slotAt l k = (⟨k, l[k].gen⟩, true) by simp [S.slotAt, hk, hu]] at this
      · refine .inl ⟨0, 0, fun W hW => ?_⟩
        have := slots_At s v l k hk W (hS.below hW)
        rwa [show S.slotAt l k = (S.noHandle, false) by simp [S.slotAt, hk, hu]] at this
  clear hg hS
  rcases hA with ⟨a', g', hA⟩ | ⟨g', hne, hA⟩
  · go_enter Tryz.func100, Tryz.ntmps100
    go_wp2_with (go_at_call 59; (with_reducible refine (hA.out _ (below_one _ _)).mono ?_); rintro e w1 ⟨rfl, hb⟩; obtain ⟨r0, r1, z1, hB, -, -⟩ := boxed_on hb; have hB1 := Hid.mk hB; clear hB hb)
    go_ret
    go_light
    exact ⟨rfl, hB1.out.new_ _⟩
  · have t1 : (g' == g) = false := by simp [hne]
    have t2 : (g' != g) = true := by simp [hne]
    clear hne
    go_enter Tryz.func100, Tryz.ntmps100
    go_wp2_with (go_at_call 59; (with_reducible refine (hA.out _ (below_one _ _)).mono ?_); rintro e w1 ⟨rfl, hb⟩; obtain ⟨r0, r1, z1, hB, -, -⟩ := boxed_on hb; have hB1 := Hid.mk hB; clear hB hb)
    go_ret
    go_light
    exact ⟨rfl, hB1.out.new_ _⟩

end Go.Proofs.YtdokiaicheillaaGreat

namespace Go.Proofs.YtdokiaicheillaaGreat
open Go.RowKit

theorem load_u64 {w : World} {p : Nat} {v : Value} (h0 : w.cell? ⟨p, 0, none⟩ = some v) : (loadVar 106 ⟨p, 0, none⟩).run Tryz.prog w = .ok v w := by
  simp [go_sem, h0]

set_option maxRecDepth 100000 in
set_option maxHeartbeats 4000000 in
theorem slots_Get_yes (s : Nat) (v : Value) (l : List S.Slot) (h : S.Handle) (x : S.Slot) (hg : S.goodAt l h = some x) (w : World) (hS : SlotsAt w s v l) :
    Calls Tryz.prog 128 #[.pointer (some ⟨s, 0, none⟩), h.val] w fun e w' => e = .returned (.tuple #[.int .u64 x.v, .int .i64 0]) ∧ Below w.heap.size w w' := by
  obtain ⟨k, e1, hx, hu, e2⟩ := S.goodAt_some hg
  obtain ⟨a, g⟩ := h
  simp only at e1 e2
  subst e1 e2
  generalize hW : (w.alloc (.cells #[.int .i64 k, .int .i64 x.gen] 51)).alloc (.cells #[.int .u64 0] 106) = W
  have hB : Below w.heap.size w W := hW ▸ (below_one _ _).new_ _
  have z : W.heap.size = w.heap.size + 2 := by rw [← hW]; simp
  have c0 := two_cells w (.int .i64 k) (.int .i64 x.gen) 51
  have c1 : W.cell? ⟨w.heap.size, 0, none⟩ = some (.int .i64 k) := by rw [← hW, cell_alloc_old (by simp)]; exact c0.1
  have c2 : W.cell? ⟨w.heap.size, 1, none⟩ = some (.int .i64 x.gen) := by rw [← hW, cell_alloc_old (by simp)]; exact c0.2
  have hp : W.heap[w.heap.size + 1]? = some (.cells #[.int .u64 0] 106 (0, 0)) := by
    rw [← hW]
    have := heap_alloc_new (w.alloc (.cells #[.int .i64 k, .int .i64 x.gen] 51)) (.cells #[.int .u64 0] 106)
    rwa [World.size_alloc] at this
  obtain ⟨p0, f0⟩ := heap_cell hp (o := 0) (v := .int .u64 0) rfl
  have hG := Hid.mk (slots_good_get s v l k (w.heap.size + 1) x hx hu W (hS.below hB) _ p0 f0 (fun e => by have h9 : s < w.heap.size := World.block_lt_of_cell? w _ hS.cell; omega))
  have hB1 := Hid.mk hB
  clear hg hx hu hS c0 hp hB
  go_enter Tryz.func128, Tryz.ntmps128
  go_wp2_with (go_at_call 100; (with_reducible refine hG.out.mono ?_); rintro e w1 ⟨rfl, W2, hb, rfl⟩; have hb1 := Hid.mk hb; have k0 : (W2.setCell ⟨w.heap.size + 1, 0, none⟩ (.int .u64 x.v)).cell? ⟨w.heap.size + 1, 0, none⟩ = some (.int .u64 x.v) := World.cell?_setCell_same' _ _ _ (by rw [hb.cell (p := ⟨w.heap.size + 1, 0, none⟩) (show w.heap.size + 1 < W.heap.size by omega), p0]; rfl); have f2 : W2.frozen? ⟨w.heap.size + 1, 0, none⟩ = false := (hb.frozen (p := ⟨w.heap.size + 1, 0, none⟩) (show w.heap.size + 1 < W.heap.size by omega)).trans f0; clear hb)
  go_light
  refine bodyPost_ret (results_ct rfl _ _ _ rfl (load_u64 (World.cell?_setCell_same' _ _ _ (by rw [k0]; rfl)))) rfl ⟨rfl, ?_⟩
  exact ((hB1.out.trans (hb1.out.mono (by omega))).setCell (p := ⟨w.heap.size + 1, 0, none⟩) (Nat.le_succ _) _).setCell (p := ⟨w.heap.size + 1, 0, none⟩) (Nat.le_succ _) _

set_option maxRecDepth 100000 in
set_option maxHeartbeats 4000000 in
theorem slots_Get_no (s : Nat) (v : Value) (l : List S.Slot) (h : S.Handle) (hg : S.goodAt l h = none) (w : World) (hS : SlotsAt w s v l) :
    Calls Tryz.prog 128 #[.pointer (some ⟨s, 0, none⟩), h.val] w fun e w' => e = .returned (.tuple #[.int .u64 0, .int .i64 111]) ∧ Below w.heap.size w w' := by
  obtain ⟨a, g⟩ := h
  generalize hW : (w.alloc (.cells #[.int .i64 a, .int .i64 g] 51)).alloc (.cells #[.int .u64 0] 106) = W
  have hB : Below w.heap.size w W := hW ▸ (below_one _ _).new_ _
  have z : W.heap.size = w.heap.size + 2 := by rw [← hW]; simp
  have c0 := two_cells w (.int .i64 a) (.int .i64 g) 51
  have c1 : W.cell? ⟨w.heap.size, 0, none⟩ = some (.int .i64 a) := by rw [← hW, cell_alloc_old (by simp)]; exact c0.1
  have c2 : W.cell? ⟨w.heap.size, 1, none⟩ = some (.int .i64 g) := by rw [← hW, cell_alloc_old (by simp)]; exact c0.2
  have hp : W.heap[w.heap.size + 1]? = some (.cells #[.int .u64 0] 106 (0, 0)) := by
    rw [← hW]
    have := heap_alloc_new (w.alloc (.cells #[.int .i64 a, .int .i64 g] 51)) (.cells #[.int .u64 0] 106)
    rwa [World.size_alloc] at this
  obtain ⟨p0, f0⟩ := heap_cell hp (o := 0) (v := .int .u64 0) rfl
  have hG := fun fv => Hid.mk (slots_good_no s v l ⟨a, g⟩ hg fv W (hS.below hB))
  have hB1 := Hid.mk hB
  clear hg hS c0 hp hB
  go_enter Tryz.func128, Tryz.ntmps128
  go_wp2_with (go_at_call 100; (with_reducible refine (hG _).out.mono ?_); rintro e w1 ⟨rfl, hb⟩; have hb1 := Hid.mk hb; have k0 : w1.cell? ⟨w.heap.size + 1, 0, none⟩ = some (.int .u64 0) := (hb.cell (p := ⟨w.heap.size + 1, 0, none⟩) (show w.heap.size + 1 < W.heap.size by omega)).trans p0; have f2 : w1.frozen? ⟨w.heap.size + 1, 0, none⟩ = false := (hb.frozen (p := ⟨w.heap.size + 1, 0, none⟩) (show w.heap.size + 1 < W.heap.size by omega)).trans f0; clear hb)
  go_light
  refine bodyPost_ret (results_ct rfl _ _ _ rfl (load_u64 (World.cell?_setCell_same' _ _ _ (by rw [k0]; rfl)))) rfl ⟨rfl, ?_⟩
  exact (hB1.out.trans (hb1.out.mono (by omega))).setCell (p := ⟨w.heap.size + 1, 0, none⟩) (Nat.le_succ _) _

set_option maxRecDepth 100000 in
set_option maxHeartbeats 4000000 in
theorem slots_Free_yes (s : Nat) (v : Value) (l : List S.Slot) (h : S.Handle) (x : S.Slot) (hg : S.goodAt l h = some x) (w : World) (hS : SlotsAt w s v l) (hne : ∀ g, g ∈ rowF v → g ≠ s) :
    Calls Tryz.prog 57 #[.pointer (some ⟨s, 0, none⟩), h.val] w fun e w' => e = .returned (.int .i64 0) ∧ SlotsAt w' s v (l.set h.slot.toNat ⟨x.gen, false, 0⟩) ∧ Only (rowF v) w w' := by
  obtain ⟨k, e1, hx, hu, e2⟩ := S.goodAt_some hg
  obtain ⟨a, g⟩ := h
  simp only at e1 e2
  subst e1 e2
  have hG := Hid.mk (fun W (hB : Below w.heap.size w W) => slots_good_free s v l k x hx hu W (hS.below hB) hne)
  clear hg hx hu hS hne
  go_enter Tryz.func57, Tryz.ntmps57
  go_wp2_with (go_at_call 100; (with_reducible refine (hG.out _ (below_one _ _)).mono ?_); rintro e w1 ⟨rfl, h1, h2⟩; have h11 := Hid.mk h1; have h21 := Hid.mk h2; clear h1 h2)
  go_ret
  go_light
  exact ⟨rfl, h11.out, (Only.below (below_one _ _) _).trans h21.out (fun _ h => .inl h)⟩

set_option maxRecDepth 100000 in
set_option maxHeartbeats 4000000 in
theorem slots_Free_no (s : Nat) (v : Value) (l : List S.Slot) (h : S.Handle) (hg : S.goodAt l h = none) (w : World) (hS : SlotsAt w s v l) :
    Calls Tryz.prog 57 #[.pointer (some ⟨s, 0, none⟩), h.val] w fun e w' => e = .returned (.int .i64 111) ∧ Below w.heap.size w w' := by
  obtain ⟨a, g⟩ := h
  have hG := Hid.mk (fun fv W (hB : Below w.heap.size w W) => slots_good_no s v l ⟨a, g⟩ hg fv W (hS.below hB))
  clear hg hS
  go_enter Tryz.func57, Tryz.ntmps57
  go_wp2_with (go_at_call 100; (with_reducible refine (hG.out _ _ (below_one _ _)).mono ?_); rintro e w1 ⟨rfl, h1⟩; have h11 := Hid.mk h1; clear h1)
  go_ret
  go_light
  exact ⟨rfl, below_then (below_one _ _) h11.out⟩
end Go.Proofs.YtdokiaicheillaaGreat
