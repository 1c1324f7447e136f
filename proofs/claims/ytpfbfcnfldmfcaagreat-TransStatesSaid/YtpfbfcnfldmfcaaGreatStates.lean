/-
  The walk of TransStates.
-/
import Derived.Test.YtpfbfcnfldmfcaaGreatAliveW
import Derived.Deep.MidRow
import Derived.Deep.WholeRow
import Derived.Laws.Tables
namespace Go.Proofs.YtpfbfcnfldmfcaaGreat
open Go.RowKit

/-- The cells of a call of layer 17. -/
structure TOp where
  k : Int
  k1 : Int
  k2 : Int
  s1 : ByteArray
  a1 : Option Addr
  n1 : Nat
  c1 : Nat
  a2 : Option Addr
  n2 : Nat
  c2 : Nat
  a3 : Option Addr
  n3 : Nat
  c3 : Nat
  s2 : ByteArray
  x1 : Int
  x2 : Int
  v1 : Int
  v2 : Int
  s3 : ByteArray
  r1 : Int
  s4 : ByteArray
  h1 : Int
  h2 : Int
def TOp.cells (t : TOp) : List Value := [.int .i64 t.k, .int .i64 t.k1, .int .i64 t.k2, .string t.s1, .slice t.a1 t.n1 t.c1, .slice t.a2 t.n2 t.c2, .slice t.a3 t.n3 t.c3, .string t.s2, .int .i64 t.x1, .int .i64 t.x2, .int .i64 t.v1, .int .u64 t.v2, .string t.s3, .int .i64 t.r1, .string t.s4, .int .i64 t.h1, .int .i64 t.h2]
def TRow (w : World) (A : Option Addr) (n : Nat) : Prop := ∀ i, i < n → ∃ (b off : Nat) (t : TOp), A = some ⟨b, off, none⟩ ∧ ∀ (j : Nat) (v : Value), t.cells[j]? = some v → w.cell? ⟨b, off + i * 17 + j, none⟩ = some v
theorem TRow.below {w w' : World} {A : Option Addr} {n : Nat} (h : TRow w A n) (hb : Below w.heap.size w w') : TRow w' A n := fun i hi => by
  obtain ⟨b, off, t, e, hc⟩ := h i hi
  exact ⟨b, off, t, e, fun j v hv => below_reads hb _ _ (hc j v hv)⟩

theorem stg_Open_some {w W : World} {T : Nat} {s : SPlace} {o : Option (Nat × SPlace)} {Y Z : S.State} (h : Stg w W ⟨T, s, o⟩ ⟨Y, some Z⟩) : Calls Tryz.prog 9 #[.pointer (some ⟨T, 0, none⟩)] W fun e w' => e = .returned (.bool true) ∧ w' = W := (trans_Open ⟨T, s, o⟩ ⟨Y, some Z⟩ W h.at_).mono fun _ _ h => h
theorem stg_Open_none {w W : World} {T : Nat} {s : SPlace} {o : Option (Nat × SPlace)} {Y : S.State} (h : Stg w W ⟨T, s, o⟩ ⟨Y, none⟩) : Calls Tryz.prog 9 #[.pointer (some ⟨T, 0, none⟩)] W fun e w' => e = .returned (.bool false) ∧ w' = W := (trans_Open ⟨T, s, o⟩ ⟨Y, none⟩ W h.at_).mono fun _ _ h => h
theorem stg_Begin_open {w W : World} {T : Nat} {s : SPlace} {o : Option (Nat × SPlace)} {Y Z : S.State} (h : Stg w W ⟨T, s, o⟩ ⟨Y, some Z⟩) : Calls Tryz.prog 6 #[.pointer (some ⟨T, 0, none⟩)] W fun e w' => e = .returned (.int .i64 170) ∧ w' = W := (trans_Begin_open ⟨T, s, o⟩ ⟨Y, some Z⟩ W h.at_ rfl).mono fun _ _ h => h
theorem stg_Commit_none {w W : World} {T : Nat} {s : SPlace} {o : Option (Nat × SPlace)} {Y : S.State} (h : Stg w W ⟨T, s, o⟩ ⟨Y, none⟩) : Calls Tryz.prog 7 #[.pointer (some ⟨T, 0, none⟩)] W fun e w' => e = .returned (.int .i64 171) ∧ w' = W := (trans_Commit_none ⟨T, s, o⟩ ⟨Y, none⟩ W h.at_ rfl).mono fun _ _ h => h
theorem stg_Abort_none {w W : World} {T : Nat} {s : SPlace} {o : Option (Nat × SPlace)} {Y : S.State} (h : Stg w W ⟨T, s, o⟩ ⟨Y, none⟩) : Calls Tryz.prog 8 #[.pointer (some ⟨T, 0, none⟩)] W fun e w' => e = .returned (.int .i64 171) ∧ Stg w w' ⟨T, s, o⟩ ⟨Y, none⟩ := (trans_Abort_none ⟨T, s, o⟩ ⟨Y, none⟩ W h.at_ rfl).mono fun e w' ⟨e1, hb⟩ => ⟨e1, h.then hb⟩

theorem op_size (t : TOp) : (Tryz.prog.info? 43).map (·.size) = some t.cells.length := by
  have : (Tryz.prog.info? 43).map (·.size) = some 17 := by kernel_rfl
  rw [this]
  rfl
theorem op_one (t : TOp) : t.cells.toArray.all (·.oneCell') = true := by
  simp [TOp.cells, Value.oneCell']
/-- The store of a call into its new variable. -/
theorem wpl_store_op {ops : Array Oper} {rest : List Oper} {o : Oper} {a : Act} {w : World} {Q : Exit → Act → World → Prop} (hgd : o.guard = none) (x y : Operand) (ho : o.op = .store 43 x y)
    (t : TOp) (zs : Array Value) (hz : zs.size = 17) (hx : a.eval x = .pointer (some ⟨w.heap.size, 0, none⟩)) (hy : a.eval y = .agg t.cells.toArray)
    (h : wpList Tryz.prog ops Q rest (a.put o.dst undef) (w.alloc (.cells t.cells.toArray 43))) : wpList Tryz.prog ops Q (o :: rest) a (w.alloc (.cells zs 43)) :=
  wpList_store_row hgd 43 x y ho w.heap.size t.cells.toArray hx hy 43 zs (heap_alloc_new w _) (by rw [op_size t]; simp) (by rw [hz]; rfl) (op_one t) (by rw [World.setRow_alloc_new]; exact h)

set_option maxRecDepth 100000 in
set_option maxHeartbeats 16000000 in
theorem states_few (A : Option Addr) (n c : Nat) (w : World) (hn : n ≤ 100) (hA : TRow w A n) : Calls Tryz.prog 3 #[.slice A n c] w fun e w' => e = .returned (.bool true) ∧ Below w.heap.size w w' := by
  have hN : Hid (Calls Tryz.prog 4 #[.int .i64 10, .int .i64 4] w fun e w' => ∃ T s o, e = .returned (.tuple #[.pointer (some ⟨T, 0, none⟩), .int .i64 0]) ∧ Stg w w' ⟨T, s, o⟩ ⟨⟨S.Heap.new 10 4, []⟩, none⟩) := stg_New 10 4 (by decide) (by decide) w
  have tn : decide (100 < (n : Int)) = false := by simp; omega
  have hAl := fun W => Hid.mk (alive_yes W)
  have hA1 := Hid.mk hA; clear hA
  go_enter Tryz.func3, Tryz.ntmps3
  go_wp2_with (go_at_call 4; (with_reducible refine hN.out.mono ?_); rintro e w1 ⟨T, s, o, rfl, g⟩; have g1 := Hid.mk g; clear g)
  go_loopw [5, 34] (fun v5 v34 wr => ∃ (i : Nat) (s : SPlace) (o : Option (Nat × SPlace)) (Y : S.State) (O : Option S.State) (bo : Bool), i ≤ n ∧ v34 = .int .i64 i ∧ v5 = .bool bo ∧ Hid (bo = O.isSome) ∧ Hid (Stg w wr ⟨T, s, o⟩ ⟨Y, O⟩)) (fun _ v34 _ => n - (intOf v34).toNat)
  case atStart => exact ⟨0, s, o, _, none, false, Nat.zero_le _, rfl, rfl, Hid.mk rfl, g1⟩
  case round =>
    obtain ⟨i, s', o', Y, O, bo, hi, rfl, rfl, hbo, g⟩ := hrel
    clear g1 hN
    by_cases hlt : i < n
    · obtain ⟨b, off, t, rfl, hc⟩ := (hA1.out.below g.out.below) i hlt
      have gb := Hid.mk (g.out.then (below_one wr (.cells t.cells.toArray 43)))
      have hk0 : (wr.alloc (.cells t.cells.toArray 43)).cell? ⟨wr.heap.size, 0, none⟩ = some (.int .i64 t.k) := (heap_cell (heap_alloc_new wr (.cells t.cells.toArray 43)) (o := 0) rfl).1
      have hrg : Hid (wr.rangeAt b (off + i * 17) t.cells) := hc
      obtain ⟨k, hk9⟩ : ∃ k, t.k = k := ⟨_, rfl⟩
      rw [hk9] at hk0
      clear hc hk9
      rcases O with _ | Z
      · obtain rfl : bo = false := hbo.out
        clear hbo
        by_cases hk : k = 2
        · subst hk
          clear g
          go_wp2_with (first | (with_reducible refine wpList_load_mid rfl 43 _ rfl b (off + i * 17) rfl t.cells _ hrg.out Tryz.underlying43 rfl (op_size t) ?_) | (with_reducible refine wpl_store_op rfl _ _ rfl t _ rfl rfl rfl ?_) | (go_at_call 6; (with_reducible refine (stg_Begin gb.out).mono ?_); rintro e w5 ⟨rfl, o5, C', hC, g⟩; have g5 := Hid.mk g; clear g hC) | (go_at_call 9; (with_reducible refine (stg_Open_some g5.out).mono ?_); rintro e w0 ⟨rfl, hw⟩; obtain rfl := hw.symm))
          go_roundw
          case rel =>
            go_light
            exact ⟨i + 1, _, _, _, some _, true, by omega, by go_num, rfl, Hid.mk rfl, g5⟩
          case measure => simp [intOf]; omega
        by_cases hk3 : k = 3
        · subst hk3
          clear g hk
          go_wp2_with (first | (with_reducible refine wpList_load_mid rfl 43 _ rfl b (off + i * 17) rfl t.cells _ hrg.out Tryz.underlying43 rfl (op_size t) ?_) | (with_reducible refine wpl_store_op rfl _ _ rfl t _ rfl rfl rfl ?_) | (go_at_call 7; (with_reducible refine (stg_Commit_none gb.out).mono ?_); rintro e w0 ⟨rfl, hw⟩; obtain rfl := hw.symm) | (go_at_call 9; (with_reducible refine (stg_Open_none gb.out).mono ?_); rintro e w0 ⟨rfl, hw⟩; obtain rfl := hw.symm))
          go_roundw
          case rel =>
            go_light
            exact ⟨i + 1, _, _, _, none, false, by omega, by go_num, rfl, Hid.mk rfl, gb⟩
          case measure => simp [intOf]; omega
        by_cases hk4 : k = 4
        · subst hk4
          clear g hk hk3
          go_wp2_with (first | (with_reducible refine wpList_load_mid rfl 43 _ rfl b (off + i * 17) rfl t.cells _ hrg.out Tryz.underlying43 rfl (op_size t) ?_) | (with_reducible refine wpl_store_op rfl _ _ rfl t _ rfl rfl rfl ?_) | (go_at_call 8; (with_reducible refine (stg_Abort_none gb.out).mono ?_); rintro e w5 ⟨rfl, g⟩; have g5 := Hid.mk g; clear g) | (go_at_call 9; (with_reducible refine (stg_Open_none g5.out).mono ?_); rintro e w0 ⟨rfl, hw⟩; obtain rfl := hw.symm))
          go_roundw
          case rel =>
            go_light
            exact ⟨i + 1, _, _, _, none, false, by omega, by go_num, rfl, Hid.mk rfl, g5⟩
          case measure => simp [intOf]; omega
        · have t2 : (k == 2) = false := by simp [hk]
          have t3 : (k == 3) = false := by simp [hk3]
          have t4 : (k == 4) = false := by simp [hk4]
          clear g hk hk3 hk4
          go_wp2_with (first | (with_reducible refine wpList_load_mid rfl 43 _ rfl b (off + i * 17) rfl t.cells _ hrg.out Tryz.underlying43 rfl (op_size t) ?_) | (with_reducible refine wpl_store_op rfl _ _ rfl t _ rfl rfl rfl ?_) | (go_at_call 9; (with_reducible refine (stg_Open_none gb.out).mono ?_); rintro e w0 ⟨rfl, hw⟩; obtain rfl := hw.symm))
          go_roundw
          case rel =>
            go_light
            exact ⟨i + 1, _, _, _, none, false, by omega, by go_num, rfl, Hid.mk rfl, gb⟩
          case measure => simp [intOf]; omega
      · obtain rfl : bo = true := hbo.out
        clear hbo
        by_cases hk : k = 2
        · subst hk
          clear g
          go_wp2_with (first | (with_reducible refine wpList_load_mid rfl 43 _ rfl b (off + i * 17) rfl t.cells _ hrg.out Tryz.underlying43 rfl (op_size t) ?_) | (with_reducible refine wpl_store_op rfl _ _ rfl t _ rfl rfl rfl ?_) | (go_at_call 6; (with_reducible refine (stg_Begin_open gb.out).mono ?_); rintro e w0 ⟨rfl, hw⟩; obtain rfl := hw.symm) | (go_at_call 9; (with_reducible refine (stg_Open_some gb.out).mono ?_); rintro e w0 ⟨rfl, hw⟩; obtain rfl := hw.symm))
          go_roundw
          case rel =>
            go_light
            exact ⟨i + 1, _, _, _, some _, true, by omega, by go_num, rfl, Hid.mk rfl, gb⟩
          case measure => simp [intOf]; omega
        by_cases hk3 : k = 3
        · subst hk3
          clear g hk
          go_wp2_with (first | (with_reducible refine wpList_load_mid rfl 43 _ rfl b (off + i * 17) rfl t.cells _ hrg.out Tryz.underlying43 rfl (op_size t) ?_) | (with_reducible refine wpl_store_op rfl _ _ rfl t _ rfl rfl rfl ?_) | (go_at_call 7; (with_reducible refine (stg_Commit gb.out).mono ?_); rintro e w5 ⟨rfl, g⟩; have g5 := Hid.mk g; clear g) | (go_at_call 9; (with_reducible refine (stg_Open_none g5.out).mono ?_); rintro e w0 ⟨rfl, hw⟩; obtain rfl := hw.symm))
          go_roundw
          case rel =>
            go_light
            exact ⟨i + 1, _, _, _, none, false, by omega, by go_num, rfl, Hid.mk rfl, g5⟩
          case measure => simp [intOf]; omega
        by_cases hk4 : k = 4
        · subst hk4
          clear g hk hk3
          go_wp2_with (first | (with_reducible refine wpList_load_mid rfl 43 _ rfl b (off + i * 17) rfl t.cells _ hrg.out Tryz.underlying43 rfl (op_size t) ?_) | (with_reducible refine wpl_store_op rfl _ _ rfl t _ rfl rfl rfl ?_) | (go_at_call 8; (with_reducible refine (stg_Abort gb.out).mono ?_); rintro e w5 ⟨rfl, s5, g⟩; have g5 := Hid.mk g; clear g) | (go_at_call 9; (with_reducible refine (stg_Open_none g5.out).mono ?_); rintro e w0 ⟨rfl, hw⟩; obtain rfl := hw.symm))
          go_roundw
          case rel =>
            go_light
            exact ⟨i + 1, _, _, _, none, false, by omega, by go_num, rfl, Hid.mk rfl, g5⟩
          case measure => simp [intOf]; omega
        · have t2 : (k == 2) = false := by simp [hk]
          have t3 : (k == 3) = false := by simp [hk3]
          have t4 : (k == 4) = false := by simp [hk4]
          clear g hk hk3 hk4
          go_wp2_with (first | (with_reducible refine wpList_load_mid rfl 43 _ rfl b (off + i * 17) rfl t.cells _ hrg.out Tryz.underlying43 rfl (op_size t) ?_) | (with_reducible refine wpl_store_op rfl _ _ rfl t _ rfl rfl rfl ?_) | (go_at_call 9; (with_reducible refine (stg_Open_some gb.out).mono ?_); rintro e w0 ⟨rfl, hw⟩; obtain rfl := hw.symm))
          go_roundw
          case rel =>
            go_light
            exact ⟨i + 1, _, _, _, some _, true, by omega, by go_num, rfl, Hid.mk rfl, gb⟩
          case measure => simp [intOf]; omega
    · go_wp2_with (go_at_call 5; (with_reducible refine (hAl _).out.mono ?_); rintro e w5 ⟨rfl, hb⟩; have hb5 := Hid.mk hb; clear hb)
      go_ret
      go_light
      exact ⟨rfl, below_then g.out.below hb5.out⟩

set_option maxRecDepth 100000 in
set_option maxHeartbeats 16000000 in
theorem states_many (A : Option Addr) (n c : Nat) (w : World) (hn : 100 < n) (hm : n ≤ 9223372036854775807) : Calls Tryz.prog 3 #[.slice A n c] w fun e w' => e = .returned (.bool true) ∧ Below w.heap.size w w' := by
  have hN : Hid (Calls Tryz.prog 4 #[.int .i64 10, .int .i64 4] w fun e w' => ∃ T s o, e = .returned (.tuple #[.pointer (some ⟨T, 0, none⟩), .int .i64 0]) ∧ Stg w w' ⟨T, s, o⟩ ⟨⟨S.Heap.new 10 4, []⟩, none⟩) := stg_New 10 4 (by decide) (by decide) w
  have tn : decide (100 < (n : Int)) = true := by simp; omega
  have hAl := fun W => Hid.mk (alive_yes W)
  go_enter Tryz.func3, Tryz.ntmps3
  go_wp2_with (first | (go_at_call 4; (with_reducible refine hN.out.mono ?_); rintro e w1 ⟨T, s, o, rfl, g⟩; have g1 := Hid.mk g; clear g) | (go_at_call 5; (with_reducible refine (hAl _).out.mono ?_); rintro e w5 ⟨rfl, hb⟩; have hb5 := Hid.mk hb; clear hb))
  go_ret
  go_light
  exact ⟨rfl, below_then g1.out.below hb5.out⟩
end Go.Proofs.YtpfbfcnfldmfcaaGreat
