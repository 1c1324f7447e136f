/-
  The walk of field.New.
-/
import Derived.Test.YtpfbfcnfldmfcaaGreatLayout
import Derived.Test.YtpfbfcnfldmfcaaGreatSlots
namespace Go.Proofs.YtpfbfcnfldmfcaaGreat
open Go.RowKit

set_option maxHeartbeats 1000000 in
theorem field_New (A : Option Addr) (c : Nat) (l : List S.Field) (w : World) (hl : Fields w.cell? A l) (hs : Short l) (hr : S.right l = true) :
    Calls Tryz.prog 32 #[.slice A l.length c] w fun e w' => ∃ g, e = .returned (.slice (some ⟨g, 0, none⟩) (S.layout l).2 (S.layout l).2) ∧ w'.ownsRow w.heap.size 5 1 (.slice (some ⟨g, 0, none⟩) (S.layout l).2 (S.layout l).2) (S.layout l).2 (List.replicate (S.layout l).2 (.int .u8 0)) ∧ Below w.heap.size w w' := by
  have hlay : (S.layout l).2 = S.up (S.ends 0 l) 8 := by rw [S.layout, if_pos hr]
  rw [hlay]
  have hle : S.up (S.ends 0 l) 8 ≤ 4096 := by have h1 := S.ends_le l 0; have h2 := S.up_le (S.ends 0 l) 8; have h3 := S.right_len hr; omega
  have h1 := Hid.mk (field_Layout_yes A c l w hl hs hr)
  generalize S.up (S.ends 0 l) 8 = n at *
  obtain ⟨i0, hi, hzz⟩ := Option.map_eq_some_iff.1 clone_byte_info
  simp only [Prod.mk.injEq] at hzz
  obtain ⟨hz0, hz1, hz2⟩ := hzz
  have hmk : ∀ W : World, Hid (∃ W', (Instr.makeSlice 76 (.int .i64 (n : Int)) (.int .i64 (n : Int))).run Tryz.prog W = .ok (.slice (some ⟨W.heap.size, 0, none⟩) n n) W' ∧ W'.ownsRow W.heap.size 5 1 (.slice (some ⟨W.heap.size, 0, none⟩) n n) n (madeCells (Value.int .u8 0).cells (n * 1)).toList ∧ W.grownBy W' none) := fun W =>
    run_make_full (P := Tryz.prog) (w := W) W.heap.size 76 5 i0 _ 1 Tryz.underlying76 hi hz0 hz1 .i64 .i64 n (by rw [hz2]; omega) (by unfold maxLen; omega) (Nat.le_refl _)
  clear hl hs hr hlay hi hz0 hz1 hz2
  go_enter Tryz.func32, Tryz.ntmps32
  go_wp2_with (go_at_call 55; refine h1.out.mono ?_; rintro e w1 ⟨v, rfl, ho, hb⟩; obtain ⟨w2, hm, ho2, hg2⟩ := (hmk w1).out; have hb1 := Hid.mk hb; have ho21 := Hid.mk ho2; have hg21 := Hid.mk hg2; clear ho hb ho2 hg2)
  go_ret
  go_light
  have hrw : (madeCells (Value.int .u8 0).cells (n * 1)).toList = List.replicate n (Value.int .u8 0) := by
    rw [made_flat (by rfl), show (Value.int .u8 0).cells.toList = [Value.int .u8 0] from rfl]
    simp
  refine ⟨_, rfl, ?_, hb1.out.grown hg21.out hb1.out.size (fun k e => by cases e)⟩
  rw [← hrw]
  exact own_weak ho21.out hb1.out.size
end Go.Proofs.YtpfbfcnfldmfcaaGreat
