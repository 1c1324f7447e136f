/-
  The walk of maps.Clone at the map of roots.
-/
import Derived.Test.YtpfbfcnfldmfcaaGreatMapClone
namespace Go.Proofs.YtpfbfcnfldmfcaaGreat
open Go.RowKit Go.Maps

set_option maxRecDepth 100000 in
set_option maxHeartbeats 1000000 in
theorem clone_hands {V : Type} {dec : V → Value} {l : List (S.Text × V)} (mb : Nat) (w : World) (h : MapAt (fun x : S.Text => Value.string (S.mk x)) dec w mb l) :
    Calls Tryz.prog 71 #[.map (some mb)] w fun e w' => e = .returned (.map (some w.heap.size)) ∧ MapAt (fun x : S.Text => Value.string (S.mk x)) dec w' w.heap.size l ∧ Below w.heap.size w w' ∧ w'.heap.size = w.heap.size + 1 := by
  obtain ⟨E, clock, hE, rfl⟩ := h
  have hb := Hid.mk hE.heap
  have hE1 := Hid.mk hE
  have hq : ∀ w, (binOp .eql 79 (.map (some mb)) (.map none)).run Tryz.prog w = .ok (.bool false) w := fun w => run_map_nil (P := Tryz.prog) w 79 _ _ (some mb) Tryz.underlying79
  clear hE
  go_enter Tryz.func71, Tryz.ntmps71
  go_wp2
  rw [run_callFunc_extern Tryz.func99 (by kernel_rfl) (by kernel_rfl) (by kernel_rfl) (e := Extern.MapsClone.clone) (by kernel_rfl), run_map_clone w 79 hb.out]
  simp only [Result.andThen]
  rw [Oper.upon_value]
  go_wp2
  rw [run_map_assert _ 79 20 _ _ _ Tryz.underlying79]
  simp only [Result.andThen]
  rw [Oper.upon_value]
  go_wp2
  go_ret
  go_light
  exact ⟨rfl, ⟨E, clock, ⟨heap_alloc_new _ _, hE1.out.old, hE1.out.born, hE1.out.keys⟩, rfl⟩, (Below.refl _ w).alloc (Nat.le_refl _) _, by simp⟩
end Go.Proofs.YtpfbfcnfldmfcaaGreat
