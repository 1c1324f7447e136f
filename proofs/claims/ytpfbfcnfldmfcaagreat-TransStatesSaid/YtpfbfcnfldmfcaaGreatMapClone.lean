/-
  The walks of maps.Clone at both kinds of maps.
-/
import Derived.Test.YtpfbfcnfldmfcaaGreatMap
import Derived.Test.YtpfbfcnfldmfcaaGreatRight
import Derived.Laws.Externs
import Derived.MapKept
import Derived.WalkKit
namespace Go.Proofs.YtpfbfcnfldmfcaaGreat
open Go.RowKit Go.Maps

section
variable {P : Program} (w : World)
theorem run_map_nil (t k e : TypeId) (p : Option Nat) (h : P.underlying t = some (.map k e)) : (binOp .eql t (.map p) (.map none)).run P w = .ok (.bool p.isNone) w := by
  simp only [binOp]
  have : ∀ d, (Op.equalIn (d + 1) t (.map p) (.map none)).run P w = .ok p.isNone w := fun d => by cases p <;> simp [Op.equalIn, run_underlying h]
  have := this 9999
  simp [show Op.equal t (.map p) (.map none) = Op.equalIn (9999 + 1) t (.map p) (.map none) from rfl, this]
theorem run_map_assert (t xT k e : TypeId) (v : Value) (h : P.underlying t = some (.map k e)) : (Instr.typeAssert (.iface t v) xT t false).run P w = .ok v w := by
  simp [Instr.typeAssert, run_underlying h, go_sem, Result.andThen]
theorem run_map_clone {r : Nat} {es : Array MapEntry} {clock : Nat} (t : TypeId) (hb : w.heap[r]? = some (.map es clock)) :
    (Extern.MapsClone.clone #[.iface t (.map (some r))]).run P w = .ok (.iface t (.map (some w.heap.size))) (w.alloc (.map es clock)) := by
  have e : Extern.MapsClone.clone #[.iface t (.map (some r))] = (getObj r >>= fun o => match o with
      | .map entries clock => (newObj (.map entries clock) >>= fun n => pure (.iface t (.map (some n))))
      | _ => stuck "maps.clone: a map expected") := rfl
  rw [e]
  simp [MapKept.run_getObj_map hb, Result.andThen, go_sem]
end

set_option maxRecDepth 100000 in
set_option maxHeartbeats 1000000 in
theorem clone_ints {V : Type} {dec : V → Value} {l : List (Int × V)} (mb : Nat) (w : World) (h : MapAt (fun x : Int => Value.int .i64 x) dec w mb l) :
    Calls Tryz.prog 97 #[.map (some mb)] w fun e w' => e = .returned (.map (some w.heap.size)) ∧ MapAt (fun x : Int => Value.int .i64 x) dec w' w.heap.size l ∧ Below w.heap.size w w' ∧ w'.heap.size = w.heap.size + 1 := by
  obtain ⟨E, clock, hE, rfl⟩ := h
  have hb := Hid.mk hE.heap
  have hE1 := Hid.mk hE
  have hq : ∀ w, (binOp .eql 118 (.map (some mb)) (.map none)).run Tryz.prog w = .ok (.bool false) w := fun w => run_map_nil (P := Tryz.prog) w 118 _ _ (some mb) Tryz.underlying118
  clear hE
  go_enter Tryz.func97, Tryz.ntmps97
  go_wp2
  rw [run_callFunc_extern Tryz.func99 (by kernel_rfl) (by kernel_rfl) (by kernel_rfl) (e := Extern.MapsClone.clone) (by kernel_rfl), run_map_clone w 118 hb.out]
  simp only [Result.andThen]
  rw [Oper.upon_value]
  go_wp2
  rw [run_map_assert _ 118 20 _ _ _ Tryz.underlying118]
  simp only [Result.andThen]
  rw [Oper.upon_value]
  go_wp2
  go_ret
  go_light
  exact ⟨rfl, ⟨E, clock, ⟨heap_alloc_new _ _, hE1.out.old, hE1.out.born, hE1.out.keys⟩, rfl⟩, (Below.refl _ w).alloc (Nat.le_refl _) _, by simp⟩

end Go.Proofs.YtpfbfcnfldmfcaaGreat
