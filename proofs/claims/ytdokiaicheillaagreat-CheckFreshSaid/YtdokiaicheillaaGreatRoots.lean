/-
  The walks of the layer of roots: New, Copy.
-/
import Derived.Test.YtdokiaicheillaaGreatMap
import Derived.Test.YtdokiaicheillaaGreatRight
import Derived.Laws.Externs
import Derived.MapKept
import Derived.WalkKit
import Derived.Test.YtdokiaicheillaaGreatBlocks
import Derived.Deep.RegionWith
namespace Go.Proofs.YtdokiaicheillaaGreat
open Go.RowKit Go.Maps

section
variable {P : Program} (w : World)
theorem run_map_nil (t k e : TypeId) (p : Option Nat) (h : P.underlying t = some (.map k e)) : (binOp .eql t (.map p) (.map none)).run P w = .ok (.bool p.isNone) w := by
  simp only [binOp]
  have : ∀ d, (Op.equalIn (d + 1) t (.map p) (.map none)).run P w = .ok p.isNone w := fun d => by cases p <;> simp [Op.equalIn, run_underlying h]
  have := this 9999
  simp [show Op.equal t (.map p) (.map none) = Op.equalIn (9999 + 1) t (.map p) (.map none) from rfl, this]
theorem run_map_assert (t xT k e : TypeId) (v : Value) (h : P.underlying t = some (.map k e)) : (Instr.typeAssert (.iface t v) xT t false).run P w = .ok v w := by
  simp [Instr.typeAssert, run_underlying h, go_sem, Result.andThen]
theorem run_map_clone {r : Nat} {es : Array MapEntry} {clock : Nat} (t : TypeId) (hb : w.heap[r]? = some (.map es clock)) :
    (Extern.MapsClone.clone #[.iface t (.map (some r))]).run P w = .ok (.iface t (.map (some w.heap.size))) (w.alloc (.map es clock)) := by
  have e : Extern.MapsClone.clone #[.iface t (.map (some r))] = (getObj r >>= fun o => match o with
      | .map entries clock => (newObj (.map entries clock) >>= fun n => pure (.iface t (.map (some n))))
      | _ => stuck "maps.clone: a map expected") := rfl
  rw [e]
  simp [MapKept.run_getObj_map hb, Result.andThen, go_sem]
end

end Go.Proofs.YtdokiaicheillaaGreat

namespace Go.Proofs.YtdokiaicheillaaGreat
open Go.RowKit

theorem SlotsAt.oneCell (l : List S.Slot) : ∀ r, r ∈ l.map S.Slot.cells → ∀ u, u ∈ r → u.oneCell' = true := by
  intro r hr u hu
  obtain ⟨x, -, rfl⟩ := List.mem_map.1 hr
  simp only [S.Slot.cells, List.mem_cons, List.not_mem_nil, or_false] at hu
  rcases hu with rfl | rfl | rfl <;> rfl

end Go.Proofs.YtdokiaicheillaaGreat

namespace Go.Proofs.YtdokiaicheillaaGreat
open Go.RowKit Go.Maps

end Go.Proofs.YtdokiaicheillaaGreat

namespace Go.Proofs.YtdokiaicheillaaGreat
open Go.RowKit

/-- Roots lie at r, in the map mb. -/
structure RootsAt (w : World) (r mb : Nat) (l : List (S.Text × S.Handle)) : Prop where
  head : w.heap[r]? = some (.cells #[.map (some mb)] 86 (0, 0))
  map : MapAt encT S.Handle.val w mb l
theorem RootsAt.kept {w w' : World} {r mb : Nat} {l : List (S.Text × S.Handle)} (h : RootsAt w r mb l) (h1 : w'.heap[r]? = w.heap[r]?) (h2 : w'.heap[mb]? = w.heap[mb]?) : RootsAt w' r mb l :=
  ⟨h1.trans h.head, h.map.kept h2⟩
theorem RootsAt.c0 {w : World} {r mb : Nat} {l : List (S.Text × S.Handle)} (h : RootsAt w r mb l) : w.cell? ⟨r, 0, none⟩ = some (.map (some mb)) := by simp [World.cell?, h.head]
theorem RootsAt.ne {w : World} {r mb : Nat} {l : List (S.Text × S.Handle)} (h : RootsAt w r mb l) : r ≠ mb := by
  rintro rfl
  obtain ⟨a, c, hm⟩ := h.map.obj
  rw [h.head] at hm
  cases hm

set_option maxHeartbeats 1000000 in
theorem roots_New (w : World) :
    Calls Tryz.prog 11 #[] w fun e w' => ∃ r mb, e = .returned (.pointer (some ⟨r, 0, none⟩)) ∧ RootsAt w' r mb [] ∧ w.heap.size ≤ r ∧ w.heap.size ≤ mb ∧ Below w.heap.size w w' := by
  have hmm := @run_makeMap Tryz.prog
  go_enter Tryz.func11, Tryz.ntmps11
  go_wp2
  go_ret
  go_light
  refine ⟨w.heap.size + 1, w.heap.size, rfl, ⟨?_, (MapAt.new w).kept (Below.heap_alloc _ _ _ (by simp))⟩, by omega, by omega, (below_one w _).new_ _⟩
  have := heap_alloc_new (w.alloc (.map #[] 0)) (.cells #[.map (some w.heap.size)] 86)
  rwa [World.size_alloc] at this

end Go.Proofs.YtdokiaicheillaaGreat
