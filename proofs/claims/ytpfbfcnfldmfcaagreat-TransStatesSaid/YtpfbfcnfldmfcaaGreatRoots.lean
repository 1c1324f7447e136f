/-
  The walks of the layer of roots: New, Copy.
-/
import Derived.Test.YtpfbfcnfldmfcaaGreatCopies
import Derived.Test.YtpfbfcnfldmfcaaGreatCloneH
namespace Go.Proofs.YtpfbfcnfldmfcaaGreat
open Go.RowKit

/-- Roots lie at r, in the map mb. -/
structure RootsAt (w : World) (r mb : Nat) (l : List (S.Text × S.Handle)) : Prop where
  head : w.heap[r]? = some (.cells #[.map (some mb)] 81 (0, 0))
  map : MapAt encT S.Handle.val w mb l
theorem RootsAt.kept {w w' : World} {r mb : Nat} {l : List (S.Text × S.Handle)} (h : RootsAt w r mb l) (h1 : w'.heap[r]? = w.heap[r]?) (h2 : w'.heap[mb]? = w.heap[mb]?) : RootsAt w' r mb l :=
  ⟨h1.trans h.head, h.map.kept h2⟩
theorem RootsAt.c0 {w : World} {r mb : Nat} {l : List (S.Text × S.Handle)} (h : RootsAt w r mb l) : w.cell? ⟨r, 0, none⟩ = some (.map (some mb)) := by simp [World.cell?, h.head]
theorem RootsAt.ne {w : World} {r mb : Nat} {l : List (S.Text × S.Handle)} (h : RootsAt w r mb l) : r ≠ mb := by
  rintro rfl
  obtain ⟨a, c, hm⟩ := h.map.obj
  rw [h.head] at hm
  cases hm

set_option maxHeartbeats 1000000 in
theorem roots_New (w : World) :
    Calls Tryz.prog 11 #[] w fun e w' => ∃ r mb, e = .returned (.pointer (some ⟨r, 0, none⟩)) ∧ RootsAt w' r mb [] ∧ w.heap.size ≤ r ∧ w.heap.size ≤ mb ∧ Below w.heap.size w w' := by
  have hmm := @run_makeMap Tryz.prog
  go_enter Tryz.func11, Tryz.ntmps11
  go_wp2
  go_ret
  go_light
  refine ⟨w.heap.size + 1, w.heap.size, rfl, ⟨?_, (MapAt.new w).kept (Below.heap_alloc _ _ _ (by simp))⟩, by omega, by omega, (below_one w _).new_ _⟩
  have := heap_alloc_new (w.alloc (.map #[] 0)) (.cells #[.map (some w.heap.size)] 81)
  rwa [World.size_alloc] at this

set_option maxHeartbeats 1000000 in
theorem roots_Copy (r mb : Nat) (l : List (S.Text × S.Handle)) (w : World) (h : RootsAt w r mb l) :
    Calls Tryz.prog 49 #[.pointer (some ⟨r, 0, none⟩)] w fun e w' => ∃ r' mb', e = .returned (.pointer (some ⟨r', 0, none⟩)) ∧ RootsAt w' r' mb' l ∧ w.heap.size ≤ r' ∧ w.heap.size ≤ mb' ∧ Below w.heap.size w w' := by
  have c0 := h.c0
  have hcl := Hid.mk (clone_hands mb w h.map)
  clear h
  go_enter Tryz.func49, Tryz.ntmps49
  go_wp2_with (go_at_call 71; refine hcl.out.mono ?_; rintro e w1 ⟨rfl, hm, hb, hs⟩; have hm1 := Hid.mk hm; have hb1 := Hid.mk hb; have hs1 := Hid.mk hs; clear hm hb hs)
  go_ret
  go_light
  have hsz := hs1.out
  exact ⟨w1.heap.size, w.heap.size, rfl, ⟨heap_alloc_new _ _, hm1.out.kept (Below.heap_alloc _ _ _ (by omega))⟩, by omega, Nat.le_refl _, hb1.out.new_ _⟩
end Go.Proofs.YtpfbfcnfldmfcaaGreat
