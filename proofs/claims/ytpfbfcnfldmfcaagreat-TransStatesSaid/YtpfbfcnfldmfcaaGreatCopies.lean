/-
  The walks of Copy: of blocks, of slots, of roots.
-/
import Derived.Test.YtpfbfcnfldmfcaaGreatBlocks
import Derived.Test.YtpfbfcnfldmfcaaGreatMapClone
import Derived.Deep.RegionWith
namespace Go.Proofs.YtpfbfcnfldmfcaaGreat
open Go.RowKit

set_option maxRecDepth 100000 in
set_option maxHeartbeats 2000000 in
theorem blocks_Copy (b mb : Nat) (u : Int) (l : List (Int × Int)) (w : World) (h : BlocksAt w b mb u l) :
    Calls Tryz.prog 68 #[.pointer (some ⟨b, 0, none⟩)] w fun e w' => ∃ b' mb', e = .returned (.pointer (some ⟨b', 0, none⟩)) ∧ BlocksAt w' b' mb' u l ∧ w.heap.size ≤ b' ∧ w.heap.size ≤ mb' ∧ Below w.heap.size w w' := by
  have h1 := Hid.mk h
  have c0 := h.c0
  have c1 := h.c1
  have hblt : b < w.heap.size := World.block_lt_of_cell? w _ c0
  clear h
  go_enter Tryz.func68, Tryz.ntmps68
  go_wp2
  go_region_with (go_at_call 97; refine (clone_ints mb _ (show MapAt encI encI w.drew mb l from h1.out.map.kept rfl)).mono ?_; rintro e w1 ⟨rfl, hm, hb, hs⟩; have hm1 := Hid.mk hm; have hb1 := Hid.mk hb; have hs1 := Hid.mk hs; have d0 := (bcell hb).1 b 0 hblt; have e0 : w1.cell? ⟨b, 0, none⟩ = some (.int .i64 u) := d0.trans c0; clear hm hb hs d0)
  all_goals go_wp2
  all_goals
    go_ret
    have hsz : w1.heap.size = w.heap.size + 1 := hs1.out
    have hbb : Below w.heap.size w w1 := have h := hb1.out; ⟨h.os, h.tape, h.output, h.size, h.block⟩
    have hmm : MapAt encI encI w1 w.heap.size l := hm1.out
    exact ⟨w1.heap.size, w.heap.size, rfl, ⟨heap_alloc_new _ _, hmm.kept (Below.heap_alloc _ _ _ (by omega)), h1.out.u0, h1.out.u1, h1.out.inside⟩, by omega, Nat.le_refl _, hbb.new_ _⟩

theorem SlotsAt.oneCell (l : List S.Slot) : ∀ r, r ∈ l.map S.Slot.cells → ∀ u, u ∈ r → u.oneCell' = true := by
  intro r hr u hu
  obtain ⟨x, -, rfl⟩ := List.mem_map.1 hr
  simp only [S.Slot.cells, List.mem_cons, List.not_mem_nil, or_false] at hu
  rcases hu with rfl | rfl | rfl <;> rfl

set_option maxHeartbeats 1000000 in
theorem slots_Copy (s : Nat) (v : Value) (l : List S.Slot) (w : World) (h : SlotsAt w s v l) :
    Calls Tryz.prog 69 #[.pointer (some ⟨s, 0, none⟩)] w fun e w' => ∃ s' v', e = .returned (.pointer (some ⟨s', 0, none⟩)) ∧ SlotsAt w' s' v' l ∧ w.heap.size ≤ s' ∧ (∀ k, k ∈ rowF v' → w.heap.size ≤ k ∧ k ≠ s') ∧ Below w.heap.size w w' := by
  obtain ⟨A, c, rfl, hr, hA⟩ := Row.of_own h.row (slot_rows l) (by simp) (by have := h.many; omega)
  have hc := h.cell
  have hcl := Hid.mk (clone_slot A c (l.map S.Slot.cells) w hr (slot_rows l) (SlotsAt.oneCell l) hA)
  have h1 := Hid.mk h
  clear h hr hA
  rw [List.length_map] at *
  go_enter Tryz.func69, Tryz.ntmps69
  go_wp2_with (go_at_call 98; refine hcl.out.mono ?_; rintro e w1 ⟨v', rfl, ho, hb⟩; obtain ⟨A2, c2, rfl⟩ := own_slice ho; have ho1 := Hid.mk ho; have hb1 := Hid.mk hb; clear ho hb)
  go_ret
  go_light
  have hlt : ∀ k, k ∈ rowF (.slice A2 l.length c2) → w.heap.size ≤ k ∧ k < w1.heap.size := fun k hk => ⟨own_block_ge ho1.out (mem_rowF.1 hk), own_lt ho1.out (mem_rowF.1 hk)⟩
  refine ⟨w1.heap.size, _, rfl, ⟨heap_alloc_new _ _, own_kept (own_weak ho1.out (Nat.zero_le _)) (fun k hk => Below.heap_alloc _ _ k (hlt k (mem_rowF.2 hk)).2), h1.out.many, h1.out.ok⟩, hb1.out.size, fun k hk => ⟨(hlt k hk).1, by have := (hlt k hk).2; omega⟩, hb1.out.new_ _⟩
end Go.Proofs.YtpfbfcnfldmfcaaGreat
