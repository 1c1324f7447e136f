/-
  How a world lies in memory; the walks of the layer of transactions.
-/
import Derived.Test.YtpfbfcnfldmfcaaGreatRootHandles
import Derived.Test.YtpfbfcnfldmfcaaGreatObjCopy
namespace Go.Proofs.YtpfbfcnfldmfcaaGreat
open Go.RowKit

theorem frozen_block {w w' : World} {b o : Nat} (h : w'.heap[b]? = w.heap[b]?) : w'.frozen? ⟨b, o, none⟩ = w.frozen? ⟨b, o, none⟩ := by simp only [World.frozen?, h]
theorem load_state {w : World} {p : Nat} {v0 v1 : Value} (h0 : w.cell? ⟨p, 0, none⟩ = some v0) (h1 : w.cell? ⟨p, 1, none⟩ = some v1) :
    (loadVar 52 ⟨p, 0, none⟩).run Tryz.prog w = .ok (.agg #[v0, v1]) w := by
  simp [go_sem, h0, h1]

set_option maxRecDepth 100000 in
set_option maxHeartbeats 8000000 in
theorem state_clone (p : Parts) (X : S.Heap) (r mb : Nat) (R : List (S.Text × S.Handle)) (w : World) (h : HeapAt w p X) (hX : X.ok) (hr : RootsAt w r mb R) :
    Calls Tryz.prog 21 #[.agg #[.pointer (some ⟨p.H, 0, none⟩), .pointer (some ⟨r, 0, none⟩)]] w fun e w' => ∃ p' C' r' mb', e = .returned (.agg #[.pointer (some ⟨p'.H, 0, none⟩), .pointer (some ⟨r', 0, none⟩)]) ∧
      HeapAt w' p' { X with cat := C' } ∧ C'.Perm X.cat ∧ RootsAt w' r' mb' R ∧ (p'.F ++ [r', mb']).Nodup ∧ (∀ k, k ∈ p'.F ++ [r', mb'] → w.heap.size ≤ k) ∧ Below w.heap.size w w' := by
  obtain ⟨W0, hW0⟩ : ∃ W0, (w.alloc (.cells #[.pointer (some ⟨p.H, 0, none⟩), .pointer (some ⟨r, 0, none⟩)] 52)).alloc (.cells #[.pointer none, .pointer none] 52) = W0 := ⟨_, rfl⟩
  have hB0 : Below w.heap.size w W0 := hW0 ▸ (below_one w _).new_ _
  have hz0 : W0.heap.size = w.heap.size + 2 := by rw [← hW0]; simp
  have hT0 : W0.heap[w.heap.size]? = some (.cells #[.pointer (some ⟨p.H, 0, none⟩), .pointer (some ⟨r, 0, none⟩)] 52 (0, 0)) := by rw [← hW0]; exact (Below.heap_alloc _ _ _ (by simp)).trans (heap_alloc_new _ _)
  have hR0 : W0.heap[w.heap.size + 1]? = some (.cells #[.pointer none, .pointer none] 52 (0, 0)) := by
    rw [← hW0]
    have := heap_alloc_new (w.alloc (.cells #[.pointer (some ⟨p.H, 0, none⟩), .pointer (some ⟨r, 0, none⟩)] 52)) (.cells #[.pointer none, .pointer none] 52)
    rwa [World.size_alloc] at this
  obtain ⟨t0, -⟩ := heap_cell hT0 (o := 0) (v := .pointer (some ⟨p.H, 0, none⟩)) rfl
  obtain ⟨t1, -⟩ := heap_cell hT0 (o := 1) (v := .pointer (some ⟨r, 0, none⟩)) rfl
  obtain ⟨r0, f0⟩ := heap_cell hR0 (o := 0) (v := .pointer none) rfl
  obtain ⟨r1, f1⟩ := heap_cell hR0 (o := 1) (v := .pointer none) rfl
  have hCo : ∀ W, Below w.heap.size w W → Hid (Calls Tryz.prog 48 #[.pointer (some ⟨p.H, 0, none⟩)] W fun e w' => ∃ p' C', e = .returned (.pointer (some ⟨p'.H, 0, none⟩)) ∧ HeapAt w' p' { X with cat := C' } ∧ C'.Perm X.cat ∧ (∀ k, k ∈ p'.F → W.heap.size ≤ k) ∧ Below W.heap.size W w') := fun W hb => obj_Copy p X W (h.below hb) hX
  have hRo : ∀ W, Below w.heap.size w W → Hid (Calls Tryz.prog 49 #[.pointer (some ⟨r, 0, none⟩)] W fun e w' => ∃ r' mb', e = .returned (.pointer (some ⟨r', 0, none⟩)) ∧ RootsAt w' r' mb' R ∧ W.heap.size ≤ r' ∧ W.heap.size ≤ mb' ∧ Below W.heap.size W w') := fun W hb => roots_Copy r mb R W (hr.below hb)
  have hB1 : Hid (Below w.heap.size w W0.drew) := hB0.drew
  generalize hH : p.H = H at *
  have hCo1 := Hid.mk hCo; have hRo1 := Hid.mk hRo; have hB01 := Hid.mk hB0; have hT01 := Hid.mk hT0; have hR01 := Hid.mk hR0; have hH1 := Hid.mk hH; clear hCo hRo hB0 hT0 hR0 hH
  clear h hX hr
  go_enter Tryz.func21, Tryz.ntmps21
  go_wp2
  have hW1 := Hid.mk hW0
  clear hW0
  go_region_held3 (fun W => W.cell? ⟨w.heap.size, 0, none⟩ = some (.pointer (some ⟨H, 0, none⟩)) ∧ W.cell? ⟨w.heap.size, 1, none⟩ = some (.pointer (some ⟨r, 0, none⟩)))
    (first | go_keep | (go_split_ands; exact ⟨(cell_block (heap_set_ne2 _ _ _ _ (by omega))).trans (by assumption), (cell_block (heap_set_ne2 _ _ _ _ (by omega))).trans (by assumption)⟩) | (go_split_ands; exact ⟨(cell_block (hK2.out.block _ (by omega))).trans (by assumption), (cell_block (hK2.out.block _ (by omega))).trans (by assumption)⟩) | (go_split_ands; exact ⟨(cell_block (hK1.out.block _ (show w.heap.size < W0.heap.size by omega))).trans (by assumption), (cell_block (hK1.out.block _ (show w.heap.size < W0.heap.size by omega))).trans (by assumption)⟩))
    (first
      | ((with_reducible refine (hCo1.out _ hB1.out).out.mono ?_); rintro e w1 ⟨p', C', rfl, hh, hpe, hF, hb⟩; have hz1 : W0.heap.size ≤ w1.heap.size := hb.size; have hK1 := Hid.mk hb; have hJ1 := Hid.mk (below_then hB1.out hb); have hh1 := Hid.mk hh; have hpe1 := Hid.mk hpe; have hF1 := Hid.mk hF; clear hh hpe hF; clear hb)
      | ((with_reducible refine (hRo1.out _ hJ1.out).out.mono ?_); rintro e w2 ⟨r', mb', rfl, hro, hz5, hz6, hb⟩; have hz2 : w1.heap.size ≤ w2.heap.size := hb.size; have hK2 := Hid.mk hb; have hJ2 := Hid.mk (below_then hJ1.out hb); have hR2 := (hb.block (w.heap.size + 1) (by omega)).trans ((hK1.out.block (w.heap.size + 1) (show w.heap.size + 1 < W0.heap.size by omega)).trans hR01.out); obtain ⟨s0, g0⟩ := heap_cell hR2 (o := 0) (v := .pointer none) rfl; obtain ⟨s1, g1⟩ := heap_cell hR2 (o := 1) (v := .pointer none) rfl; have hro1 := Hid.mk hro; have hR21 := Hid.mk hR2; clear hro hR2; clear hb)
      | fail)
  go_wp2
  go_light
  obtain ⟨q0, q1⟩ := pair_cells (a := .pointer (some ⟨p'.H, 0, none⟩)) (b := .pointer (some ⟨r', 0, none⟩)) s0 s1
  have hOR := ((Only.refl [w.heap.size + 1] w2).set (k := w.heap.size + 1) (.inl (by simp)) 0 (.pointer (some ⟨p'.H, 0, none⟩))).set (k := w.heap.size + 1) (.inl (by simp)) 1 (.pointer (some ⟨r', 0, none⟩))
  have hCR : Calm w2 [w.heap.size + 1] := calm_cells hR21.out (by decide) (by decide)
  have hh2 := hh1.out.below hK2.out
  have hFz : ∀ k, k ∈ p'.F → W0.heap.size ≤ k ∧ k < w1.heap.size := fun k hk => ⟨hF1.out k hk, hh1.out.lt k hk⟩
  refine bodyPost_ret (results_c rfl _ _ _ rfl (load_state q0 q1)) rfl ⟨p', C', r', mb', rfl, hh2.only hOR hCR (fun k hk => by have := hFz k hk; simp only [List.mem_singleton]; omega), hpe1.out, hro1.out.kept (hOR.block _ hro1.out.lt.1 (by simp only [List.mem_singleton]; omega)) (hOR.block _ hro1.out.lt.2 (by simp only [List.mem_singleton]; omega)), ?_, fun k hk => ?_, (hJ2.out.setCell (by simp) _).setCell (by simp) _⟩
  · refine List.nodup_append.2 ⟨hh1.out.apart, by simp [hro1.out.ne], fun a ha b hb => ?_⟩
    have := hFz a ha
    simp only [List.mem_cons, List.not_mem_nil, or_false] at hb
    omega
  · rcases List.mem_append.1 hk with hk | hk
    · have := hFz k hk; omega
    · simp only [List.mem_cons, List.not_mem_nil, or_false] at hk
      omega
end Go.Proofs.YtpfbfcnfldmfcaaGreat
