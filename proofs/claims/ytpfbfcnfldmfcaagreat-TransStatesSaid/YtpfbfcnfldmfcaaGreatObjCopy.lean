/-
  The walk of object's Copy.
-/
import Derived.Test.YtpfbfcnfldmfcaaGreatCatCopy
import Derived.Test.YtpfbfcnfldmfcaaGreatCreate
namespace Go.Proofs.YtpfbfcnfldmfcaaGreat
open Go.RowKit

theorem flat_one (l : List Value) : (l.map fun v => [v]).flatten = l := by
  induction l with
  | nil => rfl
  | cons x r ih => simp [ih]
/-- slices.Clone of bytes. -/
theorem clone_bytes (A : Option Addr) (c : Nat) (l : List UInt8) (w : World) (hr : Bytes w.cell? A l) (hA : A = none → c = 0) :
    Calls Tryz.prog 70 #[.slice A l.length c] w fun e w' => ∃ v, e = .returned v ∧ w'.ownsRow w.heap.size 5 1 v l.length (l.map encByte) ∧ Below w.heap.size w w' := by
  have h := clone_byte A c (l.map fun c => [encByte c]) w (Row.id.1 hr) (fun r hr => by obtain ⟨x, -, rfl⟩ := List.mem_map.1 hr; rfl) (fun r hr u hu => by obtain ⟨x, -, rfl⟩ := List.mem_map.1 hr; simp only [List.mem_singleton] at hu; rw [hu]; rfl) hA
  have e1 : (l.map fun c => [encByte c]).flatten = l.map encByte := by
    have := flat_one (l.map encByte)
    rwa [List.map_map] at this
  rw [e1, List.length_map] at h
  exact h
theorem own_bytes {w : World} {base n : Nat} {v : Value} {l : List UInt8} (h : w.ownsRow base 5 1 v n (l.map encByte)) (hn : n = l.length) (hl : l.length ≤ 1073741824) : ∃ A c, v = .slice A n c ∧ Bytes w.cell? A l ∧ (A = none → c = 0) := by
  subst hn
  rcases h.2 with ⟨rfl, e⟩ | ⟨g, cap, cur, rfl, _⟩
  · have : l = [] := by simpa using e
    subst this
    exact ⟨none, 0, rfl, Row.nil _ _ _ _, fun _ => rfl⟩
  · exact ⟨_, _, rfl, bytes_of_own h hl, fun e => by cases e⟩

theorem heap_joined {W : World} {p : Parts} {X : S.Heap} (h0 : W.heap[p.H]? = some (.cells #[.pointer (some ⟨p.c, 0, none⟩), .pointer (some ⟨p.b, 0, none⟩), .pointer (some ⟨p.s, 0, none⟩), p.vm] 78 (0, 0)))
    (h1 : CatAt W p.c p.mb p.ps X.cat) (h2 : BlocksAt W p.b p.bb X.units X.blks) (h3 : SlotsAt W p.s p.vs X.slots) (h4 : MemAt W p.vm X.units X.things)
    (n1 n2 n3 : Nat) (hc : ∀ k, k ∈ catF p.c p.mb p.ps → k < n1) (hb : n1 ≤ p.b ∧ n1 ≤ p.bb ∧ p.b < n2 ∧ p.bb < n2) (hs : n2 ≤ p.s ∧ p.s < n3) (hv : ∀ k, k ∈ rowF p.vs → n2 ≤ k ∧ k < n3 ∧ k ≠ p.s) (hm : ∀ k, k ∈ rowF p.vm → n3 ≤ k ∧ k < p.H) (hH : n3 ≤ p.H) : HeapAt W p X := by
  refine ⟨h0, h1, h2, h3, h4, ?_⟩
  have hbb := h2.ne
  simp only [Parts.F, List.nodup_cons, List.mem_cons, List.mem_append, not_or, List.nodup_append]
  have hnv : ∀ k, k < n2 ∨ n3 ≤ k ∨ k = p.s → k ∉ rowF p.vs := fun k hk h => by have := hv k h; omega
  have hnm : ∀ k, k < n3 ∨ p.H ≤ k → k ∉ rowF p.vm := fun k hk h => by have := hm k h; omega
  refine ⟨⟨fun h => by have := hc _ h; omega, by omega, by omega, by omega, hnv _ (by omega), hnm _ (by omega)⟩, h1.apart, ⟨⟨hbb, by omega, hnv _ (by omega), hnm _ (by omega)⟩, ⟨by omega, hnv _ (by omega), hnm _ (by omega)⟩, ⟨hnv _ (by omega), hnm _ (by omega)⟩, rowF_nodup _, rowF_nodup _, fun a ha b hb => by have := hv a ha; have := hm b hb; omega⟩, fun a ha b hb => ?_⟩
  have := hc a ha
  rcases hb with rfl | rfl | rfl | hb | hb
  · omega
  · omega
  · omega
  · have := hv b hb; omega
  · have := hm b hb; omega

set_option maxRecDepth 100000 in
set_option maxHeartbeats 8000000 in
theorem obj_Copy (p : Parts) (X : S.Heap) (w : World) (h : HeapAt w p X) (hX : X.ok) :
    Calls Tryz.prog 48 #[.pointer (some ⟨p.H, 0, none⟩)] w fun e w' => ∃ p' C', e = .returned (.pointer (some ⟨p'.H, 0, none⟩)) ∧ HeapAt w' p' { X with cat := C' } ∧ C'.Perm X.cat ∧ (∀ k, k ∈ p'.F → w.heap.size ≤ k) ∧ Below w.heap.size w w' := by
  have hu := hX.units
  have hC : ∀ W, Below w.heap.size w W → Hid (Calls Tryz.prog 67 #[.pointer (some ⟨p.c, 0, none⟩)] W fun e w' => ∃ c' mb' ps' C', e = .returned (.pointer (some ⟨c', 0, none⟩)) ∧ CatAt w' c' mb' ps' C' ∧ C'.Perm X.cat ∧ (∀ k, k ∈ catF c' mb' ps' → W.heap.size ≤ k) ∧ Below W.heap.size W w') := fun W hb =>
    schema_Copy p.c p.mb p.ps X.cat W (h.below hb).cat (fun x hx => by have := (hX.kinds x hx).ok.2.2; have := (hX.kinds x hx).ok.1; omega)
  have hB : ∀ W, Below w.heap.size w W → Hid (Calls Tryz.prog 68 #[.pointer (some ⟨p.b, 0, none⟩)] W fun e w' => ∃ b' mb', e = .returned (.pointer (some ⟨b', 0, none⟩)) ∧ BlocksAt w' b' mb' X.units X.blks ∧ W.heap.size ≤ b' ∧ W.heap.size ≤ mb' ∧ Below W.heap.size W w') := fun W hb =>
    blocks_Copy p.b p.bb X.units X.blks W (h.below hb).blk
  have hS : ∀ W, Below w.heap.size w W → Hid (Calls Tryz.prog 69 #[.pointer (some ⟨p.s, 0, none⟩)] W fun e w' => ∃ s' v', e = .returned (.pointer (some ⟨s', 0, none⟩)) ∧ SlotsAt w' s' v' X.slots ∧ W.heap.size ≤ s' ∧ (∀ k, k ∈ rowF v' → W.heap.size ≤ k ∧ k ≠ s') ∧ Below W.heap.size W w') := fun W hb =>
    slots_Copy p.s p.vs X.slots W (h.below hb).slt
  obtain ⟨mem, hm1, hm2, hm3⟩ := h.mem
  obtain ⟨A, cm, hvm, -, hA⟩ := own_bytes hm1 rfl (by omega)
  have hM : ∀ W, Below w.heap.size w W → Hid (Calls Tryz.prog 70 #[.slice A mem.length cm] W fun e w' => ∃ v, e = .returned v ∧ w'.ownsRow W.heap.size 5 1 v mem.length (mem.map encByte) ∧ Below W.heap.size W w') := fun W hb => by
    have h2 := own_kept hm1 (fun k hk => hb.block k (own_lt hm1 hk))
    obtain ⟨A', c', e, hr, hA'⟩ := own_bytes h2 rfl (by omega)
    rw [hvm] at e
    simp only [Value.slice.injEq, true_and] at e
    obtain ⟨rfl, rfl⟩ := e
    exact clone_bytes A cm mem W hr hA
  have c0 := h.c0
  have c1 := h.c1
  have c2 := h.c2
  have c3 := h.c3
  rw [hvm] at c3
  have hHl := h.lt p.H (mem_F.2 (.inl rfl))
  have hB0 := Hid.mk (show Below w.heap.size w w.drew from (Below.refl _ w).drew)
  have hm31 := Hid.mk hm3
  have hm21 := Hid.mk hm2
  generalize p.H = H at *
  generalize p.c = pc at *
  generalize p.b = pb at *
  generalize p.s = pss at *
  have hC1 := Hid.mk hC; have hB1 := Hid.mk hB; have hS1 := Hid.mk hS; have hM1 := Hid.mk hM; clear hC hB hS hM
  clear h hX hm1 hm2 hm3 hvm hA
  go_enter Tryz.func48, Tryz.ntmps48
  go_wp2
  go_region_held3 (fun W => W.cell? ⟨H, 0, none⟩ = some (.pointer (some ⟨pc, 0, none⟩)) ∧ W.cell? ⟨H, 1, none⟩ = some (.pointer (some ⟨pb, 0, none⟩)) ∧ W.cell? ⟨H, 2, none⟩ = some (.pointer (some ⟨pss, 0, none⟩)) ∧ W.cell? ⟨H, 3, none⟩ = some (.slice A mem.length cm))
    (first | go_keep | (go_split_ands; exact ⟨(cell_block (hK4.out.block H (by omega))).trans (by assumption), (cell_block (hK4.out.block H (by omega))).trans (by assumption), (cell_block (hK4.out.block H (by omega))).trans (by assumption), (cell_block (hK4.out.block H (by omega))).trans (by assumption)⟩) | (go_split_ands; exact ⟨(cell_block (hK3.out.block H (by omega))).trans (by assumption), (cell_block (hK3.out.block H (by omega))).trans (by assumption), (cell_block (hK3.out.block H (by omega))).trans (by assumption), (cell_block (hK3.out.block H (by omega))).trans (by assumption)⟩) | (go_split_ands; exact ⟨(cell_block (hK2.out.block H (by omega))).trans (by assumption), (cell_block (hK2.out.block H (by omega))).trans (by assumption), (cell_block (hK2.out.block H (by omega))).trans (by assumption), (cell_block (hK2.out.block H (by omega))).trans (by assumption)⟩) | (go_split_ands; exact ⟨(cell_block (hK1.out.block H hHl)).trans (by assumption), (cell_block (hK1.out.block H hHl)).trans (by assumption), (cell_block (hK1.out.block H hHl)).trans (by assumption), (cell_block (hK1.out.block H hHl)).trans (by assumption)⟩))
    (first
      | ((with_reducible refine (hC1.out _ hB0.out).out.mono ?_); rintro e w1 ⟨c', mb', ps', C', rfl, hca, hpe, hF, hb⟩; have hz1 : w.heap.size ≤ w1.heap.size := hb.size; have hK1 := Hid.mk hb; have hJ1 := Hid.mk (below_then hB0.out hb); have hca1 := Hid.mk hca; have hpe1 := Hid.mk hpe; have hF1 := Hid.mk hF; clear hca hpe hF; clear hb)
      | ((with_reducible refine (hB1.out _ hJ1.out).out.mono ?_); rintro e w2 ⟨b', bb', rfl, hbl, hz5, hz6, hb⟩; have hz2 : w1.heap.size ≤ w2.heap.size := hb.size; have hK2 := Hid.mk hb; have hJ2 := Hid.mk (below_then hJ1.out hb); have hbl1 := Hid.mk hbl; clear hbl; clear hb)
      | ((with_reducible refine (hS1.out _ hJ2.out).out.mono ?_); rintro e w3 ⟨s', vs', rfl, hsl, hz7, hvs, hb⟩; have hz3 : w2.heap.size ≤ w3.heap.size := hb.size; have hK3 := Hid.mk hb; have hJ3 := Hid.mk (below_then hJ2.out hb); have hsl1 := Hid.mk hsl; have hvs1 := Hid.mk hvs; clear hsl hvs; clear hb)
      | ((with_reducible refine (hM1.out _ hJ3.out).out.mono ?_); rintro e w4 ⟨v', rfl, hmo, hb⟩; obtain ⟨A4, c4, rfl⟩ := own_slice hmo; have hz4 : w3.heap.size ≤ w4.heap.size := hb.size; have hK4 := Hid.mk hb; have hJ4 := Hid.mk (below_then hJ3.out hb); have hmo1 := Hid.mk hmo; clear hmo; clear hb)
      | fail)
  go_wp2
  go_ret
  go_light
  have lc : ∀ k, k ∈ catF c' mb' ps' → k < w1.heap.size := hca1.out.lt
  have lb : b' < w2.heap.size := (Array.getElem?_eq_some_iff.1 hbl1.out.head).1
  have lbb := hbl1.out.map.lt
  have ls : s' < w3.heap.size := (Array.getElem?_eq_some_iff.1 hsl1.out.head).1
  have lv : ∀ k, k ∈ rowF vs' → k < w3.heap.size := fun k hk => own_lt hsl1.out.row (mem_rowF.1 hk)
  have hb34 : Below w3.heap.size w3 (w4.alloc (.cells #[.pointer (some ⟨c', 0, none⟩), .pointer (some ⟨b', 0, none⟩), .pointer (some ⟨s', 0, none⟩), .slice A4 mem.length c4] 78)) := hK4.out.new_ _
  have hb24 := below_then hK3.out hb34
  have hb14 := below_then hK2.out hb24
  refine ⟨⟨w4.heap.size, c', mb', ps', b', bb', s', vs', .slice A4 mem.length c4⟩, C', rfl, heap_joined (X := { X with cat := C' }) (heap_alloc_new _ _) (hca1.out.below hb14) (hbl1.out.kept (hb24.block _ lb) (hb24.block _ lbb)) (hsl1.out.kept (hb34.block _ ls) (fun k hk => hb34.block _ (lv k hk))) ⟨mem, own_weak (own_kept hmo1.out (fun k hk => Below.heap_alloc _ _ _ (own_lt hmo1.out hk))) (Nat.zero_le _), hm21.out, hm31.out⟩ w1.heap.size w2.heap.size w3.heap.size lc ⟨hz5, hz6, lb, lbb⟩ ⟨hz7, ls⟩ (fun k hk => ⟨(hvs1.out k hk).1, lv k hk, (hvs1.out k hk).2⟩) (fun k hk => ⟨own_block_ge hmo1.out (mem_rowF.1 hk), own_lt hmo1.out (mem_rowF.1 hk)⟩) hz4, hpe1.out, fun k hk => ?_, hJ4.out.new_ _⟩
  rcases mem_F.1 hk with rfl | hk | rfl | rfl | rfl | hk | hk
  · show w.heap.size ≤ w4.heap.size
    omega
  · exact hF1.out k hk
  · omega
  · omega
  · omega
  · have := (hvs1.out k hk).1
    omega
  · have h9 := own_block_ge hmo1.out (mem_rowF.1 hk)
    omega
end Go.Proofs.YtpfbfcnfldmfcaaGreat
