/-
  The walk of (*Slots).Make.
-/
import Derived.Test.YtdokiaicheillaaGreatSlots
namespace Go.Proofs.YtdokiaicheillaaGreat
open Go.RowKit

theorem heap_set_ne2 (W : World) (p : Nat) (a b : Value) {k : Nat} (h : k ≠ p) : ((W.setCell ⟨p, 0, none⟩ a).setCell ⟨p, 1, none⟩ b).heap[k]? = W.heap[k]? :=
  (Below.heap_setCell _ ⟨p, 1, none⟩ b k h).trans (Below.heap_setCell W ⟨p, 0, none⟩ a k h)

theorem make_end (S3 : World) (p : Nat) (a b : Value) (o : Obj) (h0 : ((S3.setCell ⟨p, 0, none⟩ a).setCell ⟨p, 1, none⟩ b).cell? ⟨p, 0, none⟩ = some a) (h1 : ((S3.setCell ⟨p, 0, none⟩ a).setCell ⟨p, 1, none⟩ b).cell? ⟨p, 1, none⟩ = some b) (hp : p < S3.heap.size) :
    (((S3.setCell ⟨p, 0, none⟩ a).setCell ⟨p, 1, none⟩ b).alloc o).drew.cell? ⟨p, 0, none⟩ = some a ∧ (((S3.setCell ⟨p, 0, none⟩ a).setCell ⟨p, 1, none⟩ b).alloc o).drew.cell? ⟨p, 1, none⟩ = some b ∧
      (∀ k, k ≠ p → k < S3.heap.size → (((S3.setCell ⟨p, 0, none⟩ a).setCell ⟨p, 1, none⟩ b).alloc o).drew.heap[k]? = S3.heap[k]?) ∧ Only [p] S3 (((S3.setCell ⟨p, 0, none⟩ a).setCell ⟨p, 1, none⟩ b).alloc o).drew := by
  have hO := (((Only.refl [p] S3).set (k := p) (.inl (by simp)) 0 a).set (k := p) (.inl (by simp)) 1 b)
  have hz := hO.size
  exact ⟨(cell_alloc_lt _ _ (by omega)).trans h0, (cell_alloc_lt _ _ (by omega)).trans h1, fun k hk hl => (Below.heap_alloc _ _ k (by omega)).trans (heap_set_ne2 _ _ _ _ hk), (hO.alloc o).draw 1⟩

set_option maxRecDepth 100000 in
set_option maxHeartbeats 1000000 in
theorem slots_Make (s : Nat) (v : Value) (l : List S.Slot) (x : Int) (hx0 : 0 ≤ x) (hx1 : x ≤ 18446744073709551615) (w : World) (h : SlotsAt w s v l) (hsv : s ∉ rowF v) :
    Calls Tryz.prog 51 #[.pointer (some ⟨s, 0, none⟩), .int .u64 x] w fun e w' => e = .returned (.tuple #[(S.slotMake l x).2.1.val, .int .i64 (S.slotMake l x).2.2]) ∧ SlotsAt w' s v (S.slotMake l x).1 ∧ Only (rowF v) w w' := by
  obtain ⟨A, c, rfl, hr⟩ := h.reads
  have hc := h.cell
  have hm := h.many
  have hs : s < w.heap.size := World.block_lt_of_cell? w _ hc
  have hr1 := Hid.mk hr
  have h1 := Hid.mk h
  have hsv1 := Hid.mk hsv
  clear h hr hsv
  go_enter Tryz.func51, Tryz.ntmps51
  go_wp2
  go_loopw [6, 7, 13] (fun _ _ v13 wr => ∃ i : Nat, i ≤ l.length ∧ v13 = .int .i64 i ∧ Below w.heap.size w wr ∧ w.heap.size < wr.heap.size ∧ Boxed2 wr w.heap.size ∧ Hid (S.freeFrom 0 l = S.freeFrom i (l.drop i))) (fun _ _ v13 _ => l.length - (intOf v13).toNat)
  case atStart => exact ⟨0, Nat.zero_le _, rfl, below_one _ _, by simp, heap_alloc_new _ _, by show _ = _; simp⟩
  case round =>
    obtain ⟨i, hi, rfl, hb, hsz, hbx, hf⟩ := hrel
    by_cases hlt : i < l.length
    · have hx : l[i]? = some l[i] := List.getElem?_eq_getElem hlt
      obtain ⟨b, off, rfl, h0, h2, h3, hbs⟩ := slot_at (hr1.out.below hb) hx
      generalize l[i] = y at *
      have hx1 := Hid.mk hx
      have hb1 := Hid.mk hb
      have hc0 := hbx.cell0
      have hc1 := hbx.cell1
      have hfz0 := hbx.frozen0
      have hfz1 := hbx.frozen1
      have hcs : wr.cell? ⟨s, 0, none⟩ = some (.slice (some ⟨b, off, none⟩) l.length c) := below_reads hb _ _ hc
      have hsr : s < wr.heap.size := by omega
      have hbx1 := Hid.mk hbx
      clear hx hb hbx
      cases hu : y.used
      · rw [hu] at h2
        by_cases hg : y.gen < 65535
        · have t1 : decide (y.gen < 65535) = true := by simp [hg]
          have hfd : Hid ((!y.used && decide (y.gen < 65535)) = true) := by show _ = _; rw [hu, t1]; rfl
          have hok := h1.out.ok y (List.mem_of_getElem? hx1.out)
          have hw1 : IntKind.i64.wrap (y.gen + 1) = y.gen + 1 := by rw [IntWalk.i64_left]; unfold wrap64; have := hok.1; omega
          have hw2 : wrap64 (y.gen + 1) = y.gen + 1 := by unfold wrap64; have := hok.1; omega
          obtain ⟨cs, hcs2⟩ := own_cells h1.out.row rfl
          have hblt : b < w.heap.size := (Array.getElem?_eq_some_iff.1 hcs2).1
          have hfz : ∀ o, wr.frozen? ⟨b, o, none⟩ = false := fun o => by simp [World.frozen?, hb1.out.block b hblt, hcs2]
          have f0 := hfz (off + i * 3)
          have f1 := hfz (off + i * 3 + 1)
          have f2 := hfz (off + i * 3 + 2)
          clear hfz hcs2 hok
          obtain rfl := own_off h1.out.row
          have hsb : s ≠ b := fun e => hsv1.out (mem_rowF.2 (by rw [e]; rfl))
          have hw := h1.out.kept (w' := wr) (hb1.out.block s hs) (fun k hk => hb1.out.block k (own_lt h1.out.row (mem_rowF.1 hk)))
          obtain ⟨r1, r2⟩ := slots_stored (y := ⟨y.gen + 1, true, x⟩) hw hsb hlt ⟨by show (0 : Int) ≤ y.gen + 1; have := h1.out.ok y (List.mem_of_getElem? hx1.out); have := this.1; omega, by show y.gen + 1 ≤ 65535; omega, fun _ => by show 1 ≤ y.gen + 1; have := h1.out.ok y (List.mem_of_getElem? hx1.out); have := this.1; omega⟩
          dsimp only at r1 r2
          have hpb : w.heap.size ≠ b := by omega
          have hsS : w.heap.size < (((wr.setCell ⟨b, i * 3, none⟩ (.int .i64 (y.gen + 1))).setCell ⟨b, i * 3 + 1, none⟩ (.bool true)).setCell ⟨b, i * 3 + 2, none⟩ (.int .u64 x)).heap.size := Nat.lt_of_lt_of_le hsz r2.size
          have hsS1 := Hid.mk hsS
          clear hsS
          have q0 := (r2.cell (o := 0) hsz (by simpa using hpb)).trans hc0
          have q1 := (r2.cell (o := 1) hsz (by simpa using hpb)).trans hc1
          obtain ⟨p0, p1⟩ := pair_cells (a := .int .i64 i) (b := .int .i64 (y.gen + 1)) q0 q1
          have hr11 := Hid.mk r1
          have hr21 := Hid.mk r2
          have hp0 := Hid.mk p0
          have hp1 := Hid.mk p1
          simp only [Nat.zero_add] at h0 h2 h3 f0 f1 f2
          clear hr1 hw r1 r2 q0 q1 p0 p1
          go_wp2
          (refine wp_still_tail_d 11 (by kernel_rfl) (by kernel_rfl) ?_; simp only [List.take_succ_cons, List.take_zero, List.drop_succ_cons, List.drop_zero]; (repeat still_step); (try refine wpStill_nil ?_))
          go_wp2
          generalize ((wr.setCell ⟨b, i * 3, none⟩ (.int .i64 (y.gen + 1))).setCell ⟨b, i * 3 + 1, none⟩ (.bool true)).setCell ⟨b, i * 3 + 2, none⟩ (.int .u64 x) = S3 at *
          obtain ⟨e0, e1, e2, e3⟩ := make_end S3 w.heap.size (.int .i64 i) (.int .i64 (y.gen + 1)) (.cells #[.int .i64 y.gen, .bool false, .int .u64 y.v] 175) hp0.out hp1.out hsS1.out
          have ro := (Only.below hb1.out [b]).trans hr21.out (fun k hk => .inl hk)
          generalize ((((S3.setCell ⟨w.heap.size, 0, none⟩ (.int .i64 i)).setCell ⟨w.heap.size, 1, none⟩ (.int .i64 (y.gen + 1))).alloc (.cells #[.int .i64 y.gen, .bool false, .int .u64 y.v] 175)).drew) = S4 at *
          refine bodyPost_ret (results_ct rfl _ _ _ rfl (load_handle e0 e1)) rfl ?_
          rw [S.free_found hx1.out hfd.out hf.out x]
          exact ⟨rfl, hr11.out.kept (e2 s (by omega) (by have := hr21.out.size; omega)) (fun k hk => by have := own_lt h1.out.row (mem_rowF.1 hk); exact e2 k (by omega) (by have := hr21.out.size; omega)), ro.trans e3 (fun k hk => by simp at hk; omega)⟩
        · have t1 : decide (y.gen < 65535) = false := by simp; omega
          have hn : Hid ((!y.used && decide (y.gen < 65535)) = false) := by show _ = _; rw [t1]; simp
          go_wp2
          go_roundw
          case rel =>
            go_light
            exact ⟨i + 1, by omega, by go_num, hb1.out.new_ _, by simp; omega, (below_one wr _).block _ hsz |>.trans hbx1.out, S.free_step hx1.out hn.out hf.out⟩
          case measure => go_light; simp [intOf]; omega
      · rw [hu] at h2
        have hn : Hid ((!y.used && decide (y.gen < 65535)) = false) := by show _ = _; rw [hu]; simp
        go_wp2
        go_roundw
        case rel =>
          go_light
          exact ⟨i + 1, by omega, by go_num, hb1.out.new_ _, by simp; omega, (below_one wr _).block _ hsz |>.trans hbx1.out, S.free_step hx1.out hn.out hf.out⟩
        case measure => go_light; simp [intOf]; omega
    · have hc0 := hbx.cell0
      have hc1 := hbx.cell1
      have hfz0 := hbx.frozen0
      have hfz1 := hbx.frozen1
      have hb1 := Hid.mk hb
      clear hbx hb
      go_wp2
      obtain ⟨p0, p1⟩ := pair_cells (a := .int .i64 0) (b := .int .i64 0) hc0 hc1
      refine bodyPost_ret (results_ct rfl _ _ _ rfl (load_handle p0 p1)) rfl ?_
      rw [S.free_none hlt hf.out x]
      refine ⟨rfl, ?_, ?_⟩
      · exact h1.out.kept ((heap_set_ne2 _ _ _ _ (by omega)).trans (hb1.out.block s hs)) (fun k hk => (heap_set_ne2 _ _ _ _ (by have := own_lt h1.out.row (mem_rowF.1 hk); omega)).trans (hb1.out.block k (own_lt h1.out.row (mem_rowF.1 hk))))
      · exact ((Only.below hb1.out _).set (k := w.heap.size) (.inr (Nat.le_refl _)) 0 _).set (k := w.heap.size) (.inr (Nat.le_refl _)) 1 _
end Go.Proofs.YtdokiaicheillaaGreat
