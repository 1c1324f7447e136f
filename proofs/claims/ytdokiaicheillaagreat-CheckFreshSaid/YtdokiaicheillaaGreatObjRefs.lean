/-
  The walk of object.Refs at an object whose fields hold no reference.
-/
import Derived.Test.YtdokiaicheillaaGreatLayout
import Derived.Test.YtdokiaicheillaaGreatObjFree
import Derived.LoopTactic
namespace Go.Proofs.YtdokiaicheillaaGreat
open Go.RowKit Go.Shelf
attribute [local go_sem] Oper.semAt_some

namespace S
def refsOf (l : List (Nat × Field)) : List Nat := (l.filter fun x => x.2.kind == 11).map (·.1)
/-- Where all references stand. -/
def refs (l : List Field) : List Nat := refsOf (spots 0 l)
theorem refsOf_yes {l : List (Nat × Field)} {x : Nat × Field} (h : x.2.kind = 11) : refsOf (l ++ [x]) = refsOf l ++ [x.1] := by simp [refsOf, List.filter_cons, h]
theorem refsOf_no {l : List (Nat × Field)} {x : Nat × Field} (h : x.2.kind ≠ 11) : refsOf (l ++ [x]) = refsOf l := by simp [refsOf, List.filter_cons, h]
theorem refsOf_length (l : List (Nat × Field)) : (refsOf l).length ≤ l.length := by simp only [refsOf, List.length_map]; exact List.length_filter_le _ _
end S

theorem refB {w W w2 : World} {n0 Bo m : Nat} {v v' : Value} {xs ys : List Value} {tmp : Obj} (hv : Boxed W Bo 132 v) (hrow : W.ownsRow n0 3 1 v m xs) (hlo : Bo < n0) (hwo : w.heap.size ≤ Bo)
    (hg : (W.alloc tmp).grownBy w2 v.ownBlock) (hown : w2.ownsRow n0 3 1 v' (m + 1) ys) (hv2 : Boxed w2 Bo 132 v) (hZ : n0 ≤ W.heap.size) (hB : Below w.heap.size w W) :
    KeepsFrom n0 W (w2.setCell ⟨Bo, 0, none⟩ v') ∧ KeepsT w.heap.size 147 W (w2.setCell ⟨Bo, 0, none⟩ v') ∧ Boxed (w2.setCell ⟨Bo, 0, none⟩ v') Bo 132 v' ∧ (w2.setCell ⟨Bo, 0, none⟩ v').ownsRow n0 3 1 v' (m + 1) ys ∧ Below w.heap.size w (w2.setCell ⟨Bo, 0, none⟩ v') ∧ n0 ≤ (w2.setCell ⟨Bo, 0, none⟩ v').heap.size := by
  have g1 : W.grownBy w2 v.ownBlock := World.grownBy.trans (World.grownBy_alloc W tmp _) hg
  have g2 : w2.grownBy (w2.setCell ⟨Bo, 0, none⟩ v') (some Bo) := grownBy_setCell' w2 Bo v'
  have hge : ∀ k, v.ownBlock = some k → n0 ≤ k := fun k e => own_block_ge hrow e
  have s1 := g1.size
  have s2 := g2.size
  refine ⟨?_, ?_, hv2.set v', ownsRow_setCell_below hown hlo v', (hB.grown g1 hB.size (fun k e => by have := hge k e; have := hB.size; omega)).setCell (p := ⟨Bo, 0, none⟩) hwo v', by omega⟩
  · refine (KeepsFrom.of_other g1 ?_).trans (KeepsOthers.setCell _ _ _ |>.from _)
    intro k o hk ho e
    obtain ⟨c1, hc1⟩ := own_cells hrow e.symm
    rw [hk] at hc1
    cases hc1
    cases ho
  · refine (KeepsT.grown hB.size g1 (fun k e => by have := hge k e; have := hB.size; omega) ?_).trans (KeepsT.set hwo hv2 (by decide) v')
    intro k cs fr hk
    exact row_ne hrow hk (by decide)

set_option maxRecDepth 100000 in
set_option maxHeartbeats 2000000 in
theorem field_Refs_yes (A : Option Addr) (c : Nat) (l : List S.Field) (w : World) (hl : Fields w.cell? A l) (hs : Short l) (hr : S.right l = true) :
    Calls Tryz.prog 76 #[.slice A l.length c] w fun e w' => ∃ v, e = .returned v ∧ w'.ownsRow w.heap.size 3 1 v (S.refs l).length ((S.refs l).map fun a => Value.int .i64 (a : Nat)) ∧ Below w.heap.size w w' := by
  have hlen := hl.1
  have hl1 := Hid.mk hl
  have hs1 := Hid.mk hs
  have hr1 := Hid.mk hr
  clear hl hs hr
  refine (callsIn_wide (n := 8)).1 ?_
  refine callsIn_of_wp_marks Tryz.func76 rfl trivial ?_ rfl
  simp only [Tryz.ntmps76, List.size_toArray, List.length_cons, List.length_nil, Nat.reduceAdd, Nat.reduceSub, Array.replicate_succ, Array.replicate_zero, List.push_toArray, List.append_toArray, List.nil_append, List.cons_append]
  gi_wp2_with (first | (refine ⟨trivial, ?_⟩; gi_at_call 46; refine (callsIn_wide.2 (field_Right A c l _ hl1.out hs1.out)).mono ?_; rintro e w1 ⟨rfl, hb1⟩; rw [hr1.out]) | (refine ⟨trivial, ?_⟩; gi_at_call 114; refine (callsIn_wide.2 (field_places _ _ _ _)).mono ?_; rintro e w2 ⟨rfl, rfl⟩))
  have hb0 : Below w.heap.size w ((w1.alloc (.cells #[.slice none 0 0] 132)).alloc (.cells #[.slice A l.length c] 87)) := (hb1.new_ _).new_ _
  have bO : Boxed ((w1.alloc (.cells #[.slice none 0 0] 132)).alloc (.cells #[.slice A l.length c] 87)) w1.heap.size 132 (.slice none 0 0) := (Boxed.new w1 _ _).alloc _
  have hcS : ((w1.alloc (.cells #[.slice none 0 0] 132)).alloc (.cells #[.slice A l.length c] 87)).cell? ⟨w1.heap.size + 1, 0, none⟩ = some (.slice A l.length c) := by
    have := (Boxed.new (w1.alloc (.cells #[.slice none 0 0] 132)) 87 (.slice A l.length c)).cell
    rwa [World.size_alloc] at this
  have hszW : ((w1.alloc (.cells #[.slice none 0 0] 132)).alloc (.cells #[.slice A l.length c] 87)).heap.size = w1.heap.size + 2 := by simp
  generalize ((w1.alloc (.cells #[.slice none 0 0] 132)).alloc (.cells #[.slice A l.length c] 87)) = W0 at *
  have hw1 := hb1.size
  obtain ⟨i0, hi, hzz⟩ := Option.map_eq_some_iff.1 info_int
  simp only [Prod.mk.injEq] at hzz
  obtain ⟨hz0, hz1, hz2⟩ := hzz
  have hlen2 : (S.spots 0 l).length = l.length := S.spots_length _ _
  have hpos : ∀ f, f ∈ l → 1 ≤ S.long f := by
    intro f hf
    obtain ⟨i, hi⟩ := List.getElem?_of_mem hf
    have := (S.right_at hr1.out hi).2.1
    omega
  refine wpIn_rangeFunc_ownH rfl (by decide) (gf := 158) (lb := #[.pointer (some ⟨w1.heap.size + 1, 0, none⟩)]) rfl trivial (enters_of Tryz.func158 (by kernel_rfl) rfl)
    (places_stops (8 - 1) (by decide) (w1.heap.size + 1) A c l w W0 hcS hl1.out hb0 hpos) KeepsT.trans (KeepsT.put (by omega)) (Below.refl _ _) (fun _ => rfl)
    (fun (pre : List (Nat × S.Field)) W => (∃ v, Boxed W w1.heap.size 132 v ∧ W.ownsRow W0.heap.size 3 1 v (S.refsOf pre).length ((S.refsOf pre).map fun x => Value.int .i64 (x : Nat)) ∧ True) ∧ Below w.heap.size w W ∧ W0.heap.size ≤ W.heap.size)
    (fun _ _ _ => False)
    (OwnFrom.and (Own.from (holdsRow_own W0.heap.size w1.heap.size 132 3 1 (fun (pre : List (Nat × S.Field)) => (S.refsOf pre).length) (fun pre => (S.refsOf pre).map fun x => Value.int .i64 (x : Nat)) (fun _ _ => True)) _) (OwnFrom.and (ownFrom_below (Nat.le_refl _) (by omega)) (ownFrom_size _ _)))
    (fun _ _ _ _ _ hs _ _ => hs)
    ⟨⟨_, bO, World.ownsRow_nil _ _ _ _, trivial⟩, hb0, Nat.le_refl _⟩
    (fun x a' W => ∃ Bx, W.heap[Bx]? = some (.cells #[.string (S.mk x.2.name), .int .i64 x.2.kind, .int .i64 x.2.long] 147 (0, 0)) ∧ a' = { tmps := #[.slice A l.length c, undef, .slice none 0 0, .pointer (some ⟨w1.heap.size, 0, none⟩), .int .i64 (x.1 : Nat), .pointer (some ⟨Bx, 0, none⟩), .slice A l.length c, .bool true, .bool false, .slice A l.length c, .func (.func 158) #[] #[.pointer (some ⟨w1.heap.size + 1, 0, none⟩)], .int .i64 (x.1 : Nat), .agg #[.string (S.mk x.2.name), .int .i64 x.2.kind, .int .i64 x.2.long], undef, undef, undef, undef, undef, undef, undef, undef], defers := [] })
    ?hAx ?assign ?body ?done ?stop
  case hAx =>
    rintro x a' _ W W' row ⟨Bx, hBx, rfl⟩ hg hrw
    refine ⟨Bx, (hg.block Bx (Array.getElem?_eq_some_iff.1 hBx).1 (fun e => ?_)).trans hBx, rfl⟩
    obtain ⟨_, o, ho, hc⟩ := hrw Bx e.symm
    rw [hBx] at ho
    cases ho
    cases hc
  case assign =>
    rintro lp pre x W K ⟨⟨v, hv, hrow, -⟩, hB, hZ⟩ hK
    gi_wp2
    exact hK _ _ ((KeepsOthers.alloc _ _).from _) (keepsT_below hB.size (below_one W _)) ⟨⟨v, hv.alloc _, hrow.alloc _, trivial⟩, hB.new_ _, by simp; omega⟩ ⟨W.heap.size, heap_alloc_new W _, rfl⟩
  case body =>
    rintro lp pre x a' W hlp ⟨r, hlr⟩ ⟨⟨v, hv, hrow, -⟩, hB, hZ⟩ ⟨Bx, hBx, rfl⟩ hlt
    have hc := hv.cell
    have hc1 : W.cell? ⟨Bx, 1, none⟩ = some (.int .i64 x.2.kind) := by simp [World.cell?, hBx]
    have hlr2 := S.refsOf_length pre
    by_cases hk : x.2.kind = 11
    · have e2 := Hid.mk (S.refsOf_yes (l := pre) hk)
      have hrow1 := Hid.mk hrow
      have hv1 := Hid.mk hv
      rw [hk] at hc1
      clear hBx hrow hv hlr hl1 hs1 hr1 bO hcS hk
      gi_wp2_with (gi_at_builtin; refine wpListIn_append_own _ rfl _ _ 132 rfl W0.heap.size 3 i0 (.int .i64 0) 1 8 Tryz.underlying132 hi hz0 hz1 hz2 rfl (by decide) v (S.refsOf pre).length ((S.refsOf pre).map fun x => Value.int .i64 (x : Nat)) rfl (hrow1.out.alloc _) ⟨W.heap.size, 0, none⟩ 1 1 [.int .i64 (x.1 : Nat)] rfl rfl (cell_one_new _ _ _) (by simp [Value.oneCell']) (by unfold maxLen; omega) (by omega) (by simp; omega) ?_; intro v' w2 hown' hgrow hnil'; clear hnil'; obtain ⟨g', cap', rfl⟩ := ownsRow_succ hown'; have a1 := (hv1.out.alloc (.cells #[.int .i64 (x.1 : Nat)] 3)).kept hgrow (hv1.out.not_row (by decide) hrow1.out); have c1 := a1.cell; have f1 := a1.frozen; have a11 := Hid.mk a1; have hg1 := Hid.mk hgrow; have ho1 := Hid.mk hown'; clear a1 hgrow hown')
      go_light
      obtain ⟨k1, k2, k3, k4, k5, k6⟩ := refB hv1.out hrow1.out (by omega) hw1 hg1.out ho1.out a11.out hZ hB
      exact ⟨k1, k2, ⟨_, k3, by rw [e2.out, List.length_append, List.map_append]; exact k4, trivial⟩, k5, k6⟩
    · have e2 := Hid.mk (S.refsOf_no (l := pre) hk)
      have t1 : (x.2.kind == 11) = false := by simp [hk]
      have hrow1 := Hid.mk hrow
      have hv1 := Hid.mk hv
      clear hBx hrow hv hlr hl1 hs1 hr1 bO hcS hk
      gi_wp2
      go_light
      exact ⟨KeepsFrom.refl _ _, KeepsT.refl _ _ _, ⟨_, hv1.out, by rw [e2.out]; exact hrow1.out, trivial⟩, hB, hZ⟩
  case done =>
    rintro D ys W hD rfl ⟨⟨v, hv, hrow, -⟩, hB, hZ⟩ hK
    have hc := hv.cell
    have hrow1 := Hid.mk hrow
    clear hrow hv hpos hlen2 hl1 hs1 hr1 hi hz0 hz1 hz2
    gi_wp2
    go_light
    refine ⟨by simp, .inl ⟨_, _, rfl, run_takeDeferred (show W.heap[D]? = _ from hK), ?_⟩⟩
    refine ⟨_, results_tmp rfl _ _ _, _, rfl, ?_, ?_⟩
    · exact ownsRow_putObj (own_weak hrow1.out (show w.heap.size ≤ W0.heap.size by omega)) _ (show W.heap[D]? = _ from hK) rfl
    · exact Below.trans hB (belowK_b (w := w) (Nat.le_refl _) W D _ _ (by omega) (show W.heap[D]? = _ from hK) rfl rfl)
  case stop =>
    rintro D c' pre W _ _ h _
    exact h.elim
end Go.Proofs.YtdokiaicheillaaGreat

namespace Go.Proofs.YtdokiaicheillaaGreat
open Go.RowKit

set_option maxRecDepth 100000 in
set_option maxHeartbeats 8000000 in
theorem obj_Refs1_none (p : Parts) (X : S.Heap) (t : S.Thing) (k : S.Kinds) (j : Nat) (T : S.Table) (A : Option Addr) (c bh bo : Nat) (w : World) (h : HeapAt w p X) (hX : X.ok) (hk : getK X.cat t.name = some k) (hT : k.tabs[j]? = some T) (hj : k.oldest + j = t.ver) (hn : S.refs T.new = [])
    (hbh : w.cell? ⟨bh, 0, none⟩ = some (.pointer (some ⟨p.H, 0, none⟩))) :
    Calls Tryz.prog 74 #[t.val A c, .pointer (some ⟨bh, 0, none⟩), .pointer (some ⟨bo, 0, none⟩)] w fun e w' => e = .returned (.int .i64 0) ∧ Below w.heap.size w w' := by
  have hkf := hX.kinds _ (S.getK_pair hk)
  have hright : S.right T.new = true := hkf.right _ (List.mem_of_getElem? hT)
  have hFi : ∀ W, Below w.heap.size w W → Hid (Calls Tryz.prog 75 #[.pointer (some ⟨p.c, 0, none⟩), .string (S.mk t.name), .int .i64 t.ver] W fun e w' => ∃ v, e = .returned (.tuple #[v, .int .i64 0]) ∧ w'.ownsRow W.heap.size 147 3 v T.new.length (T.new.map S.Field.cells).flatten ∧ Below W.heap.size W w') := fun W hW => by
    have := schema_Fields p.c p.mb p.ps X.cat t.name k j T W (h.below hW).cat hk hkf.ok hT
    rw [hj] at this
    exact this
  have hRf : ∀ (W : World) (A : Option Addr) (c n : Nat), W.ownsRow n 147 3 (.slice A T.new.length c) T.new.length (T.new.map S.Field.cells).flatten →
      Hid (Calls Tryz.prog 76 #[.slice A T.new.length c] W fun e w' => ∃ A2 c2, e = .returned (.slice A2 0 c2) ∧ Below W.heap.size W w') := fun W A c n ho => by
    obtain ⟨A', c', e, hr, -⟩ := Row.of_own ho (field_rows _) (by simp) (by have := S.right_len hright; omega)
    simp only [Value.slice.injEq, true_and] at e
    obtain ⟨rfl, rfl⟩ := e
    refine (field_Refs_yes A c T.new W (Row.id.2 hr) (short_right hright) hright).mono fun e w' ⟨v, e1, e2, e3⟩ => ?_
    rw [hn] at e2
    obtain ⟨A2, c2, rfl⟩ := own_slice e2
    exact ⟨A2, c2, e1, e3⟩
  have c0 := h.c0
  have hbhl : bh < w.heap.size := World.block_lt_of_cell? w _ hbh
  have hHl : p.H < w.heap.size := World.block_lt_of_cell? w _ c0
  obtain ⟨ta, tn, tv, tb⟩ := t
  simp only at hFi
  generalize p.H = H at *
  generalize p.c = pc at *
  generalize hW0 : w.alloc (.cells #[.int .i64 ta, .string (S.mk tn), .int .i64 tv, .slice A tb.length c] 110) = W0 at *
  have hb0 : Below w.heap.size w W0 := hW0 ▸ below_one w _
  have z0 : W0.heap.size = w.heap.size + 1 := by rw [← hW0]; simp
  have d1 := (hb0.cell (p := ⟨H, 0, none⟩) hHl).trans c0
  have d2 := (hb0.cell (p := ⟨bh, 0, none⟩) hbhl).trans hbh
  have q1 : W0.cell? ⟨w.heap.size, 1, none⟩ = some (.string (S.mk tn)) := by rw [← hW0]; exact (heap_cell (heap_alloc_new w _) (o := 1) rfl).1
  have q2 : W0.cell? ⟨w.heap.size, 2, none⟩ = some (.int .i64 tv) := by rw [← hW0]; exact (heap_cell (heap_alloc_new w _) (o := 2) rfl).1
  have hBd : Hid (Below w.heap.size w W0.drew) := hb0.drew
  have hFi1 := Hid.mk hFi; have hRf1 := Hid.mk hRf; clear hFi hRf
  clear h hX hk hT hj hn hkf hright c0 hbh hb0
  go_enter Tryz.func74, Tryz.ntmps74
  go_wp2
  have hW1 := Hid.mk hW0
  clear hW0
  go_region_held3 (fun V => V.cell? ⟨bh, 0, none⟩ = some (.pointer (some ⟨H, 0, none⟩)) ∧ V.cell? ⟨H, 0, none⟩ = some (.pointer (some ⟨pc, 0, none⟩)) ∧ V.cell? ⟨w.heap.size, 1, none⟩ = some (.string (S.mk tn)) ∧ V.cell? ⟨w.heap.size, 2, none⟩ = some (.int .i64 tv)) (first | go_keep | (go_split_ands; exact ⟨e1, e2, e3, e4⟩))
    (first | (go_at_call 75; (with_reducible refine (hFi1.out _ hBd.out).out.mono ?_); rintro e w1 ⟨v, rfl, ho, hb⟩; obtain ⟨A1, c1, rfl⟩ := own_slice ho; have e1 := (hb.cell (p := ⟨bh, 0, none⟩) (show bh < W0.heap.size by omega)).trans d2; have e2 := (hb.cell (p := ⟨H, 0, none⟩) (show H < W0.heap.size by omega)).trans d1; have e3 := (hb.cell (p := ⟨w.heap.size, 1, none⟩) (show w.heap.size < W0.heap.size by omega)).trans q1; have e4 := (hb.cell (p := ⟨w.heap.size, 2, none⟩) (show w.heap.size < W0.heap.size by omega)).trans q2; have hb1 := Hid.mk (hBd.out.trans (hb.mono (show w.heap.size ≤ W0.heap.size by omega))); have ho1 := Hid.mk ho; clear hb ho) | fail)
  clear d1 d2 q1 q2
  go_wp2_with (go_at_call 76; (with_reducible refine (hRf1.out _ _ _ _ ho1.out).out.mono ?_); rintro e w2 ⟨A2, c2, rfl, hb⟩; have hb2 := Hid.mk (hb1.out.trans (hb.mono (by have := hb1.out.size; omega))); clear hb)
  go_loop [26] (fun v => v = .int .i64 0) (fun _ => 0)
  case atStart => rfl
  case round =>
    subst hrel
    go_wp2
    go_ret
    go_light
    exact ⟨rfl, hb2.out⟩

/-- The type of an object has a table of its version, which holds no reference. -/
def S.Heap.plain (X : S.Heap) (t : S.Thing) : Prop := ∃ (k : S.Kinds) (j : Nat) (T : S.Table), getK X.cat t.name = some k ∧ k.tabs[j]? = some T ∧ k.oldest + j = t.ver ∧ S.refs T.new = []

set_option maxRecDepth 100000 in
set_option maxHeartbeats 8000000 in
theorem obj_with_refs (p : Parts) (X : S.Heap) (x : S.Handle) (sl : S.Slot) (t : S.Thing) (bh bo : Nat) (w : World) (h : HeapAt w p X) (hX : X.ok) (hg : S.goodAt X.slots x = some sl) (ht : t ∈ X.things) (hv : sl.v = t.at_) (hp : X.plain t)
    (hbh : w.cell? ⟨bh, 0, none⟩ = some (.pointer (some ⟨p.H, 0, none⟩))) :
    Calls Tryz.prog 55 #[.pointer (some ⟨p.H, 0, none⟩), x.val, .func (.func 74) #[] #[.pointer (some ⟨bh, 0, none⟩), .pointer (some ⟨bo, 0, none⟩)]] w fun e w' => e = .returned (.int .i64 0) ∧ Below w.heap.size w w' := by
  obtain ⟨k, j, T, hk, hT, hj, hn⟩ := hp
  have hbhl : bh < w.heap.size := World.block_lt_of_cell? w _ hbh
  have hF := fun W (hW : Below w.heap.size w W) => Hid.mk (obj_find_yes p X x sl t W (h.below hW) hX hg ht hv)
  have hC := fun W A c (hW : Below w.heap.size w W) => Hid.mk (obj_Refs1_none p X t k j T A c bh bo W (h.below hW) hX hk hT hj hn ((hW.cell (p := ⟨bh, 0, none⟩) hbhl).trans hbh))
  obtain ⟨xs, xg⟩ := x
  obtain ⟨ta, tn, tv, tb⟩ := t
  clear h hX hg ht hv hbh hk hT hj hn
  have hC1 := Hid.mk hC; clear hC
  go_enter Tryz.func55, Tryz.ntmps55
  go_wp2_with (first | (go_at_call 99; (with_reducible refine (hF _ (below_one _ _)).out.mono ?_); rintro e w1 ⟨g, off, c, rfl, -, hb⟩; have hb1 := Hid.mk ((below_then (below_one w (.cells #[.int .i64 xs, .int .i64 xg] 51)) hb).new_ (.cells #[.int .i64 ta, .string (S.mk tn), .int .i64 tv, .slice (some ⟨g, off, none⟩) tb.length c] 110)); clear hb) | (go_at_call 74; (with_reducible refine (hC1.out _ _ _ hb1.out).out.mono ?_); rintro e w2 ⟨rfl, hb⟩; have hb2 := Hid.mk (below_then hb1.out hb); clear hb))
  go_ret
  go_light
  exact ⟨rfl, hb2.out⟩

set_option maxRecDepth 100000 in
set_option maxHeartbeats 8000000 in
theorem obj_Refs_none (p : Parts) (X : S.Heap) (x : S.Handle) (sl : S.Slot) (t : S.Thing) (w : World) (h : HeapAt w p X) (hX : X.ok) (hg : S.goodAt X.slots x = some sl) (ht : t ∈ X.things) (hv : sl.v = t.at_) (hp : X.plain t) :
    Calls Tryz.prog 26 #[.pointer (some ⟨p.H, 0, none⟩), x.val] w fun e w' => e = .returned (.tuple #[.slice none 0 0, .int .i64 0]) ∧ Below w.heap.size w w' := by
  obtain ⟨W, hW⟩ : ∃ W, (((w.alloc (.cells #[.pointer (some ⟨p.H, 0, none⟩)] 36)).alloc (.cells #[.int .i64 x.slot, .int .i64 x.gen] 51)).alloc (.cells #[.slice none 0 0] 28)) = W := ⟨_, rfl⟩
  have hB : Below w.heap.size w W := hW ▸ ((below_one _ _).new_ _).new_ _
  have z : W.heap.size = w.heap.size + 3 := by rw [← hW]; simp
  have q0 : W.cell? ⟨w.heap.size, 0, none⟩ = some (.pointer (some ⟨p.H, 0, none⟩)) := by rw [← hW]; exact (cell_alloc_old (by simp only [World.size_alloc]; omega)).trans ((cell_alloc_old (by simp only [World.size_alloc]; omega)).trans (heap_cell (heap_alloc_new w _) (o := 0) rfl).1)
  have q1 := two_cells (w.alloc (.cells #[.pointer (some ⟨p.H, 0, none⟩)] 36)) (.int .i64 x.slot) (.int .i64 x.gen) 51
  rw [World.size_alloc] at q1
  have q2 : W.cell? ⟨w.heap.size + 1, 0, none⟩ = some (.int .i64 x.slot) := by rw [← hW]; exact (cell_alloc_old (by simp only [World.size_alloc]; omega)).trans q1.1
  have q3 : W.cell? ⟨w.heap.size + 1, 1, none⟩ = some (.int .i64 x.gen) := by rw [← hW]; exact (cell_alloc_old (by simp only [World.size_alloc]; omega)).trans q1.2
  have q4 : W.cell? ⟨w.heap.size + 2, 0, none⟩ = some (.slice none 0 0) := by
    rw [← hW]
    have := (heap_cell (heap_alloc_new ((w.alloc (.cells #[.pointer (some ⟨p.H, 0, none⟩)] 36)).alloc (.cells #[.int .i64 x.slot, .int .i64 x.gen] 51)) (.cells #[.slice none 0 0] 28)) (o := 0) rfl).1
    rwa [World.size_alloc, World.size_alloc] at this
  have hWi := Hid.mk (obj_with_refs p X x sl t w.heap.size (w.heap.size + 2) W (h.below hB) hX hg ht hv hp q0)
  have hB1 := Hid.mk hB
  obtain ⟨xs, xg⟩ := x
  clear h hX hg ht hv hp hB q1
  go_enter Tryz.func26, Tryz.ntmps26
  go_wp2_with (go_at_call 55; (with_reducible refine hWi.out.mono ?_); rintro e w1 ⟨rfl, hb⟩; have q5 := (hb.cell (p := ⟨w.heap.size + 2, 0, none⟩) (show w.heap.size + 2 < W.heap.size by omega)).trans q4; have hb1 := Hid.mk (below_then hB1.out hb); clear hb)
  go_ret2
  go_light
  exact ⟨rfl, hb1.out⟩
end Go.Proofs.YtdokiaicheillaaGreat
