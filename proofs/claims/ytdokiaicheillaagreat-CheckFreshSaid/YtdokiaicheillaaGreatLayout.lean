/-
  The walks of field.places, field.Layout, field.New.
-/
import Derived.Test.YtdokiaicheillaaGreatPlaces
import Derived.RangeFuncBox
import Derived.Sort.QuietIn
import Derived.Maps.AppendAt
namespace Go.Proofs.YtdokiaicheillaaGreat
open Go.RowKit Go.Shelf
attribute [local go_sem] Oper.semAt_some

set_option maxHeartbeats 400000 in
theorem field_places (A : Option Addr) (c n : Nat) (w : World) :
    Calls Tryz.prog 114 #[.slice A n c] w fun e w' => e = .returned (.func (.func 158) #[] #[.pointer (some ⟨w.heap.size, 0, none⟩)]) ∧ w' = w.alloc (.cells #[.slice A n c] 87) := by
  go_enter Tryz.func114, Tryz.ntmps114
  go_wp2
  go_ret
  exact ⟨rfl, rfl⟩

/-- Where the last one ends, as an int. -/
def lastW (l : List (Nat × S.Field)) : Int := match l.getLast? with | some x => wrap64 ((x.1 : Int) + (S.long x.2 : Int)) | none => 0
theorem lastW_snoc (l : List (Nat × S.Field)) (x : Nat × S.Field) : lastW (l ++ [x]) = wrap64 ((x.1 : Int) + (S.long x.2 : Int)) := by simp [lastW]
theorem lastW_spots (l : List S.Field) (h : l.length ≤ 1073741824) : lastW (S.spots 0 l) = (S.ends 0 l : Nat) := by
  have hb := S.ends_le l 0
  rcases List.eq_nil_or_concat l with rfl | ⟨r, f, rfl⟩
  · rfl
  · rw [List.concat_eq_append, S.ends_append] at *
    rw [S.spots_append]
    show lastW (_ ++ [_]) = _
    rw [lastW_snoc]
    simp only [S.ends] at *
    unfold wrap64
    omega

/-- Behind the append: the three boxes are as they were. -/
theorem layA {W w2 : World} {n0 Bo Be Bx m : Nat} {v e0 : Value} {xs : List Value} {cs : Array Value} {tmp : Obj} (hv : Boxed W Bo 132 v) (hrow : W.ownsRow n0 3 1 v m xs) (hE : Boxed W Be 3 e0) (hlt : Be < n0)
    (hBx : W.heap[Bx]? = some (.cells cs 147 (0, 0))) (hg : (W.alloc tmp).grownBy w2 v.ownBlock) :
    Boxed w2 Bo 132 v ∧ Boxed w2 Be 3 e0 ∧ w2.heap[Bx]? = some (.cells cs 147 (0, 0)) := by
  have hlx := (Array.getElem?_eq_some_iff.1 hBx).1
  refine ⟨(hv.alloc tmp).kept hg (hv.not_row (by decide) hrow), (hE.alloc tmp).kept hg (fun e => ?_), ?_⟩
  · have := own_block_ge hrow e.symm
    omega
  · exact (hg.block Bx (by simp; omega) (row_ne hrow hBx (by decide))).trans ((Below.heap_alloc W tmp Bx hlx).trans hBx)

theorem layB {w W w2 w4 : World} {n0 Bo Be m : Nat} {v v' e0 e1 : Value} {xs ys : List Value} {tmp : Obj} (hv : Boxed W Bo 132 v) (hrow : W.ownsRow n0 3 1 v m xs) (hE : Boxed W Be 3 e0) (hlt : Be < n0) (hoe : Bo ≠ Be) (hlo : Bo < n0) (hwo : w.heap.size ≤ Bo) (hwe : w.heap.size ≤ Be)
    (hg : (W.alloc tmp).grownBy w2 v.ownBlock) (hown : w2.ownsRow n0 3 1 v' (m + 1) ys) (hv2 : Boxed w2 Bo 132 v) (hE2 : Boxed w2 Be 3 e0) (hZ : n0 ≤ W.heap.size) (hB : Below w.heap.size w W)
    (hb : Below (w2.setCell ⟨Bo, 0, none⟩ v').heap.size (w2.setCell ⟨Bo, 0, none⟩ v') w4) :
    KeepsFrom n0 W (w4.setCell ⟨Be, 0, none⟩ e1) ∧ KeepsT w.heap.size 147 W (w4.setCell ⟨Be, 0, none⟩ e1) ∧ Boxed (w4.setCell ⟨Be, 0, none⟩ e1) Bo 132 v' ∧ (w4.setCell ⟨Be, 0, none⟩ e1).ownsRow n0 3 1 v' (m + 1) ys ∧ Boxed (w4.setCell ⟨Be, 0, none⟩ e1) Be 3 e1 ∧ Below w.heap.size w (w4.setCell ⟨Be, 0, none⟩ e1) ∧ n0 ≤ (w4.setCell ⟨Be, 0, none⟩ e1).heap.size := by
  have g1 : W.grownBy w2 v.ownBlock := World.grownBy.trans (World.grownBy_alloc W tmp _) hg
  have g2 : w2.grownBy (w2.setCell ⟨Bo, 0, none⟩ v') (some Bo) := grownBy_setCell' w2 Bo v'
  have g3 := grown_below hb none
  have g4 : w4.grownBy (w4.setCell ⟨Be, 0, none⟩ e1) (some Be) := grownBy_setCell' w4 Be e1
  have hge : ∀ k, v.ownBlock = some k → n0 ≤ k := fun k e => own_block_ge hrow e
  have hge' : ∀ k, v'.ownBlock = some k → n0 ≤ k := fun k e => own_block_ge hown e
  have hO2 : Boxed (w2.setCell ⟨Bo, 0, none⟩ v') Bo 132 v' := hv2.set v'
  have hO4 : Boxed w4 Bo 132 v' := hO2.kept g3 (by simp)
  have hE2' : Boxed (w2.setCell ⟨Bo, 0, none⟩ v') Be 3 e0 := hE2.other (fun e => hoe e.symm) v'
  have hE4 : Boxed w4 Be 3 e0 := hE2'.kept g3 (by simp)
  have r2 : (w2.setCell ⟨Bo, 0, none⟩ v').ownsRow n0 3 1 v' (m + 1) ys := ownsRow_setCell_below hown hlo v'
  have r4 : w4.ownsRow n0 3 1 v' (m + 1) ys := r2.kept g3 (by cases v'.ownBlock <;> simp)
  have s1 := g1.size
  have s2 := g2.size
  have s3 := g3.size
  have s4 := g4.size
  refine ⟨?_, ?_, hO4.other hoe e1, ownsRow_setCell_below r4 hlt e1, hE4.set e1, ?_, by omega⟩
  · refine (((KeepsFrom.of_other g1 ?_).trans (KeepsOthers.setCell _ _ _ |>.from _)).trans ((keepsO_below hb).from _)).trans (KeepsOthers.setCell _ _ _ |>.from _)
    intro k o hk ho e
    obtain ⟨c1, hc1⟩ := own_cells hrow e.symm
    rw [hk] at hc1
    cases hc1
    cases ho
  · refine (((KeepsT.grown hB.size g1 (fun k e => by have := hge k e; have := hB.size; omega) ?_).trans (KeepsT.set hwo hv2 (by decide) v')).trans (keepsT_below (by have := hB.size; omega) hb)).trans (KeepsT.set hwe hE4 (by decide) e1)
    intro k cs fr hk
    exact row_ne hrow hk (by decide)
  · exact (((hB.grown g1 hB.size (fun k e => by have := hge k e; have := hB.size; omega)).setCell (p := ⟨Bo, 0, none⟩) hwo v').trans (hb.mono (by have := hB.size; omega))).setCell (p := ⟨Be, 0, none⟩) hwe e1

theorem info_int : (Tryz.prog.info? 3).map (fun i => (i.zero, i.size, i.bytes)) = some (some (.int .i64 0), 1, 8) := by kernel_rfl

set_option maxRecDepth 100000 in
set_option maxHeartbeats 2000000 in
theorem field_Layout_yes (A : Option Addr) (c : Nat) (l : List S.Field) (w : World) (hl : Fields w.cell? A l) (hs : Short l) (hr : S.right l = true) :
    Calls Tryz.prog 96 #[.slice A l.length c] w fun e w' => ∃ v, e = .returned (.tuple #[v, .int .i64 (S.up (S.ends 0 l) 8 : Nat)]) ∧ w'.ownsRow w.heap.size 3 1 v l.length ((S.places 0 l).map fun a => Value.int .i64 (a : Nat)) ∧ Below w.heap.size w w' := by
  have hlen := hl.1
  have hl1 := Hid.mk hl
  have hs1 := Hid.mk hs
  have hr1 := Hid.mk hr
  clear hl hs hr
  refine (callsIn_wide (n := 8)).1 ?_
  refine callsIn_of_wp_marks Tryz.func96 rfl trivial ?_ rfl
  simp only [Tryz.ntmps96, List.size_toArray, List.length_cons, List.length_nil, Nat.reduceAdd, Nat.reduceSub, Array.replicate_succ, Array.replicate_zero, List.push_toArray, List.append_toArray, List.nil_append, List.cons_append]
  gi_wp2_with (first | (refine ⟨trivial, ?_⟩; gi_at_call 46; refine (callsIn_wide.2 (field_Right A c l _ hl1.out hs1.out)).mono ?_; rintro e w1 ⟨rfl, hb1⟩; rw [hr1.out]) | (refine ⟨trivial, ?_⟩; gi_at_call 114; refine (callsIn_wide.2 (field_places _ _ _ _)).mono ?_; rintro e w2 ⟨rfl, rfl⟩))
  have hb0 : Below w.heap.size w (((w1.alloc (.cells #[.slice none 0 0] 132)).alloc (.cells #[.int .i64 0] 3)).alloc (.cells #[.slice A l.length c] 87)) := ((hb1.new_ _).new_ _).new_ _
  have bO : Boxed (((w1.alloc (.cells #[.slice none 0 0] 132)).alloc (.cells #[.int .i64 0] 3)).alloc (.cells #[.slice A l.length c] 87)) w1.heap.size 132 (.slice none 0 0) := ((Boxed.new w1 _ _).alloc _).alloc _
  have bE : Boxed (((w1.alloc (.cells #[.slice none 0 0] 132)).alloc (.cells #[.int .i64 0] 3)).alloc (.cells #[.slice A l.length c] 87)) (w1.heap.size + 1) 3 (.int .i64 0) := by
    have := (Boxed.new (w1.alloc (.cells #[.slice none 0 0] 132)) 3 (.int .i64 0)).alloc (.cells #[.slice A l.length c] 87)
    rwa [World.size_alloc] at this
  have hcS : (((w1.alloc (.cells #[.slice none 0 0] 132)).alloc (.cells #[.int .i64 0] 3)).alloc (.cells #[.slice A l.length c] 87)).cell? ⟨w1.heap.size + 1 + 1, 0, none⟩ = some (.slice A l.length c) := by
    have := (Boxed.new ((w1.alloc (.cells #[.slice none 0 0] 132)).alloc (.cells #[.int .i64 0] 3)) 87 (.slice A l.length c)).cell
    rwa [World.size_alloc, World.size_alloc] at this
  have hszW : (((w1.alloc (.cells #[.slice none 0 0] 132)).alloc (.cells #[.int .i64 0] 3)).alloc (.cells #[.slice A l.length c] 87)).heap.size = w1.heap.size + 3 := by simp
  generalize (((w1.alloc (.cells #[.slice none 0 0] 132)).alloc (.cells #[.int .i64 0] 3)).alloc (.cells #[.slice A l.length c] 87)) = W0 at *
  have hw1 := hb1.size
  obtain ⟨i0, hi, hzz⟩ := Option.map_eq_some_iff.1 info_int
  simp only [Prod.mk.injEq] at hzz
  obtain ⟨hz0, hz1, hz2⟩ := hzz
  have hlen2 : (S.spots 0 l).length = l.length := S.spots_length _ _
  have hpos : ∀ f, f ∈ l → 1 ≤ S.long f := by
    intro f hf
    obtain ⟨i, hi⟩ := List.getElem?_of_mem hf
    have := (S.right_at hr1.out hi).2.1
    omega
  refine wpIn_rangeFunc_ownH rfl (by decide) (gf := 158) (lb := #[.pointer (some ⟨w1.heap.size + 1 + 1, 0, none⟩)]) rfl trivial (enters_of Tryz.func158 (by kernel_rfl) rfl)
    (places_stops (8 - 1) (by decide) (w1.heap.size + 1 + 1) A c l w W0 hcS hl1.out hb0 hpos) KeepsT.trans (KeepsT.put (by omega)) (Below.refl _ _) (fun _ => rfl)
    (fun (pre : List (Nat × S.Field)) W => ((∃ v, Boxed W w1.heap.size 132 v ∧ W.ownsRow W0.heap.size 3 1 v pre.length (pre.map fun x => Value.int .i64 (x.1 : Nat)) ∧ True) ∧ Boxed W (w1.heap.size + 1) 3 (.int .i64 (lastW pre))) ∧ Below w.heap.size w W ∧ W0.heap.size ≤ W.heap.size)
    (fun _ _ _ => False)
    (OwnFrom.and (OwnFrom.and (Own.from (holdsRow_own W0.heap.size w1.heap.size 132 3 1 (fun (pre : List (Nat × S.Field)) => pre.length) (fun pre => pre.map fun x => Value.int .i64 (x.1 : Nat)) (fun _ _ => True)) _) (Own.from (boxed_own _ _ _) _)) (OwnFrom.and (ownFrom_below (Nat.le_refl _) (by omega)) (ownFrom_size _ _)))
    (fun _ _ _ _ _ hs _ _ => hs)
    ⟨⟨⟨_, bO, World.ownsRow_nil _ _ _ _, trivial⟩, bE⟩, hb0, Nat.le_refl _⟩
    (fun x a' W => ∃ Bx, W.heap[Bx]? = some (.cells #[.string (S.mk x.2.name), .int .i64 x.2.kind, .int .i64 x.2.long] 147 (0, 0)) ∧ a' = { tmps := #[.slice A l.length c, undef, .slice none 0 0, .int .i64 0, .pointer (some ⟨w1.heap.size, 0, none⟩), .pointer (some ⟨w1.heap.size + 1, 0, none⟩), .int .i64 (x.1 : Nat), .pointer (some ⟨Bx, 0, none⟩), .slice A l.length c, .bool true, .bool false, .slice A l.length c, .func (.func 158) #[] #[.pointer (some ⟨w1.heap.size + 1 + 1, 0, none⟩)], .int .i64 (x.1 : Nat), .agg #[.string (S.mk x.2.name), .int .i64 x.2.kind, .int .i64 x.2.long], undef, undef, undef, undef, undef, undef, undef, undef, undef, undef, undef], defers := [] })
    ?hAx ?assign ?body ?done ?stop
  case hAx =>
    rintro x a' _ W W' row ⟨Bx, hBx, rfl⟩ hg hrw
    refine ⟨Bx, (hg.block Bx (Array.getElem?_eq_some_iff.1 hBx).1 (fun e => ?_)).trans hBx, rfl⟩
    obtain ⟨_, o, ho, hc⟩ := hrw Bx e.symm
    rw [hBx] at ho
    cases ho
    cases hc
  case assign =>
    rintro lp pre x W K ⟨⟨⟨v, hv, hrow, -⟩, hE⟩, hB, hZ⟩ hK
    gi_wp2
    exact hK _ _ ((KeepsOthers.alloc _ _).from _) (keepsT_below hB.size (below_one W _)) ⟨⟨⟨v, hv.alloc _, hrow.alloc _, trivial⟩, hE.alloc _⟩, hB.new_ _, by simp; omega⟩ ⟨W.heap.size, heap_alloc_new W _, rfl⟩
  case body =>
    rintro lp pre x a' W hlp ⟨r, hlr⟩ ⟨⟨⟨v, hv, hrow, -⟩, hE⟩, hB, hZ⟩ ⟨Bx, hBx, rfl⟩ hlt
    have hc := hv.cell
    have hc0 : W.cell? ⟨Bx, 0, none⟩ = some (.string (S.mk x.2.name)) := by simp [World.cell?, hBx]
    have hc1 : W.cell? ⟨Bx, 1, none⟩ = some (.int .i64 x.2.kind) := by simp [World.cell?, hBx]
    have hc2 : W.cell? ⟨Bx, 2, none⟩ = some (.int .i64 x.2.long) := by simp [World.cell?, hBx]
    have hl64 := S.long_le x.2
    have hBx1 := Hid.mk hBx
    have hE1 := Hid.mk hE
    have hrow1 := Hid.mk hrow
    have hv1 := Hid.mk hv
    clear hBx hE hrow hv hlr hl1 hs1 hr1 bO bE hcS
    gi_wp2_with (first | (gi_at_builtin; refine wpListIn_append_own _ rfl _ _ 132 rfl W0.heap.size 3 i0 (.int .i64 0) 1 8 Tryz.underlying132 hi hz0 hz1 hz2 rfl (by decide) v pre.length (pre.map fun x => Value.int .i64 (x.1 : Nat)) rfl (hrow1.out.alloc _) ⟨W.heap.size, 0, none⟩ 1 1 [.int .i64 (x.1 : Nat)] rfl rfl (cell_one_new _ _ _) (by simp [Value.oneCell']) (by unfold maxLen; omega) (by omega) (by simp; omega) ?_; intro v' w2 hown' hgrow hnil'; clear hnil'; obtain ⟨g', cap', rfl⟩ := ownsRow_succ hown'; obtain ⟨a1, a2, a3⟩ := layA hv1.out hrow1.out hE1.out (by omega) hBx1.out hgrow; have c1 := a1.cell; have f1 := a1.frozen; have hxo := heap_ne a3 a1 (by decide); have x0 : ∀ u, (w2.setCell ⟨w1.heap.size, 0, none⟩ u).cell? ⟨Bx, 0, none⟩ = some (.string (S.mk x.2.name)) := fun u => cell_set_ne (by simp [World.cell?, a3]) hxo; have x1 : ∀ u, (w2.setCell ⟨w1.heap.size, 0, none⟩ u).cell? ⟨Bx, 1, none⟩ = some (.int .i64 x.2.kind) := fun u => cell_set_ne (by simp [World.cell?, a3]) hxo; have x2 : ∀ u, (w2.setCell ⟨w1.heap.size, 0, none⟩ u).cell? ⟨Bx, 2, none⟩ = some (.int .i64 x.2.long) := fun u => cell_set_ne (by simp [World.cell?, a3]) hxo; clear hxo; have a11 := Hid.mk a1; have a21 := Hid.mk a2; have hg1 := Hid.mk hgrow; have ho1 := Hid.mk hown'; clear a1 a2 a3 hgrow hown') | (refine ⟨trivial, ?_⟩; gi_at_call 93; refine (CallsIn.inRound lp (callsIn_wide.2 (kind_Long x.2 _))).mono ?_; rintro e w4 ⟨rfl, hb4⟩; have aE := (a21.out.other (B' := w1.heap.size) (by omega) _).kept (grown_below hb4 none) (by simp); have cE := aE.cell; have fE := aE.frozen; clear aE))
    go_light
    obtain ⟨k1, k2, k3, k4, k5, k6, k7⟩ := layB (e1 := .int .i64 (wrap64 ((x.1 : Int) + (S.long x.2 : Int)))) hv1.out hrow1.out hE1.out (by omega) (by omega) (by omega) hw1 (by omega) hg1.out ho1.out a11.out a21.out hZ hB hb4
    exact ⟨k1, k2, ⟨⟨_, k3, by simpa using k4, trivial⟩, by rw [lastW_snoc]; exact k5⟩, k6, k7⟩
  case done =>
    rintro D ys W hD rfl ⟨⟨⟨v, hv, hrow, -⟩, hE⟩, hB, hZ⟩ hK
    have hc := hv.cell
    have hcE := hE.cell
    rw [lastW_spots l hlen] at hcE
    have hend := S.ends_le l 0
    have hend2 : S.ends 0 l ≤ 137438953472 := by omega
    clear hend
    have hcE1 := Hid.mk hcE
    clear hcE
    have hrow1 := Hid.mk hrow
    clear hrow
    generalize hen : S.ends 0 l = en at *
    have hen1 := Hid.mk hen
    clear hen
    have hcE := hcE1.out
    clear hv hE hpos hlen2 hl1 hs1 hr1 hi hz0 hz1 hz2
    gi_wp2
    have hFw : ∀ f, Fence.wide.fn f := fun _ => trivial
    have hFd : Fence.wide.depth = none := rfl
    have hFo : Fence.wide.round = none := rfl
    gi_quiet ((gi_at_call 139; exact CallsIn.quiet_of_same (callsIn_wide.2 ((field_up en 8 _ (by omega) (by decide) (by decide)).mono fun e w' h => ⟨h.1, h.2.symm⟩))))
    gi_wp2
    go_light
    refine ⟨by simp, .inl ⟨_, _, rfl, run_takeDeferred (show (W.drewN nq).heap[D]? = _ from hK), ?_⟩⟩
    refine ⟨_, results_tmp2 rfl _ _ _, _, by rw [hen1.out]; rfl, ?_, ?_⟩
    · have h2 : (W.drewN nq).ownsRow w.heap.size 3 1 v l.length ((S.places 0 l).map fun a => Value.int .i64 (a : Nat)) := by
        have := own_weak hrow1.out (show w.heap.size ≤ W0.heap.size by omega)
        rw [S.spots_length] at this
        rw [← S.spots_fst, List.map_map]
        exact this
      exact ownsRow_putObj h2 _ (show (W.drewN nq).heap[D]? = _ from hK) rfl
    · exact Below.trans (show Below w.heap.size w (W.drewN nq) from ⟨hB.os, hB.tape, hB.output, hB.size, hB.block⟩) (belowK_b (w := w) (Nat.le_refl _) (W.drewN nq) D _ _ (by omega) (show (W.drewN nq).heap[D]? = _ from hK) rfl rfl)
  case stop =>
    rintro D c' pre W _ _ h _
    exact h.elim

set_option maxHeartbeats 1000000 in
theorem field_Layout_no (A : Option Addr) (c : Nat) (l : List S.Field) (w : World) (hl : Fields w.cell? A l) (hs : Short l) (hr : S.right l = false) :
    Calls Tryz.prog 96 #[.slice A l.length c] w fun e w' => e = .returned (.tuple #[.slice none 0 0, .int .i64 0]) ∧ Below w.heap.size w w' := by
  have hl1 := Hid.mk hl
  have hs1 := Hid.mk hs
  have hr1 := Hid.mk hr
  clear hl hs hr
  refine (callsIn_wide (n := 8)).1 ?_
  refine callsIn_of_wp_marks Tryz.func96 rfl trivial ?_ rfl
  simp only [Tryz.ntmps96, List.size_toArray, List.length_cons, List.length_nil, Nat.reduceAdd, Nat.reduceSub, Array.replicate_succ, Array.replicate_zero, List.push_toArray, List.append_toArray, List.nil_append, List.cons_append]
  have hFw : ∀ f, Fence.wide.fn f := fun _ => trivial
  have hFd : Fence.wide.depth = none := rfl
  have hFo : Fence.wide.round = none := rfl
  gi_wp2_with (gi_at_call 46; refine (callsIn_wide.2 (field_Right A c l _ hl1.out hs1.out)).mono ?_; rintro e w1 ⟨rfl, hb1⟩; rw [hr1.out])
  go_light
  exact ⟨_, results_tmp2 rfl _ _ _, rfl, hb1⟩
end Go.Proofs.YtdokiaicheillaaGreat
