/-
  The walks of maps.Keys (an iterator), slices.AppendSeq and slices.Collect, at each type of keys.
-/
import Derived.Test.YtdokiaicheillaaGreatMap
import Derived.Test.YtdokiaicheillaaGreatPlaces
import Derived.Maps.AppendAt
import Derived.RangeFuncBox
namespace Go.Proofs.YtdokiaicheillaaGreat
open Go.RowKit Go.Shelf
attribute [local go_sem] Oper.semAt_some

theorem keepsWalks_heap {A B : World} (h : KeepsWalks A B) {k : Nat} {o : Obj} (hk : A.heap[k]? = some o) (ho : o.isWalk = true) : B.heap[k]? = some o := h.same k o hk ho

/-! ### int -/
set_option maxHeartbeats 400000 in
theorem keys_int (mb : Nat) (w : World) :
    Calls Tryz.prog 172 #[.map (some mb)] w fun e w' => e = .returned (.func (.func 206) #[] #[.pointer (some ⟨w.heap.size, 0, none⟩)]) ∧ w' = w.alloc (.cells #[.map (some mb)] 159) := by
  go_enter Tryz.func172, Tryz.ntmps172
  go_wp2
  go_ret
  exact ⟨rfl, rfl⟩

set_option maxHeartbeats 1000000 in
theorem keys_stops_int {V : Type} (dec : V → Value) (n : Nat) (hn : 2 ≤ n) (Bm mb : Nat) (l : List (Int × V)) (w0 : World) (hB : w0.cell? ⟨Bm, 0, none⟩ = some (.map (some mb))) (hm : MapAt (fun x : Int => Value.int .i64 x) dec w0 mb l) :
    SeqStopsK Fence.wide n Tryz.prog 206 #[.pointer (some ⟨Bm, 0, none⟩)] (fun x : Int => #[Value.int .i64 x]) KeepsWalks (fun xs => xs.Perm (l.map (·.1))) (fun _ => True) l.length w0 := by
  intro lp J Jx W hW hJ hJx hY hJ0
  have hBW : W.cell? ⟨Bm, 0, none⟩ = some (.map (some mb)) := below_reads hW _ _ hB
  have hn1 : 1 ≤ n := by omega
  obtain ⟨E, clock, hE, hl⟩ := hm.kept (hW.block mb hm.lt)
  have hr := run_range (P := Tryz.prog) Tryz.underlying159 hE
  obtain ⟨hr1, hit⟩ := hr
  have hmlt : mb < W.heap.size := (Array.getElem?_eq_some_iff.1 hE.heap).1
  have hJ1 : J [] (W.alloc (.mapIter (some mb) clock #[] clock)) := hJ [] W _ none hJ0 (World.grownBy_alloc W _ none) (fun r e => by cases e)
  have hY1 := Hid.mk hY
  have hE1 := Hid.mk hE
  have hl1 := Hid.mk hl
  have hit1 := Hid.mk hit
  have hJ11 := Hid.mk hJ1
  have hne : Hid (W.heap.size ≠ mb) := by show _ ≠ _; omega
  clear hY hB hm hE hl hit hJ1 hJ0
  refine callsIn_of_wp Tryz.func206 rfl trivial ?_ rfl
  simp only [Tryz.ntmps206, List.size_toArray, List.length_cons, List.length_nil, Nat.reduceAdd, Nat.reduceSub, Array.replicate_succ, Array.replicate_zero, List.push_toArray, List.append_toArray, List.nil_append, List.cons_append]
  have hFw : ∀ f, Fence.wide.fn f := fun _ => trivial
  have hFd : Fence.wide.depth = none := rfl
  have hFo : Fence.wide.round = none := rfl
  gi_wp2
  clear hr1
  gi_loopw [3] (fun _ wr => ∃ (pre : List Int) (todo : List (Int × V)), J pre wr ∧ IterAt (fun x : Int => Value.int .i64 x) dec wr W.heap.size mb E clock todo ∧ Hid ((pre ++ todo.map (·.1)).Perm (l.map (·.1))) ∧ W.heap.size < wr.heap.size) (fun _ wr => iterLeft wr W.heap.size E)
  case atStart => exact ⟨[], _, hJ11.out, hit1.out, by show List.Perm _ _; rw [← hl1.out]; simp, by simp⟩
  case round =>
    obtain ⟨pre, todo, hj, hi, hp, hsz⟩ := hrel
    by_cases ht : todo = []
    · subst ht
      have hnx := run_next_none (P := Tryz.prog) hi
      gi_wp2
      go_end0
      go_light
      exact ⟨⟨_, rfl⟩, .inl ⟨pre, by simpa using hp.out, hj⟩⟩
    · obtain ⟨x, todo', w', hnx, hen, hperm, hi', hg, hs⟩ := run_next_some (P := Tryz.prog) hi ht hne.out 0
      have hj' : J pre w' := hJ pre wr w' _ hj hg (fun r e => by
        cases e
        obtain ⟨_, _, _, h, _⟩ := hi
        exact ⟨Nat.le_refl _, _, h, rfl⟩)
      have hlen : pre.length < l.length := by
        have := hp.out.length_eq
        have h2 := hperm.length_eq
        simp at this h2
        omega
      obtain ⟨fn, tmps, assign, body, hy, hR⟩ := hY1.out pre x.1 w' hj' hlen
      try dsimp only at hy
      have hp2 : Hid ((pre ++ [x.1] ++ todo'.map (·.1)).Perm (l.map (·.1))) := by
        show List.Perm _ _
        refine List.Perm.trans ?_ hp.out
        rw [List.append_assoc]
        exact List.Perm.append_left _ (show ([x.1] ++ todo'.map (·.1)).Perm (todo.map (·.1)) from (List.Perm.map (fun y : Int × V => y.1) hperm).symm)
      have hm1 := Hid.mk (iterLeft_next hi hi' hperm)
      have hi1 := Hid.mk hi'
      have hs1 := Hid.mk hs
      clear hi hj hj' hlen hp hperm hg hs hi' ht
      gi_wp2
      refine hR.mono ?_
      rintro e W' (⟨rfl, hJ', hk⟩ | ⟨rfl, hJx'⟩)
      · have hk1 := Hid.mk hk
        clear hk hy hR hnx hen
        gi_wp2
        go_roundw
        case rel =>
          go_light
          exact ⟨pre ++ [x.1], todo', hJ', hi1.out.walks hk1.out, hp2, Nat.lt_of_lt_of_le (by rw [hs1.out]; exact hsz) hk1.out.size⟩
        case measure =>
          go_light
          rw [iterLeft_walks hi1.out hk1.out]
          exact hm1.out
      · gi_wp2
        refine bodyPost_ret (results_none rfl _ _ _) rfl ?_
        go_light
        exact ⟨⟨_, rfl⟩, .inr ⟨_, trivial, hJx'⟩⟩

/-! ### slices.Collect: ints -/
theorem info_ints : (Tryz.prog.info? 3).map (fun i => (i.zero, i.size, i.bytes)) = some (some (.int .i64 0), 1, 8) := by kernel_rfl

set_option maxRecDepth 100000 in
set_option maxHeartbeats 2000000 in
theorem appendSeq_ints (gf : Nat) (lb : Array Value) (eg : ∀ args w, (callFunc gf args).run Tryz.prog w = .ok (.enter gf args) w) (Sx Sp : List Int → Prop) (N : Nat) (w0 w : World) (hseq : SeqStopsK Fence.wide 7 Tryz.prog gf lb (fun x : Int => #[Value.int .i64 x]) KeepsWalks Sx Sp N w0) (hb0 : Below w0.heap.size w0 w) (hN : N ≤ 1073741824) :
    Calls Tryz.prog 222 #[.slice none 0 0, .func (.func gf) #[] lb] w fun e w' => ∃ v xs, Sx xs ∧ e = .returned v ∧ w'.ownsRow w.heap.size 3 1 v xs.length (xs.map fun x : Int => Value.int .i64 x) ∧ Below w.heap.size w w' := by
  obtain ⟨i0, hi, hzz⟩ := Option.map_eq_some_iff.1 info_ints
  simp only [Prod.mk.injEq] at hzz
  obtain ⟨hz0, hz1, hz2⟩ := hzz
  have hseq1 := Hid.mk hseq
  have heg := Hid.mk eg
  have hb01 := Hid.mk hb0
  clear hseq eg hb0
  refine (callsIn_wide (n := 8)).1 ?_
  refine callsIn_of_wp_marks Tryz.func222 rfl trivial ?_ rfl
  simp only [Tryz.ntmps222, List.size_toArray, List.length_cons, List.length_nil, Nat.reduceAdd, Nat.reduceSub, Array.replicate_succ, Array.replicate_zero, List.push_toArray, List.append_toArray, List.nil_append, List.cons_append]
  have hFw : ∀ f, Fence.wide.fn f := fun _ => trivial
  have hFd : Fence.wide.depth = none := rfl
  have hFo : Fence.wide.round = none := rfl
  gi_wp2
  have bO := Boxed.new w 132 (.slice none 0 0)
  refine wpIn_rangeFunc_ownG rfl (by decide) (gf := gf) (lb := lb) rfl trivial heg.out hseq1.out walksK_t walksK_b (below_then hb01.out (below_one _ _)) (fun _ => rfl)
    (fun (pre : List Int) W => (∃ v, Boxed W w.heap.size 132 v ∧ W.ownsRow w.heap.size 3 1 v pre.length (pre.map fun x : Int => Value.int .i64 x) ∧ True) ∧ Below w.heap.size w W)
    (fun _ _ _ => False)
    (OwnFrom.and (Own.from (holdsRow_own w.heap.size w.heap.size 132 3 1 (fun (pre : List Int) => pre.length) (fun pre => pre.map fun x : Int => Value.int .i64 x) (fun _ _ => True)) _) (ownFrom_below (Nat.le_refl _) (by simp)))
    (fun _ _ _ _ _ hs _ _ => hs)
    ⟨⟨_, bO, World.ownsRow_nil _ _ _ _, trivial⟩, below_one _ _⟩
    (fun x => { tmps := #[.slice none 0 0, .func (.func gf) #[] lb, .pointer (some ⟨w.heap.size, 0, none⟩), undef, .slice none 0 0, Value.int .i64 x, .func (.func gf) #[] lb, Value.int .i64 x, undef, undef, undef, undef, undef], defers := [] })
    ?assign ?body ?done ?stop
  case assign =>
    intro lp x W K hK
    gi_wp2
    exact hK
  case body =>
    rintro lp pre x W ⟨⟨v, hv, hrow, -⟩, hB⟩ hlt
    have hc := hv.cell
    have hv1 := Hid.mk hv
    have hrow1 := Hid.mk hrow
    clear hv hrow bO
    gi_wp2_with (gi_at_builtin; refine wpListIn_append_own _ rfl _ _ 132 rfl w.heap.size 3 i0 (.int .i64 0) 1 8 Tryz.underlying132 hi hz0 hz1 hz2 rfl (by decide) v pre.length (pre.map fun x : Int => Value.int .i64 x) rfl (hrow1.out.alloc _) ⟨W.heap.size, 0, none⟩ 1 1 [Value.int .i64 x] rfl rfl (cell_one_new _ _ _) (by simp [Value.oneCell']) (by unfold maxLen; omega) (by omega) (by have := hB.size; simp; omega) ?_; intro v' w2 hown' hgrow hnil'; clear hnil'; obtain ⟨g', cap', rfl⟩ := ownsRow_succ hown'; obtain ⟨a1, a2, a3, a4, a5⟩ := Boxed.appended hv1.out (by decide) hrow1.out hB.size (Nat.le_refl _) hown' hgrow; have c1 := a1.cell; have f1 := a1.frozen; have a21 := Hid.mk a2; have a31 := Hid.mk a3; have a41 := Hid.mk a4; have a51 := Hid.mk a5; clear a1 a2 a3 a4 a5 hown' hgrow)
    go_light
    exact ⟨a41.out.from _, ⟨a41.out.size, fun k o hk hw => a41.out.same k o hk (Obj.not_cells_of_walk hw)⟩, ⟨⟨_, a21.out, by simpa using a31.out, trivial⟩, hB.trans a51.out⟩⟩
  case done =>
    rintro D ys W hD hS ⟨⟨v, hv, hrow, -⟩, hB⟩ hK
    have hc := hv.cell
    have hrow1 := Hid.mk hrow
    clear hv hrow bO hi hz0 hz1 hz2
    gi_wp2
    go_light
    refine ⟨by simp, .inl ⟨_, _, rfl, run_takeDeferred hK, ?_⟩⟩
    exact ⟨_, results_tmp rfl _ _ _, _, ys, hS, rfl, ownsRow_putObj hrow1.out _ hK rfl, hB.trans (belowK_b (w := w) (Nat.le_refl _) W D _ _ (by simp at hD; omega) hK rfl rfl)⟩
  case stop =>
    rintro D c' pre W _ _ h _
    exact h.elim

set_option maxHeartbeats 1000000 in
theorem collect_ints (gf : Nat) (lb : Array Value) (eg : ∀ args w, (callFunc gf args).run Tryz.prog w = .ok (.enter gf args) w) (Sx Sp : List Int → Prop) (N : Nat) (w0 w : World) (hseq : SeqStopsK Fence.wide 7 Tryz.prog gf lb (fun x : Int => #[Value.int .i64 x]) KeepsWalks Sx Sp N w0) (hb0 : Below w0.heap.size w0 w) (hN : N ≤ 1073741824) :
    Calls Tryz.prog 204 #[.func (.func gf) #[] lb] w fun e w' => ∃ v xs, Sx xs ∧ e = .returned v ∧ w'.ownsRow w.heap.size 3 1 v xs.length (xs.map fun x : Int => Value.int .i64 x) ∧ Below w.heap.size w w' := by
  have h1 := Hid.mk (appendSeq_ints gf lb eg Sx Sp N w0 w hseq hb0 hN)
  clear hseq eg hb0
  go_enter Tryz.func204, Tryz.ntmps204
  go_wp2_with (go_at_call 222; refine h1.out.mono ?_; rintro e w1 ⟨v, xs, hS, rfl, ho, hb⟩; have ho1 := Hid.mk ho; have hb1 := Hid.mk hb; have hS1 := Hid.mk hS; clear ho hb hS)
  go_ret
  go_light
  exact ⟨_, xs, hS1.out, rfl, ho1.out, hb1.out⟩

/-! ### slices.Collect: strs -/
theorem info_strs : (Tryz.prog.info? 9).map (fun i => (i.zero, i.size, i.bytes)) = some (some (.string (S.mk [])), 1, 16) := by kernel_rfl

set_option maxRecDepth 100000 in
set_option maxHeartbeats 2000000 in
theorem appendSeq_strs (gf : Nat) (lb : Array Value) (eg : ∀ args w, (callFunc gf args).run Tryz.prog w = .ok (.enter gf args) w) (Sx Sp : List S.Text → Prop) (N : Nat) (w0 w : World) (hseq : SeqStopsK Fence.wide 7 Tryz.prog gf lb (fun x : S.Text => #[Value.string (S.mk x)]) KeepsWalks Sx Sp N w0) (hb0 : Below w0.heap.size w0 w) (hN : N ≤ 1073741824) :
    Calls Tryz.prog 144 #[.slice none 0 0, .func (.func gf) #[] lb] w fun e w' => ∃ v xs, Sx xs ∧ e = .returned v ∧ w'.ownsRow w.heap.size 9 1 v xs.length (xs.map fun x : S.Text => Value.string (S.mk x)) ∧ Below w.heap.size w w' := by
  obtain ⟨i0, hi, hzz⟩ := Option.map_eq_some_iff.1 info_strs
  simp only [Prod.mk.injEq] at hzz
  obtain ⟨hz0, hz1, hz2⟩ := hzz
  have hseq1 := Hid.mk hseq
  have heg := Hid.mk eg
  have hb01 := Hid.mk hb0
  clear hseq eg hb0
  refine (callsIn_wide (n := 8)).1 ?_
  refine callsIn_of_wp_marks Tryz.func144 rfl trivial ?_ rfl
  simp only [Tryz.ntmps144, List.size_toArray, List.length_cons, List.length_nil, Nat.reduceAdd, Nat.reduceSub, Array.replicate_succ, Array.replicate_zero, List.push_toArray, List.append_toArray, List.nil_append, List.cons_append]
  have hFw : ∀ f, Fence.wide.fn f := fun _ => trivial
  have hFd : Fence.wide.depth = none := rfl
  have hFo : Fence.wide.round = none := rfl
  gi_wp2
  have bO := Boxed.new w 27 (.slice none 0 0)
  refine wpIn_rangeFunc_ownG rfl (by decide) (gf := gf) (lb := lb) rfl trivial heg.out hseq1.out walksK_t walksK_b (below_then hb01.out (below_one _ _)) (fun _ => rfl)
    (fun (pre : List S.Text) W => (∃ v, Boxed W w.heap.size 27 v ∧ W.ownsRow w.heap.size 9 1 v pre.length (pre.map fun x : S.Text => Value.string (S.mk x)) ∧ True) ∧ Below w.heap.size w W)
    (fun _ _ _ => False)
    (OwnFrom.and (Own.from (holdsRow_own w.heap.size w.heap.size 27 9 1 (fun (pre : List S.Text) => pre.length) (fun pre => pre.map fun x : S.Text => Value.string (S.mk x)) (fun _ _ => True)) _) (ownFrom_below (Nat.le_refl _) (by simp)))
    (fun _ _ _ _ _ hs _ _ => hs)
    ⟨⟨_, bO, World.ownsRow_nil _ _ _ _, trivial⟩, below_one _ _⟩
    (fun x => { tmps := #[.slice none 0 0, .func (.func gf) #[] lb, .pointer (some ⟨w.heap.size, 0, none⟩), undef, .slice none 0 0, Value.string (S.mk x), .func (.func gf) #[] lb, Value.string (S.mk x), undef, undef, undef, undef, undef], defers := [] })
    ?assign ?body ?done ?stop
  case assign =>
    intro lp x W K hK
    gi_wp2
    exact hK
  case body =>
    rintro lp pre x W ⟨⟨v, hv, hrow, -⟩, hB⟩ hlt
    have hc := hv.cell
    have hv1 := Hid.mk hv
    have hrow1 := Hid.mk hrow
    clear hv hrow bO
    gi_wp2_with (gi_at_builtin; refine wpListIn_append_own _ rfl _ _ 27 rfl w.heap.size 9 i0 (.string (S.mk [])) 1 16 Tryz.underlying27 hi hz0 hz1 hz2 rfl (by decide) v pre.length (pre.map fun x : S.Text => Value.string (S.mk x)) rfl (hrow1.out.alloc _) ⟨W.heap.size, 0, none⟩ 1 1 [Value.string (S.mk x)] rfl rfl (cell_one_new _ _ _) (by simp [Value.oneCell']) (by unfold maxLen; omega) (by omega) (by have := hB.size; simp; omega) ?_; intro v' w2 hown' hgrow hnil'; clear hnil'; obtain ⟨g', cap', rfl⟩ := ownsRow_succ hown'; obtain ⟨a1, a2, a3, a4, a5⟩ := Boxed.appended hv1.out (by decide) hrow1.out hB.size (Nat.le_refl _) hown' hgrow; have c1 := a1.cell; have f1 := a1.frozen; have a21 := Hid.mk a2; have a31 := Hid.mk a3; have a41 := Hid.mk a4; have a51 := Hid.mk a5; clear a1 a2 a3 a4 a5 hown' hgrow)
    go_light
    exact ⟨a41.out.from _, ⟨a41.out.size, fun k o hk hw => a41.out.same k o hk (Obj.not_cells_of_walk hw)⟩, ⟨⟨_, a21.out, by simpa using a31.out, trivial⟩, hB.trans a51.out⟩⟩
  case done =>
    rintro D ys W hD hS ⟨⟨v, hv, hrow, -⟩, hB⟩ hK
    have hc := hv.cell
    have hrow1 := Hid.mk hrow
    clear hv hrow bO hi hz0 hz1 hz2
    gi_wp2
    go_light
    refine ⟨by simp, .inl ⟨_, _, rfl, run_takeDeferred hK, ?_⟩⟩
    exact ⟨_, results_tmp rfl _ _ _, _, ys, hS, rfl, ownsRow_putObj hrow1.out _ hK rfl, hB.trans (belowK_b (w := w) (Nat.le_refl _) W D _ _ (by simp at hD; omega) hK rfl rfl)⟩
  case stop =>
    rintro D c' pre W _ _ h _
    exact h.elim

set_option maxHeartbeats 1000000 in
theorem collect_strs (gf : Nat) (lb : Array Value) (eg : ∀ args w, (callFunc gf args).run Tryz.prog w = .ok (.enter gf args) w) (Sx Sp : List S.Text → Prop) (N : Nat) (w0 w : World) (hseq : SeqStopsK Fence.wide 7 Tryz.prog gf lb (fun x : S.Text => #[Value.string (S.mk x)]) KeepsWalks Sx Sp N w0) (hb0 : Below w0.heap.size w0 w) (hN : N ≤ 1073741824) :
    Calls Tryz.prog 102 #[.func (.func gf) #[] lb] w fun e w' => ∃ v xs, Sx xs ∧ e = .returned v ∧ w'.ownsRow w.heap.size 9 1 v xs.length (xs.map fun x : S.Text => Value.string (S.mk x)) ∧ Below w.heap.size w w' := by
  have h1 := Hid.mk (appendSeq_strs gf lb eg Sx Sp N w0 w hseq hb0 hN)
  clear hseq eg hb0
  go_enter Tryz.func102, Tryz.ntmps102
  go_wp2_with (go_at_call 144; refine h1.out.mono ?_; rintro e w1 ⟨v, xs, hS, rfl, ho, hb⟩; have ho1 := Hid.mk ho; have hb1 := Hid.mk hb; have hS1 := Hid.mk hS; clear ho hb hS)
  go_ret
  go_light
  exact ⟨_, xs, hS1.out, rfl, ho1.out, hb1.out⟩
end Go.Proofs.YtdokiaicheillaaGreat
