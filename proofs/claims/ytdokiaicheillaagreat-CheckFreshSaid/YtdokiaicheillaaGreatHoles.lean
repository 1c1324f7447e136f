/-
  The walk of (*Blocks).holes: the iterator over the pieces that are free.
-/
import Derived.Test.YtdokiaicheillaaGreatEach
import Derived.Test.YtdokiaicheillaaGreatStillIn
namespace Go.Proofs.YtdokiaicheillaaGreat
open Go.RowKit Go.Shelf
attribute [local go_sem] Oper.semAt_some

theorem room_none {F : Fence} (hd : F.depth = none) (k : Nat) : F.room k := fun d h => by rw [hd] at h; cases h
theorem roundIn_depth {F : Fence} (hd : F.depth = none) {m m' : Nat} {P : Program} {l : Nat} {f : FuncId} {tmps : Array Value} {assign body : Code} {w : World} {R : Ending → World → Prop}
    (h : RoundIn F m P l f tmps assign body w R) : RoundIn F m' P l f tmps assign body w R := ⟨h.1, fun c cs _ => h.2 c cs (room_none hd _)⟩
theorem roundIn_in {F : Fence} (lp : Nat) {m : Nat} {P : Program} {l : Nat} {f : FuncId} {tmps : Array Value} {assign body : Code} {w : World} {R : Ending → World → Prop}
    (h : RoundIn F m P l f tmps assign body w R) : RoundIn (F.inRound lp) m P l f tmps assign body w R := h

set_option maxHeartbeats 400000 in
theorem blocks_holes (b : Nat) (w : World) :
    Calls Tryz.prog 97 #[.pointer (some ⟨b, 0, none⟩)] w fun e w' => e = .returned (.func (.func 140) #[] #[.pointer (some ⟨w.heap.size, 0, none⟩)]) ∧ w' = w.alloc (.cells #[.pointer (some ⟨b, 0, none⟩)] 75) := by
  go_enter Tryz.func97, Tryz.ntmps97
  go_wp2
  go_ret
  exact ⟨rfl, rfl⟩

theorem S.gaps_snoc (pre : List (Int × Int)) (x : Int × Int) : S.gaps 0 (pre ++ [x]) = S.gaps 0 pre ++ (if S.endOf 0 pre < x.1 then [(S.endOf 0 pre, x.1 - S.endOf 0 pre)] else []) := by
  rw [S.gaps_append]; simp [S.gaps]
theorem S.endOf_snoc (pre : List (Int × Int)) (x : Int × Int) : S.endOf 0 (pre ++ [x]) = x.1 + x.2 := by
  rw [S.endOf_append]; rfl
theorem S.gaps_prefix {pre l : List (Int × Int)} (h : pre <+: l) : S.gaps 0 pre <+: S.gaps 0 l := by
  obtain ⟨r, rfl⟩ := h
  rw [S.gaps_append]
  exact List.prefix_append _ _
theorem S.holes_prefix (u : Int) (l : List (Int × Int)) : S.gaps 0 l <+: S.holes u l := List.prefix_append _ _

theorem cell_drewN {w : World} {n : Nat} {a : Addr} {v : Value} (h : w.cell? a = some v) : (w.drewN n).cell? a = some v := h

/-- What the loop within holes keeps between two rounds, beside what the caller asks. -/
def holesInv (n0 : Nat) (lp b : Nat) (bh bb mb : Nat) (xh xb xm : Option Obj) (W' : World) (e : Int) : Prop :=
  Boxed W' n0 35 (.func (.yield lp) #[] #[]) ∧ Boxed W' (n0 + 1) 3 (.int .i64 e) ∧ Boxed W' (n0 + 2) 75 (.pointer (some ⟨b, 0, none⟩)) ∧ (bh < W'.heap.size ∧ W'.heap[bh]? = xh) ∧ (bb < W'.heap.size ∧ W'.heap[bb]? = xb) ∧ (mb < W'.heap.size ∧ W'.heap[mb]? = xm)

theorem heap_set_ne (W : World) (B : Nat) (v : Value) {k : Nat} (h : k ≠ B) : (W.setCell ⟨B, 0, none⟩ v).heap[k]? = W.heap[k]? := Below.heap_setCell W ⟨B, 0, none⟩ v k h
theorem size_set (W : World) (B : Nat) (v : Value) : W.heap.size ≤ (W.setCell ⟨B, 0, none⟩ v).heap.size := (grownBy_setCell' W B v).size

/-- What a round of the loop within holes leaves. -/
theorem holes_round {n0 N0 lp b Bh mb : Nat} {xh xb xm : Option Obj} {T : TypeId → Prop} {bs : Nat → Prop} {J : List (Int × Int) → World → Prop} {q : List (Int × Int)} {X W' : World} {en e' : Int}
    (hT : T 3 ∧ T 35 ∧ T 75) (hbs : bs Bh ∧ bs b ∧ bs mb) (hlt : ∀ k, bs k → k < n0) (hN : N0 = n0 + 3)
    (hJ : OwnT n0 T J) (hj : J q W') (hk : KeepsX n0 T bs X W') (hi : holesInv n0 lp b Bh b mb xh xb xm X en) :
    KeepsFrom N0 X (W'.setCell ⟨n0 + 1, 0, none⟩ (.int .i64 e')) ∧ KeepsX (N0 + 2) (fun t => t = 3) (fun k => k = n0 + 2 ∨ k = b ∨ k = mb) X (W'.setCell ⟨n0 + 1, 0, none⟩ (.int .i64 e')) ∧
      J q (W'.setCell ⟨n0 + 1, 0, none⟩ (.int .i64 e')) ∧ holesInv n0 lp b Bh b mb xh xb xm (W'.setCell ⟨n0 + 1, 0, none⟩ (.int .i64 e')) e' := by
  obtain ⟨h1, h2, h3, h4, h5, h6⟩ := hi
  have k1 : Boxed W' n0 _ _ := hk.cells _ _ _ _ (Nat.le_refl _) hT.2.1 h1
  have k2 : Boxed W' (n0 + 1) _ _ := hk.cells _ _ _ _ (by omega) hT.1 h2
  have k3 : Boxed W' (n0 + 2) _ _ := hk.cells _ _ _ _ (by omega) hT.2.2 h3
  have l4 := hlt _ hbs.1
  have l5 := hlt _ hbs.2.1
  have l6 := hlt _ hbs.2.2
  have hsz := size_set W' (n0 + 1) (.int .i64 e')
  have hsz2 := hk.size
  refine ⟨⟨by omega, fun k o hB hX ho => ?_⟩, ⟨by omega, fun k o hB hX ho => ?_, fun k cs t fr hB ht hX => ?_, fun k hb => ?_⟩, ownT_set hJ hj (by omega) k2 hT.1 _, k1.other (by omega) _, k2.set _, k3.other (by omega) _, ⟨by omega, ?_⟩, ⟨by omega, ?_⟩, ⟨by omega, ?_⟩⟩
  · rw [heap_set_ne _ _ _ (by omega)]; exact hk.others k o (by omega) hX ho
  · rw [heap_set_ne _ _ _ (by omega)]; exact hk.others k o (by omega) hX ho
  · subst ht; rw [heap_set_ne _ _ _ (by omega)]; exact hk.cells k cs _ fr (by omega) hT.1 hX
  · rcases hb with rfl | rfl | rfl
    · rw [heap_set_ne _ _ _ (by omega)]; exact k3.trans h3.symm
    · rw [heap_set_ne _ _ _ (by omega)]; exact hk.fixed _ hbs.2.1
    · rw [heap_set_ne _ _ _ (by omega)]; exact hk.fixed _ hbs.2.2
  · rw [heap_set_ne _ _ _ (by omega)]; exact (hk.fixed _ hbs.1).trans h4.2
  · rw [heap_set_ne _ _ _ (by omega)]; exact (hk.fixed _ hbs.2.1).trans h5.2
  · rw [heap_set_ne _ _ _ (by omega)]; exact (hk.fixed _ hbs.2.2).trans h6.2

set_option maxRecDepth 100000 in
set_option maxHeartbeats 4000000 in
theorem holes_at (n : Nat) (hn : 8 ≤ n) (T : TypeId → Prop) (hT : T 3 ∧ T 35 ∧ T 75) (bs : Nat → Prop) (Bh b mb : Nat) (u : Int) (l : List (Int × Int)) (W : World) (hbs : bs Bh ∧ bs b ∧ bs mb) (hlt : ∀ k, bs k → k < W.heap.size)
    (hB : W.cell? ⟨Bh, 0, none⟩ = some (.pointer (some ⟨b, 0, none⟩))) (hb0 : W.cell? ⟨b, 0, none⟩ = some (.int .i64 u)) (hb1 : W.cell? ⟨b, 1, none⟩ = some (.map (some mb)))
    (hm : MapAt encI encI W mb l) (hl : l.length ≤ 1073741823) (hu : S.within u l) (hu0 : 0 ≤ u) (hu1 : u ≤ 1073741824) :
    SeqAt Fence.wide n Tryz.prog 140 #[.pointer (some ⟨Bh, 0, none⟩)] encP T (KeepsX W.heap.size T bs) (fun xs => xs = S.holes u (S.each l)) (fun pre => pre <+: S.holes u (S.each l)) (l.length + 1) W := by
  intro lp J Jx hJ hJx hY hJ0
  have hn1 : 1 ≤ n := by omega
  have hY1 := Hid.mk hY
  have hm1 := Hid.mk hm
  have hJ01 := Hid.mk hJ0
  have hJo := Hid.mk hJ
  have hJxo := Hid.mk hJx
  have hlt1 := Hid.mk hlt
  have hBlt : Bh < W.heap.size := World.block_lt_of_cell? W _ hB
  have hblt : b < W.heap.size := World.block_lt_of_cell? W _ hb1
  have hbs1 := Hid.mk hbs
  have hu2 := Hid.mk hu
  have hT1 := Hid.mk hT
  clear hY hm hJ0 hbs hJ hJx hlt hu hT
  refine callsIn_of_wp_marks Tryz.func140 rfl trivial ?_ rfl
  simp only [Tryz.ntmps140, List.size_toArray, List.length_cons, List.length_nil, Nat.reduceAdd, Nat.reduceSub, Array.replicate_succ, Array.replicate_zero, List.push_toArray, List.append_toArray, List.nil_append, List.cons_append]
  have hFw : ∀ f, Fence.wide.fn f := fun _ => trivial
  have hFd : Fence.wide.depth = none := rfl
  have hFo : Fence.wide.round = none := rfl
  gi_wp2_with (gi_at_call 141; refine (callsIn_wide.2 (blocks_Each b _)).mono ?_; rintro e w1 ⟨rfl, rfl⟩)
  have hbW : Below W.heap.size W (((W.alloc (.cells #[.func (.yield lp) #[] #[]] 35)).alloc (.cells #[.int .i64 0] 3)).alloc (.cells #[.pointer (some ⟨b, 0, none⟩)] 75)) := ((below_one W _).new_ _).new_ _
  have bY : Boxed (((W.alloc (.cells #[.func (.yield lp) #[] #[]] 35)).alloc (.cells #[.int .i64 0] 3)).alloc (.cells #[.pointer (some ⟨b, 0, none⟩)] 75)) W.heap.size 35 (.func (.yield lp) #[] #[]) := ((Boxed.new W _ _).alloc _).alloc _
  have bE : Boxed (((W.alloc (.cells #[.func (.yield lp) #[] #[]] 35)).alloc (.cells #[.int .i64 0] 3)).alloc (.cells #[.pointer (some ⟨b, 0, none⟩)] 75)) (W.heap.size + 1) 3 (.int .i64 0) := by
    have := (Boxed.new (W.alloc (.cells #[.func (.yield lp) #[] #[]] 35)) 3 (.int .i64 0)).alloc (.cells #[.pointer (some ⟨b, 0, none⟩)] 75)
    rwa [World.size_alloc] at this
  have bB : Boxed (((W.alloc (.cells #[.func (.yield lp) #[] #[]] 35)).alloc (.cells #[.int .i64 0] 3)).alloc (.cells #[.pointer (some ⟨b, 0, none⟩)] 75)) (W.heap.size + 2) 75 (.pointer (some ⟨b, 0, none⟩)) := by
    have := Boxed.new ((W.alloc (.cells #[.func (.yield lp) #[] #[]] 35)).alloc (.cells #[.int .i64 0] 3)) 75 (.pointer (some ⟨b, 0, none⟩))
    rwa [World.size_alloc, World.size_alloc] at this
  have hszW : (((W.alloc (.cells #[.func (.yield lp) #[] #[]] 35)).alloc (.cells #[.int .i64 0] 3)).alloc (.cells #[.pointer (some ⟨b, 0, none⟩)] 75)).heap.size = W.heap.size + 3 := by simp
  have hJW := Hid.mk (ownT_alloc hJo.out (ownT_alloc hJo.out (ownT_alloc hJo.out hJ01.out (.cells #[.func (.yield lp) #[] #[]] 35)) (.cells #[.int .i64 0] 3)) (.cells #[.pointer (some ⟨b, 0, none⟩)] 75))
  generalize (((W.alloc (.cells #[.func (.yield lp) #[] #[]] 35)).alloc (.cells #[.int .i64 0] 3)).alloc (.cells #[.pointer (some ⟨b, 0, none⟩)] 75)) = W0 at *
  have hmlt := hm1.out.lt
  have hseq : ∀ W', Below W0.heap.size W0 W' → W'.heap.size = W0.heap.size + 2 → SeqAt Fence.wide (n - 1) Tryz.prog 170 #[.pointer (some ⟨W.heap.size + 2, 0, none⟩)] encP (fun t => t = 3) (KeepsX (W0.heap.size + 2) (fun t => t = 3) (fun k => k = W.heap.size + 2 ∨ k = b ∨ k = mb)) (fun xs => xs = S.each l) (fun pre => pre <+: S.each l) l.length W' := by
    intro W' hb' hs'
    rw [← hs']
    have hbWW : Below W.heap.size W W' := below_then hbW hb'
    exact each_at (n - 1) (by omega) (fun t => t = 3) rfl (fun k => k = W.heap.size + 2 ∨ k = b ∨ k = mb) (W.heap.size + 2) b mb l W' ⟨.inl rfl, .inr (.inl rfl), .inr (.inr rfl)⟩ (below_reads hb' _ _ bB.cell) ((hbWW.cell (p := ⟨b, 1, none⟩) hblt).trans hb1) (hm1.out.kept (hbWW.block mb hmlt)) (by omega)
  obtain ⟨xh, hxh⟩ : ∃ xh, W.heap[Bh]? = xh := ⟨_, rfl⟩
  obtain ⟨xb, hxb⟩ : ∃ xb, W.heap[b]? = xb := ⟨_, rfl⟩
  obtain ⟨xm, hxm⟩ : ∃ xm, W.heap[mb]? = xm := ⟨_, rfl⟩
  refine wpIn_range_at rfl hn1 (gf := 170) (lb := #[.pointer (some ⟨W.heap.size + 2, 0, none⟩)]) rfl trivial (enters_of Tryz.func170 (by kernel_rfl) rfl)
    hseq (by rintro k (rfl | rfl | rfl) <;> omega) (fun _ => rfl)
    (fun pre W' => J (S.gaps 0 pre) W' ∧ holesInv W.heap.size lp b Bh b mb xh xb xm W' (S.endOf 0 pre))
    (fun c pre W' => c = .ret ∧ ∃ q, q <+: S.gaps 0 pre ∧ Jx q W')
    (ownT_and (ownT_map (ownT_weak hJo.out (by omega) (by rintro t rfl; exact hT1.out.1)) _) ?hI)
    (fun c s X Y row hs hg hr => ⟨hs.1, by obtain ⟨q, hq, hx⟩ := hs.2; exact ⟨q, hq, (ownT_weak hJxo.out (show W.heap.size ≤ W0.heap.size by omega) (by rintro t rfl; exact hT1.out.1)) q X Y row hx hg hr⟩⟩)
    ⟨hJW.out, bY, bE, bB, ⟨by omega, (hbW.block _ hBlt).trans hxh⟩, ⟨by omega, (hbW.block _ hblt).trans hxb⟩, ⟨by omega, (hbW.block _ hmlt).trans hxm⟩⟩
    (fun x => { tmps := #[.func (.yield lp) #[] #[], .pointer (some ⟨Bh, 0, none⟩), .pointer (some ⟨W.heap.size, 0, none⟩), .pointer (some ⟨W.heap.size + 1, 0, none⟩), .int .i64 x.1, .int .i64 x.2, .pointer (some ⟨b, 0, none⟩), .func (.func 170) #[] #[.pointer (some ⟨W.heap.size + 2, 0, none⟩)], .int .i64 x.1, .int .i64 x.2, undef, undef, undef, undef, undef, undef, undef, undef, undef, undef, undef, undef, undef, undef, undef, undef, undef, undef, undef, undef, undef, undef, undef, undef, undef, undef, undef, undef, undef, undef], defers := [] })
    ?assign ?body ?done ?stop
  case hI =>
    exact ownT_and (ownT_boxed _ _ _ _ _ (by omega)) (ownT_and (ownT_boxed _ _ _ _ (fun (pre : List (Int × Int)) => Value.int .i64 (S.endOf 0 pre)) (by omega)) (ownT_and (ownT_boxed _ _ _ _ _ (by omega)) (ownT_and (ownT_block _ _ (fun _ => Bh) (fun _ => xh) (fun _ => by omega)) (ownT_and (ownT_block _ _ (fun _ => b) (fun _ => xb) (fun _ => by omega)) (ownT_block _ _ (fun _ => mb) (fun _ => xm) (fun _ => by omega))))))
  case assign =>
    intro lq x X K hK
    gi_wp2
    exact hK
  case body =>
    rintro lq pre x X hlq ⟨rr, hrr⟩ ⟨hj, hinv⟩ hlen hsp
    have hwi := S.within_each hu2.out
    have hxw := hwi x (hsp.subset (by simp))
    have hwp : S.within u pre := fun y hy => hwi y (hsp.subset (by simp [hy]))
    obtain ⟨he0, he1⟩ := S.endOf_bounds hwp (Int.le_refl 0) hu0
    have hgs := S.gaps_snoc pre x
    have hes := S.endOf_snoc pre x
    have hpx := (S.gaps_prefix hsp).trans (S.holes_prefix u (S.each l))
    have hgl : (S.gaps 0 pre).length < l.length + 1 := by have := S.gaps_length pre 0; omega
    have cY := hinv.1.cell
    have cE := hinv.2.1.cell
    have fE := hinv.2.1.frozen
    generalize hen : S.endOf 0 pre = en at *
    have hn3 : 1 ≤ n - 1 - 1 := by omega
    have hw2 : wrap64 (x.1 + x.2) = x.1 + x.2 := by unfold wrap64; omega
    have hw3 : IntKind.i64.wrap (x.1 + x.2) = x.1 + x.2 := by rw [IntWalk.i64_left]; exact hw2
    have hgs1 := Hid.mk hgs
    have hes1 := Hid.mk hes
    have hpx1 := Hid.mk hpx
    have hinv1 := Hid.mk hinv
    have hj1 := Hid.mk hj
    have hsp1 := Hid.mk hsp
    have hsz1 := Hid.mk hszW
    clear hgs hes hpx hinv hj hsp hwi hwp hen hB hb0 hb1 hseq bY bE bB hrr hszW hxh hxb hxm
    by_cases hlx : en < x.1
    · have t1 : decide (en < x.1) = true := by simp [hlx]
      have hwr : IntKind.i64.wrap (x.1 - en) = x.1 - en := by rw [IntWalk.i64_left]; unfold wrap64; omega
      have hwr2 : wrap64 (x.1 - en) = x.1 - en := by unfold wrap64; omega
      have hq : Hid (S.gaps 0 (pre ++ [x]) = S.gaps 0 pre ++ [(en, x.1 - en)]) := by show _ = _; rw [hgs1.out, if_pos hlx]
      obtain ⟨fn, tmps, assign, body, hy, hR⟩ := hY1.out (S.gaps 0 pre) (en, x.1 - en) X hj1.out hgl (by rw [← hq.out]; exact hpx1.out)
      dsimp only [encP] at hy
      have hR2 := Hid.mk hR
      clear hR
      gi_wp2
      refine (roundIn_in lq (roundIn_depth hFd hR2.out)).mono ?_
      rintro e W' (⟨rfl, hJ', hk⟩ | ⟨rfl, hJx', hkf⟩)
      · have kE : Boxed W' (W.heap.size + 1) _ _ := hk.cells _ _ _ _ (by omega) hT1.out.1 hinv1.out.2.1
        have cE' := kE.cell
        have fE' := kE.frozen
        have hk1 := Hid.mk hk
        have hJ1 := Hid.mk hJ'
        clear hk hJ' kE hy hR2
        gi_wp2
        go_light
        obtain ⟨r1, r2, r3, r4⟩ := holes_round (e' := x.1 + x.2) hT1.out hbs1.out hlt1.out hsz1.out hJo.out hJ1.out hk1.out hinv1.out
        exact ⟨r1, r2, by rw [hq.out]; exact r3, by rw [hes1.out]; exact r4⟩
      · gi_wp2
        go_light
        exact ⟨⟨hkf.size, fun k o hk => hkf.same k o (by have := hsz1.out; omega)⟩, rfl, _, by rw [hq.out]; exact List.prefix_refl _, hJx'⟩
    · have t1 : decide (en < x.1) = false := by simp [hlx]
      have hq : Hid (S.gaps 0 (pre ++ [x]) = S.gaps 0 pre) := by show _ = _; rw [hgs1.out, if_neg hlx, List.append_nil]
      gi_wp2
      go_light
      obtain ⟨r1, r2, r3, r4⟩ := holes_round (e' := x.1 + x.2) hT1.out hbs1.out hlt1.out hsz1.out hJo.out hj1.out (KeepsX.refl W.heap.size T bs X) hinv1.out
      exact ⟨r1, r2, by rw [hq.out]; exact r3, by rw [hes1.out]; exact r4⟩
  case done =>
    rintro D ys X hD rfl ⟨hj, bY1, bE1, bB1, hx1, hx2, hx3⟩ hK
    have hwi := S.within_each hu2.out
    obtain ⟨he0, he1⟩ := S.endOf_bounds hwi (Int.le_refl 0) hu0
    have cY := bY1.cell
    have cE := bE1.cell
    have cH : X.cell? ⟨Bh, 0, none⟩ = some (.pointer (some ⟨b, 0, none⟩)) := by simpa only [World.cell?, hx1.2.trans hxh.symm] using hB
    have cb : X.cell? ⟨b, 0, none⟩ = some (.int .i64 u) := by simpa only [World.cell?, hx2.2.trans hxb.symm] using hb0
    generalize hen : S.endOf 0 (S.each l) = en at *
    have hen1 := Hid.mk hen
    have hj1 := Hid.mk hj
    have hwi1 := Hid.mk hwi
    clear hen hj hwi bY1 bE1 bB1 hx1 hx2 hx3 hB hb0 hb1 hseq bY bE bB
    by_cases hlu : en < u
    · have t1 : decide (en < u) = true := by simp [hlu]
      gi_wp2
      gi_quiet (fail)
      have hjq := Hid.mk (show J (S.gaps 0 (S.each l)) (X.drewN nq).drew from hJo.out _ _ (X.drewN nq).drew none hj1.out ⟨rfl, rfl, rfl, Nat.le_refl _, fun _ _ _ => rfl⟩ (fun r e => by cases e))
      have hwr : IntKind.i64.wrap (u - en) = u - en := by rw [IntKind.wrap_i64]; go_num
      obtain ⟨fn, tmps, assign, body, hy, hR⟩ := hY1.out (S.gaps 0 (S.each l)) (en, u - en) (X.drewN nq).drew hjq.out (by have := S.gaps_length (S.each l) 0; rw [S.each_length] at this; omega) (by rw [S.holes, hen1.out, if_pos hlu]; exact List.prefix_refl _)
      dsimp only [encP] at hy
      have hR2 := Hid.mk (hR.mono (R' := fun e W' => ∃ bv, e = .returned (.bool bv) ∧ W'.heap[D]? = some (.deferred (some [])) ∧ ((bv = true ∧ J (S.gaps 0 (S.each l) ++ [(en, u - en)]) W') ∨ (bv = false ∧ Jx (S.gaps 0 (S.each l) ++ [(en, u - en)]) W'))) (fun e W' h => h.elim (fun ⟨h1, h2, h3⟩ => ⟨true, h1, h3.others D _ (by omega) hK rfl, .inl ⟨rfl, h2⟩⟩) (fun ⟨h1, h2, h3⟩ => ⟨false, h1, h3.same D _ (by omega) hK rfl, .inr ⟨rfl, h2⟩⟩)))
      clear hR
      gi_wp2
      refine wpIn_still_tail lets_wide 8 (by kernel_rfl) (by kernel_rfl) ?_
      simp only [List.take_succ_cons, List.take_zero, List.drop_succ_cons, List.drop_zero]
      have cY' : (X.drewN nq).drew.cell? ⟨W.heap.size, 0, none⟩ = _ := cY
      have cE' : (X.drewN nq).drew.cell? ⟨W.heap.size + 1, 0, none⟩ = _ := cE
      have cH' : (X.drewN nq).drew.cell? ⟨Bh, 0, none⟩ = _ := cH
      have cb' : (X.drewN nq).drew.cell? ⟨b, 0, none⟩ = _ := cb
      have hD' : (X.drewN nq).drew.heap[D]? = _ := hK
      have hx' : W.heap.size + 1 < (X.drewN nq).drew.heap.size := by have := (Array.getElem?_eq_some_iff.1 hK).1; show _ < X.heap.size; omega
      clear hjq cY cE cH cb hK
      generalize (X.drewN nq).drew = X' at *
      repeat still_step
      refine wpStill_nil ?_
      gi_wp2_with (refine hR2.out.mono ?_; rintro e W' ⟨bv, rfl, hKD, hbv⟩)
      go_light
      refine ⟨by simp, .inl ⟨_, _, rfl, run_takeDeferred hKD, ?_⟩⟩
      refine ⟨_, results_none rfl _ _ _, ⟨_, rfl⟩, ?_⟩
      have hh : S.holes u (S.each l) = S.gaps 0 (S.each l) ++ [(en, u - en)] := by rw [S.holes, hen1.out, if_pos hlu]
      rcases hbv with ⟨-, hJ2⟩ | ⟨-, hJ2⟩
      · exact .inl ⟨_, rfl, by rw [hh]; exact hJo.out _ _ _ (some D) hJ2 (grownBy_putObj' W' D _) (fun r e => by cases e; exact ⟨by omega, _, hKD, fun _ _ _ e => by cases e⟩)⟩
      · exact .inr ⟨_, by rw [hh]; exact List.prefix_refl _, hJxo.out _ _ _ (some D) hJ2 (grownBy_putObj' W' D _) (fun r e => by cases e; exact ⟨by omega, _, hKD, fun _ _ _ e => by cases e⟩)⟩
    · have t1 : decide (en < u) = false := by simp [hlu]
      gi_wp2
      gi_quiet (fail)
      gi_wp2
      go_light
      have hKq : (X.drewN nq).heap[D]? = some (.deferred (some [])) := hK
      refine ⟨by simp, .inl ⟨_, _, rfl, run_takeDeferred hKq, ?_⟩⟩
      refine ⟨_, results_none rfl _ _ _, ⟨_, rfl⟩, .inl ⟨_, rfl, ?_⟩⟩
      have hh : S.holes u (S.each l) = S.gaps 0 (S.each l) := by rw [S.holes, hen1.out, if_neg (by omega), List.append_nil]
      rw [hh]
      exact hJo.out _ _ _ (some D) (show J (S.gaps 0 (S.each l)) (X.drewN nq) from hJo.out _ _ _ none hj1.out ⟨rfl, rfl, rfl, Nat.le_refl _, fun _ _ _ => rfl⟩ (fun r e => by cases e)) (grownBy_putObj' _ D _) (fun r e => by cases e; exact ⟨by omega, _, hKq, fun _ _ _ e => by cases e⟩)
  case stop =>
    rintro D c pre X hD hsp ⟨rfl, q, hq, hx⟩ hK
    gi_wp2
    go_light
    refine ⟨by simp, .inl ⟨_, _, rfl, run_takeDeferred hK, ?_⟩⟩
    refine ⟨_, results_none rfl _ _ _, ⟨_, rfl⟩, .inr ⟨q, hq.trans ((S.gaps_prefix hsp).trans (S.holes_prefix _ _)), ?_⟩⟩
    exact hJxo.out _ _ _ (some D) hx (grownBy_putObj' _ D _) (fun r e => by cases e; exact ⟨by omega, _, hK, fun _ _ _ e => by cases e⟩)
end Go.Proofs.YtdokiaicheillaaGreat
