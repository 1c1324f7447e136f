/-
  The walks of count.Units and count.RetireAll.
-/
import Derived.Test.YtdokiaicheillaaGreatObj
import Derived.Test.YtdokiaicheillaaGreatDefineY
import Derived.LoopTactic
import Derived.Deep.RegionHeld3
import Derived.Test.YtdokiaicheillaaGreatEvolve
import Derived.Test.YtdokiaicheillaaGreatKeysH
import Derived.Test.YtdokiaicheillaaGreatRootSet
namespace Go.Proofs.YtdokiaicheillaaGreat
open Go.RowKit
attribute [local go_sem] Oper.semAt_some

namespace S
def holeSum (l : List (Int × Int)) : Int := (l.map (·.2)).sum
theorem holeSum_snoc (l : List (Int × Int)) (x : Int × Int) : holeSum (l ++ [x]) = holeSum l + x.2 := by simp [holeSum]
/-- How many units are in blocks. -/
def used (u : Int) (l : List (Int × Int)) : Int := u - holeSum (holes u (each l))
theorem gaps_pos : ∀ (l : List (Int × Int)) (e : Int) (x : Int × Int), x ∈ gaps e l → 1 ≤ x.2
  | [], _, x, h => by cases h
  | y :: r, e, x, h => by
    simp only [gaps, List.mem_append] at h
    rcases h with h | h
    · split at h
      · simp only [List.mem_singleton] at h
        subst h
        simp only
        omega
      · cases h
    · exact gaps_pos r _ x h
theorem holes_pos {u : Int} {l : List (Int × Int)} {x : Int × Int} (h : x ∈ holes u l) : 1 ≤ x.2 := by
  simp only [holes, List.mem_append] at h
  rcases h with h | h
  · exact gaps_pos _ _ _ h
  · split at h
    · simp only [List.mem_singleton] at h
      subst h
      simp only
      omega
    · cases h
theorem holeSum_bounds {b : Int} : ∀ {l : List (Int × Int)}, (∀ x, x ∈ l → 0 ≤ x.2 ∧ x.2 ≤ b) → 0 ≤ holeSum l ∧ holeSum l ≤ b * l.length
  | [], _ => by simp [holeSum]
  | x :: r, h => by
    have h1 := holeSum_bounds (l := r) (fun y hy => h y (by simp [hy]))
    have h2 := h x (by simp)
    have e : holeSum (x :: r) = x.2 + holeSum r := by simp [holeSum]
    rw [e, List.length_cons]
    push_cast
    rw [Int.mul_add, Int.mul_one]
    omega
end S

def usedInv (w : World) (b mb : Nat) (W : World) (xb xm : Option Obj) (v : Int) : Prop :=
  Boxed W w.heap.size 3 (.int .i64 v) ∧ (b < W.heap.size ∧ W.heap[b]? = xb) ∧ (mb < W.heap.size ∧ W.heap[mb]? = xm) ∧ Below w.heap.size w W
theorem usedInv_own {β : Type} {B : Nat} {T : TypeId → Prop} {w : World} {b mb : Nat} {xb xm : Option Obj} (f : β → Int) (hB : w.heap.size + 1 ≤ B) (hb : b < w.heap.size) (hm : mb < w.heap.size) : OwnT B T (fun (s : β) W => usedInv w b mb W xb xm (f s)) :=
  ownT_and (ownT_boxed _ _ _ _ (fun s => .int .i64 (f s)) (by omega)) (ownT_and (ownT_block _ _ (fun _ => b) (fun _ => xb) (fun _ => by omega)) (ownT_and (ownT_block _ _ (fun _ => mb) (fun _ => xm) (fun _ => by omega)) (ownT_below (by omega) (Nat.le_refl _))))

set_option maxRecDepth 100000 in
set_option maxHeartbeats 4000000 in
theorem blocks_Used (b mb : Nat) (u : Int) (l : List (Int × Int)) (w : World) (h : BlocksAt w b mb u l) :
    Calls Tryz.prog 82 #[.pointer (some ⟨b, 0, none⟩)] w fun e w' => e = .returned (.int .i64 (S.used u l)) ∧ Below w.heap.size w w' := by
  have h1 := Hid.mk h
  have hu0 := h.u0
  have hu1 := h.u1
  have hfew := Hid.mk h.few
  have hblt : b < w.heap.size := World.block_lt_of_cell? w _ h.c0
  have hmlt := h.map.lt
  have c0 := h.c0
  have hbnd : Hid (∀ pre, pre <+: S.holes u (S.each l) → 0 ≤ S.holeSum pre ∧ S.holeSum pre ≤ 1024 * 1025) := fun pre hp => by
    have h2 := S.holeSum_bounds (b := 1024) (l := pre) (fun x hx => by
      have hm : x ∈ S.holes u (S.each l) := hp.subset hx
      have h3 := S.holes_ok (S.within_each h1.out.inside) hu0 x hm
      have h4 := S.holes_pos hm
      omega)
    have h5 := hp.length_le
    have h6 := S.holes_length u (S.each l)
    rw [S.each_length] at h6
    have h7 := hfew.out
    have h8 : (1024 : Int) * pre.length ≤ 1024 * 1025 := by omega
    omega
  clear h
  refine (callsIn_wide (n := 12)).1 ?_
  refine callsIn_of_wp_marks Tryz.func82 rfl trivial ?_ rfl
  simp only [Tryz.ntmps82, List.size_toArray, List.length_cons, List.length_nil, Nat.reduceAdd, Nat.reduceSub, Array.replicate_succ, Array.replicate_zero, List.push_toArray, List.append_toArray, List.nil_append, List.cons_append]
  have hFw : ∀ f, Fence.wide.fn f := fun _ => trivial
  have hFd : Fence.wide.depth = none := rfl
  have hFo : Fence.wide.round = none := rfl
  gi_wp2_with (gi_at_call 97; refine (callsIn_wide.2 (blocks_holes b _)).mono ?_; rintro e w1 ⟨rfl, rfl⟩)
  have hbW : Below w.heap.size w ((w.alloc (.cells #[.int .i64 u] 3)).alloc (.cells #[.pointer (some ⟨b, 0, none⟩)] 75)) := (below_one w _).new_ _
  have b0 : Boxed ((w.alloc (.cells #[.int .i64 u] 3)).alloc (.cells #[.pointer (some ⟨b, 0, none⟩)] 75)) w.heap.size 3 (.int .i64 u) := (Boxed.new w _ _).alloc _
  have b4 : Boxed ((w.alloc (.cells #[.int .i64 u] 3)).alloc (.cells #[.pointer (some ⟨b, 0, none⟩)] 75)) (w.heap.size + 1) 75 (.pointer (some ⟨b, 0, none⟩)) := by
    have := Boxed.new (w.alloc (.cells #[.int .i64 u] 3)) 75 (.pointer (some ⟨b, 0, none⟩))
    rwa [World.size_alloc] at this
  have hszW : ((w.alloc (.cells #[.int .i64 u] 3)).alloc (.cells #[.pointer (some ⟨b, 0, none⟩)] 75)).heap.size = w.heap.size + 2 := by simp
  generalize ((w.alloc (.cells #[.int .i64 u] 3)).alloc (.cells #[.pointer (some ⟨b, 0, none⟩)] 75)) = W0 at *
  have hseq : ∀ W, Below W0.heap.size W0 W → W.heap.size = W0.heap.size + 2 → SeqAt Fence.wide (12 - 1) Tryz.prog 140 #[.pointer (some ⟨w.heap.size + 1, 0, none⟩)] encP takeT (KeepsX (W0.heap.size + 2) takeT (fun k => k = w.heap.size + 1 ∨ k = b ∨ k = mb)) (fun xs => xs = S.holes u (S.each l)) (fun pre => pre <+: S.holes u (S.each l)) (l.length + 1) W := by
    intro W hW hs
    rw [← hs]
    have hbWW : Below w.heap.size w W := below_then hbW hW
    have hk := h1.out.kept (hbWW.block _ hblt) (hbWW.block _ hmlt)
    exact holes_at 11 (by omega) takeT ⟨.inl rfl, .inr (.inl rfl), .inr (.inr rfl)⟩ (fun k => k = w.heap.size + 1 ∨ k = b ∨ k = mb) (w.heap.size + 1) b mb u l W ⟨.inl rfl, .inr (.inl rfl), .inr (.inr rfl)⟩ (by rintro k (rfl | rfl | rfl) <;> omega) (below_reads hW _ _ b4.cell) hk.c0 hk.c1 hk.map (by have := hfew.out; omega) hk.inside hk.u0 (by have := hk.u1; omega)
  obtain ⟨xb, hxb⟩ : ∃ xb, w.heap[b]? = xb := ⟨_, rfl⟩
  obtain ⟨xm, hxm⟩ : ∃ xm, w.heap[mb]? = xm := ⟨_, rfl⟩
  refine wpIn_range_at rfl (by decide) (gf := 140) (lb := #[.pointer (some ⟨w.heap.size + 1, 0, none⟩)]) rfl trivial (enters_of Tryz.func140 (by kernel_rfl) rfl)
    hseq (by rintro k (rfl | rfl | rfl) <;> omega) (fun _ => rfl)
    (fun pre W => usedInv w b mb W xb xm (u - S.holeSum pre))
    (fun _ _ _ => False)
    ?hI ?hIx ⟨by simpa [S.holeSum] using b0, ⟨by omega, (hbW.block _ hblt).trans hxb⟩, ⟨by omega, (hbW.block _ hmlt).trans hxm⟩, hbW⟩
    (fun x => { tmps := #[.pointer (some ⟨b, 0, none⟩), undef, .int .i64 0, .pointer (some ⟨w.heap.size, 0, none⟩), undef, .int .i64 x.2, .pointer (some ⟨b, 0, none⟩), .pointer (some ⟨b, 0, none⟩), .pointer (some ⟨b, 0, none⟩), .int .i64 u, .pointer (some ⟨b, 0, none⟩), .func (.func 140) #[] #[.pointer (some ⟨w.heap.size + 1, 0, none⟩)], .int .i64 x.1, .int .i64 x.2, undef, undef, undef, undef], defers := [] })
    ?assign ?body ?done ?stop
  case hI => exact usedInv_own (fun pre => u - S.holeSum pre) (by omega) hblt hmlt
  case hIx =>
    rintro c pre X Y row h
    exact h.elim
  case assign =>
    intro lq x X K hK
    gi_wp2
    exact hK
  case body =>
    rintro lq pre x X hlq ⟨rr, hrr⟩ ⟨i0, ib, im, io⟩ hlen hsp
    have c1 := i0.cell
    have f1 := i0.frozen
    have hb2 := hbnd.out _ hsp
    rw [S.holeSum_snoc] at hb2
    have hb3 := hbnd.out pre (List.IsPrefix.trans (List.prefix_append _ _) hsp)
    have e1 : IntKind.i64.wrap (u - S.holeSum pre - x.2) = u - S.holeSum (pre ++ [x]) := by rw [IntWalk.i64_left, S.holeSum_snoc]; unfold wrap64; omega
    have e2 : wrap64 (u - S.holeSum pre - x.2) = u - S.holeSum (pre ++ [x]) := by rw [S.holeSum_snoc]; unfold wrap64; omega
    have hinv : Hid (usedInv w b mb (X.setCell ⟨w.heap.size, 0, none⟩ (.int .i64 (u - S.holeSum (pre ++ [x])))) xb xm (u - S.holeSum (pre ++ [x]))) := by
      have s2 := size_set X w.heap.size (.int .i64 (u - S.holeSum (pre ++ [x])))
      exact ⟨i0.set _, ⟨by have := ib.1; omega, by rw [heap_set_ne _ _ _ (by omega)]; exact ib.2⟩, ⟨by have := im.1; omega, by rw [heap_set_ne _ _ _ (by omega)]; exact im.2⟩, io.setCell (p := ⟨w.heap.size, 0, none⟩) (Nat.le_refl _) _⟩
    have hXs : W0.heap.size < X.heap.size := by have := (Array.getElem?_eq_some_iff.1 hrr).1; omega
    clear i0 ib im io hrr hsp hseq b0 b4 hxb hxm hb2 hb3
    gi_wp2
    go_light
    exact ⟨(KeepsOthers.setCell _ _ _).from _, KeepsX.grown (grownBy_setCell' X w.heap.size _) (fun k e => by cases e; exact ⟨by omega, by rintro (h | h | h) <;> omega⟩) (by rintro k (rfl | rfl | rfl) <;> omega), hinv.out⟩
  case done =>
    rintro D ys X hD rfl ⟨i0, ib, im, io⟩ hK
    have c1 := i0.cell
    have hK1 := Hid.mk hK
    have io1 := Hid.mk io
    clear i0 ib im io hseq b0 b4 hxb hxm hK
    gi_wp2
    go_light
    refine ⟨by simp, .inl ⟨_, _, rfl, run_takeDeferred hK1.out, ?_⟩⟩
    exact ⟨_, results_tmp rfl _ _ _, rfl, Below.trans io1.out (belowK_b (w := w) (Nat.le_refl _) X D _ _ (by omega) hK1.out rfl rfl)⟩
  case stop =>
    rintro D c pre X hD hsp h
    exact h.elim

set_option maxHeartbeats 2000000 in
theorem obj_Used (p : Parts) (X : S.Heap) (w : World) (h : HeapAt w p X) :
    Calls Tryz.prog 30 #[.pointer (some ⟨p.H, 0, none⟩)] w fun e w' => e = .returned (.int .i64 (S.used X.units X.blks)) ∧ Below w.heap.size w w' := by
  have hU := Hid.mk (blocks_Used p.b p.bb X.units X.blks w h.blk)
  have c1 := h.c1
  clear h
  go_enter Tryz.func30, Tryz.ntmps30
  go_wp2_with (go_at_call 82; (with_reducible refine hU.out.mono ?_); rintro e w1 ⟨rfl, hb⟩; have hb1 := Hid.mk hb; clear hb)
  go_ret
  go_light
  exact ⟨rfl, hb1.out⟩
end Go.Proofs.YtdokiaicheillaaGreat

namespace Go.Proofs.YtdokiaicheillaaGreat
open Go.RowKit

theorem below_drewN' {n : Nat} {w w1 : World} (h : Below n w w1) (m : Nat) : Below n w (w1.drewN m) := ⟨h.os, h.tape, h.output, h.size, h.block⟩
theorem SortAt.below {w w' : World} {sb : Nat} {v : Value} {s : S.Kinds} (h : SortAt w sb v s) (hb : Below w.heap.size w w') : SortAt w' sb v s := by
  obtain ⟨rows, r1, -, -⟩ := h.row
  exact h.kept (hb.block _ (Array.getElem?_eq_some_iff.1 h.head).1) (fun k hk => hb.block _ (own_lt r1 (mem_rowF.1 hk))) (fun b cs t fr _ hk => (hb.block b (Array.getElem?_eq_some_iff.1 hk).1).trans hk)

set_option maxRecDepth 100000 in
set_option maxHeartbeats 4000000 in
theorem schema_Retire_one (c mb : Nat) (ps : List Spot) (C : List (S.Text × S.Kinds)) (a : S.Text) (o : Int) (T : S.Table) (A2 : Option Addr) (n2 c2 : Nat) (w : World) (h : CatAt w c mb ps C) (hn : getK C a = some ⟨o, [T]⟩) (hk : S.Kinds.ok ⟨o, [T]⟩) (hr : S.right T.new = true) :
    Calls Tryz.prog 133 #[.pointer (some ⟨c, 0, none⟩), .string (S.mk a), .slice A2 n2 c2] w fun e w' => e = .returned (.tuple #[.int .i64 0, .int .i64 0]) ∧ Only [mb] w w' := by
  have c0 : w.cell? ⟨c, 0, none⟩ = some (.map (some mb)) := by simp [World.cell?, h.head]
  have hcl : c < w.heap.size := World.block_lt_of_cell? w _ c0
  have hml := h.map.lt
  have hcm : c ≠ mb := by
    have := h.apart
    simp only [catF, List.nodup_cons, List.mem_cons, not_or] at this
    exact this.1.1
  obtain ⟨p, -, -, hp, hs⟩ := (getK_spot a h.names h.sorts).1 _ hn
  have hl := run_look (P := Tryz.prog) (key_text Tryz.underlying9) Tryz.underlying91 h.map a hp false
  obtain ⟨nm, sb, v⟩ := p
  dsimp only [encB] at hs hl
  obtain ⟨rows, r1, -, -⟩ := hs.row
  rcases r1.2 with ⟨rfl, e⟩ | ⟨g, cap, cur, rfl, -, -, hcap, -⟩
  · exfalso
    exact absurd e (by simp)
  obtain ⟨vo, vn, vm, d0, d1, d2, hro, hrn, hrm⟩ := hs.at (j := 0) (T := T) rfl
  rw [Nat.zero_mul] at d0 d1 d2
  obtain ⟨Ao, co, rfl, -⟩ := hro
  obtain ⟨An, cn, rfl, hrow, -, hA⟩ := hrn
  obtain ⟨Am, cm, rfl, -⟩ := hrm
  have q0 := hs.c0
  have q1 := hs.c1
  have hnw : (S.Kinds.newest ⟨o, [T]⟩) = o := by simp [S.Kinds.newest]
  have hNe : ∀ W, Below w.heap.size w W → Hid (Calls Tryz.prog 117 #[.pointer (some ⟨sb, 0, none⟩)] W fun e w' => e = .returned (.int .i64 o) ∧ ∃ m, w' = W.drewN m) := fun W hW => by
    have := sort_newest sb _ _ W (hs.below hW) hk
    rwa [hnw] at this
  have hSm : ∀ W, Below w.heap.size w W → Hid (Calls Tryz.prog 47 #[.slice An T.new.length cn] W fun e w' => ∃ vo vn vm, e = .returned (.agg #[vo, vn, vm]) ∧ (∃ A n c, vo = .slice A n c) ∧ (∃ A n c, vn = .slice A n c) ∧ (∃ A n c, vm = .slice A n c) ∧ Below W.heap.size W w') := fun W hW => by
    have hsh : Short T.new := fun i f hf => by
      have := (S.right_at hr hf).1
      simp only [S.nameOk, Bool.and_eq_true, decide_eq_true_eq] at this
      omega
    refine (table_Same An cn T.new W (Row.below (Row.mono hrow (fun _ _ h => h)) hW) hA hsh hr).mono fun e w' ⟨vo, vn, vm, e1, h1, h2, h3, _, h4⟩ => ?_
    obtain ⟨A1, k1, rfl⟩ := own_slice h1
    obtain ⟨A2, k2, rfl⟩ := own_slice h2
    obtain ⟨A3, k3, rfl⟩ := own_slice h3
    exact ⟨_, _, _, e1, ⟨_, _, _, rfl⟩, ⟨_, _, _, rfl⟩, ⟨_, _, _, rfl⟩, h4⟩
  have hst : ∀ W (sb : Nat), Below w.heap.size w W → ∃ ob, (Instr.mapUpdate 91 (.map (some mb)) (.string (S.mk a)) (.pointer (some ⟨sb, 0, none⟩))).run Tryz.prog W = .ok () (W.putObj mb ob) := fun W sb hb => by
    obtain ⟨ob, h3, -⟩ := run_store (P := Tryz.prog) (key_text Tryz.underlying9) Tryz.underlying91 (h.below hb).map a sb
    exact ⟨ob, h3⟩
  have hgl : g < w.heap.size := World.block_lt_of_cell? w _ d0
  generalize T.new.length = tn at *
  have hst1 := Hid.mk hst
  have hNe1 := Hid.mk hNe; have hSm1 := Hid.mk hSm; clear hNe hSm
  clear h hn hk hr hp hs r1 hrow hA hnw hst
  simp only [List.length_cons, List.length_nil, Nat.zero_add] at q1
  have hB0 : Hid (Below w.heap.size w w) := Below.refl _ _
  go_enter Tryz.func133, Tryz.ntmps133
  go_wp2
  go_loopw [9] (fun v9 wr => v9 = .int .i64 o ∧ wr = w) (fun _ _ => 0)
  case atStart => exact ⟨rfl, rfl⟩
  case round =>
    obtain ⟨rfl, rfl⟩ := hrel
    go_wp2_with (go_at_call 117; (with_reducible refine (hNe1.out _ hB0.out).out.mono ?_); rintro e w1 ⟨rfl, m, rfl⟩; have hT0 : ((wr.drewN m).alloc (.cells #[.slice none 0 0, .slice none 0 0, .slice none 0 0] 96)).heap[wr.heap.size]? = some (.cells #[.slice none 0 0, .slice none 0 0, .slice none 0 0] 96 (0, 0)) := heap_alloc_new (wr.drewN m) _; obtain ⟨a0, b0⟩ := heap_cell hT0 (o := 0) (v := .slice none 0 0) rfl; obtain ⟨a1, b1⟩ := heap_cell hT0 (o := 1) (v := .slice none 0 0) rfl; obtain ⟨a2, b2⟩ := heap_cell hT0 (o := 2) (v := .slice none 0 0) rfl; have hT1 := Hid.mk hT0; clear hT0)
    have hB5 : Below wr.heap.size wr (((((wr.drewN m).alloc (.cells #[.slice none 0 0, .slice none 0 0, .slice none 0 0] 96)).setCell ⟨wr.heap.size, 0, none⟩ (.slice Ao T.old.length co)).setCell ⟨wr.heap.size, 1, none⟩ (.slice An tn cn)).setCell ⟨wr.heap.size, 2, none⟩ (.slice Am T.moves.length cm)) :=
      ((((show Below wr.heap.size wr (wr.drewN m) from ⟨rfl, rfl, rfl, Nat.le_refl _, fun _ _ => rfl⟩).new_ _).setCell (p := ⟨wr.heap.size, 0, none⟩) (Nat.le_refl _) _).setCell (p := ⟨wr.heap.size, 1, none⟩) (Nat.le_refl _) _).setCell (p := ⟨wr.heap.size, 2, none⟩) (Nat.le_refl _) _
    have t1 : (((((wr.drewN m).alloc (.cells #[.slice none 0 0, .slice none 0 0, .slice none 0 0] 96)).setCell ⟨wr.heap.size, 0, none⟩ (.slice Ao T.old.length co)).setCell ⟨wr.heap.size, 1, none⟩ (.slice An tn cn)).setCell ⟨wr.heap.size, 2, none⟩ (.slice Am T.moves.length cm)).cell? ⟨wr.heap.size, 1, none⟩ = some (.slice An tn cn) := by
      rw [World.cell?_setCell_other _ _ _ _ (by simp)]
      exact World.cell?_setCell_same' _ _ _ (by rw [World.cell?_setCell_other _ _ _ _ (by simp), a1]; rfl)
    have z5 := World.block_lt_of_cell? _ _ t1
    clear a0 b0 a1 b1 a2 b2 hT1 d0 d1 d2 q0 q1
    generalize (((((wr.drewN m).alloc (.cells #[.slice none 0 0, .slice none 0 0, .slice none 0 0] 96)).setCell ⟨wr.heap.size, 0, none⟩ (.slice Ao T.old.length co)).setCell ⟨wr.heap.size, 1, none⟩ (.slice An tn cn)).setCell ⟨wr.heap.size, 2, none⟩ (.slice Am T.moves.length cm)) = W5 at *
    simp only at z5
    have c5 := (hB5.cell (p := ⟨c, 0, none⟩) hcl).trans c0
    have hBd : Hid (Below wr.heap.size wr W5.drew) := hB5.drew
    have hB5h := Hid.mk hB5
    clear c0 hB5 hl
    have hmw : wr.heap.size ≠ mb := by omega
    go_region_held3 (fun V => V.cell? ⟨c, 0, none⟩ = some (.map (some mb)) ∧ V.cell? ⟨wr.heap.size, 1, none⟩ = some (.slice An tn cn))
      (first | go_keep | (go_split_ands; exact ⟨(cell_block (World.putObj_heap_other hcm)).trans (by assumption), (cell_block (World.putObj_heap_other hmw)).trans (by assumption)⟩) | (go_split_ands; exact ⟨k1, k2⟩))
      (first
        | (go_at_call 117; (with_reducible refine (hNe1.out _ hBd.out).out.mono ?_); rintro e w6 ⟨rfl, m2, rfl⟩)
        | (go_at_call 47; (with_reducible refine (hSm1.out _ (below_drewN' hB5h.out _)).out.mono ?_); rintro e w7 ⟨vo, vn, vm, rfl, ⟨A5, n5, c5', rfl⟩, ⟨A6, n6, c6, rfl⟩, ⟨A7, n7, c7, rfl⟩, hb⟩; have k1 := (hb.cell (p := ⟨c, 0, none⟩) (show c < W5.heap.size by omega)).trans c5; have k2 := (hb.cell (p := ⟨wr.heap.size, 1, none⟩) z5).trans t1; have hB7 := Hid.mk (below_then (below_drewN' hB5h.out _) hb); obtain ⟨ob, hsto⟩ := hst1.out ((w7.alloc (.cells #[.slice A5 n5 c5', .slice A6 n6 c6, .slice A7 n7 c7] 96)).alloc (.cells #[.int .i64 o, .slice (some ⟨w7.heap.size, 0, none⟩) 1 1] 100)) (w7.heap.size + 1) ((hB7.out.new_ _).new_ _); clear hb)
        | fail)
    go_wp2
    go_ret2
    go_light
    exact ⟨rfl, (Only.below ((hB7.out.new_ _).new_ _) [mb]).grown (grownBy_putObj' _ _ _) (fun k e => by cases e; exact .inl (by simp))⟩
end Go.Proofs.YtdokiaicheillaaGreat

namespace Go.Proofs.YtdokiaicheillaaGreat
open Go.RowKit

set_option maxRecDepth 100000 in
set_option maxHeartbeats 2000000 in
theorem schema_Names (c mb : Nat) (ps : List Spot) (C : List (S.Text × S.Kinds)) (w : World) (h : CatAt w c mb ps C) (hlen : C.length ≤ 1073741824) :
    Calls Tryz.prog 31 #[.pointer (some ⟨c, 0, none⟩)] w fun e w' => ∃ v, e = .returned v ∧ w'.ownsRow w.heap.size 9 1 v C.length (((C.map (·.1)).mergeSort S.leT).map encT) ∧ Below w.heap.size w w' := by
  have c0 : w.cell? ⟨c, 0, none⟩ = some (.map (some mb)) := by simp [World.cell?, h.head]
  have hk := keys_sort mb w
  have hb0 := below_one w (.cells #[.map (some mb)] 91)
  have hB : (w.alloc (.cells #[.map (some mb)] 91)).cell? ⟨w.heap.size, 0, none⟩ = some (.map (some mb)) := (heap_cell (heap_alloc_new w _) (o := 0) rfl).1
  have hl : (ps.map fun p => (p.1, p.2.1)).length = C.length := by have := congrArg List.length h.names; simpa using this
  have hnm : (ps.map fun p => (p.1, p.2.1)).map (·.1) = C.map (·.1) := by rw [List.map_map, ← h.names]; rfl
  have hs := sorted_strs 118 #[.pointer (some ⟨w.heap.size, 0, none⟩)] (enters_of Tryz.func118 (by kernel_rfl) rfl) ((ps.map fun p => (p.1, p.2.1)).map (·.1)) _ _ _ _ (keys_stops_sort encB 7 (by omega) w.heap.size mb _ _ hB (h.below hb0).map) (Below.refl _ _) (by rw [hl]; exact hlen) (by simpa [hl] using (by rw [← hl] at hlen; simpa using hlen))
  rw [hnm, List.length_map] at hs
  have hk1 := Hid.mk hk; have hb01 := Hid.mk hb0; have hs1 := Hid.mk hs; clear hk hb0 hs
  clear h hB hl hnm
  go_enter Tryz.func31, Tryz.ntmps31
  go_wp2_with (first | (go_at_call 83; (with_reducible refine hk1.out.mono ?_); rintro e w1 ⟨rfl, rfl⟩) | (go_at_call 61; (with_reducible refine hs1.out.mono ?_); rintro e w2 ⟨v, rfl, ho, hb⟩; have ho1 := Hid.mk ho; have hb1 := Hid.mk hb; clear ho hb))
  go_ret
  go_light
  exact ⟨_, rfl, own_weak ho1.out (by simp), below_then hb01.out hb1.out⟩

/-! ### SortFunc of rows, none -/
set_option maxRecDepth 100000 in
set_option maxHeartbeats 2000000 in
theorem ins_row (A : Option Addr) (n c : Nat) (f : Value) (hn : n ≤ 1) (w : World) : Calls Tryz.prog 228 #[.slice A n c, .int .i64 0, .int .i64 n, f] w fun e w' => e = .returned (.tuple #[]) ∧ w' = w := by
  go_enter Tryz.func228, Tryz.ntmps228
  go_wp2
  go_loop [8] (fun v => v = .int .i64 1) (fun _ => 0)
  case atStart => rfl
  case round =>
    subst hrel
    have t1 : decide (1 < n) = false := by simp; omega
    have t2 : decide ((1 : Int) < (n : Int)) = false := by simp; omega
    go_wp2
    go_end0
    go_light
    exact ⟨rfl, rfl⟩
set_option maxRecDepth 100000 in
set_option maxHeartbeats 4000000 in
theorem pdq_row (A : Option Addr) (n c : Nat) (lim : Int) (f : Value) (hn : n ≤ 1) (w : World) : Calls Tryz.prog 221 #[.slice A n c, .int .i64 0, .int .i64 n, .int .i64 lim, f] w fun e w' => e = .returned (.tuple #[]) ∧ w' = w := by
  have t1 : decide ((n : Int) ≤ 12) = true := by simp; omega
  have hi := Hid.mk (ins_row A n c f hn w)
  go_enter Tryz.func221, Tryz.ntmps221
  go_wp2
  go_loop [1, 2] (fun v1 v2 => v1 = .int .i64 0 ∧ v2 = .int .i64 n) (fun _ _ => 0)
  case atStart => exact ⟨rfl, rfl⟩
  case round =>
    obtain ⟨rfl, rfl⟩ := hrel
    go_wp2_with (go_at_call 228; (with_reducible refine hi.out.mono ?_); rintro e w1 ⟨rfl, rfl⟩)
    go_light
    exact bodyPost_ret (results_none rfl _ _ _) rfl ⟨rfl, rfl⟩
set_option maxRecDepth 100000 in
set_option maxHeartbeats 2000000 in
theorem sort_row (A : Option Addr) (n c : Nat) (f : Value) (hn : n ≤ 1) (w : World) : Calls Tryz.prog 201 #[.slice A n c, f] w fun e w' => e = .returned (.tuple #[]) ∧ w' = w := by
  have hp := fun lim => Hid.mk (pdq_row A n c lim f hn w)
  go_enter Tryz.func201, Tryz.ntmps201
  go_wp2_with (first | (go_at_call 111; (with_reducible refine (Tryz.bits_Len _ _ (by omega) (by omega)).mono ?_); rintro e w1 ⟨rfl, rfl⟩) | (go_at_call 221; (with_reducible refine (hp _).out.mono ?_); rintro e w1 ⟨rfl, rfl⟩))
  go_end0
  go_light
  exact ⟨rfl, rfl⟩

theorem handles_none (p : Parts) (X : S.Heap) (w W : World) (h : HeapAt w p X) (hW : Below w.heap.size w W) (hn : S.handles X.slots = []) : Hid (Calls Tryz.prog 19 #[.pointer (some ⟨p.H, 0, none⟩)] W fun e w' => ∃ A c, e = .returned (.slice A 0 c) ∧ Below W.heap.size W w') := by
  refine (obj_Handles p X W (h.below hW)).mono fun e w' ⟨v, e1, e2, e3⟩ => ?_
  rw [hn] at e2
  obtain ⟨A, c, rfl⟩ := own_slice e2
  exact ⟨A, c, e1, e3⟩

set_option maxRecDepth 100000 in
set_option maxHeartbeats 4000000 in
theorem count_Rows_none (p : Parts) (X : S.Heap) (w : World) (h : HeapAt w p X) (hn : S.handles X.slots = []) :
    Calls Tryz.prog 169 #[.pointer (some ⟨p.H, 0, none⟩)] w fun e w' => e = .returned (.slice none 0 0) ∧ Below w.heap.size w w' := by
  have hmm := @run_makeMap Tryz.prog
  have hH := fun W (hW : Below w.heap.size w W) => handles_none p X w W h hW hn
  have hB0 : Hid (Below w.heap.size w (w.alloc (.map #[] 0))) := below_one _ _
  have hsr := fun (fv : Value) W => Hid.mk (sort_row none 0 0 fv (by decide) W)
  have hM0 : Hid (MapAt encI encI (w.alloc (.map #[] 0)) w.heap.size ([] : List (Int × Int))) := MapAt.new w
  generalize p.H = H at *
  have hH1 := Hid.mk hH; have hsr1 := Hid.mk hsr; clear hH hsr
  clear h hn
  go_enter Tryz.func169, Tryz.ntmps169
  go_wp2_with (go_at_call 19; (with_reducible refine (hH1.out _ hB0.out).out.mono ?_); rintro e w1 ⟨A, c, rfl, hb⟩; have hb1 := Hid.mk (below_then hB0.out hb); have hM1 := Hid.mk (hM0.out.kept (hb.block w.heap.size (by simp))); clear hb)
  clear hmm
  go_loop [16] (fun v => v = .int .i64 0) (fun _ => 0)
  case atStart => rfl
  case round =>
    subst hrel
    obtain ⟨E, clock, hE, hl⟩ := hM1.out
    obtain ⟨hr1, hit⟩ := run_range (P := Tryz.prog) Tryz.underlying270 hE
    rw [hl] at hit
    have hit1 := Hid.mk hit; have hl1 := Hid.mk hl; have hE1 := Hid.mk hE; clear hit hl hE
    go_wp2
    clear hr1
    have hB2 := Hid.mk (below_one w1 (.mapIter (some w.heap.size) clock #[] clock))
    go_loopw [9] (fun v9 wr => v9 = .slice none 0 0 ∧ Hid (IterAt encI encI wr w1.heap.size w.heap.size E clock []) ∧ Hid (Below w1.heap.size w1 wr)) (fun _ _ => 0)
    case atStart => exact ⟨rfl, hit1, hB2⟩
    case round =>
      obtain ⟨rfl, hi, hB⟩ := hrel
      have hnx := run_next_none (P := Tryz.prog) hi.out
      clear hit1
      go_wp2_with (go_at_call 201; (with_reducible refine (hsr1.out _ _).out.mono ?_); rintro e w3 ⟨rfl, rfl⟩)
      go_ret
      go_light
      exact ⟨rfl, below_then hb1.out hB.out⟩

set_option maxRecDepth 100000 in
set_option maxHeartbeats 4000000 in
theorem count_Live_none (p : Parts) (X : S.Heap) (a : S.Text) (w : World) (h : HeapAt w p X) (hn : S.handles X.slots = []) :
    Calls Tryz.prog 134 #[.pointer (some ⟨p.H, 0, none⟩), .string (S.mk a)] w fun e w' => e = .returned (.slice none 0 0) ∧ Below w.heap.size w w' := by
  have hR := Hid.mk (count_Rows_none p X w h hn)
  generalize p.H = H at *
  clear h hn
  go_enter Tryz.func134, Tryz.ntmps134
  go_wp2_with (go_at_call 169; (with_reducible refine hR.out.mono ?_); rintro e w1 ⟨rfl, hb⟩; have hb1 := Hid.mk hb; clear hb)
  go_loop [5, 11] (fun v5 v11 => v5 = .slice none 0 0 ∧ v11 = .int .i64 0) (fun _ _ => 0)
  case atStart => exact ⟨rfl, rfl⟩
  case round =>
    obtain ⟨rfl, rfl⟩ := hrel
    go_wp2
    go_ret
    go_light
    exact ⟨rfl, hb1.out⟩

set_option maxRecDepth 100000 in
set_option maxHeartbeats 4000000 in
theorem count_Retire_one (p : Parts) (X : S.Heap) (a : S.Text) (o : Int) (T : S.Table) (w : World) (h : HeapAt w p X) (hn : S.handles X.slots = []) (hk : getK X.cat a = some ⟨o, [T]⟩) (hko : S.Kinds.ok ⟨o, [T]⟩) (hr : S.right T.new = true) :
    Calls Tryz.prog 92 #[.pointer (some ⟨p.H, 0, none⟩), .string (S.mk a)] w fun e w' => e = .returned (.tuple #[.int .i64 0, .int .i64 0]) ∧ Only [p.mb] w w' := by
  have hS : Hid (Calls Tryz.prog 14 #[.pointer (some ⟨p.H, 0, none⟩)] w fun e w' => e = .returned (.pointer (some ⟨p.c, 0, none⟩)) ∧ w' = w) := obj_Schema p X w h
  have hL := Hid.mk (count_Live_none p X a w h hn)
  have hRe := fun W (hW : Below w.heap.size w W) => Hid.mk (schema_Retire_one p.c p.mb p.ps X.cat a o T none 0 0 W (h.below hW).cat hk hko hr)
  generalize p.H = H at *
  generalize p.c = c at *
  clear h hn hk hko hr
  have hRe1 := Hid.mk hRe; clear hRe
  go_enter Tryz.func92, Tryz.ntmps92
  go_wp2_with (first | (go_at_call 14; (with_reducible refine hS.out.mono ?_); rintro e w1 ⟨rfl, hw⟩; obtain rfl := hw.symm) | (go_at_call 134; (with_reducible refine hL.out.mono ?_); rintro e w1 ⟨rfl, hb⟩; have hb1 := Hid.mk hb; clear hb) | (go_at_call 133; (with_reducible refine (hRe1.out _ hb1.out).out.mono ?_); rintro e w2 ⟨rfl, hO⟩; have hO1 := Hid.mk hO; clear hO))
  go_ret2
  go_light
  exact ⟨rfl, (Only.below hb1.out _).trans hO1.out (fun b hb => .inl hb)⟩
end Go.Proofs.YtdokiaicheillaaGreat

namespace Go.Proofs.YtdokiaicheillaaGreat
open Go.RowKit

theorem sum_take_succ {l : List Nat} {i n : Nat} (h : l[i]? = some n) : (l.take (i + 1)).sum = (l.take i).sum + n := by
  rw [S.take_succ' h, List.sum_append]
  simp
theorem sum_take_le {l : List Nat} {b : Nat} (h : ∀ (j n : Nat), l[j]? = some n → n ≤ b) : ∀ i, i ≤ l.length → (l.take i).sum ≤ b * i
  | 0, _ => by simp
  | i + 1, hi => by
    have hx : l[i]? = some l[i] := List.getElem?_eq_getElem (by omega)
    rw [sum_take_succ hx, Nat.mul_add, Nat.mul_one]
    have := sum_take_le h i (by omega)
    have := h i _ hx
    omega

set_option maxRecDepth 100000 in
set_option maxHeartbeats 8000000 in
theorem count_Units_all (p : Parts) (X : S.Heap) (a : S.Text) (us : List Nat) (w : World) (h : HeapAt w p X) (hX : X.ok) (hul : us.length = (S.handles X.slots).length)
    (hU : ∀ (i : Nat) (x : S.Handle) (n : Nat), (S.handles X.slots)[i]? = some x → us[i]? = some n → ∃ sl t, S.goodAt X.slots x = some sl ∧ t ∈ X.things ∧ sl.v = t.at_ ∧ t.name = a ∧ n = 3 + t.b.length / 8) :
    Calls Tryz.prog 32 #[.pointer (some ⟨p.H, 0, none⟩), .string (S.mk a)] w fun e w' => e = .returned (.int .i64 (us.sum : Nat)) ∧ Below w.heap.size w w' := by
  have hfew := handles_few h
  have hH : Hid (Calls Tryz.prog 19 #[.pointer (some ⟨p.H, 0, none⟩)] w fun e w' => ∃ A c, e = .returned (.slice A (S.handles X.slots).length c) ∧ Handles w'.cell? A (S.handles X.slots) ∧ Below w.heap.size w w') := by
    refine (obj_Handles p X w h).mono fun e w' ⟨v, e1, e2, e3⟩ => ?_
    obtain ⟨A, c, rfl, hr⟩ := hands_of_own e2 rfl (by omega)
    exact ⟨A, c, e1, hr, e3⟩
  have hO : ∀ (i : Nat) (x : S.Handle) (n : Nat), (S.handles X.slots)[i]? = some x → us[i]? = some n → ∃ (k : Nat) (ver : Int), Hid (n = 3 + k / 8) ∧ n ≤ 1024 ∧ Hid (∀ W, Below w.heap.size w W → (Calls Tryz.prog 60 #[.pointer (some ⟨p.H, 0, none⟩), .agg #[.int .i64 x.slot, .int .i64 x.gen]] W fun e w' => e = .returned (.tuple #[.string (S.mk a), .int .i64 ver, .int .i64 0]) ∧ Below W.heap.size W w') ∧
      (Calls Tryz.prog 84 #[.pointer (some ⟨p.H, 0, none⟩), .agg #[.int .i64 x.slot, .int .i64 x.gen]] W fun e w' => ∃ A c, e = .returned (.tuple #[.slice A k c, .int .i64 0]) ∧ Below W.heap.size W w')) := fun i x n hx hn => by
    obtain ⟨sl, t, hg, ht, hv, rfl, rfl⟩ := hU i x n hx hn
    have hb := (hX.things t ht).blk
    have hwi := hX.within _ (S.getK_pair hb)
    have hu := hX.units
    simp only at hwi
    refine ⟨t.b.length, t.ver, rfl, by omega, fun W hW => ⟨obj_Of_yes p X x sl t W (h.below hW) hX hg ht hv, (obj_Raw_yes p X x sl t W (h.below hW) hX hg ht hv).mono fun e w' ⟨v, e1, e2, e3⟩ => ?_⟩⟩
    obtain ⟨A, c, rfl⟩ := own_slice e2
    exact ⟨A, c, e1, e3⟩
  have hub : ∀ (j n : Nat), us[j]? = some n → n ≤ 1024 := fun j n hj => by
    have hjl := (List.getElem?_eq_some_iff.1 hj).1
    obtain ⟨k, ver, -, h2, -⟩ := hO j _ n (List.getElem?_eq_getElem (by omega)) hj
    exact h2
  have hsum := Hid.mk (sum_take_le hub)
  generalize S.handles X.slots = hs at *
  generalize p.H = H at *
  clear h hX hU hub
  have hO1 := Hid.mk hO; clear hO
  go_enter Tryz.func32, Tryz.ntmps32
  go_wp2_with (go_at_call 19; (with_reducible refine hH.out.mono ?_); rintro e w1 ⟨A, c, rfl, hr, hb⟩; have hr1 := Hid.mk hr; have hb1 := Hid.mk hb; clear hb hr)
  have hul1 := Hid.mk hul
  clear hul
  go_loopw [5, 16] (fun v5 v16 wr => ∃ i s : Nat, i ≤ hs.length ∧ Hid (s = (us.take i).sum) ∧ s ≤ 1024 * i ∧ v5 = .int .i64 s ∧ v16 = .int .i64 i ∧ Hid (Below w1.heap.size w1 wr)) (fun _ v16 _ => hs.length - (intOf v16).toNat)
  case atStart => exact ⟨0, 0, Nat.zero_le _, by simp [Hid], Nat.zero_le _, rfl, rfl, Below.refl _ _⟩
  case round =>
    obtain ⟨i, s, hi, hse, hsb, rfl, rfl, hb⟩ := hrel
    by_cases hlt : i < hs.length
    · have hx : hs[i]? = some hs[i] := List.getElem?_eq_getElem hlt
      obtain ⟨b, off, rfl, k0, k1, hbl⟩ := hr1.out.at hx
      have e0 := (hb.out.cell (p := ⟨b, off + i * 2, none⟩) hbl).trans k0
      have e1 := (hb.out.cell (p := ⟨b, off + i * 2 + 1, none⟩) hbl).trans k1
      have hun : us[i]? = some (us[i]'(by have := hul1.out; omega)) := List.getElem?_eq_getElem _
      obtain ⟨k, ver, hnk, hn2, hOx⟩ := hO1.out i _ _ hx hun
      have hss := Hid.mk (sum_take_succ hun)
      generalize us[i]'(by have := hul1.out; omega) = n at *
      generalize hs[i] = x at *
      have hB2 := Hid.mk ((below_then hb1.out hb.out).new_ (.cells #[.int .i64 x.slot, .int .i64 x.gen] 51))
      have hB3 := Hid.mk (below_one wr (.cells #[.int .i64 x.slot, .int .i64 x.gen] 51))
      have x0 : (wr.alloc (.cells #[.int .i64 x.slot, .int .i64 x.gen] 51)).cell? ⟨wr.heap.size, 0, none⟩ = some (.int .i64 x.slot) := (heap_cell (heap_alloc_new wr _) (o := 0) rfl).1
      have x1 : (wr.alloc (.cells #[.int .i64 x.slot, .int .i64 x.gen] 51)).cell? ⟨wr.heap.size, 1, none⟩ = some (.int .i64 x.gen) := (heap_cell (heap_alloc_new wr _) (o := 1) rfl).1
      have hk8 : k / 8 ≤ 1021 := by have := hnk.out; omega
      clear k0 k1 hx hun
      go_wp2_with (first | (go_at_call 60; (with_reducible refine (hOx.out _ hB2.out).1.mono ?_); rintro e w2 ⟨rfl, hb⟩; have y0 := (hb.cell (p := ⟨wr.heap.size, 0, none⟩) (by simp)).trans x0; have y1 := (hb.cell (p := ⟨wr.heap.size, 1, none⟩) (by simp)).trans x1; have hb2 := Hid.mk (below_then hB2.out hb); have hb3 := Hid.mk (below_then hB3.out hb); clear hb) | (go_at_call 84; (with_reducible refine (hOx.out _ hb2.out).2.mono ?_); rintro e w3 ⟨A5, c5, rfl, hb⟩; have hb4 := Hid.mk (below_then hb3.out hb); clear hb))
      go_roundw
      case rel =>
        go_light
        refine ⟨i + 1, s + n, by omega, ?_, by omega, ?_, by go_num, Hid.mk (below_then hb.out hb4.out)⟩
        · show s + n = _
          rw [hss.out, hse.out]
        · have := hnk.out
          rw [this]
          congr 1
      case measure => simp [intOf]; omega
    · obtain rfl : i = hs.length := by omega
      go_wp2
      go_ret
      go_light
      refine ⟨ret_int ?_, below_then hb1.out hb.out⟩
      rw [hse.out, ← hul1.out, List.take_length]

set_option maxRecDepth 100000 in
set_option maxHeartbeats 8000000 in
theorem count_RetireAll_few (p : Parts) (X : S.Heap) (w : World) (h : HeapAt w p X) (hX : X.ok) (hn : S.handles X.slots = []) (h1 : X.cat.length ≤ 1) (hone : ∀ x, x ∈ X.cat → x.2.tabs.length = 1) :
    Calls Tryz.prog 41 #[.pointer (some ⟨p.H, 0, none⟩)] w fun e w' => e = .returned (.int .i64 0) ∧ Only [p.mb] w w' := by
  have hS : Hid (Calls Tryz.prog 14 #[.pointer (some ⟨p.H, 0, none⟩)] w fun e w' => e = .returned (.pointer (some ⟨p.c, 0, none⟩)) ∧ w' = w) := obj_Schema p X w h
  have hNa : Hid (Calls Tryz.prog 31 #[.pointer (some ⟨p.c, 0, none⟩)] w fun e w' => ∃ A c, e = .returned (.slice A X.cat.length c) ∧ Row w'.cell? A 1 (fun x => [encT x]) (X.cat.map (·.1)) ∧ Below w.heap.size w w') := by
    refine (schema_Names p.c p.mb p.ps X.cat w h.cat (by omega)).mono fun e w' ⟨v, e1, e2, e3⟩ => ?_
    have hms : (X.cat.map (·.1)).mergeSort S.leT = X.cat.map (·.1) := by
      match X.cat, h1 with
      | [], _ => simp
      | [x], _ => simp
      | _ :: _ :: _, h => simp at h
    rw [hms] at e2
    obtain ⟨A, c, rfl, hr, -⟩ := own_row e2 (by simp) (by omega)
    exact ⟨A, c, e1, hr, e3⟩
  have hR : ∀ W x, X.cat[0]? = some x → Below w.heap.size w W → Hid (Calls Tryz.prog 92 #[.pointer (some ⟨p.H, 0, none⟩), .string (S.mk x.1)] W fun e w' => e = .returned (.tuple #[.int .i64 0, .int .i64 0]) ∧ Only [p.mb] W w') := fun W x hx hW => by
    obtain ⟨nm, o, tabs⟩ := x
    have hm := List.mem_of_getElem? hx
    have hl := hone _ hm
    have hk := hX.kinds _ hm
    match tabs, hl, hk with
    | [T], _, hk =>
      have hg : getK X.cat nm = some ⟨o, [T]⟩ := by
        match X.cat, h1, hx with
        | [y], _, hx =>
          simp only [List.getElem?_cons_zero, Option.some.injEq] at hx
          subst hx
          simp [getK]
        | _ :: _ :: _, h, _ => simp at h
      exact count_Retire_one p X nm o T W (h.below hW) hn hg hk.ok (hk.right T (by simp))
  generalize X.cat = C at *
  generalize p.H = H at *
  generalize p.c = cc at *
  generalize p.mb = mb at *
  clear h hX hn hone
  have hR1 := Hid.mk hR; clear hR
  go_enter Tryz.func41, Tryz.ntmps41
  go_wp2_with (first | (go_at_call 14; (with_reducible refine hS.out.mono ?_); rintro e w1 ⟨rfl, hw⟩; obtain rfl := hw.symm) | (go_at_call 31; (with_reducible refine hNa.out.mono ?_); rintro e w1 ⟨A, c, rfl, hr, hb⟩; have hr1 := Hid.mk hr; have hb1 := Hid.mk hb; clear hb hr))
  go_loopw [3, 12] (fun v3 v12 wr => ∃ i : Nat, i ≤ C.length ∧ v3 = .int .i64 0 ∧ v12 = .int .i64 i ∧ Hid (i = 0 → wr = w1) ∧ Hid (Only [mb] w wr)) (fun _ v12 _ => C.length - (intOf v12).toNat)
  case atStart => exact ⟨0, Nat.zero_le _, rfl, rfl, fun _ => rfl, Only.below hb1.out _⟩
  case round =>
    obtain ⟨i, hi, rfl, rfl, hw, hO⟩ := hrel
    by_cases hlt : i < C.length
    · obtain rfl : i = 0 := by omega
      obtain rfl := hw.out rfl
      have hx : C[0]? = some C[0] := List.getElem?_eq_getElem hlt
      obtain ⟨b, off, rfl, hc⟩ := hr1.out.2 0 C[0].1 (by rw [List.getElem?_map, hx]; rfl)
      have e0 := hc 0 _ rfl
      simp only [Nat.zero_mul, Nat.add_zero] at e0
      have hRx := hR1.out wr _ hx hb1.out
      have hlti : (0 : Int) < (C.length : Int) := by omega
      generalize C[0].1 = nm at *
      clear hx hc
      go_wp2_with (go_at_call 92; (with_reducible refine hRx.out.mono ?_); rintro e w2 ⟨rfl, hO2⟩; have hO3 := Hid.mk ((Only.below hb1.out _).trans hO2 (fun b hb => .inl hb)); clear hO2)
      go_roundw
      case rel =>
        go_light
        exact ⟨1, by omega, rfl, rfl, (fun h => absurd h (by decide)), hO3⟩
      case measure => simp [intOf]; omega
    · obtain rfl : i = C.length := by omega
      go_wp2
      go_ret
      go_light
      exact ⟨rfl, hO.out⟩
end Go.Proofs.YtdokiaicheillaaGreat
