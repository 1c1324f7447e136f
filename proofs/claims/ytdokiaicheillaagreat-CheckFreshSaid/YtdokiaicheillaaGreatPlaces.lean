/-
  The walks of field.up, field.places (an iterator), field.Layout, field.New.
-/
import Derived.RangeFuncNested
import Derived.RangeFuncBound
import Derived.RangeFuncCalls
import Derived.RangeFuncLeaves
import Derived.RangeFuncBox
import Derived.Shelf.Abstract
import Derived.Shelf.RegionOpen
import Derived.OwnWalkIn
import Derived.TacticsInMore
import Derived.LoopNIn
import Derived.LoopIn
import Derived.Test.YtdokiaicheillaaGreatRight
namespace Go.Proofs.YtdokiaicheillaaGreat
open Go.RowKit Go.Shelf
attribute [local go_sem] Oper.semAt_some

theorem up_eq (a n : Nat) (ha : a ≤ 1099511627776) (h0 : 0 < n) (hn : n ≤ 64) : wrap64 (((a : Int) + n - 1) / n * n) = (S.up a n : Nat) := by
  have hle : (a + n - 1) / n * n ≤ a + n - 1 := Nat.div_mul_le_self _ _
  have e : (((a : Int) + n - 1) / n * n) = (((a + n - 1) / n * n : Nat) : Int) := by
    rw [Int.natCast_mul, Int.natCast_ediv, Int.natCast_sub (by omega)]
    simp
  rw [e]
  unfold S.up
  generalize (a + n - 1) / n * n = q at *
  unfold wrap64
  omega

theorem grown_below {w w1 : World} (h : Below w.heap.size w w1) (row : Option Nat) : w.grownBy w1 row := ⟨h.os, h.tape, h.output, h.size, fun i hi _ => h.block i hi⟩

/-- What a round of a loop over an iterator keeps: what lay below n, and all fields. -/
structure KeepsT (n : Nat) (t : TypeId) (W W' : World) : Prop where
  below : Below n W W'
  cells : ∀ (k : Nat) (cs : Array Value) (fr : Nat × Nat), W.heap[k]? = some (.cells cs t fr) → W'.heap[k]? = some (.cells cs t fr)
theorem KeepsT.trans {n : Nat} {t : TypeId} {A B C : World} (h : KeepsT n t A B) (k : KeepsT n t B C) : KeepsT n t A C := ⟨h.below.trans k.below, fun i cs fr hi => k.cells i cs fr (h.cells i cs fr hi)⟩
theorem KeepsT.refl (n : Nat) (t : TypeId) (W : World) : KeepsT n t W W := ⟨Below.refl _ _, fun _ _ _ h => h⟩
theorem KeepsT.grown {n : Nat} {t : TypeId} {W W' : World} {row : Option Nat} (hn : n ≤ W.heap.size) (hg : W.grownBy W' row) (hr : ∀ k, row = some k → n ≤ k) (hne : ∀ (k : Nat) (cs : Array Value) (fr : Nat × Nat), W.heap[k]? = some (.cells cs t fr) → some k ≠ row) : KeepsT n t W W' :=
  ⟨(Below.refl n W).grown hg hn hr, fun k cs fr hk => (hg.block k (Array.getElem?_eq_some_iff.1 hk).1 (hne k cs fr hk)).trans hk⟩
theorem keepsT_below {n : Nat} {t : TypeId} {W W' : World} (hn : n ≤ W.heap.size) (h : Below W.heap.size W W') : KeepsT n t W W' := KeepsT.grown hn (grown_below h none) (fun k e => by cases e) (fun _ _ _ _ e => by cases e)
theorem keepsO_below {W W' : World} (h : Below W.heap.size W W') : KeepsOthers W W' := ⟨h.size, fun k _ hk _ => (h.block k (Array.getElem?_eq_some_iff.1 hk).1).trans hk⟩
theorem ownFrom_size {β : Type} (B m : Nat) : OwnFrom B (fun (_ : β) W => m ≤ W.heap.size) := fun _ _ _ _ hs hg _ => Nat.le_trans hs hg.size
theorem KeepsT.set {n B : Nat} {t t' : TypeId} {W : World} {v : Value} (hn : n ≤ B) (h : Boxed W B t' v) (ht : t ≠ t') (v' : Value) : KeepsT n t W (W.setCell ⟨B, 0, none⟩ v') :=
  ⟨(Below.refl n W).setCell (p := ⟨B, 0, none⟩) hn v', fun k cs fr hk => (Below.heap_setCell W ⟨B, 0, none⟩ v' k (fun e => by subst e; rw [show W.heap[k]? = _ from h] at hk; simp only [Option.some.injEq, Obj.cells.injEq] at hk; exact ht hk.2.1.symm)).trans hk⟩
theorem own_cells {W : World} {base e size n k : Nat} {v : Value} {xs : List Value} (h : W.ownsRow base e size v n xs) (hk : v.ownBlock = some k) : ∃ c, W.heap[k]? = some (.cells c e (0, 0)) := by
  rcases h.2 with ⟨rfl, _⟩ | ⟨g, cap, cur, rfl, _, hg, _⟩
  · simp [Value.ownBlock] at hk
  · have : g = k := by simpa [Value.ownBlock] using hk
    subst this
    exact ⟨cur, hg⟩
theorem KeepsFrom.of_other {B : Nat} {W W' : World} {row : Option Nat} (hg : W.grownBy W' row) (h : ∀ (k : Nat) (o : Obj), W.heap[k]? = some o → o.isCells = false → some k ≠ row) : KeepsFrom B W W' :=
  ⟨hg.size, fun k o _ hk ho => (hg.block k (Array.getElem?_eq_some_iff.1 hk).1 (h k o hk ho)).trans hk⟩
theorem KeepsT.put {n : Nat} {t : TypeId} {w : World} (hn : n ≤ w.heap.size) (W : World) (l : Nat) (o o' : Obj) (hl : w.heap.size ≤ l) (h : W.heap[l]? = some o) (ho : o.isCells = false) (hw : o.isWalk = false) : KeepsT n t W (W.putObj l o') :=
  ⟨belowK_b hn W l o o' hl h ho hw, fun k cs fr hk => (World.putObj_heap_other (fun e => by subst e; rw [h] at hk; cases hk; cases ho)).trans hk⟩
theorem abides_below {β : Type} {B : Nat} {J : β → World → Prop} (h : AbidesFrom B J) {s : β} {W W' : World} (hs : J s W) (hb : Below W.heap.size W W') : J s W' := h s W W' none hs (grown_below hb none) (fun r e => by cases e)

set_option maxHeartbeats 400000 in
theorem field_up (a n : Nat) (w : World) (ha : a ≤ 1099511627776) (h0 : 0 < n) (hn : n ≤ 64) :
    Calls Tryz.prog 139 #[.int .i64 a, .int .i64 n] w fun e w' => e = .returned (.int .i64 (S.up a n : Nat)) ∧ w = w' := by
  obtain ⟨r, hr⟩ : ∃ r, r = S.up a n := ⟨_, rfl⟩
  have hr1 := Hid.mk hr
  rw [← hr]
  clear hr
  have hle : (a + n - 1) / n * n ≤ a + n - 1 := Nat.div_mul_le_self _ _
  have hle1 := Hid.mk hle
  clear hle
  go_enter Tryz.func139, Tryz.ntmps139
  go_wp2
  go_ret
  go_light
  refine ⟨ret_int ?_, rfl⟩
  rw [hr1.out]
  exact up_eq a n ha h0 hn

theorem pre_of {l : List S.Field} {i : Nat} {f : S.Field} {x : Nat × S.Field} (hf : l[i]? = some f) (hx : (S.begins (S.ends 0 (l.take i)) f, f) = x) : S.spots 0 (l.take i) ++ [x] <+: S.spots 0 l := by
  refine ⟨S.spots (S.ends 0 (l.take (i + 1))) (l.drop (i + 1)), ?_⟩
  rw [← hx, ← S.spots_succ hf, ← S.spots_append, List.take_append_drop]

set_option maxHeartbeats 1000000 in
theorem places_stops (n : Nat) (hn : 2 ≤ n) (Bl : Nat) (A : Option Addr) (c : Nat) (l : List S.Field) (wb w0 : World) (hB : w0.cell? ⟨Bl, 0, none⟩ = some (.slice A l.length c)) (hl : Fields wb.cell? A l) (hbw : Below wb.heap.size wb w0) (hpos : ∀ f, f ∈ l → 1 ≤ S.long f) :
    SeqStopsK Fence.wide n Tryz.prog 158 #[.pointer (some ⟨Bl, 0, none⟩)] (fun x : Nat × S.Field => #[.int .i64 x.1, .agg #[.string (S.mk x.2.name), .int .i64 x.2.kind, .int .i64 x.2.long]]) (KeepsT wb.heap.size 147) (fun xs => xs = S.spots 0 l) (fun pre => pre <+: S.spots 0 l) l.length w0 := by
  intro lp J Jx W hW0 hJ hJx hY hJ0
  have hBW : W.cell? ⟨Bl, 0, none⟩ = some (.slice A l.length c) := below_reads hW0 _ _ hB
  have hW : Below wb.heap.size wb W := below_then hbw hW0
  clear hW0 hbw
  have hlen := hl.1
  have hn1 : 1 ≤ n := by omega
  refine callsIn_of_wp Tryz.func158 rfl trivial ?_ rfl
  simp only [Tryz.ntmps158, List.size_toArray, List.length_cons, List.length_nil, Nat.reduceAdd, Nat.reduceSub, Array.replicate_succ, Array.replicate_zero, List.push_toArray, List.append_toArray, List.nil_append, List.cons_append]
  have hY1 := Hid.mk hY
  clear hY
  have hB1 := Hid.mk hBW
  have hp1 := Hid.mk hpos
  clear hpos hB
  gi_wp2
  gi_loopw [3, 8] (fun v3 v8 wr => ∃ i : Nat, i ≤ l.length ∧ v8 = .int .i64 i ∧ v3 = .int .i64 (S.ends 0 (l.take i) : Nat) ∧ J (S.spots 0 (l.take i)) wr ∧ Below wb.heap.size wb wr ∧ W.heap.size ≤ wr.heap.size) (fun _ v8 _ => l.length - (intOf v8).toNat)
  case atStart => exact ⟨0, Nat.zero_le _, rfl, rfl, hJ0, hW, Nat.le_refl _⟩
  case round =>
    obtain ⟨i, hi, rfl, rfl, hj, hb, hsz⟩ := hrel
    by_cases hlt : i < l.length
    · have hf : l[i]? = some l[i] := List.getElem?_eq_getElem hlt
      obtain ⟨b, off, rfl, h0, h1, h2, hbs⟩ := Fields.at (hl.below hb) hf
      have hfp := Hid.mk (hp1.out _ (List.mem_of_getElem? hf))
      generalize l[i] = f at *
      have hf1 := Hid.mk hf
      clear hf
      have hbx := Hid.mk (hb.new_ (.cells #[.string (S.mk f.name), .int .i64 f.kind, .int .i64 f.long] 147))
      have hjx := Hid.mk (abides_below hJ hj (below_one wr (.cells #[.string (S.mk f.name), .int .i64 f.kind, .int .i64 f.long] 147)))
      have hle := S.ends_le (l.take i) 0
      have hle2 : S.ends 0 (l.take i) ≤ 137438953472 := by rw [List.length_take] at hle; omega
      clear hle
      generalize hen : S.ends 0 (l.take i) = en at *
      have hen1 := Hid.mk hen
      clear hen
      have hl64 := S.long_le f
      by_cases hk : f.kind = 12
      · have t1 : (f.kind != 12) = false := by simp [hk]
        have hbe : Hid (S.begins en f = en) := by show _ = _; simp [S.begins, hk]
        clear hk
        obtain ⟨fn, tmps, assign, body, hy, hR⟩ := hY1.out _ (en, f) _ hjx.out (by rw [S.spots_length, List.length_take]; omega)
        dsimp only at hy
        gi_wp2
        refine hR.mono ?_
        rintro e W' (⟨rfl, hJ', hk⟩ | ⟨rfl, hJx'⟩)
        · have hcb := hk.cells wr.heap.size _ _ (heap_alloc_new _ _)
          have hc0 : W'.cell? ⟨wr.heap.size, 0, none⟩ = some (.string (S.mk f.name)) := by simp [World.cell?, hcb]
          have hc1 : W'.cell? ⟨wr.heap.size, 1, none⟩ = some (.int .i64 f.kind) := by simp [World.cell?, hcb]
          have hc2 : W'.cell? ⟨wr.heap.size, 2, none⟩ = some (.int .i64 f.long) := by simp [World.cell?, hcb]
          have hk1 := Hid.mk hk
          clear hk hcb hy hR
          gi_wp2_with (refine ⟨trivial, ?_⟩; gi_at_call 93; refine (callsIn_wide.2 (kind_Long f _)).mono ?_; rintro e w2 ⟨rfl, hb2⟩)
          go_roundw
          case rel =>
            go_light
            have hbw : Below wb.heap.size wb W' := Below.trans (hbx.out) hk1.out.below
            refine ⟨i + 1, by omega, by go_num, ?_, ?_, below_then hbw hb2, Nat.le_trans hsz (Nat.le_trans ((below_one wr (.cells #[.string (S.mk f.name), .int .i64 f.kind, .int .i64 f.long] 147)).size) (Nat.le_trans hk1.out.below.size hb2.size))⟩
            · rw [S.ends_succ hf1.out, hen1.out]; simp [hbe.out]
            · rw [S.spots_succ hf1.out, hen1.out, hbe.out]; exact abides_below hJ hJ' hb2
          case measure => go_light; simp [intOf]; omega
        · gi_wp2
          refine bodyPost_ret (results_none rfl _ _ _) rfl ?_
          go_light
          exact ⟨⟨_, rfl⟩, .inr ⟨_, pre_of hf1.out (by rw [hen1.out, hbe.out]), hJx'⟩⟩
      · have t1 : (f.kind != 12) = true := by simp [hk]
        obtain ⟨p0, hp0⟩ : ∃ p0, S.up en (S.long f) = p0 := ⟨_, rfl⟩
        have hbe : Hid (S.begins en f = p0) := by show _ = _; simp [S.begins, hk, hp0]
        have hple : p0 ≤ 137438953536 := by have := S.up_le en (S.long f); omega
        have hp01 := Hid.mk hp0
        clear hk hp0
        gi_wp2_with (first | (refine ⟨trivial, ?_⟩; gi_at_call 93; refine (callsIn_wide.2 (kind_Long f _)).mono ?_; rintro e w1 ⟨rfl, hb1⟩; obtain ⟨hcc, -⟩ := bcell hb1; have hz1 : wr.heap.size < w1.heap.size := below_lt hb1 (by simp); obtain ⟨fn, tmps, assign, body, hy, hR⟩ := hY1.out _ (p0, f) _ (abides_below hJ hjx.out hb1) (by rw [S.spots_length, List.length_take]; omega); dsimp only at hy) | (refine ⟨trivial, ?_⟩; gi_at_call 139; refine (callsIn_wide.2 (field_up en (S.long f) _ (by omega) (by have := hfp.out; omega) hl64)).mono ?_; rintro e w' ⟨rfl, rfl⟩; rw [hp01.out]))
        refine hR.mono ?_
        rintro e W' (⟨rfl, hJ', hk⟩ | ⟨rfl, hJx'⟩)
        · have hcb := hk.cells wr.heap.size _ _ ((hb1.block wr.heap.size (by simp)).trans (heap_alloc_new _ _))
          have hc0 : W'.cell? ⟨wr.heap.size, 0, none⟩ = some (.string (S.mk f.name)) := by simp [World.cell?, hcb]
          have hc1 : W'.cell? ⟨wr.heap.size, 1, none⟩ = some (.int .i64 f.kind) := by simp [World.cell?, hcb]
          have hc2 : W'.cell? ⟨wr.heap.size, 2, none⟩ = some (.int .i64 f.long) := by simp [World.cell?, hcb]
          have hk1 := Hid.mk hk
          clear hk hcb hy hR
          gi_wp2_with (refine ⟨trivial, ?_⟩; gi_at_call 93; refine (callsIn_wide.2 (kind_Long f _)).mono ?_; rintro e w2 ⟨rfl, hb2⟩)
          go_roundw
          case rel =>
            go_light
            have hbw : Below wb.heap.size wb W' := Below.trans (below_then hbx.out hb1) hk1.out.below
            refine ⟨i + 1, by omega, by go_num, ?_, ?_, below_then hbw hb2, Nat.le_trans hsz (Nat.le_trans (Nat.le_trans (below_one wr (.cells #[.string (S.mk f.name), .int .i64 f.kind, .int .i64 f.long] 147)).size hb1.size) (Nat.le_trans hk1.out.below.size hb2.size))⟩
            · rw [S.ends_succ hf1.out, hen1.out]; simp [hbe.out]
            · rw [S.spots_succ hf1.out, hen1.out, hbe.out]; exact abides_below hJ hJ' hb2
          case measure => go_light; simp [intOf]; omega
        · gi_wp2
          refine bodyPost_ret (results_none rfl _ _ _) rfl ?_
          go_light
          exact ⟨⟨_, rfl⟩, .inr ⟨_, pre_of hf1.out (by rw [hen1.out, hbe.out]), hJx'⟩⟩
    · have hi' : i = l.length := by omega
      clear hi
      subst hi'
      gi_wp2
      go_end0
      go_light
      exact ⟨⟨_, rfl⟩, .inl ⟨_, by rw [List.take_length], hj⟩⟩
end Go.Proofs.YtdokiaicheillaaGreat
