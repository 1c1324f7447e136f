/-
  The walk of check.Tidy at a calm world.
-/
import Derived.Test.YtdokiaicheillaaGreatMend
import Derived.Deep.RegionWith
namespace Go.Proofs.YtdokiaicheillaaGreat
open Go.RowKit

set_option maxHeartbeats 1000000 in
theorem trans_Heap_at (T H : Nat) (w : World) (c0 : w.cell? ⟨T, 0, none⟩ = some (.pointer (some ⟨H, 0, none⟩))) :
    Calls Tryz.prog 12 #[.pointer (some ⟨T, 0, none⟩)] w fun e w' => e = .returned (.pointer (some ⟨H, 0, none⟩)) ∧ w' = w := by
  go_enter Tryz.func12, Tryz.ntmps12
  go_wp2
  go_ret
  go_light
  exact ⟨rfl, rfl⟩

set_option maxRecDepth 100000 in
set_option maxHeartbeats 4000000 in
theorem obj_Handles_at (H s : Nat) (vs : Value) (l : List S.Slot) (w : World) (c2 : w.cell? ⟨H, 2, none⟩ = some (.pointer (some ⟨s, 0, none⟩))) (hS : SlotsAt w s vs l) :
    Calls Tryz.prog 19 #[.pointer (some ⟨H, 0, none⟩)] w fun e w' => ∃ v, e = .returned v ∧ w'.ownsRow w.heap.size 51 2 v (S.handles l).length ((S.handles l).map S.Handle.cells).flatten ∧ Below w.heap.size w w' := by
  have hHl : H < w.heap.size := World.block_lt_of_cell? w _ c2
  have hfew := hS.many
  have hs : ∀ W, Below w.heap.size w W → Hid (SlotsAt W s vs l) := fun W hb => hS.below hb
  have hlen := Hid.mk (slots_Len s vs l w hS)
  clear hS
  go_enter Tryz.func19, Tryz.ntmps19
  go_wp2_with (go_at_call 58; (with_reducible refine hlen.out.mono ?_); rintro e w1 ⟨rfl, hb⟩; have hb1 := Hid.mk hb; clear hb)
  have hH1 := Hid.mk ((hb1.out.cell (p := ⟨H, 2, none⟩) hHl).trans c2)
  clear c2 hlen
  go_loopw [3, 12] (fun v3 v12 wr => ∃ i : Nat, i ≤ l.length ∧ v12 = .int .i64 i ∧ Hid (wr.ownsRow w.heap.size 51 2 v3 (S.handlesFrom 0 (l.take i)).length ((S.handlesFrom 0 (l.take i)).map S.Handle.cells).flatten) ∧ Hid (Below w.heap.size w wr)) (fun _ v12 _ => l.length - (intOf v12).toNat)
  case atStart => exact ⟨0, Nat.zero_le _, rfl, ⟨rfl, .inl ⟨rfl, rfl⟩⟩, hb1.out⟩
  case round =>
    obtain ⟨i, hi, rfl, ho, hb⟩ := hrel
    by_cases hlt : i < l.length
    · have cH : wr.cell? ⟨H, 2, none⟩ = some (.pointer (some ⟨s, 0, none⟩)) := (hb.out.cell (p := ⟨H, 2, none⟩) hHl).trans ((hb1.out.cell (p := ⟨H, 2, none⟩) hHl).symm.trans hH1.out)
      have hx : l[i]? = some l[i] := List.getElem?_eq_getElem hlt
      have hat := Hid.mk (slots_At s vs l i hlt wr (hs wr hb.out).out)
      have htk := Hid.mk (S.handles_take hx)
      have hS : S.slotAt l i = if l[i].used then (⟨i, l[i].gen⟩, true) else (S.noHandle, false) := by simp [S.slotAt, hlt]
      have hcount := S.handlesFrom_length (l.take i) 0
      rw [List.length_take] at hcount
      generalize l[i] = x at *
      cases hu : x.used
      · rw [hu] at htk hS
        rw [hS] at hat
        clear hS hx hu
        go_wp2_with (go_at_call 59; (with_reducible refine hat.out.mono ?_); rintro e w2 ⟨rfl, hb⟩; have hb2 := Hid.mk hb; clear hb)
        go_roundw
        case rel =>
          go_light
          have hbb := (below_then hb.out hb2.out).new_ (.cells #[.int .i64 0, .int .i64 0] 51)
          refine ⟨i + 1, by omega, by go_num, Hid.mk ?_, Hid.mk hbb⟩
          rw [htk.out]
          simp only [Bool.false_eq_true, if_false, List.append_nil]
          exact own_kept ho.out (fun k hk => ((below_then (Below.refl _ wr) hb2.out).new_ _).block k (own_lt ho.out hk))
        case measure => simp [intOf]; omega
      · rw [hu] at htk hS
        rw [hS] at hat
        clear hS hx hu
        go_wp2_with (first | (go_at_call 59; (with_reducible refine hat.out.mono ?_); rintro e w2 ⟨rfl, hb⟩; have hb2 := Hid.mk hb; have ho2 := Hid.mk (own_kept ho.out (fun k hk => hb.block k (own_lt ho.out hk))); clear hb) | (at_builtin; go_must (refine app_Handle rfl _ _ rfl w.heap.size _ _ _ rfl ((ho2.out.alloc _).alloc _) ⟨w2.heap.size + 1, 0, none⟩ 1 1 (S.Handle.cells ⟨i, x.gen⟩) rfl rfl (by have := news_new (w2.alloc (.cells #[.int .i64 i, .int .i64 x.gen] 51)) #[.int .i64 i, .int .i64 x.gen] 51 _ rfl; rwa [World.size_alloc] at this) (by simp [S.Handle.cells, Value.oneCell']) (by omega) (by have := hb.out.size; have := hb2.out.size; simp; omega) ?_; intro v' w5 ho5 hg5 h5 h6; clear h5; have ho51 := Hid.mk ho5; have hg51 := Hid.mk hg5; have h61 := Hid.mk h6; clear ho5 hg5 h6)))
        go_roundw
        case rel =>
          go_light
          have hb22 := below_then hb.out hb2.out
          have hbb : Below w.heap.size w w5 := ((hb22.new_ _).new_ _).grown hg51.out (by have := hb22.size; simp; omega) (fun k e => own_block_ge ho.out e)
          refine ⟨i + 1, by omega, by go_num, Hid.mk ?_, Hid.mk hbb⟩
          rw [htk.out]
          simp only [if_true, List.length_append, List.length_cons, List.length_nil, Nat.zero_add, List.map_append, List.map_cons, List.map_nil, List.flatten_append, List.flatten_cons, List.flatten_nil, List.append_nil]
          exact ho51.out
        case measure => simp [intOf]; omega
    · obtain rfl : i = l.length := by omega
      go_wp2
      go_ret
      go_light
      have := ho.out
      rw [List.take_length] at this
      exact ⟨_, rfl, this, hb.out⟩
end Go.Proofs.YtdokiaicheillaaGreat

namespace Go.Proofs.YtdokiaicheillaaGreat
open Go.RowKit

theorem Calm2.noRoots {Y : S.World} {us : List Nat} (h : Calm2 Y us) : Calm2 ⟨⟨Y.now.X, []⟩, Y.old⟩ us where
  old := h.old
  ok := h.ok
  few := by simp
  bad := fun x hx => by cases hx
  bad2 := fun x hx => by cases hx
  plain := h.plain
  fresh := h.fresh
  cat := h.cat
  names := h.names
  long := h.long
  units := h.units
  used := h.used
  none := h.none

/-- What freeing all that is not held comes to: k are freed, X2 is left. -/
structure Sweeps (p : Parts) (X X2 : S.Heap) (k : Nat) : Prop where
  all : ∀ (w : World) (A : Option Addr) (c : Nat), HeapAt w p X → Calls Tryz.prog 36 #[.pointer (some ⟨p.H, 0, none⟩), .slice A 0 c] w fun e w' => e = .returned (.int .i64 (k : Nat)) ∧ HeapAt w' p X2 ∧ Only p.F w w'
  ok : X2.ok
  fresh : X2.fresh
  none : S.handles X2.slots = []
  cat : X2.cat.length ≤ 1
  one : ∀ x, x ∈ X2.cat → x.2.tabs.length = 1
  few : k ≤ 1

theorem sweeps_none {p : Parts} {X : S.Heap} (hX : X.ok) (hf : X.fresh) (hn : S.handles X.slots = []) (hc : X.cat.length ≤ 1) (h1 : ∀ x, x ∈ X.cat → x.2.tabs.length = 1) : Sweeps p X X 0 where
  all := fun w A c h => (trace_All_zero p X A c [] w h hX (Row.nil _ _ _ _) (fun x hx => by cases hx) hn).mono fun e w' ⟨e1, hb⟩ => ⟨e1, h.below hb, Only.below hb _⟩
  ok := hX
  fresh := hf
  none := hn
  cat := hc
  one := h1
  few := by decide
theorem sweeps_one {p : Parts} {X : S.Heap} {y : S.Handle} {sl : S.Slot} (hX : X.ok) (hf : X.fresh) (hy : (S.handles X.slots)[0]? = some y) (hg : S.goodAt X.slots y = some sl) (hn : S.handles (X.drop y sl).slots = []) (hc : X.cat.length ≤ 1) (h1 : ∀ x, x ∈ X.cat → x.2.tabs.length = 1) : Sweeps p X (X.drop y sl) 1 where
  all := fun w A c h => trace_All_one p X A c [] y sl w h hX (Row.nil _ _ _ _) (fun x hx => by cases hx) hy hg hn
  ok := hX.drop hg
  fresh := fun t ht => hf t (List.mem_filter.1 ht).1
  none := hn
  cat := hc
  one := h1
  few := by decide

section
variable {q : WPlace} {X X2 : S.Heap} {old : Option S.State} {k f : Nat} {us : List Nat}

theorem held_empty (w : World) (h : WorldAt w q ⟨⟨X, []⟩, none⟩) : Calls Tryz.prog 25 #[.pointer (some ⟨q.T, 0, none⟩)] w fun e w' => ∃ A c, e = .returned (.slice A 0 c) ∧ Below w.heap.size w w' :=
  (trans_Held_now q _ w h rfl (by simp)).mono fun e w' ⟨v, e1, e2, e3⟩ => by
    obtain ⟨A, c, rfl⟩ := own_slice e2
    exact ⟨A, c, e1, e3⟩

set_option maxRecDepth 100000 in
set_option maxHeartbeats 8000000 in
theorem tidy_free (fb wb : Nat) (w : World) (h : WorldAt w q ⟨⟨X, []⟩, none⟩) (hs : Sweeps q.s.p X X2 k) (hfb : w.heap[fb]? = some (.cells #[.int .i64 (f : Nat)] 3 (0, 0))) (hwb : w.cell? ⟨wb, 0, none⟩ = some (.pointer (some ⟨q.T, 0, none⟩))) (hf : f ≤ 100) (hn1 : fb ∉ q.F) (hn2 : wb ∉ q.F) (hne : fb ≠ wb) :
    Calls Tryz.prog 35 #[.pointer (some ⟨fb, 0, none⟩), .pointer (some ⟨wb, 0, none⟩)] w fun e w' => e = .returned (.int .i64 0) ∧ WorldAt w' q ⟨⟨X2, []⟩, none⟩ ∧ w'.heap[fb]? = some (.cells #[.int .i64 ((f + k : Nat) : Int)] 3 (0, 0)) ∧ Only (fb :: q.s.p.F) w w' := by
  have hk := hs.few
  have hwl := World.block_lt_of_cell? w _ hwb
  have hfl := (Array.getElem?_eq_some_iff.1 hfb).1
  have hsub : ∀ b, b ∈ q.s.p.F → b ∈ q.F := fun b hb => q_sub hb
  have hHp : ∀ W, Below w.heap.size w W → Hid (Calls Tryz.prog 12 #[.pointer (some ⟨q.T, 0, none⟩)] W fun e w' => e = .returned (.pointer (some ⟨q.s.p.H, 0, none⟩)) ∧ w' = W) := fun W hW => trans_Heap q _ W (h.below hW)
  have hHe : ∀ W, Below w.heap.size w W → Hid (Calls Tryz.prog 25 #[.pointer (some ⟨q.T, 0, none⟩)] W fun e w' => ∃ A c, e = .returned (.slice A 0 c) ∧ Below W.heap.size W w') := fun W hW => held_empty W (h.below hW)
  have hAl : ∀ W A c, Below w.heap.size w W → Hid (Calls Tryz.prog 36 #[.pointer (some ⟨q.s.p.H, 0, none⟩), .slice A 0 c] W fun e w' => e = .returned (.int .i64 (k : Nat)) ∧ Hid (WorldAt (w'.setCell ⟨fb, 0, none⟩ (.int .i64 ((f : Int) + (k : Int)))) q ⟨⟨X2, []⟩, none⟩) ∧ Only q.s.p.F W w') := fun W A c hW => by
    have hWW := h.below hW
    refine (hs.all W A c hWW.now.heap).mono fun e w' ⟨e1, e2, e3⟩ => ⟨e1, ?_, e3⟩
    have h1 : WorldAt w' q ⟨⟨X2, []⟩, none⟩ := hWW.setHeap e2 hs.ok rfl (fun k hk => .inl hk) e3
    have hf1 : w'.heap[fb]? = some (.cells #[.int .i64 (f : Nat)] 3 (0, 0)) := (e3.block fb (by have := hW.size; omega) (fun hk => hn1 (hsub _ hk))).trans ((hW.block fb hfl).trans hfb)
    exact h1.only ((Only.refl [fb] w').set (.inl (by simp)) 0 _) (calm_cells hf1 (by decide) (by decide)) (fun b hb => by simp only [List.mem_singleton]; exact fun e => hn1 (e ▸ hb))
  have hfF : fb ∉ q.s.p.F := fun hk => hn1 (hsub _ hk)
  have hwF : wb ∉ q.s.p.F := fun hk => hn2 (hsub _ hk)
  have d0 := (heap_cell hfb (o := 0) (v := .int .i64 (f : Nat)) rfl).1
  have d1 := (heap_cell hfb (o := 0) (v := .int .i64 (f : Nat)) rfl).2
  have hfb1 := Hid.mk hfb
  have ew : IntKind.i64.wrap ((f : Int) + (k : Int)) = (f : Int) + (k : Int) := by rw [IntWalk.i64_left]; unfold wrap64; omega
  have hBd : Hid (Below w.heap.size w w.drew) := (Below.refl _ w).drew
  generalize hqF : q.s.p.F = F at *
  generalize q.T = T at *
  generalize q.s.p.H = H at *
  have hHp1 := Hid.mk hHp; have hHe1 := Hid.mk hHe; have hAl1 := Hid.mk hAl; clear hHp hHe hAl
  have hfF1 := Hid.mk hfF
  have hne' : Hid (¬ wb = fb) := fun e => hne e.symm
  have hwF1 := Hid.mk hwF
  clear h hs hfb hn1 hn2 hsub hfF hwF hqF
  go_enter Tryz.func35, Tryz.ntmps35
  go_wp2
  go_region_with
    (first
      | (go_at_call 12; (with_reducible refine (hHp1.out _ hBd.out).out.mono ?_); rintro e w0 ⟨rfl, hw0⟩; obtain rfl := hw0.symm)
      | (go_at_call 25; (with_reducible refine (hHe1.out _ hBd.out).out.mono ?_); rintro e w1 ⟨A, c, rfl, hb⟩; have k1 := (hb.cell (p := ⟨wb, 0, none⟩) hwl).trans hwb; have k2 := (hb.cell (p := ⟨fb, 0, none⟩) hfl).trans d0; have hb1 := Hid.mk (below_then hBd.out hb); clear hb)
      | (go_at_call 36; (with_reducible refine (hAl1.out _ _ _ hb1.out).out.mono ?_); rintro e w2 ⟨rfl, hWA, hO⟩; have hzz := hb1.out.size; have k3 := (cell_block (o := 0) (hO.block wb (by omega) hwF1.out)).trans k1; have k4 := (cell_block (o := 0) (hO.block fb (by omega) hfF1.out)).trans k2; have hf2 := Hid.mk ((hO.block fb (by omega) hfF1.out).trans ((hb1.out.block fb hfl).trans hfb1.out)); have g4 := (heap_cell hf2.out (o := 0) (v := .int .i64 (f : Nat)) rfl).2; have hO2 := Hid.mk ((Only.below hb1.out F).trans hO (fun b hb => .inl hb)); clear hO)
      | fail)
  all_goals go_wp2
  all_goals go_ret
  all_goals go_light
  all_goals exact ⟨rfl, hWA.out, heap_set_at (o := 0) hf2.out (.int .i64 ((f : Int) + (k : Int))), (hO2.out.weak (fun b hb => by simp [hb])).set (.inl (by simp)) 0 _⟩

set_option maxHeartbeats 2000000 in
theorem tidy_mend (wb : Nat) {Y : S.World} (w : World) (h : WorldAt w q Y) (hc : Calm2 Y us) (hwb : w.cell? ⟨wb, 0, none⟩ = some (.pointer (some ⟨q.T, 0, none⟩))) :
    Calls Tryz.prog 37 #[.pointer (some ⟨wb, 0, none⟩)] w fun e w' => e = .returned (.int .i64 0) ∧ WorldAt w' q ⟨⟨Y.now.X, []⟩, Y.old⟩ ∧ Only [q.s.mb] w w' := by
  have hM := Hid.mk (mend_calm q Y us w h hc)
  generalize q.T = T at *
  clear h hc
  go_enter Tryz.func37, Tryz.ntmps37
  go_wp2_with (go_at_call 7; (with_reducible refine hM.out.mono ?_); rintro e w1 ⟨rfl, hW, hO⟩; have hW1 := Hid.mk hW; have hO1 := Hid.mk hO; clear hW hO)
  go_ret
  go_light
  exact ⟨rfl, hW1.out, hO1.out⟩

set_option maxHeartbeats 2000000 in
theorem tidy_evolve (wb : Nat) (w : World) (h : WorldAt w q ⟨⟨X, []⟩, none⟩) (hf : X.fresh) (hwb : w.cell? ⟨wb, 0, none⟩ = some (.pointer (some ⟨q.T, 0, none⟩))) :
    Calls Tryz.prog 38 #[.pointer (some ⟨wb, 0, none⟩)] w fun e w' => e = .returned (.int .i64 0) ∧ Below w.heap.size w w' := by
  have hHp : Hid (Calls Tryz.prog 12 #[.pointer (some ⟨q.T, 0, none⟩)] w fun e w' => e = .returned (.pointer (some ⟨q.s.p.H, 0, none⟩)) ∧ w' = w) := trans_Heap q _ w h
  have hE := Hid.mk (evolve_All_none q.s.p X w h.now.heap h.now.ok hf)
  generalize q.T = T at *
  generalize q.s.p.H = H at *
  clear h hf
  go_enter Tryz.func38, Tryz.ntmps38
  go_wp2_with (first | (go_at_call 12; (with_reducible refine hHp.out.mono ?_); rintro e w0 ⟨rfl, hw0⟩; obtain rfl := hw0.symm) | (go_at_call 39; (with_reducible refine hE.out.mono ?_); rintro e w1 ⟨rfl, hb⟩; have hb1 := Hid.mk hb; clear hb))
  go_ret
  go_light
  exact ⟨rfl, hb1.out⟩

set_option maxHeartbeats 2000000 in
theorem tidy_retire (wb : Nat) (w : World) (h : WorldAt w q ⟨⟨X, []⟩, none⟩) (hn : S.handles X.slots = []) (h1 : X.cat.length ≤ 1) (hone : ∀ x, x ∈ X.cat → x.2.tabs.length = 1) (hwb : w.cell? ⟨wb, 0, none⟩ = some (.pointer (some ⟨q.T, 0, none⟩))) :
    Calls Tryz.prog 40 #[.pointer (some ⟨wb, 0, none⟩)] w fun e w' => e = .returned (.int .i64 0) ∧ Only [q.s.p.mb] w w' := by
  have hHp : Hid (Calls Tryz.prog 12 #[.pointer (some ⟨q.T, 0, none⟩)] w fun e w' => e = .returned (.pointer (some ⟨q.s.p.H, 0, none⟩)) ∧ w' = w) := trans_Heap q _ w h
  have hE := Hid.mk (count_RetireAll_few q.s.p X w h.now.heap h.now.ok hn h1 hone)
  generalize q.T = T at *
  generalize q.s.p.H = H at *
  clear h hn h1 hone
  go_enter Tryz.func40, Tryz.ntmps40
  go_wp2_with (first | (go_at_call 12; (with_reducible refine hHp.out.mono ?_); rintro e w0 ⟨rfl, hw0⟩; obtain rfl := hw0.symm) | (go_at_call 41; (with_reducible refine hE.out.mono ?_); rintro e w1 ⟨rfl, hb⟩; have hb1 := Hid.mk hb; clear hb))
  go_ret
  go_light
  exact ⟨rfl, hb1.out⟩
end
end Go.Proofs.YtdokiaicheillaaGreat

namespace Go.Proofs.YtdokiaicheillaaGreat
open Go.RowKit

/-- Between two steps of Tidy. -/
structure TS (w wr : World) (q : WPlace) (fb wb : Nat) (Y : S.World) (f : Nat) : Prop where
  at_ : WorldAt wr q Y
  fb : wr.heap[fb]? = some (.cells #[.int .i64 (f : Nat)] 3 (0, 0))
  wb : wr.heap[wb]? = some (.cells #[.pointer (some ⟨q.T, 0, none⟩)] 22 (0, 0))
  only : Only q.F w wr
/-- Behind Tidy. -/
structure TE (w wr : World) (q : WPlace) (fb : Nat) (l : List S.Slot) (f : Nat) : Prop where
  fb : wr.heap[fb]? = some (.cells #[.int .i64 (f : Nat)] 3 (0, 0))
  only : Only q.F w wr
  c0 : wr.cell? ⟨q.T, 0, none⟩ = some (.pointer (some ⟨q.s.p.H, 0, none⟩))
  c2 : wr.cell? ⟨q.s.p.H, 2, none⟩ = some (.pointer (some ⟨q.s.p.s, 0, none⟩))
  slt : SlotsAt wr q.s.p.s q.s.p.vs l

theorem TS.wcell {w wr : World} {q : WPlace} {fb wb : Nat} {Y : S.World} {f : Nat} (h : TS w wr q fb wb Y f) : wr.cell? ⟨wb, 0, none⟩ = some (.pointer (some ⟨q.T, 0, none⟩)) := (heap_cell h.wb (o := 0) rfl).1
theorem TS.then {w wr w' : World} {q : WPlace} {fb wb : Nat} {Y Y' : S.World} {f : Nat} {G : List Nat} (h : TS w wr q fb wb Y f) (ha : WorldAt w' q Y') (hO : Only G wr w') (hG : ∀ b, b ∈ G → b ∈ q.F) (h1 : fb ∉ q.F) (h2 : wb ∉ q.F) : TS w w' q fb wb Y' f where
  at_ := ha
  fb := (hO.block fb (Array.getElem?_eq_some_iff.1 h.fb).1 (fun hk => h1 (hG _ hk))).trans h.fb
  wb := (hO.block wb (Array.getElem?_eq_some_iff.1 h.wb).1 (fun hk => h2 (hG _ hk))).trans h.wb
  only := h.only.trans hO (fun b hb => .inl (hG b hb))
theorem q_mb (q : WPlace) : q.s.mb ∈ q.F := by simp [WPlace.F, SPlace.F]
theorem q_pmb (q : WPlace) : q.s.p.mb ∈ q.F := q_sub (mem_F.2 (.inr (.inl (by simp [catF]))))

abbrev stepsC (n : Nat) : Array Value := #[.func (.func 37) #[] #[.pointer (some ⟨n, 0, none⟩)], .func (.func 35) #[] #[.pointer (some ⟨n + 1, 0, none⟩), .pointer (some ⟨n, 0, none⟩)], .func (.func 38) #[] #[.pointer (some ⟨n, 0, none⟩)], .func (.func 35) #[] #[.pointer (some ⟨n + 1, 0, none⟩), .pointer (some ⟨n, 0, none⟩)], .func (.func 40) #[] #[.pointer (some ⟨n, 0, none⟩)]]
theorem steps_size : (Tryz.prog.info? 74).map (fun i => i.size) = some 5 := by kernel_rfl
abbrev nilsC : Array Value := #[.nilFunc, .nilFunc, .nilFunc, .nilFunc, .nilFunc]

theorem steps_0 (n : Nat) (w : World) : (Instr.index 74 (.agg (stepsC n)) (.int .i64 0)).run Tryz.prog w = .ok (.func (.func 37) #[] #[.pointer (some ⟨n, 0, none⟩)]) w := by kernel_rfl
theorem steps_1 (n : Nat) (w : World) : (Instr.index 74 (.agg (stepsC n)) (.int .i64 1)).run Tryz.prog w = .ok (.func (.func 35) #[] #[.pointer (some ⟨n + 1, 0, none⟩), .pointer (some ⟨n, 0, none⟩)]) w := by kernel_rfl
theorem steps_2 (n : Nat) (w : World) : (Instr.index 74 (.agg (stepsC n)) (.int .i64 2)).run Tryz.prog w = .ok (.func (.func 38) #[] #[.pointer (some ⟨n, 0, none⟩)]) w := by kernel_rfl
theorem steps_3 (n : Nat) (w : World) : (Instr.index 74 (.agg (stepsC n)) (.int .i64 3)).run Tryz.prog w = .ok (.func (.func 35) #[] #[.pointer (some ⟨n + 1, 0, none⟩), .pointer (some ⟨n, 0, none⟩)]) w := by kernel_rfl
theorem steps_4 (n : Nat) (w : World) : (Instr.index 74 (.agg (stepsC n)) (.int .i64 4)).run Tryz.prog w = .ok (.func (.func 40) #[] #[.pointer (some ⟨n, 0, none⟩)]) w := by kernel_rfl

set_option maxRecDepth 100000 in
set_option maxHeartbeats 8000000 in
theorem tidy_calm (q : WPlace) (Y : S.World) (us : List Nat) (X2 : S.Heap) (k : Nat) (w : World) (h : WorldAt w q Y) (hc : Calm2 Y us) (hs : Sweeps q.s.p Y.now.X X2 k) :
    Calls Tryz.prog 8 #[.pointer (some ⟨q.T, 0, none⟩)] w fun e w' => e = .returned (.tuple #[.int .i64 (k : Nat), .int .i64 0]) ∧ Only q.F w w' ∧ w'.cell? ⟨q.T, 0, none⟩ = some (.pointer (some ⟨q.s.p.H, 0, none⟩)) ∧ w'.cell? ⟨q.s.p.H, 2, none⟩ = some (.pointer (some ⟨q.s.p.s, 0, none⟩)) ∧ SlotsAt w' q.s.p.s q.s.p.vs X2.slots := by
  have hold := hc.old
  have hs2 : Sweeps q.s.p X2 X2 0 := sweeps_none hs.ok hs.fresh hs.none hs.cat hs.one
  have hlt := h.lt
  have hn1 : w.heap.size + 1 ∉ q.F := fun hk => by have := hlt _ hk; omega
  have hn2 : w.heap.size ∉ q.F := fun hk => by have := hlt _ hk; omega
  have hsub : ∀ b, b ∈ q.s.p.F → b ∈ q.F := fun b hb => q_sub hb
  obtain ⟨⟨X, R⟩, ol⟩ := Y
  simp only at hold hs
  subst hold
  have hf2 := hs.few
  -- the steps
  have S0 : ∀ wr, TS w wr q (w.heap.size + 1) w.heap.size ⟨⟨X, R⟩, none⟩ 0 → Hid (Calls Tryz.prog 37 #[.pointer (some ⟨w.heap.size, 0, none⟩)] wr fun e w' => e = .returned (.int .i64 0) ∧ Hid (TS w w' q (w.heap.size + 1) w.heap.size ⟨⟨X, []⟩, none⟩ 0)) := fun wr ht =>
    (tidy_mend w.heap.size wr ht.at_ hc ht.wcell).mono fun e w' ⟨e1, e2, e3⟩ => ⟨e1, ht.then e2 e3 (fun b hb => by simp only [List.mem_singleton] at hb; rw [hb]; exact q_mb q) hn1 hn2⟩
  have S1 : ∀ wr X1 X3 f j, TS w wr q (w.heap.size + 1) w.heap.size ⟨⟨X1, []⟩, none⟩ f → Sweeps q.s.p X1 X3 j → f ≤ 100 → Hid (Calls Tryz.prog 35 #[.pointer (some ⟨w.heap.size + 1, 0, none⟩), .pointer (some ⟨w.heap.size, 0, none⟩)] wr fun e w' => e = .returned (.int .i64 0) ∧ Hid (TS w w' q (w.heap.size + 1) w.heap.size ⟨⟨X3, []⟩, none⟩ (f + j))) := fun wr X1 X3 f j ht hsw hf =>
    (tidy_free (w.heap.size + 1) w.heap.size wr ht.at_ hsw ht.fb ht.wcell hf hn1 hn2 (by omega)).mono fun e w' ⟨e1, e2, e3, e4⟩ => ⟨e1, ⟨e2, e3, (e4.block w.heap.size (Array.getElem?_eq_some_iff.1 ht.wb).1 (fun hk => by rcases List.mem_cons.1 hk with hk | hk; omega; exact hn2 (hsub _ hk))).trans ht.wb, ht.only.trans e4 (fun b hb => by rcases List.mem_cons.1 hb with rfl | hb; exact .inr (Nat.le_succ _); exact .inl (hsub _ hb))⟩⟩
  have S2 : ∀ wr f, TS w wr q (w.heap.size + 1) w.heap.size ⟨⟨X2, []⟩, none⟩ f → Hid (Calls Tryz.prog 38 #[.pointer (some ⟨w.heap.size, 0, none⟩)] wr fun e w' => e = .returned (.int .i64 0) ∧ Hid (TS w w' q (w.heap.size + 1) w.heap.size ⟨⟨X2, []⟩, none⟩ f)) := fun wr f ht =>
    (tidy_evolve w.heap.size wr ht.at_ hs.fresh ht.wcell).mono fun e w' ⟨e1, hb⟩ => ⟨e1, ht.then (ht.at_.below hb) (Only.below hb []) (fun b hb => by cases hb) hn1 hn2⟩
  have S4 : ∀ wr f, TS w wr q (w.heap.size + 1) w.heap.size ⟨⟨X2, []⟩, none⟩ f → Hid (Calls Tryz.prog 40 #[.pointer (some ⟨w.heap.size, 0, none⟩)] wr fun e w' => e = .returned (.int .i64 0) ∧ Hid (TE w w' q (w.heap.size + 1) X2.slots f)) := fun wr f ht =>
    (tidy_retire w.heap.size wr ht.at_ hs.none hs.cat hs.one ht.wcell).mono fun e w' ⟨e1, hO⟩ => ⟨e1, by
      have hh := ht.at_.now.heap
      have hsep := Parts.sep hh.apart
      have hcm : q.s.p.mb ∈ catF q.s.p.c q.s.p.mb q.s.p.ps := by simp [catF]
      obtain ⟨m1, m2, m3, m4, m5⟩ := hsep.c _ hcm
      have hnd := ht.at_.apart3.1
      refine ⟨(hO.block _ (Array.getElem?_eq_some_iff.1 ht.fb).1 (fun hk => hn1 (by simp only [List.mem_singleton] at hk; rw [hk]; exact q_pmb q))).trans ht.fb, ht.only.trans hO (fun b hb => .inl (by simp only [List.mem_singleton] at hb; rw [hb]; exact q_pmb q)), ?_, ?_, ?_⟩
      · exact (cell_block (hO.block q.T (ht.at_.lt _ (by simp [WPlace.F])) (fun hk => hnd (by simp only [List.mem_singleton] at hk; rw [hk]; exact List.mem_append.2 (.inl (mem_F.2 (.inr (.inl hcm)))))))).trans ht.at_.c0
      · exact (cell_block (hO.block q.s.p.H (hh.lt _ (mem_F.2 (.inl rfl))) (fun hk => hsep.Hc (by simp only [List.mem_singleton] at hk; rw [hk]; exact hcm)))).trans hh.c2
      · exact hh.slt.kept (hO.block _ (hh.lt _ (mem_F.2 (.inr (.inr (.inr (.inr (.inl rfl))))))) (fun hk => m3 (by simp only [List.mem_singleton] at hk; exact hk.symm))) (fun b hb => hO.block b (hh.lt b (F_vs q.s.p hb)) (fun hk => m4 (by simp only [List.mem_singleton] at hk; rw [← hk]; exact hb)))⟩
  -- the worlds before the loop
  have hT0 : Hid (TS w ((w.alloc (.cells #[.pointer (some ⟨q.T, 0, none⟩)] 22)).alloc (.cells #[.int .i64 0] 3)) q (w.heap.size + 1) w.heap.size ⟨⟨X, R⟩, none⟩ 0) := by
    have hb : Below w.heap.size w ((w.alloc (.cells #[.pointer (some ⟨q.T, 0, none⟩)] 22)).alloc (.cells #[.int .i64 0] 3)) := (below_one _ _).new_ _
    refine ⟨h.below hb, ?_, (Below.heap_alloc _ _ _ (by simp)).trans (heap_alloc_new w _), Only.below hb _⟩
    have := heap_alloc_new (w.alloc (.cells #[.pointer (some ⟨q.T, 0, none⟩)] 22)) (.cells #[.int .i64 0] 3)
    rwa [World.size_alloc] at this
  have hA9 : ((((w.alloc (.cells #[.pointer (some ⟨q.T, 0, none⟩)] 22)).alloc (.cells #[.int .i64 0] 3)).alloc (.cells nilsC 74)).heap[w.heap.size + 1 + 1]? = some (.cells nilsC 74 (0, 0))) := by
    have := heap_alloc_new ((w.alloc (.cells #[.pointer (some ⟨q.T, 0, none⟩)] 22)).alloc (.cells #[.int .i64 0] 3)) (.cells nilsC 74)
    rwa [World.size_alloc, World.size_alloc] at this
  have hRg : Hid (((((w.alloc (.cells #[.pointer (some ⟨q.T, 0, none⟩)] 22)).alloc (.cells #[.int .i64 0] 3)).alloc (.cells nilsC 74)).setRow (w.heap.size + 1 + 1) (stepsC w.heap.size)).rangeAt (w.heap.size + 1 + 1) 0 (stepsC w.heap.size).toList) := World.rangeAt_of_block (setRow_heap _ _ _ (stepsC w.heap.size) _ _ hA9) 0 5
  have hT3 : Hid (TS w ((((w.alloc (.cells #[.pointer (some ⟨q.T, 0, none⟩)] 22)).alloc (.cells #[.int .i64 0] 3)).alloc (.cells nilsC 74)).setRow (w.heap.size + 1 + 1) (stepsC w.heap.size)) q (w.heap.size + 1) w.heap.size ⟨⟨X, R⟩, none⟩ 0) := by
    have hb : Below ((w.alloc (.cells #[.pointer (some ⟨q.T, 0, none⟩)] 22)).alloc (.cells #[.int .i64 0] 3)).heap.size ((w.alloc (.cells #[.pointer (some ⟨q.T, 0, none⟩)] 22)).alloc (.cells #[.int .i64 0] 3)) ((((w.alloc (.cells #[.pointer (some ⟨q.T, 0, none⟩)] 22)).alloc (.cells #[.int .i64 0] 3)).alloc (.cells nilsC 74)).setRow (w.heap.size + 1 + 1) (stepsC w.heap.size)) := below_setRow (below_one _ _) (by simp) _
    exact hT0.out.then (hT0.out.at_.below hb) (Only.below hb []) (fun b hb => by cases hb) hn1 hn2
  have hs1 := Hid.mk hs
  have hs21 := Hid.mk hs2
  have hqT := Hid.mk (Eq.refl q.T)
  clear h hc hs hs2 hlt hn1 hn2 hsub hqT hA9 hT0
  have S01 := Hid.mk S0; have S11 := Hid.mk S1; have S21 := Hid.mk S2; have S41 := Hid.mk S4; clear S0 S1 S2 S4
  go_enter Tryz.func8, Tryz.ntmps8
  have hA0 : Hid ((((w.alloc (.cells #[.pointer (some ⟨q.T, 0, none⟩)] 22)).alloc (.cells #[.int .i64 0] 3)).alloc (.cells nilsC 74)).heap[w.heap.size + 1 + 1]? = some (.cells nilsC 74 (0, 0))) := by
    have := heap_alloc_new ((w.alloc (.cells #[.pointer (some ⟨q.T, 0, none⟩)] 22)).alloc (.cells #[.int .i64 0] 3)) (.cells nilsC 74)
    rwa [World.size_alloc, World.size_alloc] at this
  have hA1 : Hid ((Tryz.prog.info? 74).map (·.size) = some (stepsC w.heap.size).size) := steps_size
  have hA2 : Hid (nilsC.size = (stepsC w.heap.size).size) := rfl
  have hA3 : Hid ((stepsC w.heap.size).all (·.oneCell') = true) := Hid.mk (by simp [Value.oneCell'])
  have hA4 : Hid ((Tryz.prog.info? 74).map (·.size) = some (stepsC w.heap.size).toList.length) := steps_size
  go_wp2_with (first
    | (with_reducible refine wpList_store_row rfl 74 _ _ rfl (w.heap.size + 1 + 1) (stepsC w.heap.size) rfl rfl 74 _ hA0.out hA1.out hA2.out hA3.out ?_; generalize ((((w.alloc (.cells #[.pointer (some ⟨q.T, 0, none⟩)] 22)).alloc (.cells #[.int .i64 0] 3)).alloc (.cells nilsC 74)).setRow (w.heap.size + 1 + 1) (stepsC w.heap.size)) = W3 at *)
    | (with_reducible refine wpList_load_mid rfl 74 _ rfl (w.heap.size + 1 + 1) 0 rfl (stepsC w.heap.size).toList _ hRg.out Tryz.underlying74 rfl hA4.out ?_)
    | fail)
  clear hA0 hA1 hA2 hA3 hA4 hRg
  go_loopw [18] (fun v18 wr => (v18 = .int .i64 0 ∧ Hid (TS w wr q (w.heap.size + 1) w.heap.size ⟨⟨X, R⟩, none⟩ 0)) ∨ (v18 = .int .i64 1 ∧ Hid (TS w wr q (w.heap.size + 1) w.heap.size ⟨⟨X, []⟩, none⟩ 0)) ∨ (v18 = .int .i64 2 ∧ Hid (TS w wr q (w.heap.size + 1) w.heap.size ⟨⟨X2, []⟩, none⟩ (0 + k))) ∨ (v18 = .int .i64 3 ∧ Hid (TS w wr q (w.heap.size + 1) w.heap.size ⟨⟨X2, []⟩, none⟩ (0 + k))) ∨ (v18 = .int .i64 4 ∧ Hid (TS w wr q (w.heap.size + 1) w.heap.size ⟨⟨X2, []⟩, none⟩ (0 + k + 0))) ∨ (v18 = .int .i64 5 ∧ Hid (TE w wr q (w.heap.size + 1) X2.slots (0 + k + 0)))) (fun v18 _ => 5 - (intOf v18).toNat)
  case atStart => exact .inl ⟨rfl, hT3⟩
  case round =>
    clear hT3
    rcases hrel with ⟨hv, ht⟩ | ⟨hv, ht⟩ | ⟨hv, ht⟩ | ⟨hv, ht⟩ | ⟨hv, ht⟩ | ⟨hv, ht⟩
    · subst hv
      have hi := steps_0 w.heap.size wr
      simp only [stepsC] at hi
      go_wp2_with (go_at_call 37; (with_reducible refine (S01.out _ ht.out).out.mono ?_); rintro e w2 ⟨rfl, ht2⟩)
      go_roundw
      case rel =>
        go_light
        exact .inr (.inl ⟨rfl, ht2⟩)
      case measure => simp [intOf]
    · subst hv
      have hi := steps_1 w.heap.size wr
      simp only [stepsC] at hi
      go_wp2_with (go_at_call 35; (with_reducible refine (S11.out _ _ _ _ _ ht.out hs1.out (by decide)).out.mono ?_); rintro e w2 ⟨rfl, ht2⟩)
      go_roundw
      case rel =>
        go_light
        exact .inr (.inr (.inl ⟨rfl, ht2⟩))
      case measure => simp [intOf]
    · subst hv
      have hi := steps_2 w.heap.size wr
      simp only [stepsC] at hi
      go_wp2_with (go_at_call 38; (with_reducible refine (S21.out _ _ ht.out).out.mono ?_); rintro e w2 ⟨rfl, ht2⟩)
      go_roundw
      case rel =>
        go_light
        exact .inr (.inr (.inr (.inl ⟨rfl, ht2⟩)))
      case measure => simp [intOf]
    · subst hv
      have hi := steps_3 w.heap.size wr
      simp only [stepsC] at hi
      go_wp2_with (go_at_call 35; (with_reducible refine (S11.out _ _ _ _ _ ht.out hs21.out (by omega)).out.mono ?_); rintro e w2 ⟨rfl, ht2⟩)
      go_roundw
      case rel =>
        go_light
        exact .inr (.inr (.inr (.inr (.inl ⟨rfl, ht2⟩))))
      case measure => simp [intOf]
    · subst hv
      have hi := steps_4 w.heap.size wr
      simp only [stepsC] at hi
      go_wp2_with (go_at_call 40; (with_reducible refine (S41.out _ _ ht.out).out.mono ?_); rintro e w2 ⟨rfl, ht2⟩)
      go_roundw
      case rel =>
        go_light
        exact .inr (.inr (.inr (.inr (.inr ⟨rfl, ht2⟩))))
      case measure => simp [intOf]
    · subst hv
      have d0 := (heap_cell ht.out.fb (o := 0) (v := .int .i64 ((0 + k + 0 : Nat) : Int)) rfl).1
      have ek : ((0 + k + 0 : Nat) : Int) = (k : Int) := by omega
      rw [ek] at d0
      clear ek
      go_wp2
      go_ret2
      go_light
      exact ⟨rfl, ht.out.only, ht.out.c0, ht.out.c2, ht.out.slt⟩
end Go.Proofs.YtdokiaicheillaaGreat
