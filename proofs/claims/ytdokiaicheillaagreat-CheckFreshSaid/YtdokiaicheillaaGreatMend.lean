/-
  The walks of check.Clean and check.Mend at a calm world.
-/
import Derived.Test.YtdokiaicheillaaGreatLookA
import Derived.Deep.RegionWith
import Derived.Deep.RegionHeld3
import Derived.Deep.MidRow
namespace Go.Proofs.YtdokiaicheillaaGreat
open Go.RowKit

abbrev repC (v0 v2 : Value) (n : Int) : Array Value := #[v0, .slice none 0 0, v2, .slice none 0 0, .int .i64 n]
abbrev repO (v0 v2 : Value) (n : Int) : Obj := .cells (repC v0 v2 n) 30
abbrev nilS : Value := .slice none 0 0
theorem rep_size : (Tryz.prog.info? 30).map (fun i => i.size) = some 5 := by kernel_rfl

/-- What a store into the report leaves, behind an append. -/
theorem rep_set {W W5 : World} {rb base o n : Nat} {t : TypeId} {sz : Nat} {v v' : Value} {xs : List Value} {cs : Array Value} (hO : W.grownBy W5 v.ownBlock) (hv : ∀ k, v.ownBlock = some k → base ≤ k) (hrb : rb < base) (hW : W.heap[rb]? = some (.cells cs 30 (0, 0))) (ho : W5.ownsRow base t sz v' n xs) :
    (W5.setCell ⟨rb, o, none⟩ v').heap[rb]? = some (.cells (cs.setIfInBounds o v') 30 (0, 0)) ∧ (W5.setCell ⟨rb, o, none⟩ v').ownsRow base t sz v' n xs := by
  have hlt := (Array.getElem?_eq_some_iff.1 hW).1
  have h5 := (hO.block rb hlt (fun e => by have := hv rb e.symm; omega)).trans hW
  refine ⟨heap_set_at h5 v', own_kept ho (fun k hk => ?_)⟩
  have := own_block_ge ho hk
  exact Below.heap_setCell W5 ⟨rb, o, none⟩ v' k (by simp only; omega)

set_option maxRecDepth 100000 in
set_option maxHeartbeats 16000000 in
theorem look_calm {T H r c : Nat} {R : List (S.Text × S.Handle)} {hs : List S.Handle} {ns : List S.Text} {n : Nat} (w : World) (h : LookC w T H r c R hs ns n) :
    Calls Tryz.prog 6 #[.pointer (some ⟨T, 0, none⟩)] w fun e w' => ∃ A0 c0 A2 c2, e = .returned (.agg #[.slice A0 R.length c0, .slice none 0 0, .slice A2 hs.length c2, .slice none 0 0, .int .i64 0]) ∧ Row w'.cell? A0 1 (fun x => [encT x]) (R.map (·.1)) ∧ Below w.heap.size w w' := by
  obtain ⟨hRn, hHn, hNn, hnn⟩ := h.few
  have hzz := Hid.mk h.zero
  obtain ⟨W0, hW0⟩ : ∃ W0, (((w.alloc (repO nilS nilS 0)).alloc (repO nilS nilS 0)).alloc (.cells #[.pointer (some ⟨H, 0, none⟩)] 36)) = W0 := ⟨_, rfl⟩
  have hB0 : Below w.heap.size w W0 := hW0 ▸ ((below_one _ _).new_ _).new_ _
  have z0 : W0.heap.size = w.heap.size + 3 := by rw [← hW0]; simp
  have hrb0 : W0.heap[w.heap.size + 1]? = some (.cells (repC nilS nilS 0) 30 (0, 0)) := by
    rw [← hW0, Below.heap_alloc _ _ _ (by simp)]
    have := heap_alloc_new (w.alloc (repO nilS nilS 0)) (repO nilS nilS 0)
    rwa [World.size_alloc] at this
  have hbh0 : W0.heap[w.heap.size + 2]? = some (.cells #[.pointer (some ⟨H, 0, none⟩)] 36 (0, 0)) := by
    rw [← hW0]
    have := heap_alloc_new ((w.alloc (repO nilS nilS 0)).alloc (repO nilS nilS 0)) (.cells #[.pointer (some ⟨H, 0, none⟩)] 36)
    rwa [World.size_alloc, World.size_alloc] at this
  have hres0 : W0.heap[w.heap.size]? = some (.cells (repC nilS nilS 0) 30 (0, 0)) := by
    rw [← hW0, Below.heap_alloc _ _ _ (by simp; omega), Below.heap_alloc _ _ _ (by simp)]
    exact heap_alloc_new w _
  have hW1 := Hid.mk hW0
  have h1 := Hid.mk h
  have hB01 := Hid.mk hB0
  have hHe : ∀ W, Below w.heap.size w W → Hid _ := fun W hW => Hid.mk (h1.out.heap W hW)
  have hrb01 := Hid.mk hrb0; have hbh01 := Hid.mk hbh0; have hres01 := Hid.mk hres0; clear hrb0 hbh0 hres0
  clear h hB0
  go_enter Tryz.func6, Tryz.ntmps6
  go_wp2_with (first
    | (go_at_call 12; (with_reducible refine (h1.out.heap _ ((below_one _ _).new_ _)).out.mono ?_); rintro e w0 ⟨rfl, rfl⟩)
    | (go_at_call 13; (with_reducible refine (h1.out.roots _ hB01.out).out.mono ?_); rintro e w9 ⟨rfl, hw⟩; obtain rfl := hw.symm)
    | (go_at_call 22; (with_reducible refine (h1.out.names _ hB01.out).out.mono ?_); rintro e w1 ⟨A, k, rfl, hr, hg, hb⟩; have hr1 := Hid.mk hr; have hg1 := Hid.mk hg; have hb1 := Hid.mk hb; clear hr hg hb)
    | fail)
  clear hW0
  have hrb1 := (hb1.out.block (w.heap.size + 1) (by omega)).trans hrb01.out
  have hbh1 := (hb1.out.block (w.heap.size + 2) (by omega)).trans hbh01.out
  have hres1 := (hb1.out.block w.heap.size (by omega)).trans hres01.out
  have z1 : w.heap.size + 3 ≤ w1.heap.size := by have := hb1.out.size; omega
  have hB1 := Hid.mk (below_then hB01.out hb1.out)
  clear hrb01 hbh01 hres01 hb1 hW1 hHe
  have hlt1 : w.heap.size < w.heap.size + 1 := Nat.lt_succ_self _
  have hle1 : w.heap.size + 1 ≤ w.heap.size + 1 := Nat.le_refl _
  have hbh2 : w1.heap[w.heap.size + 1 + 1]? = some (.cells #[.pointer (some ⟨H, 0, none⟩)] 36 (0, 0)) := hbh1
  generalize hrbe : w.heap.size + 1 = rb at *
  have hrl : w.heap.size < rb := by omega
  have z2 : rb + 2 ≤ w1.heap.size := by omega
  have hru : rb ≤ w.heap.size + 1 := by omega
  clear hbh1 hrbe hlt1 hle1
  have hrb2 := Hid.mk hrb1
  have hbh3 := Hid.mk hbh2
  have hres2 := Hid.mk hres1
  clear hrb1 hbh2 hres1
  go_loopw [24] (fun v24 wr => ∃ (i : Nat) (v0 : Value), i ≤ R.length ∧ v24 = .int .i64 i ∧ Hid (Only [rb] w1 wr) ∧ Hid (wr.heap[rb]? = some (.cells (repC v0 nilS 0) 30 (0, 0))) ∧ Hid (wr.ownsRow w1.heap.size 9 1 v0 i (((R.map (·.1)).take i).map encT))) (fun v24 _ => R.length - (intOf v24).toNat)
  case atStart => exact ⟨0, nilS, Nat.zero_le _, rfl, Only.refl _ _, hrb2, ⟨rfl, .inl ⟨rfl, rfl⟩⟩⟩
  case round =>
    obtain ⟨i, v0, hi, rfl, hO, hrb, hv⟩ := hrel
    have hz := hO.out.size
    have hBw := Hid.mk (hB1.out.trans (hO.out.toBelow (B := w.heap.size) (fun k hk => by simp only [List.mem_singleton] at hk; omega) (by omega)))
    by_cases hlt : i < R.length
    · have hx : R[i]? = some R[i] := List.getElem?_eq_getElem hlt
      have hxm : (R.map (·.1))[i]? = some R[i].1 := by rw [List.getElem?_map, hx]; rfl
      obtain ⟨b, off, rfl, hc⟩ := hr1.out.2 i _ hxm
      have e0 := hc 0 _ rfl
      simp only [Nat.mul_one, Nat.add_zero] at e0
      have hbge := hg1.out b off rfl
      have e1 := (cell_block (o := off + i) (hO.out.block b (World.block_lt_of_cell? _ _ e0) (by simp only [List.mem_singleton]; omega))).trans e0
      have htk := Hid.mk (S.take_succ' hxm)
      have hG := h1.out.get i _ hx wr hBw.out
      have hBd := h1.out.bad i _ hx
      obtain ⟨A0, k0, rfl⟩ := own_slice hv.out
      generalize R[i] = x at *
      obtain ⟨xn, xs, xg⟩ := x
      have hBd1 := Hid.mk hBd
      have hb0 := Hid.mk ((hO.out.block (rb + 1) (by omega) (by simp)).trans hbh3.out)
      clear hc hx hxm e0 hBd
      have hRo := h1.out.roots wr hBw.out
      go_wp2_with (first
        | (go_at_call 13; (with_reducible refine hRo.out.mono ?_); rintro e w9 ⟨rfl, hw⟩; obtain rfl := hw.symm)
        | (go_at_call 23; (with_reducible refine hG.out.mono ?_); rintro e w2 ⟨rfl, hb⟩; have hb2 := Hid.mk (hb.new_ (.cells #[.int .i64 xs, .int .i64 xg] 51)); have hbd2 := hBd1.out (w2.alloc (.cells #[.int .i64 xs, .int .i64 xg] 51)) (rb + 1) (below_then hBw.out hb2.out) ((hb2.out.cell (p := ⟨rb + 1, 0, none⟩) (show rb + 1 < wr.heap.size by omega)).trans (heap_cell hb0.out (o := 0) rfl).1); clear hb)
        | (go_at_call 20; (with_reducible refine hbd2.out.mono ?_); rintro e w3 ⟨rfl, hb⟩; have hb3 := Hid.mk (below_then hb2.out hb); have hrb3 := (hb3.out.block rb (show rb < wr.heap.size by omega)).trans hrb.out; obtain ⟨d0, f0⟩ := heap_cell hrb3 (o := 0) (v := .slice A0 i k0) rfl; have hrb4 := Hid.mk hrb3; clear hb hrb3)
        | (at_builtin; go_must (refine app_str rfl _ _ rfl w1.heap.size _ _ _ rfl ((own_kept hv.out (fun k hk => hb3.out.block k (own_lt hv.out hk))).alloc _) ⟨w3.heap.size, 0, none⟩ 1 1 [encT xn] rfl rfl (cell_one_new _ _ _) (by simp [Value.oneCell']) (by omega) (by have := hb3.out.size; simp; omega) ?_; intro v' w5 ho5 hg5 h5 h6; clear h5; obtain ⟨g5, cap5, rfl⟩ := ownsRow_succ ho5; have hst := rep_set (o := 0) (World.grownBy.trans (World.grownBy_alloc w3 _ _) hg5) (fun k e => own_block_ge hv.out e) (show rb < w1.heap.size by omega) hrb4.out ho5; have hst1 := Hid.mk hst; have hrb5 := (hg5.block rb (by have := hb3.out.size; simp; omega) (fun e => by have := own_block_ge hv.out e.symm; omega)).trans ((Below.heap_alloc _ _ _ (by have := hb3.out.size; omega)).trans hrb4.out); obtain ⟨d5, f5⟩ := heap_cell hrb5 (o := 0) (v := .slice A0 i k0) rfl; have ho51 := Hid.mk ho5; have hg51 := Hid.mk hg5; have h61 := Hid.mk h6; have hrb51 := Hid.mk hrb5; clear ho5 hg5 h6 hrb5; clear hst))
        | fail)
      go_roundw
      case rel =>
        go_light
        refine ⟨i + 1, _, by omega, by go_num, ?_, hst1.out.1, ?_⟩
        · exact (((hO.out.then hb3.out).alloc _).grown hg51.out (fun k e => .inr (own_block_ge hv.out e))).set (.inl (by simp)) 0 _
        · rw [htk.out, List.map_append]
          exact hst1.out.2
      case measure => simp [intOf]; omega
    · obtain rfl : i = R.length := by omega
      have hv2 := hv.out
      rw [← List.length_map (f := fun x : S.Text × S.Handle => x.1), List.take_length, List.length_map] at hv2
      obtain ⟨A0, k0, rfl⟩ := own_slice hv2
      have hb0 := Hid.mk ((hO.out.block (rb + 1) (by omega) (by simp)).trans hbh3.out)
      have c0 := (heap_cell hb0.out (o := 0) (v := .pointer (some ⟨H, 0, none⟩)) rfl).1
      have hBd : Hid (Below w.heap.size w wr.drew) := hBw.out.drew
      have hv3 := Hid.mk hv2
      have hOw := Hid.mk hO.out
      have hrl1 := hr1
      clear hr1 hg1 hv hv2 hlt hrl1
      go_wp2
      go_region_held3 (fun V => V.cell? ⟨rb + 1, 0, none⟩ = some (.pointer (some ⟨H, 0, none⟩)))
        (first | go_keep | exact k1 | exact k2)
        (first
          | (go_at_call 25; (with_reducible refine (h1.out.held _ hBd.out).out.mono ?_); rintro e w2 ⟨A2, n2, c2, rfl, hb, hRe⟩; have k1 := (hb.cell (p := ⟨rb + 1, 0, none⟩) (show rb + 1 < wr.heap.size by omega)).trans c0; have hb2 := Hid.mk hb; have hRe1 := hRe w2 (Below.refl _ _); clear hb hRe)
          | (go_at_call 24; (with_reducible refine hRe1.out.mono ?_); rintro e w3 ⟨rfl, hb⟩; have k2 := (hb.cell (p := ⟨rb + 1, 0, none⟩) (World.block_lt_of_cell? _ _ k1)).trans k1; have hb3 := Hid.mk (below_then (show Below wr.heap.size wr w2 from (show Below wr.heap.size wr wr.drew from (Below.refl _ wr).drew).trans hb2.out) hb); clear hb)
          | fail)
      have hB3 := Hid.mk (below_then hBw.out hb3.out)
      have hHs := h1.out.handles w3 hB3.out
      clear k1 c0
      go_wp2_with (go_at_call 19; (with_reducible refine hHs.out.mono ?_); rintro e w4 ⟨Ah, kh, rfl, hr, hg, hb⟩; have hr4 := Hid.mk hr; have hg4 := Hid.mk hg; have hb4 := Hid.mk (below_then hb3.out hb); have hzh : w3.heap.size ≤ w4.heap.size := hb.size; clear hr hg hb)
      have hz4 : wr.heap.size ≤ w4.heap.size := hb4.out.size
      have hz3 : wr.heap.size ≤ w3.heap.size := hb3.out.size
      have hB4 := Hid.mk (below_then hBw.out hb4.out)
      have hres4 := Hid.mk ((hb4.out.block w.heap.size (by omega)).trans ((hO.out.block w.heap.size (by omega) (by simp only [List.mem_singleton]; omega)).trans hres2.out))
      have hrb4 := Hid.mk ((hb4.out.block rb (by omega)).trans hrb.out)
      have hbh4 := Hid.mk ((hb4.out.block (rb + 1) (by omega)).trans hb0.out)
      have hv4 := Hid.mk (own_kept hv3.out (fun k hk => hb4.out.block k (own_lt hv3.out hk)))
      have hO4 := Hid.mk (hOw.out.then hb4.out)
      clear hrb hb0 hv3 hOw hbh3 hb3 hb2 hBd hBw hB3 hO hB1 hrb2 hHs hRe1
      obtain ⟨wo, rfl⟩ : ∃ wo : World, wo = wr := ⟨_, rfl⟩
      go_loopw [52] (fun v52 wr => ∃ (i : Nat) (v2 : Value), i ≤ hs.length ∧ v52 = .int .i64 i ∧ Hid (Only [rb] w4 wr) ∧ Hid (wr.heap[rb]? = some (.cells (repC (.slice A0 R.length k0) v2 0) 30 (0, 0))) ∧ Hid (wr.ownsRow w4.heap.size 51 2 v2 i ((hs.take i).map S.Handle.cells).flatten)) (fun v52 _ => hs.length - (intOf v52).toNat)
      case atStart => exact ⟨0, nilS, Nat.zero_le _, rfl, Only.refl _ _, hrb4, ⟨rfl, .inl ⟨rfl, rfl⟩⟩⟩
      case round =>
        obtain ⟨i, v2, hi, rfl, hO, hrb, hv⟩ := hrel
        have hz := hO.out.size
        have hBw := Hid.mk (hB4.out.trans (hO.out.toBelow (B := w.heap.size) (fun k hk => by simp only [List.mem_singleton] at hk; omega) (by omega)))
        have hbw := Hid.mk ((hO.out.block (rb + 1) (by omega) (by simp)).trans hbh4.out)
        have c0 := (heap_cell hbw.out (o := 0) (v := .pointer (some ⟨H, 0, none⟩)) rfl).1
        by_cases hlt : i < hs.length
        · have hx : hs[i]? = some hs[i] := List.getElem?_eq_getElem hlt
          obtain ⟨b, off, rfl, k0', k1', hbl⟩ := hr4.out.at hx
          have hbge := hg4.out b off rfl
          have e0 := (cell_block (o := off + i * 2) (hO.out.block b hbl (by simp only [List.mem_singleton]; omega))).trans k0'
          have e1 := (cell_block (o := off + i * 2 + 1) (hO.out.block b hbl (by simp only [List.mem_singleton]; omega))).trans k1'
          have htk := Hid.mk (S.take_succ' hx)
          have hRf := h1.out.refs hs[i] (List.getElem_mem hlt)
          obtain ⟨A6, k6, rfl⟩ := own_slice hv.out
          generalize hs[i] = x at *
          obtain ⟨xs, xg⟩ := x
          have hBa := below_one wr (.cells #[.int .i64 xs, .int .i64 xg] 51)
          have x0 : (wr.alloc (.cells #[.int .i64 xs, .int .i64 xg] 51)).cell? ⟨wr.heap.size, 0, none⟩ = some (.int .i64 xs) := (heap_cell (heap_alloc_new wr _) (o := 0) rfl).1
          have x1 : (wr.alloc (.cells #[.int .i64 xs, .int .i64 xg] 51)).cell? ⟨wr.heap.size, 1, none⟩ = some (.int .i64 xg) := (heap_cell (heap_alloc_new wr _) (o := 1) rfl).1
          have ca := (hBa.cell (p := ⟨rb + 1, 0, none⟩) (show rb + 1 < wr.heap.size by omega)).trans c0
          have hRf2 := hRf _ (below_then hBw.out hBa)
          have hBa1 := Hid.mk hBa
          clear k0' k1' hx hRf hBa c0
          go_wp2_with (first
            | (go_at_call 26; (with_reducible refine hRf2.out.mono ?_); rintro e w5 ⟨rfl, hb⟩; have y0 := (hb.cell (p := ⟨wr.heap.size, 0, none⟩) (by simp)).trans x0; have y1 := (hb.cell (p := ⟨wr.heap.size, 1, none⟩) (by simp)).trans x1; have hb5 := Hid.mk (below_then hBa1.out hb); clear hb)
            | (go_at_call 27; (with_reducible refine (containsFunc_hand_nil _ _ _ _).mono ?_); rintro e w9 ⟨rfl, hw⟩; obtain rfl := hw.symm)
            | (go_at_call 28; (with_reducible refine (contains_hand_nil _ _ _ _ _).mono ?_); rintro e w6 ⟨rfl, hb⟩; have y2 := (hb.cell (p := ⟨wr.heap.size, 0, none⟩) (World.block_lt_of_cell? _ _ y0)).trans y0; have y3 := (hb.cell (p := ⟨wr.heap.size, 1, none⟩) (World.block_lt_of_cell? _ _ y1)).trans y1; have hb6 := Hid.mk (below_then hb5.out hb); have hrb6 := (hb6.out.block rb (show rb < wr.heap.size by omega)).trans hrb.out; obtain ⟨d0, f0⟩ := heap_cell hrb6 (o := 2) (v := .slice A6 i k6) rfl; have hrb7 := Hid.mk hrb6; clear hb hrb6)
            | (at_builtin; go_must (refine app_Handle rfl _ _ rfl w4.heap.size _ _ _ rfl ((own_kept hv.out (fun k hk => hb6.out.block k (own_lt hv.out hk))).alloc _) ⟨w6.heap.size, 0, none⟩ 1 1 (S.Handle.cells ⟨xs, xg⟩) rfl rfl (news_new w6 _ _ _ rfl) (by simp [S.Handle.cells, Value.oneCell']) (by omega) (by have := hb6.out.size; simp; omega) ?_; intro v' w7 ho7 hg7 h5 h6; clear h5; obtain ⟨g7, cap7, rfl⟩ := ownsRow_succ ho7; have hst := rep_set (o := 2) (World.grownBy.trans (World.grownBy_alloc w6 _ _) hg7) (fun k e => own_block_ge hv.out e) (show rb < w4.heap.size by omega) hrb7.out ho7; have hst1 := Hid.mk hst; have hrb8 := (hg7.block rb (by have := hb6.out.size; simp; omega) (fun e => by have := own_block_ge hv.out e.symm; omega)).trans ((Below.heap_alloc _ _ _ (by have := hb6.out.size; omega)).trans hrb7.out); obtain ⟨d5, f5⟩ := heap_cell hrb8 (o := 2) (v := .slice A6 i k6) rfl; have ho71 := Hid.mk ho7; have hg71 := Hid.mk hg7; have h61 := Hid.mk h6; have hrb81 := Hid.mk hrb8; clear ho7 hg7 h6 hrb8; clear hst))
            | fail)
          go_roundw
          case rel =>
            go_light
            refine ⟨i + 1, _, by omega, by go_num, ?_, hst1.out.1, ?_⟩
            · exact (((hO.out.then hb6.out).alloc _).grown hg71.out (fun k e => .inr (own_block_ge hv.out e))).set (.inl (by simp)) 2 _
            · rw [htk.out, List.map_append, List.flatten_append]
              have := hst1.out.2
              exact Hid.mk (by simpa using this)
          case measure => simp [intOf]; omega
        · obtain rfl : i = hs.length := by omega
          have hv9 := hv.out
          rw [List.take_length] at hv9
          obtain ⟨A6, k6, rfl⟩ := own_slice hv9
          clear hv hlt hr4 hg4 hv9
          have hSt := h1.out.stale wr hBw.out
          have hO9 := Hid.mk hO.out
          have hv9 := Hid.mk (own_kept hv4.out (fun k hk => hO.out.block k (own_lt hv4.out hk) (by have := own_block_ge hv4.out hk; simp only [List.mem_singleton]; omega)))
          have hrbz : rb < wr.heap.size := by omega
          go_wp2_with (first
            | (go_at_call 29; (with_reducible refine hSt.out.mono ?_); rintro e w5 ⟨rfl, hb⟩; have c5 := (hb.cell (p := ⟨rb + 1, 0, none⟩) (show rb + 1 < wr.heap.size by omega)).trans c0; have hrb6 := (hb.block rb hrbz).trans hrb.out; obtain ⟨d3, f3⟩ := heap_cell hrb6 (o := 3) (v := nilS) rfl; have hst5 := Hid.mk (heap_set_at (o := 3) hrb6 (.slice none 0 0)); have hO5 : Hid (Only [rb] wr (w5.setCell ⟨rb, 3, none⟩ (.slice none 0 0))) := (Only.below hb [rb]).set (.inl (by simp)) 3 _; have hrb7 := Hid.mk hrb6; clear hb hrb6)
            | (go_at_call 30; (with_reducible refine (h1.out.used _ (hBw.out.trans (hO5.out.toBelow (B := w.heap.size) (fun k hk => by simp only [List.mem_singleton] at hk; omega) (by omega)))).out.mono ?_); rintro e w6 ⟨rfl, hb⟩; clear d3 f3 c5; have c6 := ((cell_block (o := 0) ((hb.block (rb + 1) (show rb + 1 < _ by have h9 := hO5.out.size; omega)).trans (hO5.out.block (rb + 1) (by omega) (by simp)))).trans c0); have hrb8 := (hb.block rb (show rb < _ by have h9 := hO5.out.size; omega)).trans hst5.out; obtain ⟨d4, f4⟩ := heap_cell hrb8 (o := 4) (v := .int .i64 0) rfl; have hst6 := Hid.mk (heap_set_at (o := 4) hrb8 (.int .i64 (n : Nat))); have hO6 : Hid (Only [rb] wr (w6.setCell ⟨rb, 4, none⟩ (.int .i64 (n : Nat)))) := (hO5.out.then hb).set (.inl (by simp)) 4 _; clear hb hrb8)
            | fail)
          have hres7 : Hid ((w6.setCell ⟨rb, 4, none⟩ (.int .i64 (n : Nat))).heap[w.heap.size]? = some (.cells (repC nilS nilS 0) 30 (0, 0))) := (hO6.out.block w.heap.size (by omega) (by simp only [List.mem_singleton]; omega)).trans ((hO.out.block w.heap.size (by omega) (by simp only [List.mem_singleton]; omega)).trans hres4.out)
          have hst7 : Hid ((w6.setCell ⟨rb, 4, none⟩ (.int .i64 (n : Nat))).heap[rb]? = some (.cells (repC (.slice A0 R.length k0) (.slice A6 hs.length k6) n) 30 (0, 0))) := hst6.out
          have hbh7 : Hid ((w6.setCell ⟨rb, 4, none⟩ (.int .i64 (n : Nat))).heap[rb + 1]? = some (.cells #[.pointer (some ⟨H, 0, none⟩)] 36 (0, 0))) := (hO6.out.block (rb + 1) (by omega) (by simp)).trans hbw.out
          clear hst5 hst6 hO5 c6 d4 f4 hrb7 hSt hrb
          generalize w6.setCell ⟨rb, 4, none⟩ (.int .i64 (n : Nat)) = W7 at *
          have z7 : wr.heap.size ≤ W7.heap.size := hO6.out.size
          have hB7 := Hid.mk (hBw.out.trans (hO6.out.toBelow (B := w.heap.size) (fun k hk => by simp only [List.mem_singleton] at hk; omega) (by omega)))
          have hv7 := Hid.mk (own_kept hv9.out (fun k hk => hO6.out.block k (own_lt hv9.out hk) (by have := own_block_ge hv9.out hk; simp only [List.mem_singleton]; omega)))
          have hSc := h1.out.schema W7 hB7.out
          have hKi := h1.out.kinds W7 hB7.out
          clear hO6 hv9 hO9 hbw hB4 hbh4 hv4 hO4 c0
          go_wp2_with (first
            | (go_at_call 14; (with_reducible refine hSc.out.mono ?_); rintro e w8 ⟨rfl, hw⟩; obtain rfl := hw.symm)
            | (go_at_call 31; (with_reducible refine hKi.out.mono ?_); rintro e w8 ⟨An, kn, rfl, hr, hg, hb⟩; have hr8 := Hid.mk hr; have hg8 := Hid.mk hg; have hb8 := Hid.mk hb; clear hr hg hb)
            | fail)
          have z8 : W7.heap.size ≤ w8.heap.size := hb8.out.size
          have hB8 := Hid.mk (below_then hB7.out hb8.out)
          have hres8 := Hid.mk ((hb8.out.block w.heap.size (by omega)).trans hres7.out)
          have hst8 := Hid.mk ((hb8.out.block rb (by omega)).trans hst7.out)
          have hbh8 := Hid.mk ((hb8.out.block (rb + 1) (by omega)).trans hbh7.out)
          have hv8 := Hid.mk (own_kept hv7.out (fun k hk => hb8.out.block k (own_lt hv7.out hk)))
          clear hst7 hbh7 hv7 hb8 hB7 hBw hSc hKi
          obtain ⟨wp, rfl⟩ : ∃ wp : World, wp = wr := ⟨_, rfl⟩
          go_loopw [92] (fun v92 wr => ∃ (i m : Nat), i ≤ ns.length ∧ v92 = .int .i64 i ∧ Hid ((i = 0 → m = n) ∧ (i ≠ 0 → m = 0)) ∧ Hid (Only [rb] w8 wr) ∧ Hid (wr.heap[rb]? = some (.cells (repC (.slice A0 R.length k0) (.slice A6 hs.length k6) m) 30 (0, 0)))) (fun v92 _ => ns.length - (intOf v92).toNat)
          case atStart => exact ⟨0, n, Nat.zero_le _, rfl, ⟨fun _ => rfl, fun h => absurd rfl h⟩, Only.refl _ _, hst8⟩
          case round =>
            obtain ⟨i, m, hi, rfl, hm, hO, hrb⟩ := hrel
            have hz := hO.out.size
            have hBw := Hid.mk (hB8.out.trans (hO.out.toBelow (B := w.heap.size) (fun k hk => by simp only [List.mem_singleton] at hk; omega) (by omega)))
            have hbw := Hid.mk ((hO.out.block (rb + 1) (by omega) (by simp)).trans hbh8.out)
            have c0 := (heap_cell hbw.out (o := 0) (v := .pointer (some ⟨H, 0, none⟩)) rfl).1
            by_cases hlt : i < ns.length
            · obtain rfl : i = 0 := by omega
              obtain rfl : m = n := hm.out.1 rfl
              have hx : ns[0]? = some ns[0] := List.getElem?_eq_getElem hlt
              obtain ⟨b, off, rfl, hc⟩ := hr8.out.2 0 _ hx
              have e0 := hc 0 _ rfl
              simp only [Nat.mul_one, Nat.add_zero] at e0
              have hbge := hg8.out b off rfl
              have e1 := (cell_block (o := off) (hO.out.block b (World.block_lt_of_cell? _ _ e0) (by simp only [List.mem_singleton]; omega))).trans e0
              have hUn := h1.out.units ns[0] (List.getElem_mem hlt)
              have hlti : (0 : Int) < (ns.length : Int) := by omega
              obtain ⟨d4, f4⟩ := heap_cell hrb.out (o := 4) (v := .int .i64 (m : Nat)) rfl
              generalize ns[0] = nm at *
              have hBd : Hid (Below w.heap.size w wr.drew) := hBw.out.drew
              have hUn2 := hUn _ hBd.out
              have ew : IntKind.i64.wrap ((m : Int) - (m : Int)) = 0 := by rw [IntWalk.i64_left]; unfold wrap64; omega
              have ew0 : IntKind.i64.wrap (0 : Int) = 0 := by rw [IntWalk.i64_left]; unfold wrap64; omega
              clear hx hc e0 hUn
              go_wp2
              go_region_with
                (first
                  | (go_at_call 32; (with_reducible refine hUn2.out.mono ?_); rintro e w9 ⟨rfl, hb⟩; have k1 := (hb.cell (p := ⟨rb, 4, none⟩) (show rb < wr.heap.size by omega)).trans d4; have k2 := (hb.cell (p := ⟨rb + 1, 0, none⟩) (show rb + 1 < wr.heap.size by omega)).trans c0; have g4 := (hb.frozen (p := ⟨rb, 4, none⟩) (show rb < wr.heap.size by omega)).trans f4; have hst9 := Hid.mk (heap_set_at (o := 4) ((hb.block rb (show rb < wr.heap.size by omega)).trans hrb.out) (.int .i64 0)); have hO9 : Hid (Only [rb] w8 (w9.setCell ⟨rb, 4, none⟩ (.int .i64 0))) := ((hO.out.draw 1).then hb).set (.inl (by simp)) 4 _; clear hb)
                  | fail)
              all_goals
                go_wp2
                go_roundw
                case rel =>
                  go_light
                  exact ⟨1, 0, by omega, by go_num, ⟨(fun h => absurd h (by decide)), fun _ => rfl⟩, hO9, hst9⟩
                case measure => simp [intOf]; omega
            · obtain rfl : i = ns.length := by omega
              have hm0 : m = 0 := by
                by_cases h0 : ns.length = 0
                · rw [hm.out.1 h0]; exact hzz.out h0
                · exact hm.out.2 h0
              subst hm0
              clear hm hlt
              have hres9 := Hid.mk ((hO.out.block w.heap.size (by omega) (by simp only [List.mem_singleton]; omega)).trans hres8.out)
              have hrg := Hid.mk (World.rangeAt_of_block hrb.out 0 5)
              have hv9 := Hid.mk (own_kept hv8.out (fun k hk => hO.out.block k (own_lt hv8.out hk) (by have := own_block_ge hv8.out hk; simp only [List.mem_singleton]; omega)))
              clear c0 hst8 hbh8 hbw hr8 hg8 hres8 hres2 hres4 hres7
              have hrg0 : Hid (wr.rangeAt rb 0 [.slice A0 R.length k0, .slice none 0 0, .slice A6 hs.length k6, .slice none 0 0, .int .i64 0]) := hrg.out
              clear hrg
              have hs1 : Hid ((Tryz.prog.info? 30).map (·.size) = some [(.slice A0 R.length k0 : Value), .slice none 0 0, .slice A6 hs.length k6, .slice none 0 0, .int .i64 0].length) := rep_size
              have hs2 : Hid ((Tryz.prog.info? 30).map (·.size) = some #[(.slice A0 R.length k0 : Value), .slice none 0 0, .slice A6 hs.length k6, .slice none 0 0, .int .i64 0].size) := rep_size
              have hs3 : Hid (#[(.slice A0 R.length k0 : Value), .slice none 0 0, .slice A6 hs.length k6, .slice none 0 0, .int .i64 0].all (·.oneCell') = true) := Hid.mk (by simp [Value.oneCell'])
              have hs4 : Hid ((repC nilS nilS 0).size = #[(.slice A0 R.length k0 : Value), .slice none 0 0, .slice A6 hs.length k6, .slice none 0 0, .int .i64 0].size) := rfl
              go_wp2_with (first
                | (with_reducible refine wpList_load_mid rfl 30 _ rfl rb 0 rfl [.slice A0 R.length k0, .slice none 0 0, .slice A6 hs.length k6, .slice none 0 0, .int .i64 0] _ hrg0.out Tryz.underlying30 rfl hs1.out ?_)
                | (with_reducible refine wpList_store_row rfl 30 _ _ rfl w.heap.size #[.slice A0 R.length k0, .slice none 0 0, .slice A6 hs.length k6, .slice none 0 0, .int .i64 0] rfl rfl 30 _ hres9.out hs2.out hs4.out hs3.out ?_))
              go_light
              obtain ⟨C9, hC9⟩ : ∃ C : Array Value, C = #[.slice A0 R.length k0, .slice none 0 0, .slice A6 hs.length k6, .slice none 0 0, .int .i64 0] := ⟨_, rfl⟩
              rw [← hC9]
              have hfin := setRow_heap wr w.heap.size _ C9 _ _ hres9.out
              have hown := own_kept (w' := wr.setRow w.heap.size C9) hv9.out (fun k hk => setRow_other wr w.heap.size k C9 (by have := own_block_ge hv9.out hk; omega))
              have hbe := below_setRow hBw.out (Nat.le_refl _) C9
              have hrg9 := World.rangeAt_of_block hfin 0 5
              obtain ⟨A9, k9, e9, hr9, -⟩ := own_row hown (by simp) (by omega)
              simp only [Value.slice.injEq, true_and] at e9
              obtain ⟨rfl, rfl⟩ := e9
              subst hC9
              refine bodyPost_ret (results_c rfl _ _ _ rfl (run_loadVar_mid _ _ _ 30 [.slice A0 R.length k0, .slice none 0 0, .slice A6 hs.length k6, .slice none 0 0, .int .i64 0] _ hrg9 Tryz.underlying30 rfl hs1.out)) rfl ⟨A0, k0, A6, k6, rfl, hr9, hbe⟩
end Go.Proofs.YtdokiaicheillaaGreat

namespace Go.Proofs.YtdokiaicheillaaGreat
open Go.RowKit

set_option maxRecDepth 100000 in
set_option maxHeartbeats 4000000 in
theorem clean_no (A0 A2 : Option Addr) (c0 n2 c2 : Nat) (w : World) :
    Calls Tryz.prog 9 #[.agg #[.slice A0 1 c0, .slice none 0 0, .slice A2 n2 c2, .slice none 0 0, .int .i64 0]] w fun e w' => e = .returned (.bool false) ∧ Below w.heap.size w w' := by
  go_enter Tryz.func9, Tryz.ntmps9
  go_wp2
  go_ret
  go_light
  exact ⟨rfl, below_one _ _⟩
set_option maxRecDepth 100000 in
set_option maxHeartbeats 4000000 in
theorem clean_yes (A0 A2 : Option Addr) (c0 n2 c2 : Nat) (w : World) :
    Calls Tryz.prog 9 #[.agg #[.slice A0 0 c0, .slice none 0 0, .slice A2 n2 c2, .slice none 0 0, .int .i64 0]] w fun e w' => e = .returned (.bool true) ∧ Below w.heap.size w w' := by
  go_enter Tryz.func9, Tryz.ntmps9
  go_wp2
  go_ret
  go_light
  exact ⟨rfl, below_one _ _⟩

theorem WorldAt.state_below {w w' : World} {q : WPlace} {Y : S.World} (h : WorldAt w q Y) (hb : Below w.heap.size w w') : WorldAt w' q Y := h.below hb

set_option maxRecDepth 100000 in
set_option maxHeartbeats 8000000 in
theorem mend_calm (q : WPlace) (Y : S.World) (us : List Nat) (w : World) (h : WorldAt w q Y) (hc : Calm2 Y us) :
    Calls Tryz.prog 7 #[.pointer (some ⟨q.T, 0, none⟩)] w fun e w' => e = .returned (.tuple #[.int .i64 (Y.now.R.length : Nat), .int .i64 0]) ∧ WorldAt w' q ⟨⟨Y.now.X, []⟩, Y.old⟩ ∧ Only [q.s.mb] w w' := by
  have hRn := hc.few
  have hmb0 := h.now.roots.lt.2
  have hL := Hid.mk (look_calm w (look_c h hc))
  have hRo : ∀ W, Below w.heap.size w W → Hid (Calls Tryz.prog 13 #[.pointer (some ⟨q.T, 0, none⟩)] W fun e w' => e = .returned (.pointer (some ⟨q.s.r, 0, none⟩)) ∧ w' = W) := fun W hW => trans_Roots q Y W (h.below hW)
  have hCl : ∀ x, Y.now.R[0]? = some x → ∀ W, Below w.heap.size w W → Hid (Calls Tryz.prog 33 #[.pointer (some ⟨q.s.r, 0, none⟩), .string (S.mk x.1)] W fun e w' => e = .returned (.int .i64 0) ∧ WorldAt w' q ⟨⟨Y.now.X, []⟩, Y.old⟩ ∧ Only [q.s.mb] W w') := fun x hx W hW => by
    have hWW := h.below hW
    have hd : delK Y.now.R x.1 = [] := by
      match Y.now.R, hRn, hx with
      | [y], _, hx =>
        simp only [List.getElem?_cons_zero, Option.some.injEq] at hx
        subst hx
        simp [delK]
      | [], _, hx => simp at hx
      | _ :: _ :: _, h, _ => simp at h
    refine (roots_Clear_yes q.s.r q.s.mb Y.now.R x.1 x.2 W hWW.now.roots (getK_few hRn hx)).mono fun e w' ⟨e1, e2, e3⟩ => ⟨e1, ?_, e3⟩
    rw [hd] at e2
    exact hWW.setRoots e2 e3
  have hEnd : Y.now.R.length = 0 → ∀ W, Below w.heap.size w W → WorldAt W q ⟨⟨Y.now.X, []⟩, Y.old⟩ := fun h0 W hW => by
    have e : Y = ⟨⟨Y.now.X, []⟩, Y.old⟩ := by
      obtain ⟨⟨X, R⟩, o⟩ := Y
      simp only at h0 ⊢
      rw [List.eq_nil_of_length_eq_zero h0]
    have := h.below hW
    rw [e] at this
    exact this
  generalize hYR : Y.now.R = R at *
  generalize hYX : Y.now.X = X at *
  generalize hYo : Y.old = ol at *
  generalize q.T = T at *
  clear h hc hYR hYX hYo
  have hmbl : q.s.mb < w.heap.size := hmb0
  generalize hqm : q.s.mb = mb at *
  have hCl1 := Hid.mk hCl; have hEnd1 := Hid.mk hEnd; have hRo1 := Hid.mk hRo; clear hCl hEnd hRo
  clear hqm
  go_enter Tryz.func7, Tryz.ntmps7
  go_wp2_with (go_at_call 6; (with_reducible refine hL.out.mono ?_); rintro e w1 ⟨A0, c0, A2, c2, rfl, hr, hb⟩; have hr1 := Hid.mk hr; have hz1 : w.heap.size ≤ w1.heap.size := hb.size; have hb1 := Hid.mk (hb.new_ (.cells #[.slice A0 R.length c0, .slice none 0 0, .slice A2 (S.handles X.slots).length c2, .slice none 0 0, .int .i64 0] 30)); clear hr hb)
  have hrp := heap_alloc_new w1 (.cells #[.slice A0 R.length c0, .slice none 0 0, .slice A2 (S.handles X.slots).length c2, .slice none 0 0, .int .i64 0] 30)
  have hr2 : Row (w1.alloc (.cells #[.slice A0 R.length c0, .slice none 0 0, .slice A2 (S.handles X.slots).length c2, .slice none 0 0, .int .i64 0] 30)).cell? A0 1 (fun x => [encT x]) (R.map (·.1)) := Row.below hr1.out (below_one w1 _)
  generalize hW2 : w1.alloc (.cells #[.slice A0 R.length c0, .slice none 0 0, .slice A2 (S.handles X.slots).length c2, .slice none 0 0, .int .i64 0] 30) = W2 at *
  have hrp1 := Hid.mk hrp
  have hr3 := Hid.mk hr2
  clear hW2 hrp hr2 hr1
  have hz2 : w1.heap.size < W2.heap.size := (Array.getElem?_eq_some_iff.1 hrp1.out).1
  have hmbl2 : mb ≠ w1.heap.size := by omega
  go_loopw [5, 17] (fun v5 v17 wr => ∃ i : Nat, i ≤ R.length ∧ v5 = .int .i64 i ∧ v17 = .int .i64 i ∧ Hid (i = 0 → wr = W2) ∧ Hid (Only [mb] W2 wr) ∧ Hid (i = R.length → WorldAt wr q ⟨⟨X, []⟩, ol⟩)) (fun _ v17 _ => R.length - (intOf v17).toNat)
  case atStart => exact ⟨0, Nat.zero_le _, rfl, rfl, fun _ => rfl, Only.refl _ _, fun h => hEnd1.out h.symm _ hb1.out⟩
  case round =>
    obtain ⟨i, hi, rfl, rfl, hw, hO, hE⟩ := hrel
    by_cases hlt : i < R.length
    · obtain rfl : i = 0 := by omega
      obtain rfl := hw.out rfl
      have hx : R[0]? = some R[0] := List.getElem?_eq_getElem hlt
      obtain ⟨b, off, rfl, hc⟩ := hr3.out.2 0 R[0].1 (by rw [List.getElem?_map, hx]; rfl)
      have e0 := hc 0 _ rfl
      simp only [Nat.zero_mul, Nat.add_zero] at e0
      have hCx := hCl1.out _ hx wr hb1.out
      have hRx := hRo1.out wr hb1.out
      have hlti : (0 : Int) < (R.length : Int) := by omega
      generalize R[0].1 = nm at *
      clear hx hc
      go_wp2_with (first | (go_at_call 13; (with_reducible refine hRx.out.mono ?_); rintro e w9 ⟨rfl, hw9⟩; obtain rfl := hw9.symm) | (go_at_call 33; (with_reducible refine hCx.out.mono ?_); rintro e w2 ⟨rfl, hWA, hO2⟩; have hO3 := Hid.mk hO2; have hWA1 := Hid.mk hWA; clear hO2 hWA))
      go_roundw
      case rel =>
        go_light
        exact ⟨1, by omega, rfl, rfl, (fun h => absurd h (by decide)), hO3, fun _ => hWA1.out⟩
      case measure => simp [intOf]; omega
    · obtain rfl : i = R.length := by omega
      have hrp2 := (hO.out.block w1.heap.size hz2 (by simp only [List.mem_singleton]; exact fun e => hmbl2 e.symm)).trans hrp1.out
      obtain ⟨d1, -⟩ := heap_cell hrp2 (o := 1) (v := .slice none 0 0) rfl
      clear hrp2 hlt
      go_wp2
      go_loop [5, 31] (fun v5 v31 => v5 = .int .i64 (R.length : Nat) ∧ v31 = .int .i64 0) (fun _ _ => 0)
      case atStart => exact ⟨rfl, rfl⟩
      case round =>
        obtain ⟨rfl, rfl⟩ := hrel
        go_wp2
        go_ret2
        go_light
        exact ⟨rfl, hE.out (by first | rfl | trivial), (Only.below hb1.out _).trans hO.out (fun b hb => .inl hb)⟩
end Go.Proofs.YtdokiaicheillaaGreat
