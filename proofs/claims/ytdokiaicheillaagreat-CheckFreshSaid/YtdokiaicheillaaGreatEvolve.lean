/-
  The walks of evolve where nothing is stale.
-/
import Derived.Test.YtdokiaicheillaaGreatTraceFree
import Derived.Test.YtdokiaicheillaaGreatSetCat
import Derived.Defers
namespace Go.Proofs.YtdokiaicheillaaGreat
open Go.RowKit

namespace S
/-- Nothing is stale. -/
def Heap.fresh (X : Heap) : Prop := ∀ t, t ∈ X.things → ∃ k, getK X.cat t.name = some k ∧ k.newest = t.ver
theorem handlesFrom_good : ∀ {l m : List Slot} {x : Handle} {k : Nat}, x ∈ handlesFrom k m → (∀ (i : Nat) (y : Slot), m[i]? = some y → l[k + i]? = some y) → ∃ sl, goodAt l x = some sl
  | l, [], x, k, h, _ => by cases h
  | l, y :: r, x, k, h, hm => by
    simp only [handlesFrom, List.mem_append] at h
    rcases h with h | h
    · split at h
      · rename_i hu
        simp only [List.mem_singleton] at h
        subst h
        have := hm 0 y rfl
        rw [Nat.add_zero] at this
        exact ⟨y, by simp [goodAt, this, hu]⟩
      · cases h
    · exact handlesFrom_good h (fun i z hz => by
        have := hm (i + 1) z (by simpa using hz)
        rwa [show k + (i + 1) = k + 1 + i by omega] at this)
theorem handles_good {l : List Slot} {x : Handle} (h : x ∈ handles l) : ∃ sl, goodAt l x = some sl := handlesFrom_good h (fun i y hy => by rwa [Nat.zero_add])
/-- What is known of an object that is told. -/
theorem handles_thing {X : Heap} (hX : X.ok) {x : Handle} (h : x ∈ handles X.slots) : ∃ sl t, goodAt X.slots x = some sl ∧ t ∈ X.things ∧ sl.v = t.at_ := by
  obtain ⟨sl, hg⟩ := handles_good h
  obtain ⟨t, ht, hv⟩ := goodAt_thing hX hg
  exact ⟨sl, t, hg, ht, hv⟩
end S

set_option maxRecDepth 100000 in
set_option maxHeartbeats 8000000 in
theorem evolve_Stale_none (p : Parts) (X : S.Heap) (w : World) (h : HeapAt w p X) (hX : X.ok) (hf : X.fresh) :
    Calls Tryz.prog 29 #[.pointer (some ⟨p.H, 0, none⟩)] w fun e w' => e = .returned (.slice none 0 0) ∧ Below w.heap.size w w' := by
  have hfew := handles_few h
  have hH : Hid (Calls Tryz.prog 19 #[.pointer (some ⟨p.H, 0, none⟩)] w fun e w' => ∃ A c, e = .returned (.slice A (S.handles X.slots).length c) ∧ Handles w'.cell? A (S.handles X.slots) ∧ Below w.heap.size w w') := by
    refine (obj_Handles p X w h).mono fun e w' ⟨v, e1, e2, e3⟩ => ?_
    obtain ⟨A, c, rfl, hr⟩ := hands_of_own e2 rfl (by omega)
    exact ⟨A, c, e1, hr, e3⟩
  have hO : ∀ x, x ∈ S.handles X.slots → ∃ (a : S.Text) (n o : Int), Hid (∀ W, Below w.heap.size w W → (Calls Tryz.prog 60 #[.pointer (some ⟨p.H, 0, none⟩), .agg #[.int .i64 x.slot, .int .i64 x.gen]] W fun e w' => e = .returned (.tuple #[.string (S.mk a), .int .i64 n, .int .i64 0]) ∧ Below W.heap.size W w') ∧
      (Calls Tryz.prog 81 #[.pointer (some ⟨p.c, 0, none⟩), .string (S.mk a)] W fun e w' => e = .returned (.tuple #[.int .i64 o, .int .i64 n, .int .i64 0]) ∧ ∃ m, w' = W.drewN m)) := fun x hx => by
    obtain ⟨sl, t, hg, ht, hv⟩ := S.handles_thing hX hx
    obtain ⟨k, hk, hn⟩ := hf t ht
    refine ⟨t.name, t.ver, k.oldest, fun W hW => ⟨obj_Of_yes p X x sl t W (h.below hW) hX hg ht hv, ?_⟩⟩
    have := schema_Versions p.c p.mb p.ps X.cat t.name k W (h.below hW).cat hk (hX.kinds _ (S.getK_pair hk)).ok
    rw [hn] at this
    exact this
  have hSc : ∀ W, Below w.heap.size w W → Hid (Calls Tryz.prog 14 #[.pointer (some ⟨p.H, 0, none⟩)] W fun e w' => e = .returned (.pointer (some ⟨p.c, 0, none⟩)) ∧ w' = W) := fun W hW => obj_Schema p X W (h.below hW)
  generalize S.handles X.slots = hs at *
  generalize p.H = H at *
  generalize p.c = pc at *
  clear h hX hf
  have hO1 := Hid.mk hO; have hSc1 := Hid.mk hSc; clear hO hSc
  go_enter Tryz.func29, Tryz.ntmps29
  go_wp2_with (go_at_call 19; (with_reducible refine hH.out.mono ?_); rintro e w1 ⟨A, c, rfl, hr, hb⟩; have hr1 := Hid.mk hr; have hb1 := Hid.mk hb; clear hb hr)
  go_loopw [3, 15] (fun v3 v15 wr => ∃ i : Nat, i ≤ hs.length ∧ v3 = .slice none 0 0 ∧ v15 = .int .i64 i ∧ Hid (Below w1.heap.size w1 wr)) (fun _ v15 _ => hs.length - (intOf v15).toNat)
  case atStart => exact ⟨0, Nat.zero_le _, rfl, rfl, Below.refl _ _⟩
  case round =>
    obtain ⟨i, hi, rfl, rfl, hb⟩ := hrel
    by_cases hlt : i < hs.length
    · have hx : hs[i]? = some hs[i] := List.getElem?_eq_getElem hlt
      obtain ⟨b, off, rfl, k0, k1, hbl⟩ := hr1.out.at hx
      have e0 := (hb.out.cell (p := ⟨b, off + i * 2, none⟩) hbl).trans k0
      have e1 := (hb.out.cell (p := ⟨b, off + i * 2 + 1, none⟩) hbl).trans k1
      obtain ⟨a, n, o, hOx⟩ := hO1.out hs[i] (List.getElem_mem hlt)
      generalize hs[i] = x at *
      have hB2 := Hid.mk ((below_then hb1.out hb.out).new_ (.cells #[.int .i64 x.slot, .int .i64 x.gen] 51))
      have hB3 := Hid.mk (below_one wr (.cells #[.int .i64 x.slot, .int .i64 x.gen] 51))
      clear k0 k1 hx
      go_wp2_with (first | (go_at_call 60; (with_reducible refine (hOx.out _ hB2.out).1.mono ?_); rintro e w2 ⟨rfl, hb⟩; have hb2 := Hid.mk (below_then hB2.out hb); have hb3 := Hid.mk (below_then hB3.out hb); clear hb) | (go_at_call 14; (with_reducible refine (hSc1.out _ hb2.out).out.mono ?_); rintro e w3 ⟨rfl, hw⟩; obtain rfl := hw.symm) | (go_at_call 81; (with_reducible refine (hOx.out _ hb2.out).2.mono ?_); rintro e w4 ⟨rfl, m, rfl⟩))
      go_roundw
      case rel =>
        go_light
        exact ⟨i + 1, by omega, rfl, by go_num, Hid.mk (below_drewN (below_then hb.out hb3.out) _)⟩
      case measure => simp [intOf]; omega
    · obtain rfl : i = hs.length := by omega
      go_wp2
      go_ret
      go_light
      exact ⟨rfl, below_then hb1.out hb.out⟩

set_option maxRecDepth 100000 in
set_option maxHeartbeats 4000000 in
theorem evolve_Step_none (p : Parts) (X : S.Heap) (eb : Nat) (a b : Int) (w : World) (h : HeapAt w p X) (hX : X.ok) (hf : X.fresh) (he : w.heap[eb]? = some (.cells #[.int .i64 a, .int .i64 b] 157 (0, 0))) :
    Calls Tryz.prog 91 #[.pointer (some ⟨eb, 0, none⟩), .pointer (some ⟨p.H, 0, none⟩)] w fun e w' => e = .returned (.tuple #[.bool false, .int .i64 0]) ∧ w'.heap[eb]? = some (.cells #[.int .i64 0, .int .i64 b] 157 (0, 0)) ∧ Only [eb] w w' := by
  have hS := fun W (hW : Below w.heap.size w W) => Hid.mk (evolve_Stale_none p X W (h.below hW) hX hf)
  have hel : eb < w.heap.size := (Array.getElem?_eq_some_iff.1 he).1
  have hee : ∀ W, Below w.heap.size w W → Hid (W.heap[eb]? = some (.cells #[.int .i64 a, .int .i64 b] 157 (0, 0))) := fun W hW => (hW.block _ hel).trans he
  have hb0 := Hid.mk (below_one w (.cells #[.pointer (some ⟨eb, 0, none⟩)] 154))
  have q0 : Hid ((w.alloc (.cells #[.pointer (some ⟨eb, 0, none⟩)] 154)).cell? ⟨w.heap.size, 0, none⟩ = some (.pointer (some ⟨eb, 0, none⟩))) := (heap_cell (heap_alloc_new w (.cells #[.pointer (some ⟨eb, 0, none⟩)] 154)) (o := 0) rfl).1
  clear h hX hf he
  have hS1 := Hid.mk hS; have hee1 := Hid.mk hee; clear hS hee
  go_enter_defers Tryz.func91, Tryz.ntmps91
  go_wp2_with (go_at_call 29; (with_reducible refine (hS1.out _ hb0.out).out.mono ?_); rintro e w1 ⟨rfl, hb⟩; have q1 := (hb.cell (p := ⟨w.heap.size, 0, none⟩) (by simp)).trans q0.out; have hb1 := Hid.mk (below_then hb0.out hb); obtain ⟨d0, df⟩ := heap_cell (hee1.out _ hb1.out).out (o := 0) rfl; clear hb)
  go_light
  have hO : Only [eb] w (w1.setCell ⟨eb, 0, none⟩ (.int .i64 0)) := (Only.below hb1.out [eb]).set (.inl (by simp)) 0 _
  have hh := heap_set_at (o := 0) (hee1.out _ hb1.out).out (.int .i64 0)
  exact ⟨_, results_tmp2 rfl _ _ _, rfl, hh, hO⟩

set_option maxRecDepth 100000 in
set_option maxHeartbeats 4000000 in
theorem evolve_All_none (p : Parts) (X : S.Heap) (w : World) (h : HeapAt w p X) (hX : X.ok) (hf : X.fresh) :
    Calls Tryz.prog 39 #[.pointer (some ⟨p.H, 0, none⟩)] w fun e w' => e = .returned (.tuple #[.int .i64 0, .int .i64 0]) ∧ Below w.heap.size w w' := by
  have hN : Hid (Calls Tryz.prog 90 #[] w fun e w' => e = .returned (.pointer (some ⟨w.heap.size, 0, none⟩)) ∧ w' = w.alloc (.cells #[.int .i64 0, .int .i64 0] 157)) := by
    show Calls _ _ _ _ _
    go_enter Tryz.func90, Tryz.ntmps90
    go_wp2
    go_ret
    go_light
    exact ⟨rfl, rfl⟩
  have hB := below_one w (.cells #[.int .i64 0, .int .i64 0] 157)
  have hS := Hid.mk (evolve_Step_none p X w.heap.size 0 0 _ (h.below hB) hX hf (heap_alloc_new w _))
  have hB1 := Hid.mk hB
  generalize p.H = H at *
  clear h hX hf hB
  go_enter Tryz.func39, Tryz.ntmps39
  go_wp2_with (go_at_call 90; (with_reducible refine hN.out.mono ?_); rintro e w1 ⟨rfl, rfl⟩)
  go_loop [5] (fun _ => True) (fun _ => 0)
  case atStart => trivial
  case round =>
    go_wp2_with (go_at_call 91; (with_reducible refine hS.out.mono ?_); rintro e w2 ⟨rfl, hh, hO⟩; obtain ⟨d1, -⟩ := heap_cell hh (o := 1) rfl; have hO1 := Hid.mk hO; clear hh hO)
    go_ret2
    go_light
    exact ⟨rfl, hB1.out.trans (hO1.out.toBelow (fun k hk => by simp only [List.mem_singleton] at hk; omega) (by simp))⟩
end Go.Proofs.YtdokiaicheillaaGreat
