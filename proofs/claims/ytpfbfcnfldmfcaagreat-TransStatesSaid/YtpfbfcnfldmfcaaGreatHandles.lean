/-
  The walk of object.Handles.
-/
import Derived.Test.YtpfbfcnfldmfcaaGreatObj
namespace Go.Proofs.YtpfbfcnfldmfcaaGreat
open Go.RowKit

namespace S
def handlesFrom : Nat → List Slot → List Handle
  | _, [] => []
  | k, x :: r => (if x.used then [⟨(k : Int), x.gen⟩] else []) ++ handlesFrom (k + 1) r
def handles (l : List Slot) : List Handle := handlesFrom 0 l
theorem handlesFrom_append : ∀ (l m : List Slot) (k : Nat), handlesFrom k (l ++ m) = handlesFrom k l ++ handlesFrom (k + l.length) m
  | [], m, k => by simp [handlesFrom]
  | x :: r, m, k => by
    simp only [List.cons_append, handlesFrom, handlesFrom_append r m (k + 1), List.append_assoc, List.length_cons]
    rw [show k + 1 + r.length = k + (r.length + 1) by omega]
theorem handles_take {l : List Slot} {i : Nat} {x : Slot} (h : l[i]? = some x) : handlesFrom 0 (l.take (i + 1)) = handlesFrom 0 (l.take i) ++ (if x.used then [⟨(i : Int), x.gen⟩] else []) := by
  have hi := (List.getElem?_eq_some_iff.1 h).1
  rw [take_succ' h, handlesFrom_append]
  simp [handlesFrom, Nat.min_eq_left (Nat.le_of_lt hi)]
theorem handlesFrom_length : ∀ (l : List Slot) (k : Nat), (handlesFrom k l).length ≤ l.length
  | [], _ => by simp [handlesFrom]
  | x :: r, k => by
    have := handlesFrom_length r (k + 1)
    simp only [handlesFrom, List.length_append, List.length_cons]
    split <;> simp <;> omega
end S

set_option maxRecDepth 100000 in
set_option maxHeartbeats 4000000 in
theorem obj_Handles (p : Parts) (X : S.Heap) (w : World) (h : HeapAt w p X) :
    Calls Tryz.prog 19 #[.pointer (some ⟨p.H, 0, none⟩)] w fun e w' => ∃ v, e = .returned v ∧ w'.ownsRow w.heap.size 34 2 v (S.handles X.slots).length ((S.handles X.slots).map S.Handle.cells).flatten ∧ Below w.heap.size w w' := by
  have c2 := h.c2
  have hHl : p.H < w.heap.size := World.block_lt_of_cell? w _ c2
  have hfew := h.slt.many
  have hs : ∀ W, Below w.heap.size w W → Hid (SlotsAt W p.s p.vs X.slots) := fun W hb => (h.below hb).slt
  have hlen := Hid.mk (slots_Len p.s p.vs X.slots w h.slt)
  obtain ⟨l, hl⟩ : ∃ l, X.slots = l := ⟨_, rfl⟩
  rw [hl] at hs hlen hfew ⊢
  generalize p.H = H at *
  generalize p.s = s at *
  generalize p.vs = vs at *
  clear h hl
  go_enter Tryz.func19, Tryz.ntmps19
  go_wp2_with (go_at_call 44; (with_reducible refine hlen.out.mono ?_); rintro e w1 ⟨rfl, hb⟩; have hb1 := Hid.mk hb; clear hb)
  have hH1 := Hid.mk ((hb1.out.cell (p := ⟨H, 2, none⟩) hHl).trans c2)
  clear c2 hlen
  go_loopw [3, 12] (fun v3 v12 wr => ∃ i : Nat, i ≤ l.length ∧ v12 = .int .i64 i ∧ Hid (wr.ownsRow w.heap.size 34 2 v3 (S.handlesFrom 0 (l.take i)).length ((S.handlesFrom 0 (l.take i)).map S.Handle.cells).flatten) ∧ Hid (Below w.heap.size w wr)) (fun _ v12 _ => l.length - (intOf v12).toNat)
  case atStart => exact ⟨0, Nat.zero_le _, rfl, ⟨rfl, .inl ⟨rfl, rfl⟩⟩, hb1.out⟩
  case round =>
    obtain ⟨i, hi, rfl, ho, hb⟩ := hrel
    by_cases hlt : i < l.length
    · have cH : wr.cell? ⟨H, 2, none⟩ = some (.pointer (some ⟨s, 0, none⟩)) := (hb.out.cell (p := ⟨H, 2, none⟩) hHl).trans ((hb1.out.cell (p := ⟨H, 2, none⟩) hHl).symm.trans hH1.out)
      have hx : l[i]? = some l[i] := List.getElem?_eq_getElem hlt
      have hat := Hid.mk (slots_At s vs l i hlt wr (hs wr hb.out).out)
      have htk := Hid.mk (S.handles_take hx)
      have hS : S.slotAt l i = if l[i].used then (⟨i, l[i].gen⟩, true) else (S.noHandle, false) := by simp [S.slotAt, hlt]
      have hcount := S.handlesFrom_length (l.take i) 0
      rw [List.length_take] at hcount
      generalize l[i] = x at *
      cases hu : x.used
      · rw [hu] at htk hS
        rw [hS] at hat
        clear hS hx hu
        go_wp2_with (go_at_call 45; (with_reducible refine hat.out.mono ?_); rintro e w2 ⟨rfl, hb⟩; have hb2 := Hid.mk hb; clear hb)
        go_roundw
        case rel =>
          go_light
          have hbb := (below_then hb.out hb2.out).new_ (.cells #[.int .i64 0, .int .i64 0] 34)
          refine ⟨i + 1, by omega, by go_num, Hid.mk ?_, Hid.mk hbb⟩
          rw [htk.out]
          simp only [Bool.false_eq_true, if_false, List.append_nil]
          exact own_kept ho.out (fun k hk => ((below_then (Below.refl _ wr) hb2.out).new_ _).block k (own_lt ho.out hk))
        case measure => simp [intOf]; omega
      · rw [hu] at htk hS
        rw [hS] at hat
        clear hS hx hu
        go_wp2_with (first | (go_at_call 45; (with_reducible refine hat.out.mono ?_); rintro e w2 ⟨rfl, hb⟩; have hb2 := Hid.mk hb; have ho2 := Hid.mk (own_kept ho.out (fun k hk => hb.block k (own_lt ho.out hk))); clear hb) | (at_builtin; go_must (refine app_Handle rfl _ _ rfl w.heap.size _ _ _ rfl ((ho2.out.alloc _).alloc _) ⟨w2.heap.size + 1, 0, none⟩ 1 1 (S.Handle.cells ⟨i, x.gen⟩) rfl rfl (by have := news_new (w2.alloc (.cells #[.int .i64 i, .int .i64 x.gen] 34)) #[.int .i64 i, .int .i64 x.gen] 34 _ rfl; rwa [World.size_alloc] at this) (by simp [S.Handle.cells, Value.oneCell']) (by omega) (by have := hb.out.size; have := hb2.out.size; simp; omega) ?_; intro v' w5 ho5 hg5 h5 h6; clear h5; have ho51 := Hid.mk ho5; have hg51 := Hid.mk hg5; have h61 := Hid.mk h6; clear ho5 hg5 h6)))
        go_roundw
        case rel =>
          go_light
          have hb22 := below_then hb.out hb2.out
          have hbb : Below w.heap.size w w5 := ((hb22.new_ _).new_ _).grown hg51.out (by have := hb22.size; simp; omega) (fun k e => own_block_ge ho.out e)
          refine ⟨i + 1, by omega, by go_num, Hid.mk ?_, Hid.mk hbb⟩
          rw [htk.out]
          simp only [if_true, List.length_append, List.length_cons, List.length_nil, Nat.zero_add, List.map_append, List.map_cons, List.map_nil, List.flatten_append, List.flatten_cons, List.flatten_nil, List.append_nil]
          exact ho51.out
        case measure => simp [intOf]; omega
    · obtain rfl : i = l.length := by omega
      go_wp2
      go_ret
      go_light
      have := ho.out
      rw [List.take_length] at this
      exact ⟨_, rfl, this, hb.out⟩
end Go.Proofs.YtpfbfcnfldmfcaaGreat
