/-
  The walk of trace.All where nothing is held and there is one object at most.
-/
import Derived.Test.YtdokiaicheillaaGreatObjRefs
import Derived.Test.YtdokiaicheillaaGreatCreateS
import Derived.Test.YtdokiaicheillaaGreatFew
import Derived.Deep.QuietTactic
import Derived.BigQuiet
import Derived.Test.YtdokiaicheillaaGreatStillIn
import Derived.Test.YtdokiaicheillaaGreatSame
namespace Go.Proofs.YtdokiaicheillaaGreat
open Go.RowKit

set_option maxRecDepth 100000 in
set_option maxHeartbeats 4000000 in
theorem trace_good (p : Parts) (X : S.Heap) (x : S.Handle) (w : World) (h : HeapAt w p X) (hX : X.ok) :
    Calls Tryz.prog 105 #[.pointer (some ⟨p.H, 0, none⟩), x.val] w fun e w' => e = .returned (.bool (S.goodAt X.slots x).isSome) ∧ Below w.heap.size w w' := by
  cases hg : S.goodAt X.slots x with
  | none =>
    have hO := fun W (hW : Below w.heap.size w W) => Hid.mk (obj_Of_no p X x W (h.below hW) hg)
    obtain ⟨xs, xg⟩ := x
    clear h hg
    go_enter Tryz.func105, Tryz.ntmps105
    go_wp2_with (go_at_call 60; (with_reducible refine (hO _ (below_one _ _)).out.mono ?_); rintro e w1 ⟨rfl, hb⟩; have hb1 := Hid.mk (below_then (below_one w (.cells #[.int .i64 xs, .int .i64 xg] 51)) hb); clear hb)
    go_ret
    go_light
    exact ⟨rfl, hb1.out⟩
  | some sl =>
    obtain ⟨t, ht, hv⟩ := S.goodAt_thing hX hg
    have hO := fun W (hW : Below w.heap.size w W) => Hid.mk (obj_Of_yes p X x sl t W (h.below hW) hX hg ht hv)
    obtain ⟨xs, xg⟩ := x
    clear h hX hg ht hv
    go_enter Tryz.func105, Tryz.ntmps105
    go_wp2_with (go_at_call 60; (with_reducible refine (hO _ (below_one _ _)).out.mono ?_); rintro e w1 ⟨rfl, hb⟩; have hb1 := Hid.mk (below_then (below_one w (.cells #[.int .i64 xs, .int .i64 xg] 51)) hb); clear hb)
    go_ret
    go_light
    exact ⟨rfl, hb1.out⟩

/-- A collector without colours lies at cb. -/
structure ColAt (w : World) (cb mb : Nat) (f : Int) : Prop where
  head : w.heap[cb]? = some (.cells #[.map (some mb), .int .i64 f] 186 (0, 0))
  map : MapAt S.Handle.val encI w mb ([] : List (S.Handle × Int))
theorem ColAt.kept {w w' : World} {cb mb : Nat} {f : Int} (h : ColAt w cb mb f) (h1 : w'.heap[cb]? = w.heap[cb]?) (h2 : w'.heap[mb]? = w.heap[mb]?) : ColAt w' cb mb f := ⟨h1.trans h.head, h.map.kept h2⟩
theorem ColAt.lt {w : World} {cb mb : Nat} {f : Int} (h : ColAt w cb mb f) : cb < w.heap.size ∧ mb < w.heap.size := ⟨(Array.getElem?_eq_some_iff.1 h.head).1, h.map.lt⟩
theorem ColAt.below {w w' : World} {cb mb : Nat} {f : Int} (h : ColAt w cb mb f) (hb : Below w.heap.size w w') : ColAt w' cb mb f := h.kept (hb.block _ h.lt.1) (hb.block _ h.lt.2)
theorem ColAt.c0 {w : World} {cb mb : Nat} {f : Int} (h : ColAt w cb mb f) : w.cell? ⟨cb, 0, none⟩ = some (.map (some mb)) := (heap_cell h.head (o := 0) rfl).1
theorem ColAt.c1 {w : World} {cb mb : Nat} {f : Int} (h : ColAt w cb mb f) : w.cell? ⟨cb, 1, none⟩ = some (.int .i64 f) := (heap_cell h.head (o := 1) rfl).1
theorem ColAt.ne {w : World} {cb mb : Nat} {f : Int} (h : ColAt w cb mb f) : cb ≠ mb := by
  rintro rfl
  obtain ⟨a, c, hm⟩ := h.map.obj
  rw [h.head] at hm
  cases hm

theorem Handles.at {w : World} {A : Option Addr} {l : List S.Handle} (h : Handles w.cell? A l) {i : Nat} {x : S.Handle} (hx : l[i]? = some x) :
    ∃ b off, A = some ⟨b, off, none⟩ ∧ w.cell? ⟨b, off + i * 2, none⟩ = some (.int .i64 x.slot) ∧ w.cell? ⟨b, off + i * 2 + 1, none⟩ = some (.int .i64 x.gen) ∧ b < w.heap.size := by
  obtain ⟨b, off, hA, hc⟩ := h.2 i x hx
  have h0 := hc 0 _ rfl
  exact ⟨b, off, hA, h0, hc 1 _ rfl, World.block_lt_of_cell? w _ h0⟩

set_option maxRecDepth 100000 in
set_option maxHeartbeats 4000000 in
theorem trace_Begin_none (p : Parts) (X : S.Heap) (A : Option Addr) (c : Nat) (l : List S.Handle) (w : World) (h : HeapAt w p X) (hX : X.ok) (hl : Handles w.cell? A l) (hbad : ∀ x, x ∈ l → S.goodAt X.slots x = none) :
    Calls Tryz.prog 63 #[.pointer (some ⟨p.H, 0, none⟩), .slice A l.length c] w fun e w' => ∃ cb mb, e = .returned (.pointer (some ⟨cb, 0, none⟩)) ∧ ColAt w' cb mb 0 ∧ w.heap.size ≤ cb ∧ w.heap.size ≤ mb ∧ Below w.heap.size w w' := by
  have hmm := @run_makeMap Tryz.prog
  have hG : ∀ W (x : S.Handle), x ∈ l → Below w.heap.size w W → Hid (Calls Tryz.prog 105 #[.pointer (some ⟨p.H, 0, none⟩), .agg #[.int .i64 x.slot, .int .i64 x.gen]] W fun e w' => e = .returned (.bool false) ∧ Below W.heap.size W w') := fun W x hx hW => by
    have := trace_good p X x W (h.below hW) hX
    rw [hbad x hx] at this
    exact this
  have hlen := hl.1
  have hl1 := Hid.mk hl
  generalize p.H = H at *
  have hcol : Hid (ColAt ((w.alloc (.map #[] 0)).alloc (.cells #[.map (some w.heap.size), .int .i64 0] 186)) (w.heap.size + 1) w.heap.size 0) := by
    refine ⟨?_, (MapAt.new w).kept (Below.heap_alloc _ _ _ (by simp))⟩
    have := heap_alloc_new (w.alloc (.map #[] 0)) (.cells #[.map (some w.heap.size), .int .i64 0] 186)
    rwa [World.size_alloc] at this
  have hb0 : Hid (Below w.heap.size w ((w.alloc (.map #[] 0)).alloc (.cells #[.map (some w.heap.size), .int .i64 0] 186))) := (below_one _ _).new_ _
  have hG1 := Hid.mk hG; clear hG
  clear h hX hl hbad
  go_enter Tryz.func63, Tryz.ntmps63
  go_wp2
  clear hmm
  go_loopw [13] (fun v13 wr => ∃ i : Nat, i ≤ l.length ∧ v13 = .int .i64 i ∧ Hid (ColAt wr (w.heap.size + 1) w.heap.size 0) ∧ Hid (Below w.heap.size w wr)) (fun v13 _ => l.length - (intOf v13).toNat)
  case atStart => exact ⟨0, Nat.zero_le _, rfl, hcol, hb0⟩
  case round =>
    obtain ⟨i, hi, rfl, hc, hb⟩ := hrel
    clear hcol hb0
    by_cases hlt : i < l.length
    · have hx : l[i]? = some l[i] := List.getElem?_eq_getElem hlt
      obtain ⟨b, off, rfl, k0, k1, hbl⟩ := hl1.out.at hx
      have e0 := (hb.out.cell (p := ⟨b, off + i * 2, none⟩) hbl).trans k0
      have e1 := (hb.out.cell (p := ⟨b, off + i * 2 + 1, none⟩) hbl).trans k1
      have hg2 := hG1.out (wr.alloc (.cells #[.int .i64 l[i].slot, .int .i64 l[i].gen] 51)) l[i] (List.getElem_mem hlt) (hb.out.new_ _)
      generalize l[i] = x at *
      clear k0 k1 hx
      go_wp2_with (go_at_call 105; (with_reducible refine hg2.out.mono ?_); rintro e w1 ⟨rfl, hb⟩; have hb2 := Hid.mk (below_then (below_one wr (.cells #[.int .i64 x.slot, .int .i64 x.gen] 51)) hb); clear hb)
      go_roundw
      case rel =>
        go_light
        exact ⟨i + 1, by omega, by go_num, Hid.mk (hc.out.below hb2.out), Hid.mk (below_then hb.out hb2.out)⟩
      case measure => simp [intOf]; omega
    · obtain rfl : i = l.length := by omega
      go_wp2
      go_ret
      go_light
      exact ⟨_, _, rfl, hc.out, by omega, Nat.le_refl _, hb.out⟩

set_option maxRecDepth 100000 in
set_option maxHeartbeats 4000000 in
theorem trace_all_none (cb mb : Nat) (f col : Int) (w : World) (h : ColAt w cb mb f) :
    Calls Tryz.prog 107 #[.pointer (some ⟨cb, 0, none⟩), .int .i64 col] w fun e w' => e = .returned (.slice none 0 0) ∧ Below w.heap.size w w' := by
  have c0 := h.c0
  obtain ⟨E, clock, hE, hl⟩ := h.map
  obtain ⟨hr1, hit⟩ := run_range (P := Tryz.prog) Tryz.underlying184 hE
  rw [hl] at hit
  have hmbl := h.lt.2
  have hB0 := Hid.mk (below_one w (.mapIter (some mb) clock #[] clock))
  have hsr := fun (fv : Value) W => Hid.mk (sort_hand none 0 0 fv (by decide) W)
  have hit1 := Hid.mk hit; have hl1 := Hid.mk hl; have hE1 := Hid.mk hE; have hsr1 := Hid.mk hsr; clear hit hl hE hsr
  clear h
  go_enter Tryz.func107, Tryz.ntmps107
  go_wp2
  clear hr1 c0
  generalize hit0 : w.heap.size = it at *
  go_loopw [5] (fun v5 wr => v5 = .slice none 0 0 ∧ Hid (IterAt S.Handle.val encI wr it mb E clock []) ∧ Hid (Below it w wr)) (fun _ _ => 0)
  case atStart => exact ⟨rfl, hit1, hB0⟩
  case round =>
    obtain ⟨rfl, hi, hB⟩ := hrel
    have hnx := run_next_none (P := Tryz.prog) hi.out
    clear hit1
    go_wp2_with (go_at_call 69; (with_reducible refine (hsr1.out _ _).out.mono ?_); rintro e w1 ⟨rfl, rfl⟩)
    go_ret
    go_light
    exact ⟨rfl, by rw [hit0]; exact hB.out⟩
end Go.Proofs.YtdokiaicheillaaGreat

namespace Go.Proofs.YtdokiaicheillaaGreat
open Go.RowKit

set_option maxHeartbeats 2000000 in
theorem trace_Gray_none (cb mb : Nat) (f : Int) (w : World) (h : ColAt w cb mb f) :
    Calls Tryz.prog 64 #[.pointer (some ⟨cb, 0, none⟩)] w fun e w' => e = .returned (.slice none 0 0) ∧ Below w.heap.size w w' := by
  have hA := Hid.mk (trace_all_none cb mb f 1 w h)
  clear h
  go_enter Tryz.func64, Tryz.ntmps64
  go_wp2_with (go_at_call 107; (with_reducible refine hA.out.mono ?_); rintro e w1 ⟨rfl, hb⟩; have hb1 := Hid.mk hb; clear hb)
  go_ret
  go_light
  exact ⟨rfl, hb1.out⟩
set_option maxHeartbeats 2000000 in
theorem trace_Black_none (cb mb : Nat) (f : Int) (w : World) (h : ColAt w cb mb f) :
    Calls Tryz.prog 66 #[.pointer (some ⟨cb, 0, none⟩)] w fun e w' => e = .returned (.slice none 0 0) ∧ Below w.heap.size w w' := by
  have hA := Hid.mk (trace_all_none cb mb f 2 w h)
  clear h
  go_enter Tryz.func66, Tryz.ntmps66
  go_wp2_with (go_at_call 107; (with_reducible refine hA.out.mono ?_); rintro e w1 ⟨rfl, hb⟩; have hb1 := Hid.mk hb; clear hb)
  go_ret
  go_light
  exact ⟨rfl, hb1.out⟩
set_option maxHeartbeats 2000000 in
theorem trace_Freed (cb mb : Nat) (f : Int) (w : World) (h : ColAt w cb mb f) :
    Calls Tryz.prog 89 #[.pointer (some ⟨cb, 0, none⟩)] w fun e w' => e = .returned (.int .i64 f) ∧ w' = w := by
  have c1 := h.c1
  clear h
  go_enter Tryz.func89, Tryz.ntmps89
  go_wp2
  go_ret
  go_light
  exact ⟨rfl, rfl⟩

set_option maxRecDepth 100000 in
set_option maxHeartbeats 4000000 in
theorem trace_Reach_none (p : Parts) (X : S.Heap) (A : Option Addr) (c : Nat) (l : List S.Handle) (w : World) (h : HeapAt w p X) (hX : X.ok) (hl : Handles w.cell? A l) (hbad : ∀ x, x ∈ l → S.goodAt X.slots x = none) :
    Calls Tryz.prog 24 #[.pointer (some ⟨p.H, 0, none⟩), .slice A l.length c] w fun e w' => e = .returned (.slice none 0 0) ∧ Below w.heap.size w w' := by
  have hB := Hid.mk (trace_Begin_none p X A c l w h hX hl hbad)
  generalize p.H = H at *
  clear h hX hl hbad
  go_enter Tryz.func24, Tryz.ntmps24
  go_wp2_with (first | (go_at_call 63; (with_reducible refine hB.out.mono ?_); rintro e w1 ⟨cb, mb, rfl, hc, hz1, hz2, hb⟩; have hc1 := Hid.mk hc; have hb1 := Hid.mk hb; clear hc hb) | (go_at_call 64; (with_reducible refine (trace_Gray_none cb mb 0 w1 hc1.out).mono ?_); rintro e w2 ⟨rfl, hb⟩; have hb2 := Hid.mk (below_then hb1.out hb); have hc2 := Hid.mk (hc1.out.below hb); clear hb))
  go_loop [6] (fun v => v = .slice none 0 0) (fun _ => 0)
  case atStart => rfl
  case round =>
    subst hrel
    go_wp2_with (go_at_call 66; (with_reducible refine (trace_Black_none cb mb 0 w2 hc2.out).mono ?_); rintro e w3 ⟨rfl, hb⟩; have hb3 := Hid.mk (below_then hb2.out hb); clear hb)
    go_ret
    go_light
    exact ⟨rfl, hb3.out⟩

/-! ### IndexFunc, Contains -/
set_option maxHeartbeats 2000000 in
theorem index_hand_nil (A : Option Addr) (c : Nat) (fv : Value) (w : World) : Calls Tryz.prog 79 #[.slice A 0 c, fv] w fun e w' => e = .returned (.int .i64 (-1)) ∧ w' = w := by
  go_enter Tryz.func79, Tryz.ntmps79
  go_wp2
  go_loop [8] (fun v => v = .int .i64 0) (fun _ => 0)
  case atStart => rfl
  case round =>
    subst hrel
    go_wp2
    go_ret
    go_light
    exact ⟨rfl, rfl⟩
set_option maxHeartbeats 2000000 in
theorem containsFunc_hand_nil (A : Option Addr) (c : Nat) (fv : Value) (w : World) : Calls Tryz.prog 27 #[.slice A 0 c, fv] w fun e w' => e = .returned (.bool false) ∧ w' = w := by
  go_enter Tryz.func27, Tryz.ntmps27
  go_wp2_with (go_at_call 79; (with_reducible refine (index_hand_nil _ _ _ _).mono ?_); rintro e w1 ⟨rfl, rfl⟩)
  go_ret
  go_light
  exact ⟨rfl, rfl⟩
set_option maxHeartbeats 2000000 in
theorem indexOf_hand_nil (A : Option Addr) (c : Nat) (a b : Int) (w : World) : Calls Tryz.prog 80 #[.slice A 0 c, .agg #[.int .i64 a, .int .i64 b]] w fun e w' => e = .returned (.int .i64 (-1)) ∧ Below w.heap.size w w' := by
  go_enter Tryz.func80, Tryz.ntmps80
  go_wp2
  go_loop [8] (fun v => v = .int .i64 0) (fun _ => 0)
  case atStart => rfl
  case round =>
    subst hrel
    go_wp2
    go_ret
    go_light
    exact ⟨rfl, below_one _ _⟩
set_option maxHeartbeats 2000000 in
theorem contains_hand_nil (A : Option Addr) (c : Nat) (a b : Int) (w : World) : Calls Tryz.prog 28 #[.slice A 0 c, .agg #[.int .i64 a, .int .i64 b]] w fun e w' => e = .returned (.bool false) ∧ Below w.heap.size w w' := by
  go_enter Tryz.func28, Tryz.ntmps28
  go_wp2_with (go_at_call 80; (with_reducible refine (indexOf_hand_nil _ _ _ _ _).mono ?_); rintro e w1 ⟨rfl, hb⟩; have hb1 := Hid.mk (below_then (below_one w (.cells #[.int .i64 a, .int .i64 b] 51)) hb); clear hb)
  go_ret
  go_light
  exact ⟨rfl, hb1.out⟩

/-! ### the step that frees -/
theorem check_hand (e : Bool) (a b : Int) (w : World) : (Instr.checkKey e 10000 51 (.agg #[.int .i64 a, .int .i64 b])).run Tryz.prog w = .ok () w := by kernel_rfl
theorem look_hand_none (mb : Nat) (a b : Int) (w : World) (h : MapAt S.Handle.val encI w mb ([] : List (S.Handle × Int))) :
    (Instr.lookup 184 (.map (some mb)) (.agg #[.int .i64 a, .int .i64 b]) false).run Tryz.prog w = .ok (.int .i64 0) w := by
  obtain ⟨E, clock, hE, he⟩ := h
  obtain rfl : E = [] := by simpa using he
  have hh := hE.heap
  have hu : Tryz.prog.underlying 51 = _ := Tryz.underlying51
  have hf : (Instr.findKey 51 (.agg #[.int .i64 a, .int .i64 b]) []).run Tryz.prog w = .ok none w := by
    simp only [Instr.findKey, Sem.run_bind, run_underlying hu, Result.andThen_ok, Instr.findNow, Sem.run_pure]
  have hz : (zeroValue 3).run Tryz.prog w = .ok (.int .i64 0) w := by kernel_rfl
  simp only [Instr.lookup, Sem.run_bind, run_underlying Tryz.underlying184, Result.andThen_ok, run_getObj_map hh, Sem.run_pure, check_hand, List.map_nil, hf, hz]
  rfl
set_option maxRecDepth 100000 in
set_option maxHeartbeats 4000000 in
theorem trace_white (bx cb mb : Nat) (f a b : Int) (w : World) (h : ColAt w cb mb f) (hx : w.cell? ⟨bx, 0, none⟩ = some (.pointer (some ⟨cb, 0, none⟩))) :
    Calls Tryz.prog 130 #[.agg #[.int .i64 a, .int .i64 b], .pointer (some ⟨bx, 0, none⟩)] w fun e w' => e = .returned (.bool true) ∧ Below w.heap.size w w' := by
  have hB := below_one w (.cells #[.int .i64 a, .int .i64 b] 51)
  have d0 := (h.below hB).c0
  have d1 := (hB.cell (p := ⟨bx, 0, none⟩) (World.block_lt_of_cell? w _ hx)).trans hx
  have hm := (h.below hB).map
  have l0 := look_hand_none mb a b _ hm
  have l1 := look_hand_none mb a b (w.alloc (.cells #[.int .i64 a, .int .i64 b] 51)).drew (hm.kept rfl)
  have hB1 := Hid.mk hB
  clear h hx hB hm
  go_enter Tryz.func130, Tryz.ntmps130
  go_wp2
  (refine wp_still_tail_d 5 (by kernel_rfl) (by kernel_rfl) ?_; simp only [List.take_succ_cons, List.take_zero, List.drop_succ_cons, List.drop_zero]; (repeat still_step); (try refine wpStill_nil ?_))
  go_wp2
  go_ret
  go_light
  exact ⟨rfl, hB1.out.drew⟩

set_option maxRecDepth 100000 in
set_option maxHeartbeats 4000000 in
theorem index_hand_white (A : Option Addr) (c bx cb mb : Nat) (f : Int) (l : List S.Handle) (y : S.Handle) (w : World) (h : ColAt w cb mb f) (hx : w.cell? ⟨bx, 0, none⟩ = some (.pointer (some ⟨cb, 0, none⟩))) (hl : Handles w.cell? A l) (hy : l[0]? = some y) :
    Calls Tryz.prog 79 #[.slice A l.length c, .func (.func 130) #[] #[.pointer (some ⟨bx, 0, none⟩)]] w fun e w' => e = .returned (.int .i64 0) ∧ Below w.heap.size w w' := by
  obtain ⟨b, off, rfl, k0, k1, hbl⟩ := hl.at hy
  rw [Nat.zero_mul, Nat.add_zero] at k0 k1
  have hW := Hid.mk (trace_white bx cb mb f y.slot y.gen w h hx)
  have hpos : 0 < l.length := (List.getElem?_eq_some_iff.1 hy).1
  have hposi : (0 : Int) < (l.length : Int) := by omega
  clear h hx hl hy
  generalize l.length = n at *
  go_enter Tryz.func79, Tryz.ntmps79
  go_wp2
  go_loop [8] (fun v => v = .int .i64 0) (fun _ => 0)
  case atStart => rfl
  case round =>
    subst hrel
    go_wp2_with (go_at_call 130; (with_reducible refine hW.out.mono ?_); rintro e w1 ⟨rfl, hb⟩; have hb1 := Hid.mk hb; clear hb)
    go_ret
    go_light
    exact ⟨rfl, hb1.out⟩

theorem hand_rows (l : List S.Handle) : ∀ r, r ∈ l.map S.Handle.cells → r.length = 2 := fun r hr => by obtain ⟨x, -, rfl⟩ := List.mem_map.1 hr; rfl
theorem hands_of_own {w : World} {base n : Nat} {v : Value} {l : List S.Handle} (h : w.ownsRow base 51 2 v n (l.map S.Handle.cells).flatten) (hn : n = l.length) (hb : n ≤ 1073741824) : ∃ A c, v = .slice A n c ∧ Handles w.cell? A l := by
  obtain ⟨A, c, e, hr, -⟩ := Row.of_own h (hand_rows _) (by simp [hn]) hb
  exact ⟨A, c, e, Row.id.2 hr⟩
theorem handles_few {w : World} {p : Parts} {X : S.Heap} (h : HeapAt w p X) : (S.handles X.slots).length ≤ 256 := by
  have h1 := S.handlesFrom_length X.slots 0
  have h2 := h.slt.many
  unfold S.handles
  omega

set_option maxRecDepth 100000 in
set_option maxHeartbeats 8000000 in
theorem trace_Step_done (p : Parts) (X : S.Heap) (cb mb : Nat) (f : Int) (w : World) (h : HeapAt w p X) (hc : ColAt w cb mb f) (hn : S.handles X.slots = []) :
    Calls Tryz.prog 88 #[.pointer (some ⟨cb, 0, none⟩), .pointer (some ⟨p.H, 0, none⟩)] w fun e w' => e = .returned (.tuple #[.bool true, .int .i64 0]) ∧ Below w.heap.size w w' := by
  have hG := fun W (hW : Below w.heap.size w W) => Hid.mk (trace_Gray_none cb mb f W (hc.below hW))
  have hH : ∀ W, Below w.heap.size w W → Hid (Calls Tryz.prog 19 #[.pointer (some ⟨p.H, 0, none⟩)] W fun e w' => ∃ A c, e = .returned (.slice A 0 c) ∧ Below W.heap.size W w') := fun W hW => by
    refine (obj_Handles p X W (h.below hW)).mono fun e w' ⟨v, e1, e2, e3⟩ => ?_
    rw [hn] at e2
    obtain ⟨A, c, rfl⟩ := own_slice e2
    exact ⟨A, c, e1, e3⟩
  have hb0 := Hid.mk (below_one w (.cells #[.pointer (some ⟨cb, 0, none⟩)] 122))
  generalize p.H = H at *
  clear h hc hn
  go_enter Tryz.func88, Tryz.ntmps88
  go_wp2_with (first | (go_at_call 64; (with_reducible refine (hG _ hb0.out).out.mono ?_); rintro e w1 ⟨rfl, hb⟩; have hb1 := Hid.mk (below_then hb0.out hb); clear hb) | (go_at_call 19; (with_reducible refine (hH _ hb1.out).out.mono ?_); rintro e w2 ⟨A, c, rfl, hb⟩; have hb2 := Hid.mk (below_then hb1.out hb); clear hb) | (go_at_call 79; (with_reducible refine (index_hand_nil _ _ _ _).mono ?_); rintro e w3 ⟨rfl, rfl⟩))
  go_ret2
  go_light
  exact ⟨rfl, hb2.out⟩

set_option maxRecDepth 100000 in
set_option maxHeartbeats 8000000 in
theorem trace_Step_one (p : Parts) (X : S.Heap) (cb mb : Nat) (f : Int) (y : S.Handle) (sl : S.Slot) (w : World) (h : HeapAt w p X) (hX : X.ok) (hc : ColAt w cb mb f) (hy : (S.handles X.slots)[0]? = some y) (hg : S.goodAt X.slots y = some sl) (h0 : 0 ≤ f) (h1 : f ≤ 1000) (hcb : cb ∉ p.F) (hmb : mb ∉ p.F) :
    Calls Tryz.prog 88 #[.pointer (some ⟨cb, 0, none⟩), .pointer (some ⟨p.H, 0, none⟩)] w fun e w' => e = .returned (.tuple #[.bool false, .int .i64 0]) ∧ HeapAt w' p (X.drop y sl) ∧ ColAt w' cb mb (f + 1) ∧ Only (cb :: p.F) w w' := by
  have hG := fun W (hW : Below w.heap.size w W) => Hid.mk (trace_Gray_none cb mb f W (hc.below hW))
  have hfew := handles_few h
  have hH : ∀ W, Below w.heap.size w W → Hid (Calls Tryz.prog 19 #[.pointer (some ⟨p.H, 0, none⟩)] W fun e w' => ∃ A c, e = .returned (.slice A (S.handles X.slots).length c) ∧ Handles w'.cell? A (S.handles X.slots) ∧ (∀ b off, A = some ⟨b, off, none⟩ → w.heap.size ≤ b) ∧ Below W.heap.size W w') := fun W hW => by
    refine (obj_Handles p X W (h.below hW)).mono fun e w' ⟨v, e1, e2, e3⟩ => ?_
    obtain ⟨A, c, rfl, hr⟩ := hands_of_own e2 rfl (by omega)
    exact ⟨A, c, e1, hr, fun b off e => (by subst e; have h9 := own_block_ge e2 (k := b) (by simp [Value.ownBlock]); have := hW.size; omega), e3⟩
  have hI : ∀ W A c, Below w.heap.size w W → W.cell? ⟨w.heap.size, 0, none⟩ = some (.pointer (some ⟨cb, 0, none⟩)) → Handles W.cell? A (S.handles X.slots) → Hid (Calls Tryz.prog 79 #[.slice A (S.handles X.slots).length c, .func (.func 130) #[] #[.pointer (some ⟨w.heap.size, 0, none⟩)]] W fun e w' => e = .returned (.int .i64 0) ∧ Below W.heap.size W w') := fun W A c hW hx hl =>
    index_hand_white A c w.heap.size cb mb f _ y W (hc.below hW) hx hl hy
  have hFr : ∀ W, Below w.heap.size w W → Hid (Calls Tryz.prog 18 #[.pointer (some ⟨p.H, 0, none⟩), .agg #[.int .i64 y.slot, .int .i64 y.gen]] (W.setCell ⟨cb, 1, none⟩ (.int .i64 (f + 1))) fun e w' => e = .returned (.int .i64 0) ∧ HeapAt w' p (X.drop y sl) ∧ ColAt w' cb mb (f + 1) ∧ Only (cb :: p.F) w w') := fun W hW => by
    have hcW := hc.below hW
    have hO1 : Only [cb] w (W.setCell ⟨cb, 1, none⟩ (.int .i64 (f + 1))) := (Only.below hW [cb]).set (.inl (by simp)) 1 _
    have hC1 : Calm w [cb] := calm_cells hc.head (by decide) (by decide)
    have hh := h.only hO1 hC1 (fun k hk => by simp only [List.mem_singleton]; rintro rfl; exact hcb hk)
    refine (obj_Free_yes p X y sl _ hh hX hg).mono fun e w' ⟨e1, e2, e3⟩ => ⟨e1, e2, ?_, ?_⟩
    · have hh1 := heap_set_at (o := 1) hcW.head (.int .i64 (f + 1))
      have hlt := hc.lt
      have hz := hO1.size
      refine ⟨(e3.block cb (by omega) hcb).trans hh1, ?_⟩
      refine hc.map.kept ((e3.block mb (by omega) hmb).trans (hO1.block mb hlt.2 (by simp only [List.mem_singleton]; exact fun e => hc.ne e.symm)))
    · exact (hO1.weak (fun b hb => by simp only [List.mem_singleton] at hb; simp [hb])).trans e3 (fun b hb => .inl (by simp [hb]))
  have hcc : ∀ W, Below w.heap.size w W → Hid (W.cell? ⟨cb, 1, none⟩ = some (.int .i64 f) ∧ W.frozen? ⟨cb, 1, none⟩ = false) := fun W hW => heap_cell (hc.below hW).head (o := 1) rfl
  have hcl := hc.lt.1
  have hb0 := Hid.mk (below_one w (.cells #[.pointer (some ⟨cb, 0, none⟩)] 122))
  have q0 : Hid ((w.alloc (.cells #[.pointer (some ⟨cb, 0, none⟩)] 122)).cell? ⟨w.heap.size, 0, none⟩ = some (.pointer (some ⟨cb, 0, none⟩))) := (heap_cell (heap_alloc_new w (.cells #[.pointer (some ⟨cb, 0, none⟩)] 122)) (o := 0) rfl).1
  have hpos : 0 < (S.handles X.slots).length := (List.getElem?_eq_some_iff.1 hy).1
  have hposi : (0 : Int) < ((S.handles X.slots).length : Int) := by omega
  have hy1 := Hid.mk hy
  generalize hHs : S.handles X.slots = hs at *
  generalize hYY : X.drop y sl = Y at *
  generalize p.H = H at *
  clear h hX hc hy hg hcb hmb hHs hYY
  have hH1 := Hid.mk hH; have hI1 := Hid.mk hI; have hFr1 := Hid.mk hFr; have hcc1 := Hid.mk hcc; have hG1 := Hid.mk hG; clear hH hI hFr hcc hG
  go_enter Tryz.func88, Tryz.ntmps88
  go_wp2_with (first
    | (go_at_call 64; (with_reducible refine (hG1.out _ hb0.out).out.mono ?_); rintro e w1 ⟨rfl, hb⟩; have q1 := Hid.mk ((hb.cell (p := ⟨w.heap.size, 0, none⟩) (by simp)).trans q0.out); have hb1 := Hid.mk (below_then hb0.out hb); clear hb)
    | (go_at_call 19; (with_reducible refine (hH1.out _ hb1.out).out.mono ?_); rintro e w2 ⟨A, c, rfl, hr, hge, hb⟩; have hge1 := Hid.mk hge; have q2 := Hid.mk ((hb.cell (p := ⟨w.heap.size, 0, none⟩) (by have h9 := hb1.out.size; have h8 := World.block_lt_of_cell? _ _ q1.out; simpa using h8)).trans q1.out); have hr1 := Hid.mk hr; have hb2 := Hid.mk (below_then hb1.out hb); clear hb hr hge)
    | (go_at_call 79; (with_reducible refine (hI1.out _ _ _ hb2.out q2.out hr1.out).out.mono ?_); rintro e w3 ⟨rfl, hb⟩; have q3 := (hb.cell (p := ⟨w.heap.size, 0, none⟩) (World.block_lt_of_cell? _ _ q2.out)).trans q2.out; have hb3 := Hid.mk (below_then hb2.out hb); obtain ⟨d1, df⟩ := (hcc1.out _ hb3.out).out; obtain ⟨b, off, rfl, k0, k1, hbl⟩ := Handles.at (w := w3) (Row.below hr1.out hb) hy1.out; rw [Nat.zero_mul, Nat.add_zero] at k0 k1; have hbc : b ≠ cb := (by have h9 := hge1.out b off rfl; omega); have m0 : (w3.setCell ⟨cb, 1, none⟩ (.int .i64 (f + 1))).cell? ⟨b, off, none⟩ = some (.int .i64 y.slot) := (World.cell?_setCell_other _ _ _ _ (by simp only [ne_eq, Addr.mk.injEq]; omega)).trans k0; have m1 : (w3.setCell ⟨cb, 1, none⟩ (.int .i64 (f + 1))).cell? ⟨b, off + 1, none⟩ = some (.int .i64 y.gen) := (World.cell?_setCell_other _ _ _ _ (by simp only [ne_eq, Addr.mk.injEq]; omega)).trans k1; clear hb)
    | (go_at_call 18; (with_reducible refine (hFr1.out _ hb3.out).out.mono ?_); rintro e w4 ⟨rfl, hh, hc, hO⟩; have hh1 := Hid.mk hh; have hc1 := Hid.mk hc; have hO1 := Hid.mk hO; clear hh hc hO)
    | fail)
  go_ret2
  go_light
  exact ⟨rfl, hh1.out, hc1.out, hO1.out⟩
end Go.Proofs.YtdokiaicheillaaGreat

namespace Go.Proofs.YtdokiaicheillaaGreat
open Go.RowKit

set_option maxRecDepth 100000 in
set_option maxHeartbeats 8000000 in
theorem trace_All_zero (p : Parts) (X : S.Heap) (A : Option Addr) (c : Nat) (l : List S.Handle) (w : World) (h : HeapAt w p X) (hX : X.ok) (hl : Handles w.cell? A l) (hbad : ∀ x, x ∈ l → S.goodAt X.slots x = none) (hn : S.handles X.slots = []) :
    Calls Tryz.prog 36 #[.pointer (some ⟨p.H, 0, none⟩), .slice A l.length c] w fun e w' => e = .returned (.int .i64 0) ∧ Below w.heap.size w w' := by
  have hB := Hid.mk (trace_Begin_none p X A c l w h hX hl hbad)
  have hS : ∀ W cb mb, Below w.heap.size w W → ColAt W cb mb 0 → Hid (Calls Tryz.prog 88 #[.pointer (some ⟨cb, 0, none⟩), .pointer (some ⟨p.H, 0, none⟩)] W fun e w' => e = .returned (.tuple #[.bool true, .int .i64 0]) ∧ Below W.heap.size W w') := fun W cb mb hW hc => trace_Step_done p X cb mb 0 W (h.below hW) hc hn
  generalize p.H = H at *
  clear h hX hl hbad hn
  have hS1 := Hid.mk hS; clear hS
  go_enter Tryz.func36, Tryz.ntmps36
  go_wp2_with (go_at_call 63; (with_reducible refine hB.out.mono ?_); rintro e w1 ⟨cb, mb, rfl, hc, hz1, hz2, hb⟩; have hc1 := Hid.mk hc; have hb1 := Hid.mk hb; clear hc hb)
  go_loop [6] (fun _ => True) (fun _ => 0)
  case atStart => trivial
  case round =>
    go_wp2_with (first | (go_at_call 88; (with_reducible refine (hS1.out _ _ mb hb1.out hc1.out).out.mono ?_); rintro e w2 ⟨rfl, hb⟩; have hb2 := Hid.mk (below_then hb1.out hb); have hc2 := Hid.mk (hc1.out.below hb); clear hb) | (go_at_call 89; (with_reducible refine (trace_Freed cb mb 0 w2 hc2.out).mono ?_); rintro e w3 ⟨rfl, hw⟩; obtain rfl := hw.symm))
    go_ret
    go_light
    exact ⟨rfl, hb2.out⟩

def freedOf (w : World) (cb : Nat) : Nat := match w.cell? ⟨cb, 1, none⟩ with | some (.int _ n) => n.toNat | _ => 0
theorem ColAt.freed {w : World} {cb mb : Nat} {f : Int} (h : ColAt w cb mb f) : freedOf w cb = f.toNat := by simp [freedOf, h.c1]

set_option maxRecDepth 100000 in
set_option maxHeartbeats 8000000 in
theorem trace_All_one (p : Parts) (X : S.Heap) (A : Option Addr) (c : Nat) (l : List S.Handle) (y : S.Handle) (sl : S.Slot) (w : World) (h : HeapAt w p X) (hX : X.ok) (hl : Handles w.cell? A l) (hbad : ∀ x, x ∈ l → S.goodAt X.slots x = none)
    (hy : (S.handles X.slots)[0]? = some y) (hg : S.goodAt X.slots y = some sl) (hn : S.handles (X.drop y sl).slots = []) :
    Calls Tryz.prog 36 #[.pointer (some ⟨p.H, 0, none⟩), .slice A l.length c] w fun e w' => e = .returned (.int .i64 1) ∧ HeapAt w' p (X.drop y sl) ∧ Only p.F w w' := by
  have hB := Hid.mk (trace_Begin_none p X A c l w h hX hl hbad)
  have hlt := h.lt
  have hS0 : ∀ W cb mb, Below w.heap.size w W → w.heap.size ≤ cb → w.heap.size ≤ mb → ColAt W cb mb 0 → Hid (Calls Tryz.prog 88 #[.pointer (some ⟨cb, 0, none⟩), .pointer (some ⟨p.H, 0, none⟩)] W fun e w' => e = .returned (.tuple #[.bool false, .int .i64 0]) ∧ HeapAt w' p (X.drop y sl) ∧ ColAt w' cb mb 1 ∧ Only p.F w w') := fun W cb mb hW hz1 hz2 hc =>
    (trace_Step_one p X cb mb 0 y sl W (h.below hW) hX hc hy hg (by decide) (by decide) (fun hk => by have := hlt _ hk; omega) (fun hk => by have := hlt _ hk; omega)).mono fun e w' ⟨e1, e2, e3, e4⟩ =>
      ⟨e1, e2, e3, (Only.below hW _).trans e4 (fun b hb => by rcases List.mem_cons.1 hb with rfl | hb; exact .inr hz1; exact .inl hb)⟩
  have hS1 : ∀ W cb mb, HeapAt W p (X.drop y sl) → ColAt W cb mb 1 → Hid (Calls Tryz.prog 88 #[.pointer (some ⟨cb, 0, none⟩), .pointer (some ⟨p.H, 0, none⟩)] W fun e w' => e = .returned (.tuple #[.bool true, .int .i64 0]) ∧ Below W.heap.size W w') := fun W cb mb hW hc => trace_Step_done p _ cb mb 1 W hW hc hn
  generalize hYY : X.drop y sl = Y at *
  generalize p.H = H at *
  clear h hX hl hbad hn hy hg hlt hYY
  have hS01 := Hid.mk hS0; have hS11 := Hid.mk hS1; clear hS0 hS1
  go_enter Tryz.func36, Tryz.ntmps36
  go_wp2_with (go_at_call 63; (with_reducible refine hB.out.mono ?_); rintro e w1 ⟨cb, mb, rfl, hc, hz1, hz2, hb⟩; have hc1 := Hid.mk hc; have hb1 := Hid.mk hb; clear hc hb)
  go_loopw [6] (fun _ wr => (Hid (ColAt wr cb mb 0) ∧ Hid (Below w.heap.size w wr)) ∨ (Hid (ColAt wr cb mb 1) ∧ Hid (HeapAt wr p Y) ∧ Hid (Only p.F w wr))) (fun _ wr => 1 - freedOf wr cb)
  case atStart => exact .inl ⟨hc1, hb1⟩
  case round =>
    clear hc1 hb1 hB
    rcases hrel with ⟨hc, hb⟩ | ⟨hc, hh, hO⟩
    · go_wp2_with (go_at_call 88; (with_reducible refine (hS01.out _ _ mb hb.out hz1 hz2 hc.out).out.mono ?_); rintro e w2 ⟨rfl, hh, hc3, hO⟩; have hh2 := Hid.mk hh; have hc2 := Hid.mk hc3; have hO2 := Hid.mk hO; clear hh hc3 hO)
      go_roundw
      case rel =>
        go_light
        exact .inr ⟨hc2, hh2, hO2⟩
      case measure =>
        rw [hc.out.freed, hc2.out.freed]
        decide
    · go_wp2_with (first | (go_at_call 88; (with_reducible refine (hS11.out _ _ mb hh.out hc.out).out.mono ?_); rintro e w2 ⟨rfl, hb⟩; have hb2 := Hid.mk hb; have hc2 := Hid.mk (hc.out.below hb); clear hb) | (go_at_call 89; (with_reducible refine (trace_Freed cb mb 1 w2 hc2.out).mono ?_); rintro e w3 ⟨rfl, hw⟩; obtain rfl := hw.symm))
      go_ret
      go_light
      exact ⟨rfl, hh.out.below hb2.out, hO.out.then hb2.out⟩
end Go.Proofs.YtdokiaicheillaaGreat
