/-
  What check.Look is met with: the contracts of all that it calls, at a calm world.
-/
import Derived.Test.YtdokiaicheillaaGreatHeld
import Derived.Test.YtdokiaicheillaaGreatTraceFree
import Derived.Test.YtdokiaicheillaaGreatUnits
import Derived.Test.YtdokiaicheillaaGreatAliveW
import Derived.Laws.Tables
namespace Go.Proofs.YtdokiaicheillaaGreat
open Go.RowKit

set_option maxRecDepth 100000 in
set_option maxHeartbeats 4000000 in
theorem roots_Get_yes (r mb : Nat) (l : List (S.Text × S.Handle)) (name : S.Text) (x : S.Handle) (w : World) (h : RootsAt w r mb l) (hg : getK l name = some x) :
    Calls Tryz.prog 23 #[.pointer (some ⟨r, 0, none⟩), .string (S.mk name)] w fun e w' => e = .returned (.tuple #[.agg #[.int .i64 x.slot, .int .i64 x.gen], .int .i64 0]) ∧ Below w.heap.size w w' := by
  have hb0 := below_one w (.cells #[.int .i64 0, .int .i64 0] 51)
  have hr0 := h.below hb0
  have c0 := hr0.c0
  have hl := run_look (P := Tryz.prog) (key_text Tryz.underlying9) Tryz.underlying84 hr0.map name hg true
  simp only [if_true, S.Handle.val] at hl
  have hB1 := Hid.mk hb0
  have hT1 := heap_alloc_new (w.alloc (.cells #[.int .i64 0, .int .i64 0] 51)) (.cells #[.int .i64 x.slot, .int .i64 x.gen] 51)
  rw [World.size_alloc] at hT1
  have q0 := (heap_cell hT1 (o := 0) (v := .int .i64 x.slot) rfl).1
  have q1 := (heap_cell hT1 (o := 1) (v := .int .i64 x.gen) rfl).1
  clear h hg hb0 hr0 hT1
  go_enter Tryz.func23, Tryz.ntmps23
  go_wp2
  go_light
  have hT2 : ((w.alloc (.cells #[.int .i64 x.slot, .int .i64 x.gen] 51)).alloc (.cells #[.int .i64 x.slot, .int .i64 x.gen] 51)).heap[w.heap.size]? = some (.cells #[.int .i64 x.slot, .int .i64 x.gen] 51 (0, 0)) := (Below.heap_alloc _ _ _ (by simp)).trans (heap_alloc_new _ _)
  exact bodyPost_ret (results_ct rfl _ _ _ rfl (load_handle (heap_cell hT2 (o := 0) rfl).1 (heap_cell hT2 (o := 1) rfl).1)) rfl ⟨rfl, (below_one _ _).new_ _⟩

set_option maxRecDepth 100000 in
set_option maxHeartbeats 4000000 in
theorem roots_Clear_yes (r mb : Nat) (l : List (S.Text × S.Handle)) (name : S.Text) (x : S.Handle) (w : World) (h : RootsAt w r mb l) (hg : getK l name = some x) :
    Calls Tryz.prog 33 #[.pointer (some ⟨r, 0, none⟩), .string (S.mk name)] w fun e w' => e = .returned (.int .i64 0) ∧ RootsAt w' r mb (delK l name) ∧ Only [mb] w w' := by
  have hG := Hid.mk (roots_Get_yes r mb l name x w h hg)
  have hD : ∀ W, Below w.heap.size w W → ∃ o, (Builtin.delete_ #[84, 9] 0 #[.map (some mb), .string (S.mk name)]).run Tryz.prog W = .ok (.tuple #[]) (W.putObj mb o) ∧ Hid (RootsAt (W.putObj mb o) r mb (delK l name)) ∧ Hid (W.cell? ⟨r, 0, none⟩ = some (.map (some mb))) := fun W hW => by
    have hr := h.below hW
    obtain ⟨o, hd, hm⟩ := run_del (P := Tryz.prog) (key_text Tryz.underlying9) Tryz.underlying84 hr.map name 9 0
    exact ⟨o, hd, ⟨(World.putObj_heap_other hr.ne).trans hr.head, hm⟩, hr.c0⟩
  clear h hg
  have hD1 := Hid.mk hD; clear hD
  go_enter Tryz.func33, Tryz.ntmps33
  go_wp2_with (go_at_call 23; (with_reducible refine hG.out.mono ?_); rintro e w1 ⟨rfl, hb⟩; have hb1 := Hid.mk (hb.new_ (.cells #[.int .i64 x.slot, .int .i64 x.gen] 51)); obtain ⟨o, hd, hR, hc⟩ := hD1.out _ hb1.out; have c0 := hc.out; clear hb)
  go_ret
  go_light
  exact ⟨rfl, hR.out, (Only.below hb1.out [mb]).grown (grownBy_putObj' _ _ _) (fun k e => by cases e; exact .inl (by simp))⟩

set_option maxRecDepth 100000 in
set_option maxHeartbeats 4000000 in
theorem trans_Held_now (q : WPlace) (Y : S.World) (w : World) (h : WorldAt w q Y) (hy : Y.old = none) (hfew : Y.now.R.length ≤ 1) :
    Calls Tryz.prog 25 #[.pointer (some ⟨q.T, 0, none⟩)] w fun e w' => ∃ v, e = .returned v ∧ w'.ownsRow w.heap.size 51 2 v Y.now.R.length ((Y.now.R.map fun x => S.unpack (S.pack x.2)).map S.Handle.cells).flatten ∧ Below w.heap.size w w' := by
  have hO : ∀ W, Below w.heap.size w W → Hid (Calls Tryz.prog 68 #[.pointer (some ⟨q.T, 0, none⟩)] W fun e w' => e = .returned (.bool false) ∧ w' = W) := fun W hb => by
    have := trans_Open q Y W (h.below hb)
    rw [hy] at this
    exact this
  have hH1 := Hid.mk (roots_Handles_few q.s.r q.s.mb Y.now.R w h.now.roots hfew)
  have c1 := h.c1
  have hf1 := Hid.mk hfew
  have hsr : ∀ (A : Option Addr) (n c : Nat) (f : Value) (hn : n ≤ 1) (W : World), Hid _ := fun A n c f hn W => Hid.mk (sort_hand A n c f hn W)
  have hco : ∀ (A : Option Addr) (n c : Nat) (hn : n ≤ 1) (W : World), Hid _ := fun A n c hn W => Hid.mk (compact_hand A n c hn W)
  clear h hy hfew
  go_enter Tryz.func25, Tryz.ntmps25
  go_wp2_with (first | ((go_at_call 67); (with_reducible refine hH1.out.mono ?_); rintro e w1 ⟨v, rfl, ho, hb⟩; obtain ⟨A1, k1, rfl, hle⟩ := own_le ho; have ho1 := Hid.mk ho; have hb1 := Hid.mk hb; clear ho hb) | (go_at_call 68; (with_reducible refine (hO _ hb1.out).out.mono ?_); rintro e w2 ⟨rfl, hw⟩; obtain rfl := hw.symm) | (go_at_call 69; (with_reducible refine (hsr _ _ _ _ hf1.out _).out.mono ?_); rintro e w4 ⟨rfl, hw⟩; obtain rfl := hw.symm) | (go_at_call 73; (with_reducible refine (hco _ _ _ hf1.out _).out.mono ?_); rintro e w5 ⟨rfl, hw⟩; obtain rfl := hw.symm))
  go_ret
  go_light
  exact ⟨_, rfl, ho1.out, hb1.out⟩

/-! ### check.good, and the closure of Look -/
set_option maxRecDepth 100000 in
set_option maxHeartbeats 4000000 in
theorem check_good (p : Parts) (X : S.Heap) (x : S.Handle) (w : World) (h : HeapAt w p X) (hX : X.ok) :
    Calls Tryz.prog 21 #[.pointer (some ⟨p.H, 0, none⟩), x.val] w fun e w' => e = .returned (.bool (S.goodAt X.slots x).isSome) ∧ Below w.heap.size w w' := by
  cases hg : S.goodAt X.slots x with
  | none =>
    have hO := fun W (hW : Below w.heap.size w W) => Hid.mk (obj_Of_no p X x W (h.below hW) hg)
    obtain ⟨xs, xg⟩ := x
    clear h hg
    go_enter Tryz.func21, Tryz.ntmps21
    go_wp2_with (go_at_call 60; (with_reducible refine (hO _ (below_one _ _)).out.mono ?_); rintro e w1 ⟨rfl, hb⟩; have hb1 := Hid.mk (below_then (below_one w (.cells #[.int .i64 xs, .int .i64 xg] 51)) hb); clear hb)
    go_ret
    go_light
    exact ⟨rfl, hb1.out⟩
  | some sl =>
    obtain ⟨t, ht, hv⟩ := S.goodAt_thing hX hg
    have hO := fun W (hW : Below w.heap.size w W) => Hid.mk (obj_Of_yes p X x sl t W (h.below hW) hX hg ht hv)
    obtain ⟨xs, xg⟩ := x
    clear h hX hg ht hv
    go_enter Tryz.func21, Tryz.ntmps21
    go_wp2_with (go_at_call 60; (with_reducible refine (hO _ (below_one _ _)).out.mono ?_); rintro e w1 ⟨rfl, hb⟩; have hb1 := Hid.mk (below_then (below_one w (.cells #[.int .i64 xs, .int .i64 xg] 51)) hb); clear hb)
    go_ret
    go_light
    exact ⟨rfl, hb1.out⟩

set_option maxRecDepth 100000 in
set_option maxHeartbeats 4000000 in
theorem look_bad (p : Parts) (X : S.Heap) (x : S.Handle) (bh : Nat) (w : World) (h : HeapAt w p X) (hX : X.ok) (hbh : w.cell? ⟨bh, 0, none⟩ = some (.pointer (some ⟨p.H, 0, none⟩))) :
    Calls Tryz.prog 20 #[x.val, .pointer (some ⟨bh, 0, none⟩)] w fun e w' => e = .returned (.bool (!(S.goodAt X.slots x).isSome)) ∧ Below w.heap.size w w' := by
  have hbhl := World.block_lt_of_cell? w _ hbh
  have hB := below_one w (.cells #[.int .i64 x.slot, .int .i64 x.gen] 51)
  have hG := Hid.mk (check_good p X x _ (h.below hB) hX)
  have c := (hB.cell (p := ⟨bh, 0, none⟩) hbhl).trans hbh
  have hB1 := Hid.mk hB
  generalize (S.goodAt X.slots x).isSome = g at *
  obtain ⟨xs, xg⟩ := x
  clear h hX hB hbh
  go_enter Tryz.func20, Tryz.ntmps20
  go_wp2_with (go_at_call 21; (with_reducible refine hG.out.mono ?_); rintro e w1 ⟨rfl, hb⟩; have hb1 := Hid.mk (below_then hB1.out hb); clear hb)
  go_ret
  go_light
  exact ⟨rfl, hb1.out⟩
end Go.Proofs.YtdokiaicheillaaGreat

namespace Go.Proofs.YtdokiaicheillaaGreat
open Go.RowKit

/-- A world in which Look finds no reference, nothing stale, no leak; no root is good. -/
structure Calm2 (Y : S.World) (us : List Nat) : Prop where
  old : Y.old = none
  ok : Y.now.X.ok
  few : Y.now.R.length ≤ 1
  bad : ∀ x, x ∈ Y.now.R → S.goodAt Y.now.X.slots x.2 = none
  bad2 : ∀ x, x ∈ Y.now.R → S.goodAt Y.now.X.slots (S.unpack (S.pack x.2)) = none
  plain : ∀ t, t ∈ Y.now.X.things → Y.now.X.plain t
  fresh : Y.now.X.fresh
  cat : Y.now.X.cat.length ≤ 1
  names : ∀ t, t ∈ Y.now.X.things → ∀ c, c ∈ Y.now.X.cat → t.name = c.1
  long : us.length = (S.handles Y.now.X.slots).length
  units : ∀ (i : Nat) (x : S.Handle) (n : Nat), (S.handles Y.now.X.slots)[i]? = some x → us[i]? = some n → ∃ sl t, S.goodAt Y.now.X.slots x = some sl ∧ t ∈ Y.now.X.things ∧ sl.v = t.at_ ∧ n = 3 + t.b.length / 8
  used : S.used Y.now.X.units Y.now.X.blks = (us.sum : Nat)
  none : Y.now.X.cat = [] → us = []

theorem sort_few (l : List S.Text) (h : l.length ≤ 1) : l.mergeSort S.leT = l := by
  match l, h with
  | [], _ => simp
  | [x], _ => simp
  | _ :: _ :: _, h => simp at h
theorem getK_few {V : Type} {l : List (S.Text × V)} (h : l.length ≤ 1) {i : Nat} {x : S.Text × V} (hx : l[i]? = some x) : getK l x.1 = some x.2 := by
  match l, h, hx with
  | [y], _, hx =>
    have hi : i = 0 := by have := (List.getElem?_eq_some_iff.1 hx).1; simp at this; omega
    subst hi
    simp only [List.getElem?_cons_zero, Option.some.injEq] at hx
    subst hx
    simp [getK]
  | [], _, hx => simp at hx
  | _ :: _ :: _, h, _ => simp at h

/-- The contracts. -/
structure LookC (w : World) (T H r c : Nat) (R : List (S.Text × S.Handle)) (hs : List S.Handle) (ns : List S.Text) (n : Nat) : Prop where
  heap : ∀ W, Below w.heap.size w W → Hid (Calls Tryz.prog 12 #[.pointer (some ⟨T, 0, none⟩)] W fun e w' => e = .returned (.pointer (some ⟨H, 0, none⟩)) ∧ w' = W)
  roots : ∀ W, Below w.heap.size w W → Hid (Calls Tryz.prog 13 #[.pointer (some ⟨T, 0, none⟩)] W fun e w' => e = .returned (.pointer (some ⟨r, 0, none⟩)) ∧ w' = W)
  names : ∀ W, Below w.heap.size w W → Hid (Calls Tryz.prog 22 #[.pointer (some ⟨r, 0, none⟩)] W fun e w' => ∃ A k, e = .returned (.slice A R.length k) ∧ Row w'.cell? A 1 (fun x => [encT x]) (R.map (·.1)) ∧ (∀ b off, A = some ⟨b, off, none⟩ → W.heap.size ≤ b) ∧ Below W.heap.size W w')
  get : ∀ (i : Nat) (x : S.Text × S.Handle), R[i]? = some x → ∀ W, Below w.heap.size w W → Hid (Calls Tryz.prog 23 #[.pointer (some ⟨r, 0, none⟩), .string (S.mk x.1)] W fun e w' => e = .returned (.tuple #[.agg #[.int .i64 x.2.slot, .int .i64 x.2.gen], .int .i64 0]) ∧ Below W.heap.size W w')
  bad : ∀ (i : Nat) (x : S.Text × S.Handle), R[i]? = some x → ∀ W bh, Below w.heap.size w W → W.cell? ⟨bh, 0, none⟩ = some (.pointer (some ⟨H, 0, none⟩)) → Hid (Calls Tryz.prog 20 #[.agg #[.int .i64 x.2.slot, .int .i64 x.2.gen], .pointer (some ⟨bh, 0, none⟩)] W fun e w' => e = .returned (.bool true) ∧ Below W.heap.size W w')
  held : ∀ W, Below w.heap.size w W → Hid (Calls Tryz.prog 25 #[.pointer (some ⟨T, 0, none⟩)] W fun e w' => ∃ A n k, e = .returned (.slice A n k) ∧ Below W.heap.size W w' ∧ ∀ W2, Below w'.heap.size w' W2 → Hid (Calls Tryz.prog 24 #[.pointer (some ⟨H, 0, none⟩), .slice A n k] W2 fun e w' => e = .returned (.slice none 0 0) ∧ Below W2.heap.size W2 w'))
  handles : ∀ W, Below w.heap.size w W → Hid (Calls Tryz.prog 19 #[.pointer (some ⟨H, 0, none⟩)] W fun e w' => ∃ A k, e = .returned (.slice A hs.length k) ∧ Handles w'.cell? A hs ∧ (∀ b off, A = some ⟨b, off, none⟩ → W.heap.size ≤ b) ∧ Below W.heap.size W w')
  refs : ∀ x, x ∈ hs → ∀ W, Below w.heap.size w W → Hid (Calls Tryz.prog 26 #[.pointer (some ⟨H, 0, none⟩), .agg #[.int .i64 x.slot, .int .i64 x.gen]] W fun e w' => e = .returned (.tuple #[.slice none 0 0, .int .i64 0]) ∧ Below W.heap.size W w')
  stale : ∀ W, Below w.heap.size w W → Hid (Calls Tryz.prog 29 #[.pointer (some ⟨H, 0, none⟩)] W fun e w' => e = .returned (.slice none 0 0) ∧ Below W.heap.size W w')
  used : ∀ W, Below w.heap.size w W → Hid (Calls Tryz.prog 30 #[.pointer (some ⟨H, 0, none⟩)] W fun e w' => e = .returned (.int .i64 (n : Nat)) ∧ Below W.heap.size W w')
  schema : ∀ W, Below w.heap.size w W → Hid (Calls Tryz.prog 14 #[.pointer (some ⟨H, 0, none⟩)] W fun e w' => e = .returned (.pointer (some ⟨c, 0, none⟩)) ∧ w' = W)
  kinds : ∀ W, Below w.heap.size w W → Hid (Calls Tryz.prog 31 #[.pointer (some ⟨c, 0, none⟩)] W fun e w' => ∃ A k, e = .returned (.slice A ns.length k) ∧ Row w'.cell? A 1 (fun x => [encT x]) ns ∧ (∀ b off, A = some ⟨b, off, none⟩ → W.heap.size ≤ b) ∧ Below W.heap.size W w')
  units : ∀ x, x ∈ ns → ∀ W, Below w.heap.size w W → Hid (Calls Tryz.prog 32 #[.pointer (some ⟨H, 0, none⟩), .string (S.mk x)] W fun e w' => e = .returned (.int .i64 (n : Nat)) ∧ Below W.heap.size W w')
  few : R.length ≤ 1 ∧ hs.length ≤ 256 ∧ ns.length ≤ 1 ∧ n ≤ 300000
  zero : ns.length = 0 → n = 0

theorem own_row_ge {w : World} {m n : Nat} {t : TypeId} {xs : List S.Text} {v : Value} (h : w.ownsRow m t 1 v n (xs.map encT)) (hn : n = xs.length) (hb : n ≤ 1073741824) : ∃ A k, v = .slice A n k ∧ Row w.cell? A 1 (fun x => [encT x]) xs ∧ (∀ b off, A = some ⟨b, off, none⟩ → m ≤ b) := by
  obtain ⟨A, k, rfl, hr, hg⟩ := own_row h hn hb
  exact ⟨A, k, rfl, hr, fun b off e => (hg b off e).1⟩

theorem look_c {w : World} {q : WPlace} {Y : S.World} {us : List Nat} (h : WorldAt w q Y) (hc : Calm2 Y us) : LookC w q.T q.s.p.H q.s.r q.s.p.c Y.now.R (S.handles Y.now.X.slots) (Y.now.X.cat.map (·.1)) us.sum where
  heap := fun W hW => trans_Heap q Y W (h.below hW)
  roots := fun W hW => trans_Roots q Y W (h.below hW)
  names := fun W hW => by
    refine (roots_Names q.s.r q.s.mb Y.now.R W (h.below hW).now.roots (by have := hc.few; omega)).mono fun e w' ⟨v, e1, e2, e3⟩ => ?_
    rw [sort_few _ (by rw [List.length_map]; exact hc.few)] at e2
    obtain ⟨A, k, rfl, hr, hg⟩ := own_row_ge e2 (by simp) (by have := hc.few; omega)
    exact ⟨A, k, e1, hr, hg, e3⟩
  get := fun i x hx W hW => roots_Get_yes q.s.r q.s.mb Y.now.R x.1 x.2 W (h.below hW).now.roots (getK_few hc.few hx)
  bad := fun i x hx W bh hW hbh => by
    have := look_bad q.s.p Y.now.X x.2 bh W (h.below hW).now.heap hc.ok hbh
    rw [hc.bad x (List.mem_of_getElem? hx)] at this
    exact this
  held := fun W hW => by
    refine (trans_Held_now q Y W (h.below hW) hc.old hc.few).mono fun e w' ⟨v, e1, e2, e3⟩ => ?_
    obtain ⟨A, k, rfl, hr⟩ := hands_of_own e2 (by simp) (by have := hc.few; omega)
    refine ⟨A, _, k, e1, e3, fun W2 hW2 => ?_⟩
    have hb2 : Below w.heap.size w W2 := below_then (below_then hW e3) hW2
    have hbd : ∀ x, x ∈ (Y.now.R.map fun x => S.unpack (S.pack x.2)) → S.goodAt Y.now.X.slots x = none := fun x hx => by
      obtain ⟨y, hy, rfl⟩ := List.mem_map.1 hx
      exact hc.bad2 y hy
    have hr2 : Handles W2.cell? A (Y.now.R.map fun x => S.unpack (S.pack x.2)) := Row.below hr hW2
    have hl2 : (Y.now.R.map fun x => S.unpack (S.pack x.2)).length = Y.now.R.length := List.length_map _
    generalize (Y.now.R.map fun x => S.unpack (S.pack x.2)) = l at *
    rw [← hl2]
    exact trace_Reach_none q.s.p Y.now.X A k l W2 (h.below hb2).now.heap hc.ok hr2 hbd
  handles := fun W hW => by
    have hh := (h.below hW).now.heap
    have hf := handles_few hh
    refine (obj_Handles q.s.p Y.now.X W hh).mono fun e w' ⟨v, e1, e2, e3⟩ => ?_
    obtain ⟨A, k, rfl, hr⟩ := hands_of_own e2 rfl (by omega)
    exact ⟨A, k, e1, hr, fun b off e => (by subst e; exact own_block_ge e2 (k := b) (by simp [Value.ownBlock])), e3⟩
  refs := fun x hx W hW => by
    obtain ⟨sl, t, hg, ht, hv⟩ := S.handles_thing hc.ok hx
    exact obj_Refs_none q.s.p Y.now.X x sl t W (h.below hW).now.heap hc.ok hg ht hv (hc.plain t ht)
  stale := fun W hW => evolve_Stale_none q.s.p Y.now.X W (h.below hW).now.heap hc.ok hc.fresh
  used := fun W hW => by
    have := obj_Used q.s.p Y.now.X W (h.below hW).now.heap
    rw [hc.used] at this
    exact this
  schema := fun W hW => obj_Schema q.s.p Y.now.X W (h.below hW).now.heap
  kinds := fun W hW => by
    refine (schema_Names q.s.p.c q.s.p.mb q.s.p.ps Y.now.X.cat W (h.below hW).now.heap.cat (by have := hc.cat; omega)).mono fun e w' ⟨v, e1, e2, e3⟩ => ?_
    rw [sort_few _ (by rw [List.length_map]; exact hc.cat)] at e2
    obtain ⟨A, k, rfl, hr, hg⟩ := own_row_ge e2 (by simp) (by have := hc.cat; omega)
    rw [List.length_map]
    exact ⟨A, k, e1, hr, hg, e3⟩
  units := fun x hx W hW => by
    obtain ⟨c, hcm, rfl⟩ := List.mem_map.1 hx
    exact count_Units_all q.s.p Y.now.X c.1 us W (h.below hW).now.heap hc.ok hc.long (fun i x n hx hn => by
      obtain ⟨sl, t, h1, h2, h3, h4⟩ := hc.units i x n hx hn
      exact ⟨sl, t, h1, h2, h3, hc.names t h2 c hcm, h4⟩)
  few := ⟨hc.few, handles_few h.now.heap, by rw [List.length_map]; exact hc.cat, by
    have hub : ∀ (j n : Nat), us[j]? = some n → n ≤ 1024 := fun j n hj => by
      have hjl := (List.getElem?_eq_some_iff.1 hj).1
      have hl := hc.long
      obtain ⟨sl, t, h1, h2, h3, rfl⟩ := hc.units j _ n (List.getElem?_eq_getElem (by omega)) hj
      have hb := (hc.ok.things t h2).blk
      have hwi := hc.ok.within _ (S.getK_pair hb)
      have hu := hc.ok.units
      simp only at hwi
      omega
    have h5 := sum_take_le hub us.length (Nat.le_refl _)
    rw [List.take_length] at h5
    have h6 := handles_few h.now.heap
    have h7 := hc.long
    omega⟩
  zero := fun hn => by
    rw [hc.none (List.eq_nil_of_length_eq_zero (by simpa using hn))]
    rfl
end Go.Proofs.YtdokiaicheillaaGreat
