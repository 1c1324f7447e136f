/-
  The walks of roots.Set and Names.
-/
import Derived.Test.YtdokiaicheillaaGreatRoots
import Derived.Test.YtdokiaicheillaaGreatCreate
import Derived.Test.YtdokiaicheillaaGreatKeysH
import Derived.Test.YtdokiaicheillaaGreatSorted
namespace Go.Proofs.YtdokiaicheillaaGreat
open Go.RowKit

namespace S
def rset (l : List (Text × Handle)) (name : Text) (x : Handle) : List (Text × Handle) × Int :=
  if nameOk name && (pack x != 0) then (if (getK l name).isNone && decide (16 ≤ l.length) then (l, 131) else (setK l name x, 0)) else (l, 1)
end S
theorem RootsAt.calm {w : World} {r mb : Nat} {l : List (S.Text × S.Handle)} (h : RootsAt w r mb l) : Calm w [r, mb] := fun k cs t fr hk h3 => by
  obtain ⟨a, cl, hm⟩ := h.map.obj
  simp only [List.mem_cons, List.not_mem_nil, or_false] at hk
  rcases hk with rfl | rfl
  · exact calm_cells h.head (by decide) (by decide) _ cs t fr (by simp) h3
  · exact calm_map hm _ cs t fr (by simp) h3
theorem RootsAt.lt {w : World} {r mb : Nat} {l : List (S.Text × S.Handle)} (h : RootsAt w r mb l) : r < w.heap.size ∧ mb < w.heap.size := ⟨(Array.getElem?_eq_some_iff.1 h.head).1, h.map.lt⟩
theorem RootsAt.below {w w' : World} {r mb : Nat} {l : List (S.Text × S.Handle)} (h : RootsAt w r mb l) (hb : Below w.heap.size w w') : RootsAt w' r mb l := h.kept (hb.block _ h.lt.1) (hb.block _ h.lt.2)
theorem zero_handle (w : World) : (zeroValue 51).run Tryz.prog w = .ok (.agg #[.int .i64 0, .int .i64 0]) w := by kernel_rfl

theorem look_hand (r mb : Nat) (l : List (S.Text × S.Handle)) (name : S.Text) (w : World) (h : RootsAt w r mb l) : ∃ s g : Int, ∀ W, Below w.heap.size w W → Hid ((Instr.lookup 84 (.map (some mb)) (.string (S.mk name)) true).run Tryz.prog W = .ok (.tuple #[.agg #[.int .i64 s, .int .i64 g], .bool (getK l name).isSome]) W) := by
  cases hg : getK l name with
  | none => exact ⟨0, 0, fun W hb => run_look_none (P := Tryz.prog) (key_text Tryz.underlying9) Tryz.underlying84 (h.below hb).map name hg (zero_handle W) true⟩
  | some v => exact ⟨v.slot, v.gen, fun W hb => run_look (P := Tryz.prog) (key_text Tryz.underlying9) Tryz.underlying84 (h.below hb).map name hg true⟩
abbrev hcells (x : S.Handle) : Obj := .cells #[.int .i64 x.slot, .int .i64 x.gen] 51

set_option maxRecDepth 100000 in
set_option maxHeartbeats 4000000 in
theorem roots_Set_bad (r mb : Nat) (l : List (S.Text × S.Handle)) (name : S.Text) (x : S.Handle) (w : World) (h : RootsAt w r mb l) (hn : name.length ≤ 1073741824) (hbad : (S.nameOk name && (S.pack x != 0)) = false) :
    Calls Tryz.prog 17 #[.pointer (some ⟨r, 0, none⟩), .string (S.mk name), .agg #[.int .i64 x.slot, .int .i64 x.gen]] w fun e w' => e = .returned (.int .i64 1) ∧ Below w.heap.size w w' := by
  obtain ⟨s, g, hl⟩ := look_hand r mb l name w h
  have hl1 := (hl _ (below_one w (.cells #[.int .i64 x.slot, .int .i64 x.gen] 51))).out
  have c0 : (w.alloc (.cells #[.int .i64 x.slot, .int .i64 x.gen] 51)).cell? ⟨r, 0, none⟩ = some (.map (some mb)) := (h.below (below_one w _)).c0
  have hW2 : Hid (Below w.heap.size w ((w.alloc (.cells #[.int .i64 x.slot, .int .i64 x.gen] 51)).alloc (.cells #[.int .i64 s, .int .i64 g] 51))) := (below_one w _).new_ _
  have hT : Hid (((w.alloc (.cells #[.int .i64 x.slot, .int .i64 x.gen] 51)).alloc (.cells #[.int .i64 s, .int .i64 g] 51)).heap[w.heap.size]? = some (.cells #[.int .i64 x.slot, .int .i64 x.gen] 51 (0, 0))) := (Below.heap_alloc _ _ _ (by simp)).trans (heap_alloc_new _ _)
  have hN := Hid.mk (field_Name name ((w.alloc (.cells #[.int .i64 x.slot, .int .i64 x.gen] 51)).alloc (.cells #[.int .i64 s, .int .i64 g] 51)) hn)
  have hP := fun W => Hid.mk (slots_Pack x W)
  generalize (getK l name).isSome = b at *
  cases hnm : S.nameOk name with
  | false =>
    rw [hnm] at hN
    clear h hl hnm hbad hn hP hT
    go_enter Tryz.func17, Tryz.ntmps17
    go_wp2_with (go_at_call 45; (with_reducible refine hN.out.mono ?_); rintro e w1 ⟨rfl, hb⟩; have hb1 := Hid.mk hb; clear hb)
    go_ret
    go_light
    exact ⟨rfl, below_then hW2.out hb1.out⟩
  | true =>
    have hp0 : S.pack x = 0 := by simpa [hnm] using hbad
    rw [hnm] at hN
    rw [hp0] at hP
    clear h hl hnm hbad hn hp0
    go_enter Tryz.func17, Tryz.ntmps17
    go_wp2_with (first | (go_at_call 45; (with_reducible refine hN.out.mono ?_); rintro e w1 ⟨rfl, hb⟩; have hb1 := Hid.mk hb; have hT1 := (hb.block w.heap.size (by simp; omega)).trans hT.out; have t0 := (heap_cell hT1 (o := 0) (v := .int .i64 x.slot) rfl).1; have t1 := (heap_cell hT1 (o := 1) (v := .int .i64 x.gen) rfl).1; clear hb; have hT11 := Hid.mk hT1; clear hT1) | (go_at_call 54; (with_reducible refine (hP _).out.mono ?_); rintro e w2 ⟨rfl, hb⟩; have hb2 := Hid.mk hb; clear hb))
    go_ret
    go_light
    exact ⟨rfl, below_then (below_then hW2.out hb1.out) hb2.out⟩

set_option maxRecDepth 100000 in
set_option maxHeartbeats 4000000 in
theorem roots_Set_good (r mb : Nat) (l : List (S.Text × S.Handle)) (name : S.Text) (x : S.Handle) (w : World) (h : RootsAt w r mb l) (hn : name.length ≤ 1073741824) (hlen : l.length ≤ 1073741824) (hok : (S.nameOk name && (S.pack x != 0)) = true) :
    Calls Tryz.prog 17 #[.pointer (some ⟨r, 0, none⟩), .string (S.mk name), .agg #[.int .i64 x.slot, .int .i64 x.gen]] w fun e w' => e = .returned (.int .i64 (S.rset l name x).2) ∧ RootsAt w' r mb (S.rset l name x).1 ∧ Only [mb] w w' := by
  obtain ⟨s, g, hl⟩ := look_hand r mb l name w h
  have hl1 := (hl _ (below_one w (.cells #[.int .i64 x.slot, .int .i64 x.gen] 51))).out
  have c0 : (w.alloc (.cells #[.int .i64 x.slot, .int .i64 x.gen] 51)).cell? ⟨r, 0, none⟩ = some (.map (some mb)) := (h.below (below_one w _)).c0
  have hW2 : Hid (Below w.heap.size w ((w.alloc (.cells #[.int .i64 x.slot, .int .i64 x.gen] 51)).alloc (.cells #[.int .i64 s, .int .i64 g] 51))) := (below_one w _).new_ _
  have hT : Hid (((w.alloc (.cells #[.int .i64 x.slot, .int .i64 x.gen] 51)).alloc (.cells #[.int .i64 s, .int .i64 g] 51)).heap[w.heap.size]? = some (.cells #[.int .i64 x.slot, .int .i64 x.gen] 51 (0, 0))) := (Below.heap_alloc _ _ _ (by simp)).trans (heap_alloc_new _ _)
  simp only [Bool.and_eq_true, bne_iff_ne] at hok
  have hN := field_Name name ((w.alloc (.cells #[.int .i64 x.slot, .int .i64 x.gen] 51)).alloc (.cells #[.int .i64 s, .int .i64 g] 51)) hn
  rw [hok.1] at hN
  have hP := fun W => Hid.mk (slots_Pack x W)
  have tp : (S.pack x == 0) = false := by simpa using hok.2
  have hS : S.rset l name x = if (getK l name).isNone && decide (16 ≤ l.length) then (l, 131) else (setK l name x, 0) := by simp [S.rset, hok.1, hok.2]
  have hB : ∀ W, Below w.heap.size w W → Hid (W.cell? ⟨r, 0, none⟩ = some (.map (some mb)) ∧ (∀ ty, (Builtin.len_ #[84] ty #[.map (some mb)]).run Tryz.prog W = .ok (.int .i64 (l.length : Nat)) W) ∧ ∃ o, (Instr.mapUpdate 84 (.map (some mb)) (.string (S.mk name)) (.agg #[.int .i64 x.slot, .int .i64 x.gen])).run Tryz.prog W = .ok () (W.putObj mb o) ∧ Hid (MapAt encT S.Handle.val (W.putObj mb o) mb (setK l name x))) := fun W hb => by
    have h2 := h.below hb
    obtain ⟨o, h3, h4⟩ := run_store (P := Tryz.prog) (key_text Tryz.underlying9) Tryz.underlying84 h2.map name x
    exact ⟨h2.c0, fun ty => run_maplen (P := Tryz.prog) h2.map Tryz.underlying84 ty, o, h3, h4⟩
  have h1 := Hid.mk h
  rw [hS]
  cases hg : getK l name with
  | some v =>
    simp only [hg, Option.isSome_some, Option.isNone_some, Bool.false_and, Bool.false_eq_true, if_false] at hl1 ⊢
    have hN1 := Hid.mk hN; have hB1 := Hid.mk hB; clear hN hB
    clear h hl hn hok hS hg
    go_enter Tryz.func17, Tryz.ntmps17
    go_wp2_with (first | (go_at_call 45; (with_reducible refine hN1.out.mono ?_); rintro e w1 ⟨rfl, hb⟩; have hb1 := Hid.mk hb; have hT1 := (hb.block w.heap.size (by simp; omega)).trans hT.out; have t0 := (heap_cell hT1 (o := 0) (v := .int .i64 x.slot) rfl).1; have t1 := (heap_cell hT1 (o := 1) (v := .int .i64 x.gen) rfl).1; clear hb; have hT11 := Hid.mk hT1; clear hT1) | (go_at_call 54; (with_reducible refine (hP _).out.mono ?_); rintro e w2 ⟨rfl, hb⟩; have hB2 := Hid.mk (below_then (below_then hW2.out hb1.out) hb); have hT2 := Hid.mk ((hb.block w.heap.size (by have := hb1.out.size; simp at this; omega)).trans hT11.out); clear hb t0 t1))
    have t0 := (heap_cell hT2.out (o := 0) (v := .int .i64 x.slot) rfl).1
    have t1 := (heap_cell hT2.out (o := 1) (v := .int .i64 x.gen) rfl).1
    obtain ⟨q1, q2, o, q3, q4⟩ := (hB1.out _ (show Below w.heap.size w w2.drew from hB2.out.drew)).out
    have q1' : w2.cell? ⟨r, 0, none⟩ = some (.map (some mb)) := q1
    clear q2 hl1 c0
    (refine wp_still_tail_d 6 (by kernel_rfl) (by kernel_rfl) ?_; simp only [List.take_succ_cons, List.take_zero, List.drop_succ_cons, List.drop_zero]; (repeat still_step); (try refine wpStill_nil ?_))
    go_wp2
    go_ret
    go_light
    have hbw : Below w.heap.size w w2.drew := hB2.out.drew
    refine ⟨rfl, ⟨(World.putObj_heap_other h1.out.ne).trans ((hbw.block r h1.out.lt.1).trans h1.out.head), q4.out⟩, (Only.below hbw [mb]).grown (grownBy_putObj' _ _ _) (fun k e => by cases e; exact .inl (by simp))⟩
  | none =>
    by_cases h16 : 16 ≤ l.length
    · have td : decide (16 ≤ (l.length : Int)) = true := by simp; omega
      simp only [hg, Option.isSome_none, Option.isNone_none, Bool.true_and, h16, decide_true, if_true] at hl1 ⊢
      have hN1 := Hid.mk hN; have hB1 := Hid.mk hB; clear hN hB
      clear h hl hn hok hS hg h16
      go_enter Tryz.func17, Tryz.ntmps17
      go_wp2_with (first | (go_at_call 45; (with_reducible refine hN1.out.mono ?_); rintro e w1 ⟨rfl, hb⟩; have hb1 := Hid.mk hb; have hT1 := (hb.block w.heap.size (by simp; omega)).trans hT.out; have t0 := (heap_cell hT1 (o := 0) (v := .int .i64 x.slot) rfl).1; have t1 := (heap_cell hT1 (o := 1) (v := .int .i64 x.gen) rfl).1; clear hb; have hT11 := Hid.mk hT1; clear hT1) | (go_at_call 54; (with_reducible refine (hP _).out.mono ?_); rintro e w2 ⟨rfl, hb⟩; have hB2 := Hid.mk (below_then (below_then hW2.out hb1.out) hb); have hT2 := Hid.mk ((hb.block w.heap.size (by have := hb1.out.size; simp at this; omega)).trans hT11.out); clear hb t0 t1; obtain ⟨q1, q2, -⟩ := (hB1.out _ hB2.out).out))
      go_ret
      go_light
      exact ⟨rfl, h1.out.below hB2.out, Only.below hB2.out _⟩
    · have td : decide (16 ≤ (l.length : Int)) = false := by simp; omega
      simp only [hg, Option.isSome_none, Option.isNone_none, Bool.true_and, h16, decide_false, Bool.false_eq_true, if_false] at hl1 ⊢
      have hN1 := Hid.mk hN; have hB1 := Hid.mk hB; clear hN hB
      clear h hl hn hok hS hg h16
      go_enter Tryz.func17, Tryz.ntmps17
      go_wp2_with (first | (go_at_call 45; (with_reducible refine hN1.out.mono ?_); rintro e w1 ⟨rfl, hb⟩; have hb1 := Hid.mk hb; have hT1 := (hb.block w.heap.size (by simp; omega)).trans hT.out; have t0 := (heap_cell hT1 (o := 0) (v := .int .i64 x.slot) rfl).1; have t1 := (heap_cell hT1 (o := 1) (v := .int .i64 x.gen) rfl).1; clear hb; have hT11 := Hid.mk hT1; clear hT1) | (go_at_call 54; (with_reducible refine (hP _).out.mono ?_); rintro e w2 ⟨rfl, hb⟩; have hB2 := Hid.mk (below_then (below_then hW2.out hb1.out) hb); have hT2 := Hid.mk ((hb.block w.heap.size (by have := hb1.out.size; simp at this; omega)).trans hT11.out); clear hb t0 t1; obtain ⟨q1, q2, -⟩ := (hB1.out _ hB2.out).out))
      clear q1 q2
      have t0 := (heap_cell hT2.out (o := 0) (v := .int .i64 x.slot) rfl).1
      have t1 := (heap_cell hT2.out (o := 1) (v := .int .i64 x.gen) rfl).1
      obtain ⟨q1, q2, o, q3, q4⟩ := (hB1.out _ (show Below w.heap.size w w2.drew from hB2.out.drew)).out
      have q1' : w2.cell? ⟨r, 0, none⟩ = some (.map (some mb)) := q1
      clear q2 hl1 c0
      (refine wp_still_tail_d 6 (by kernel_rfl) (by kernel_rfl) ?_; simp only [List.take_succ_cons, List.take_zero, List.drop_succ_cons, List.drop_zero]; (repeat still_step); (try refine wpStill_nil ?_))
      go_wp2
      go_ret
      go_light
      have hbw : Below w.heap.size w w2.drew := hB2.out.drew
      refine ⟨rfl, ⟨(World.putObj_heap_other h1.out.ne).trans ((hbw.block r h1.out.lt.1).trans h1.out.head), q4.out⟩, (Only.below hbw [mb]).grown (grownBy_putObj' _ _ _) (fun k e => by cases e; exact .inl (by simp))⟩

/-- Set: all of it. -/
theorem roots_Set (r mb : Nat) (l : List (S.Text × S.Handle)) (name : S.Text) (x : S.Handle) (w : World) (h : RootsAt w r mb l) (hn : name.length ≤ 1073741824) (hlen : l.length ≤ 1073741824) :
    Calls Tryz.prog 17 #[.pointer (some ⟨r, 0, none⟩), .string (S.mk name), .agg #[.int .i64 x.slot, .int .i64 x.gen]] w fun e w' => e = .returned (.int .i64 (S.rset l name x).2) ∧ RootsAt w' r mb (S.rset l name x).1 ∧ Only [mb] w w' := by
  cases hok : S.nameOk name && (S.pack x != 0) with
  | false =>
    have hS : S.rset l name x = (l, 1) := by simp [S.rset, hok]
    rw [hS]
    exact (roots_Set_bad r mb l name x w h hn hok).mono fun e w' ⟨e1, hb⟩ => ⟨e1, h.below hb, Only.below hb _⟩
  | true => exact roots_Set_good r mb l name x w h hn hlen hok

set_option maxRecDepth 100000 in
set_option maxHeartbeats 2000000 in
theorem roots_Names (r mb : Nat) (l : List (S.Text × S.Handle)) (w : World) (h : RootsAt w r mb l) (hlen : l.length ≤ 1073741824) :
    Calls Tryz.prog 22 #[.pointer (some ⟨r, 0, none⟩)] w fun e w' => ∃ v, e = .returned v ∧ w'.ownsRow w.heap.size 9 1 v l.length (((l.map (·.1)).mergeSort S.leT).map encT) ∧ Below w.heap.size w w' := by
  have c0 := h.c0
  have hk := keys_hand mb w
  have hb0 := below_one w (.cells #[.map (some mb)] 84)
  have hB : (w.alloc (.cells #[.map (some mb)] 84)).cell? ⟨w.heap.size, 0, none⟩ = some (.map (some mb)) := (heap_cell (heap_alloc_new w _) (o := 0) rfl).1
  have hs := sorted_strs 104 #[.pointer (some ⟨w.heap.size, 0, none⟩)] (enters_of Tryz.func104 (by kernel_rfl) rfl) (l.map (·.1)) _ _ _ _ (keys_stops_hand S.Handle.val 7 (by omega) w.heap.size mb l _ hB (h.below hb0).map) (Below.refl _ _) hlen (by simpa using hlen)
  rw [List.length_map] at hs
  have hk1 := Hid.mk hk; have hb01 := Hid.mk hb0; have hs1 := Hid.mk hs; clear hk hb0 hs
  clear h hB
  go_enter Tryz.func22, Tryz.ntmps22
  go_wp2_with (first | (go_at_call 62; (with_reducible refine hk1.out.mono ?_); rintro e w1 ⟨rfl, rfl⟩) | (go_at_call 61; (with_reducible refine hs1.out.mono ?_); rintro e w2 ⟨v, rfl, ho, hb⟩; have ho1 := Hid.mk ho; have hb1 := Hid.mk hb; clear ho hb))
  go_ret
  go_light
  exact ⟨_, rfl, own_weak ho1.out (by simp), below_then hb01.out hb1.out⟩
end Go.Proofs.YtdokiaicheillaaGreat
