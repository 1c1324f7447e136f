/-
  The walks of trans: end, Commit, Abort.
-/
import Derived.Test.YtpfbfcnfldmfcaaGreatWorld
namespace Go.Proofs.YtpfbfcnfldmfcaaGreat
open Go.RowKit

theorem WorldAt.parts {w : World} {q : WPlace} {Y : S.World} (h : WorldAt w q Y) (ho : Y.old.isSome = true) : ∃ o s Z, q.old = some (o, s) ∧ Y.old = some Z ∧ w.heap[o]? = some (.cells #[.pointer (some ⟨s.p.H, 0, none⟩), .pointer (some ⟨s.r, 0, none⟩)] 52 (0, 0)) ∧ StateAt w s Z := by
  have h1 := h.old
  rcases hq : q.old with _ | ⟨o, s⟩ <;> rcases hy : Y.old with _ | Z <;> rw [hq, hy] at h1
  · rw [hy] at ho; cases ho
  · exact h1.elim
  · exact h1.elim
  · exact ⟨o, s, Z, rfl, rfl, h1.1, h1.2⟩

set_option maxHeartbeats 1000000 in
theorem commit_1 (a b : Value) (ha : a.oneCell' = true) (hb : b.oneCell' = true) (A B : Option Addr) (e1 : a = .pointer A) (e2 : b = .pointer B) (w : World) :
    Calls Tryz.prog 23 #[.agg #[a, b]] w fun e w' => e = .returned (.tuple #[]) ∧ Below w.heap.size w w' := by
  subst e1
  subst e2
  go_enter Tryz.func23, Tryz.ntmps23
  go_wp2
  go_end0
  go_light
  exact ⟨rfl, below_one _ _⟩

set_option maxRecDepth 100000 in
set_option maxHeartbeats 2000000 in
theorem trans_Commit_none (q : WPlace) (Y : S.World) (w : World) (h : WorldAt w q Y) (ho : Y.old.isSome = false) :
    Calls Tryz.prog 7 #[.pointer (some ⟨q.T, 0, none⟩)] w fun e w' => e = .returned (.int .i64 171) ∧ w' = w := by
  have hO := trans_Open q Y w h
  rw [ho] at hO
  have hE : Hid (Calls Tryz.prog 22 #[.pointer (some ⟨q.T, 0, none⟩), .func (.func 23) #[] #[]] w fun e w' => e = .returned (.int .i64 171) ∧ w' = w) := by
    have hO1 := Hid.mk hO; clear hO
    clear h ho
    show Calls _ _ _ _ _
    go_enter Tryz.func22, Tryz.ntmps22
    go_wp2_with (go_at_call 9; (with_reducible refine hO1.out.mono ?_); rintro e w1 ⟨rfl, hw⟩; obtain rfl := hw.symm)
    go_ret
    go_light
    exact ⟨rfl, rfl⟩
  clear h ho hO
  go_enter Tryz.func7, Tryz.ntmps7
  go_wp2_with (go_at_call 22; (with_reducible refine hE.out.mono ?_); rintro e w1 ⟨rfl, hw⟩; obtain rfl := hw.symm)
  go_ret
  go_light
  exact ⟨rfl, rfl⟩

set_option maxRecDepth 100000 in
set_option maxHeartbeats 2000000 in
theorem trans_Commit (q : WPlace) (Y : S.World) (w : World) (h : WorldAt w q Y) (ho : Y.old.isSome = true) :
    Calls Tryz.prog 7 #[.pointer (some ⟨q.T, 0, none⟩)] w fun e w' => e = .returned (.int .i64 0) ∧ WorldAt w' ⟨q.T, q.s, none⟩ ⟨Y.now, none⟩ ∧ Only [q.T] w w' := by
  have hO := trans_Open q Y w h
  rw [ho] at hO
  obtain ⟨o, s, Z, hq, hy, hs, hSt⟩ := h.parts ho
  have hE : Hid (Calls Tryz.prog 22 #[.pointer (some ⟨q.T, 0, none⟩), .func (.func 23) #[] #[]] w fun e w' => e = .returned (.int .i64 0) ∧ WorldAt w' ⟨q.T, q.s, none⟩ ⟨Y.now, none⟩ ∧ Only [q.T] w w') := by
    have c2 := h.c2
    rw [hq] at c2
    have d0 := (heap_cell hs (o := 0) (v := .pointer (some ⟨s.p.H, 0, none⟩)) rfl).1
    have d1 := (heap_cell hs (o := 1) (v := .pointer (some ⟨s.r, 0, none⟩)) rfl).1
    have hTl : q.T < w.heap.size := h.lt _ (by simp [WPlace.F])
    have h1 := Hid.mk h
    have hC := Hid.mk (commit_1 (.pointer (some ⟨s.p.H, 0, none⟩)) (.pointer (some ⟨s.r, 0, none⟩)) rfl rfl _ _ rfl rfl w)
    have hO1 := Hid.mk hO; have hs1 := Hid.mk hs; have hSt1 := Hid.mk hSt; clear hO hs hSt
    simp only [oldV] at c2
    clear h ho hq hy
    show Calls _ _ _ _ _
    go_enter Tryz.func22, Tryz.ntmps22
    go_wp2_with (first | (go_at_call 9; (with_reducible refine hO1.out.mono ?_); rintro e w1 ⟨rfl, hw⟩; obtain rfl := hw.symm) | (go_at_call 23; (with_reducible refine hC.out.mono ?_); rintro e w2 ⟨rfl, hb⟩; have hT2 := (hb.block q.T hTl).trans h1.out.head; obtain ⟨k2, f2⟩ := heap_cell hT2 (o := 2) (v := oldV q.old) rfl; have hb1 := Hid.mk hb; have hT21 := Hid.mk hT2; clear hT2; clear hb))
    go_ret
    go_light
    have hW := h1.out.below hb1.out
    have hOT := (Only.refl [q.T] w2).set (k := q.T) (.inl (by simp)) 2 (.pointer none)
    have hap := h1.out.apart
    have hap2 : (q.T :: q.s.F).Nodup := by
      have : (q.T :: q.s.F) ++ oldF q.old = q.F := by simp [WPlace.F]
      rw [← this] at hap
      exact (List.nodup_append.1 hap).1
    refine ⟨rfl, ⟨heap_set_at hT21.out _, hW.now.only hOT (calm_cells hT21.out (by decide) (by decide)) (fun k hk => by simp only [List.mem_singleton]; rintro rfl; exact (List.nodup_cons.1 hap2).1 hk), trivial, by simpa [WPlace.F, oldF] using hap2⟩, (Only.below hb1.out [q.T]).trans hOT (fun b hb => .inl hb)⟩
  clear h ho hO hq hy hs hSt
  go_enter Tryz.func7, Tryz.ntmps7
  go_wp2_with (go_at_call 22; (with_reducible refine hE.out.mono ?_); rintro e w1 ⟨rfl, hw, hO⟩; have hw1 := Hid.mk hw; have hO1 := Hid.mk hO; clear hw hO)
  go_ret
  go_light
  exact ⟨rfl, hw1.out, hO1.out⟩

set_option maxRecDepth 100000 in
set_option maxHeartbeats 2000000 in
theorem abort_1 (A B : Option Addr) (x0 x1 : Option Addr) (x2 : Value) (cb T : Nat) (w : World) (hc : w.cell? ⟨cb, 0, none⟩ = some (.pointer (some ⟨T, 0, none⟩))) (hT : w.heap[T]? = some (.cells #[.pointer x0, .pointer x1, x2] 55 (0, 0))) :
    Calls Tryz.prog 24 #[.agg #[.pointer A, .pointer B], .pointer (some ⟨cb, 0, none⟩)] w fun e w' => e = .returned (.tuple #[]) ∧ w'.heap[T]? = some (.cells #[.pointer A, .pointer B, x2] 55 (0, 0)) ∧ Only [T] w w' := by
  obtain ⟨t0, f0⟩ := heap_cell hT (o := 0) (v := .pointer x0) rfl
  obtain ⟨t1, f1⟩ := heap_cell hT (o := 1) (v := .pointer x1) rfl
  have hTl : T < w.heap.size := (Array.getElem?_eq_some_iff.1 hT).1
  have hcl : cb < w.heap.size := World.block_lt_of_cell? w _ hc
  have hT1 := Hid.mk hT; clear hT
  go_enter Tryz.func24, Tryz.ntmps24
  go_wp2
  go_end0
  go_light
  have hs := heap_set_at (heap_set_at hT1.out (o := 0) (.pointer A)) (o := 1) (.pointer B)
  refine ⟨rfl, ?_, ?_⟩
  · first
      | exact (Below.heap_alloc _ _ _ (by simpa using hTl)).trans hs
      | exact heap_set_at (heap_set_at ((Below.heap_alloc _ _ _ hTl).trans hT1.out) (o := 0) (.pointer A)) (o := 1) (.pointer B)
  · first
      | exact (((Only.refl [T] w).set (k := T) (.inl (by simp)) 0 (.pointer A)).set (k := T) (.inl (by simp)) 1 (.pointer B)).alloc _
      | exact (((Only.refl [T] w).alloc _).set (k := T) (.inl (by simp)) 0 (.pointer A)).set (k := T) (.inl (by simp)) 1 (.pointer B)

set_option maxRecDepth 100000 in
set_option maxHeartbeats 2000000 in
theorem trans_Abort_none (q : WPlace) (Y : S.World) (w : World) (h : WorldAt w q Y) (ho : Y.old.isSome = false) :
    Calls Tryz.prog 8 #[.pointer (some ⟨q.T, 0, none⟩)] w fun e w' => e = .returned (.int .i64 171) ∧ Below w.heap.size w w' := by
  have hE : ∀ W v, Below w.heap.size w W → Hid (Calls Tryz.prog 22 #[.pointer (some ⟨q.T, 0, none⟩), v] W fun e w' => e = .returned (.int .i64 171) ∧ w' = W) := fun W v hb => by
    have hO := trans_Open q Y W (h.below hb)
    rw [ho] at hO
    have hO1 := Hid.mk hO; clear hO
    clear h ho
    show Calls _ _ _ _ _
    go_enter Tryz.func22, Tryz.ntmps22
    go_wp2_with (go_at_call 9; (with_reducible refine hO1.out.mono ?_); rintro e w1 ⟨rfl, hw⟩; obtain rfl := hw.symm)
    go_ret
    go_light
    exact ⟨rfl, rfl⟩
  have hb0 := Hid.mk (below_one w (.cells #[.pointer (some ⟨q.T, 0, none⟩)] 23))
  clear h ho
  go_enter Tryz.func8, Tryz.ntmps8
  go_wp2_with (go_at_call 22; (with_reducible refine (hE _ _ hb0.out).out.mono ?_); rintro e w1 ⟨rfl, hw⟩; obtain rfl := hw.symm)
  go_ret
  go_light
  exact ⟨rfl, hb0.out⟩

set_option maxRecDepth 100000 in
set_option maxHeartbeats 2000000 in
theorem trans_Abort (q : WPlace) (Y : S.World) (w : World) (h : WorldAt w q Y) (ho : Y.old.isSome = true) :
    Calls Tryz.prog 8 #[.pointer (some ⟨q.T, 0, none⟩)] w fun e w' => e = .returned (.int .i64 0) ∧ ∃ o s Z, q.old = some (o, s) ∧ Y.old = some Z ∧ WorldAt w' ⟨q.T, s, none⟩ ⟨Z, none⟩ ∧ Only [q.T] w w' := by
  obtain ⟨o, s, Z, hq, hy, hs, hSt⟩ := h.parts ho
  have hb0 := below_one w (.cells #[.pointer (some ⟨q.T, 0, none⟩)] 23)
  have hB : (w.alloc (.cells #[.pointer (some ⟨q.T, 0, none⟩)] 23)).cell? ⟨w.heap.size, 0, none⟩ = some (.pointer (some ⟨q.T, 0, none⟩)) := (heap_cell (heap_alloc_new _ _) (o := 0) rfl).1
  have hE : ∀ W, Below w.heap.size w W → W.cell? ⟨w.heap.size, 0, none⟩ = some (.pointer (some ⟨q.T, 0, none⟩)) → Hid (Calls Tryz.prog 22 #[.pointer (some ⟨q.T, 0, none⟩), .func (.func 24) #[] #[.pointer (some ⟨w.heap.size, 0, none⟩)]] W fun e w' => e = .returned (.int .i64 0) ∧ WorldAt w' ⟨q.T, s, none⟩ ⟨Z, none⟩ ∧ Only [q.T] W w') := fun W hb hcB => by
    have hW := h.below hb
    have hO := trans_Open q Y W hW
    rw [ho] at hO
    have c2 := hW.c2
    rw [hq] at c2
    have hsW := (hb.block o (Array.getElem?_eq_some_iff.1 hs).1).trans hs
    have d0 := (heap_cell hsW (o := 0) (v := .pointer (some ⟨s.p.H, 0, none⟩)) rfl).1
    have d1 := (heap_cell hsW (o := 1) (v := .pointer (some ⟨s.r, 0, none⟩)) rfl).1
    have hSW := hSt.below hb
    have hTl : q.T < W.heap.size := hW.lt _ (by simp [WPlace.F])
    have h1 := Hid.mk hW
    have hA := Hid.mk (abort_1 (some ⟨s.p.H, 0, none⟩) (some ⟨s.r, 0, none⟩) _ _ _ w.heap.size q.T W hcB hW.head)
    have hq1 := Hid.mk hq
    have hO1 := Hid.mk hO; have hsW1 := Hid.mk hsW; have hSW1 := Hid.mk hSW; clear hO hsW hSW
    simp only [oldV] at c2
    clear h ho hq hy hs hSt hW hB hcB hb0 hb
    show Calls _ _ _ _ _
    go_enter Tryz.func22, Tryz.ntmps22
    go_wp2_with (first | (go_at_call 9; (with_reducible refine hO1.out.mono ?_); rintro e w1 ⟨rfl, hw⟩; obtain rfl := hw.symm) | (go_at_call 24; (with_reducible refine hA.out.mono ?_); rintro e w2 ⟨rfl, hT2, hO2⟩; obtain ⟨k2, f2⟩ := heap_cell hT2 (o := 2) (v := oldV q.old) rfl; have hT21 := Hid.mk hT2; have hO21 := Hid.mk hO2; clear hT2 hO2))
    go_ret
    go_light
    have hO3 := hO21.out.set (k := q.T) (.inl (by simp)) 2 (.pointer none)
    have hap := h1.out.apart
    have hTs : q.T ∉ s.F ∧ s.F.Nodup := by
      simp only [WPlace.F, hq1.out, oldF, List.nodup_cons, List.mem_append, List.mem_cons, not_or, List.nodup_append] at hap
      exact ⟨hap.1.2.2, hap.2.2.1.2⟩
    refine ⟨rfl, ⟨heap_set_at hT21.out _, hSW1.out.only hO3 (calm_cells h1.out.head (by decide) (by decide)) (fun k hk => by simp only [List.mem_singleton]; rintro rfl; exact hTs.1 hk), trivial, by simp only [WPlace.F, oldF, List.append_nil]; exact List.nodup_cons.2 hTs⟩, hO3⟩
  have hE1 := hE _ hb0 hB
  have hq1 := Hid.mk hq
  have hy1 := Hid.mk hy
  have hb01 := Hid.mk hb0; clear hb0
  clear h ho hq hy hs hSt hE hB
  go_enter Tryz.func8, Tryz.ntmps8
  go_wp2_with (go_at_call 22; (with_reducible refine hE1.out.mono ?_); rintro e w1 ⟨rfl, hw, hO⟩; have hw1 := Hid.mk hw; have hO1 := Hid.mk hO; clear hw hO)
  go_ret
  go_light
  exact ⟨rfl, o, s, Z, hq1.out, hy1.out, hw1.out, (Only.below hb01.out [q.T]).trans hO1.out (fun b hb => .inl hb)⟩
end Go.Proofs.YtpfbfcnfldmfcaaGreat
