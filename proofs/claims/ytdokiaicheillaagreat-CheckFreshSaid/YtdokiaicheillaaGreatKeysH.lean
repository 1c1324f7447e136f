/-
  The walk of maps.Keys at the map of roots.
-/
import Derived.Test.YtdokiaicheillaaGreatKeys
namespace Go.Proofs.YtdokiaicheillaaGreat
open Go.RowKit Go.Shelf
attribute [local go_sem] Oper.semAt_some

/-! ### hand -/
set_option maxHeartbeats 400000 in
theorem keys_sort (mb : Nat) (w : World) :
    Calls Tryz.prog 83 #[.map (some mb)] w fun e w' => e = .returned (.func (.func 118) #[] #[.pointer (some ⟨w.heap.size, 0, none⟩)]) ∧ w' = w.alloc (.cells #[.map (some mb)] 91) := by
  go_enter Tryz.func83, Tryz.ntmps83
  go_wp2
  go_ret
  exact ⟨rfl, rfl⟩

set_option maxHeartbeats 1000000 in
theorem keys_stops_sort {V : Type} (dec : V → Value) (n : Nat) (hn : 2 ≤ n) (Bm mb : Nat) (l : List (S.Text × V)) (w0 : World) (hB : w0.cell? ⟨Bm, 0, none⟩ = some (.map (some mb))) (hm : MapAt (fun x : S.Text => Value.string (S.mk x)) dec w0 mb l) :
    SeqStopsK Fence.wide n Tryz.prog 118 #[.pointer (some ⟨Bm, 0, none⟩)] (fun x : S.Text => #[Value.string (S.mk x)]) KeepsWalks (fun xs => xs.Perm (l.map (·.1))) (fun _ => True) l.length w0 := by
  intro lp J Jx W hW hJ hJx hY hJ0
  have hBW : W.cell? ⟨Bm, 0, none⟩ = some (.map (some mb)) := below_reads hW _ _ hB
  have hn1 : 1 ≤ n := by omega
  obtain ⟨E, clock, hE, hl⟩ := hm.kept (hW.block mb hm.lt)
  have hr := run_range (P := Tryz.prog) Tryz.underlying91 hE
  obtain ⟨hr1, hit⟩ := hr
  have hmlt : mb < W.heap.size := (Array.getElem?_eq_some_iff.1 hE.heap).1
  have hJ1 : J [] (W.alloc (.mapIter (some mb) clock #[] clock)) := hJ [] W _ none hJ0 (World.grownBy_alloc W _ none) (fun r e => by cases e)
  have hY1 := Hid.mk hY
  have hE1 := Hid.mk hE
  have hl1 := Hid.mk hl
  have hit1 := Hid.mk hit
  have hJ11 := Hid.mk hJ1
  have hne : Hid (W.heap.size ≠ mb) := by show _ ≠ _; omega
  clear hY hB hm hE hl hit hJ1 hJ0
  refine callsIn_of_wp Tryz.func118 rfl trivial ?_ rfl
  simp only [Tryz.ntmps118, List.size_toArray, List.length_cons, List.length_nil, Nat.reduceAdd, Nat.reduceSub, Array.replicate_succ, Array.replicate_zero, List.push_toArray, List.append_toArray, List.nil_append, List.cons_append]
  have hFw : ∀ f, Fence.wide.fn f := fun _ => trivial
  have hFd : Fence.wide.depth = none := rfl
  have hFo : Fence.wide.round = none := rfl
  gi_wp2
  clear hr1
  gi_loopw [3] (fun _ wr => ∃ (pre : List S.Text) (todo : List (S.Text × V)), J pre wr ∧ IterAt (fun x : S.Text => Value.string (S.mk x)) dec wr W.heap.size mb E clock todo ∧ Hid ((pre ++ todo.map (·.1)).Perm (l.map (·.1))) ∧ W.heap.size < wr.heap.size) (fun _ wr => iterLeft wr W.heap.size E)
  case atStart => exact ⟨[], _, hJ11.out, hit1.out, by show List.Perm _ _; rw [← hl1.out]; simp, by simp⟩
  case round =>
    obtain ⟨pre, todo, hj, hi, hp, hsz⟩ := hrel
    by_cases ht : todo = []
    · subst ht
      have hnx := run_next_none (P := Tryz.prog) hi
      gi_wp2
      go_end0
      go_light
      exact ⟨⟨_, rfl⟩, .inl ⟨pre, by simpa using hp.out, hj⟩⟩
    · obtain ⟨x, todo', w', hnx, hen, hperm, hi', hg, hs⟩ := run_next_some (P := Tryz.prog) hi ht hne.out 0
      have hj' : J pre w' := hJ pre wr w' _ hj hg (fun r e => by
        cases e
        obtain ⟨_, _, _, h, _⟩ := hi
        exact ⟨Nat.le_refl _, _, h, rfl⟩)
      have hlen : pre.length < l.length := by
        have := hp.out.length_eq
        have h2 := hperm.length_eq
        simp at this h2
        omega
      obtain ⟨fn, tmps, assign, body, hy, hR⟩ := hY1.out pre x.1 w' hj' hlen
      try dsimp only at hy
      have hp2 : Hid ((pre ++ [x.1] ++ todo'.map (·.1)).Perm (l.map (·.1))) := by
        show List.Perm _ _
        refine List.Perm.trans ?_ hp.out
        rw [List.append_assoc]
        exact List.Perm.append_left _ (show ([x.1] ++ todo'.map (·.1)).Perm (todo.map (·.1)) from (List.Perm.map (fun y : S.Text × V => y.1) hperm).symm)
      have hm1 := Hid.mk (iterLeft_next hi hi' hperm)
      have hi1 := Hid.mk hi'
      have hs1 := Hid.mk hs
      clear hi hj hj' hlen hp hperm hg hs hi' ht
      gi_wp2
      refine hR.mono ?_
      rintro e W' (⟨rfl, hJ', hk⟩ | ⟨rfl, hJx'⟩)
      · have hk1 := Hid.mk hk
        clear hk hy hR hnx hen
        gi_wp2
        go_roundw
        case rel =>
          go_light
          exact ⟨pre ++ [x.1], todo', hJ', hi1.out.walks hk1.out, hp2, Nat.lt_of_lt_of_le (by rw [hs1.out]; exact hsz) hk1.out.size⟩
        case measure =>
          go_light
          rw [iterLeft_walks hi1.out hk1.out]
          exact hm1.out
      · gi_wp2
        refine bodyPost_ret (results_none rfl _ _ _) rfl ?_
        go_light
        exact ⟨⟨_, rfl⟩, .inr ⟨_, trivial, hJx'⟩⟩
end Go.Proofs.YtdokiaicheillaaGreat

namespace Go.Proofs.YtdokiaicheillaaGreat
open Go.RowKit Go.Shelf
attribute [local go_sem] Oper.semAt_some

/-! ### hand -/
set_option maxHeartbeats 400000 in
theorem keys_hand (mb : Nat) (w : World) :
    Calls Tryz.prog 62 #[.map (some mb)] w fun e w' => e = .returned (.func (.func 104) #[] #[.pointer (some ⟨w.heap.size, 0, none⟩)]) ∧ w' = w.alloc (.cells #[.map (some mb)] 84) := by
  go_enter Tryz.func62, Tryz.ntmps62
  go_wp2
  go_ret
  exact ⟨rfl, rfl⟩

set_option maxHeartbeats 1000000 in
theorem keys_stops_hand {V : Type} (dec : V → Value) (n : Nat) (hn : 2 ≤ n) (Bm mb : Nat) (l : List (S.Text × V)) (w0 : World) (hB : w0.cell? ⟨Bm, 0, none⟩ = some (.map (some mb))) (hm : MapAt (fun x : S.Text => Value.string (S.mk x)) dec w0 mb l) :
    SeqStopsK Fence.wide n Tryz.prog 104 #[.pointer (some ⟨Bm, 0, none⟩)] (fun x : S.Text => #[Value.string (S.mk x)]) KeepsWalks (fun xs => xs.Perm (l.map (·.1))) (fun _ => True) l.length w0 := by
  intro lp J Jx W hW hJ hJx hY hJ0
  have hBW : W.cell? ⟨Bm, 0, none⟩ = some (.map (some mb)) := below_reads hW _ _ hB
  have hn1 : 1 ≤ n := by omega
  obtain ⟨E, clock, hE, hl⟩ := hm.kept (hW.block mb hm.lt)
  have hr := run_range (P := Tryz.prog) Tryz.underlying84 hE
  obtain ⟨hr1, hit⟩ := hr
  have hmlt : mb < W.heap.size := (Array.getElem?_eq_some_iff.1 hE.heap).1
  have hJ1 : J [] (W.alloc (.mapIter (some mb) clock #[] clock)) := hJ [] W _ none hJ0 (World.grownBy_alloc W _ none) (fun r e => by cases e)
  have hY1 := Hid.mk hY
  have hE1 := Hid.mk hE
  have hl1 := Hid.mk hl
  have hit1 := Hid.mk hit
  have hJ11 := Hid.mk hJ1
  have hne : Hid (W.heap.size ≠ mb) := by show _ ≠ _; omega
  clear hY hB hm hE hl hit hJ1 hJ0
  refine callsIn_of_wp Tryz.func104 rfl trivial ?_ rfl
  simp only [Tryz.ntmps104, List.size_toArray, List.length_cons, List.length_nil, Nat.reduceAdd, Nat.reduceSub, Array.replicate_succ, Array.replicate_zero, List.push_toArray, List.append_toArray, List.nil_append, List.cons_append]
  have hFw : ∀ f, Fence.wide.fn f := fun _ => trivial
  have hFd : Fence.wide.depth = none := rfl
  have hFo : Fence.wide.round = none := rfl
  gi_wp2
  clear hr1
  gi_loopw [3] (fun _ wr => ∃ (pre : List S.Text) (todo : List (S.Text × V)), J pre wr ∧ IterAt (fun x : S.Text => Value.string (S.mk x)) dec wr W.heap.size mb E clock todo ∧ Hid ((pre ++ todo.map (·.1)).Perm (l.map (·.1))) ∧ W.heap.size < wr.heap.size) (fun _ wr => iterLeft wr W.heap.size E)
  case atStart => exact ⟨[], _, hJ11.out, hit1.out, by show List.Perm _ _; rw [← hl1.out]; simp, by simp⟩
  case round =>
    obtain ⟨pre, todo, hj, hi, hp, hsz⟩ := hrel
    by_cases ht : todo = []
    · subst ht
      have hnx := run_next_none (P := Tryz.prog) hi
      gi_wp2
      go_end0
      go_light
      exact ⟨⟨_, rfl⟩, .inl ⟨pre, by simpa using hp.out, hj⟩⟩
    · obtain ⟨x, todo', w', hnx, hen, hperm, hi', hg, hs⟩ := run_next_some (P := Tryz.prog) hi ht hne.out 0
      have hj' : J pre w' := hJ pre wr w' _ hj hg (fun r e => by
        cases e
        obtain ⟨_, _, _, h, _⟩ := hi
        exact ⟨Nat.le_refl _, _, h, rfl⟩)
      have hlen : pre.length < l.length := by
        have := hp.out.length_eq
        have h2 := hperm.length_eq
        simp at this h2
        omega
      obtain ⟨fn, tmps, assign, body, hy, hR⟩ := hY1.out pre x.1 w' hj' hlen
      try dsimp only at hy
      have hp2 : Hid ((pre ++ [x.1] ++ todo'.map (·.1)).Perm (l.map (·.1))) := by
        show List.Perm _ _
        refine List.Perm.trans ?_ hp.out
        rw [List.append_assoc]
        exact List.Perm.append_left _ (show ([x.1] ++ todo'.map (·.1)).Perm (todo.map (·.1)) from (List.Perm.map (fun y : S.Text × V => y.1) hperm).symm)
      have hm1 := Hid.mk (iterLeft_next hi hi' hperm)
      have hi1 := Hid.mk hi'
      have hs1 := Hid.mk hs
      clear hi hj hj' hlen hp hperm hg hs hi' ht
      gi_wp2
      refine hR.mono ?_
      rintro e W' (⟨rfl, hJ', hk⟩ | ⟨rfl, hJx'⟩)
      · have hk1 := Hid.mk hk
        clear hk hy hR hnx hen
        gi_wp2
        go_roundw
        case rel =>
          go_light
          exact ⟨pre ++ [x.1], todo', hJ', hi1.out.walks hk1.out, hp2, Nat.lt_of_lt_of_le (by rw [hs1.out]; exact hsz) hk1.out.size⟩
        case measure =>
          go_light
          rw [iterLeft_walks hi1.out hk1.out]
          exact hm1.out
      · gi_wp2
        refine bodyPost_ret (results_none rfl _ _ _) rfl ?_
        go_light
        exact ⟨⟨_, rfl⟩, .inr ⟨_, trivial, hJx'⟩⟩
end Go.Proofs.YtdokiaicheillaaGreat
