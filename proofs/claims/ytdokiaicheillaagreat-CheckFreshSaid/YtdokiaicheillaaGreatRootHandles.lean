/-
  The walk of roots.Handles where there is one root at most.
-/
import Derived.Test.YtdokiaicheillaaGreatRootSet
import Derived.Test.YtdokiaicheillaaGreatFew
import Derived.Test.YtdokiaicheillaaGreatAppU
import Derived.Test.YtdokiaicheillaaGreatObjCopy
namespace Go.Proofs.YtdokiaicheillaaGreat
open Go.RowKit

theorem S.pack_bounds (h : S.Handle) : 0 ≤ S.pack h ∧ S.pack h ≤ 18446744073709551615 := by
  unfold S.pack
  split
  · rename_i hp
    simp only [S.packs, Bool.and_eq_true, decide_eq_true_eq] at hp
    omega
  · omega
theorem own_ne_iter {w : World} {base t size n : Nat} {v : Value} {xs : List Value} {it : Nat} {m : Option Nat} {a b : Nat} {s : Array Nat} (h : w.ownsRow base t size v n xs) (hi : w.heap[it]? = some (.mapIter m a s b)) : ∀ k, v.ownBlock = some k → k ≠ it := by
  rintro k hk rfl
  obtain ⟨cs, hcs⟩ := own_cells h hk
  rw [hi] at hcs
  cases hcs

set_option maxRecDepth 100000 in
set_option maxHeartbeats 8000000 in
theorem roots_Handles_few (r mb : Nat) (l : List (S.Text × S.Handle)) (w : World) (h : RootsAt w r mb l) (hfew : l.length ≤ 1) :
    Calls Tryz.prog 67 #[.pointer (some ⟨r, 0, none⟩)] w fun e w' => ∃ v, e = .returned v ∧ w'.ownsRow w.heap.size 51 2 v l.length ((l.map fun x => S.unpack (S.pack x.2)).map S.Handle.cells).flatten ∧ Below w.heap.size w w' := by
  have c0 := h.c0
  obtain ⟨E, clock, hE, hl⟩ := h.map
  obtain ⟨hr1, hit⟩ := run_range (P := Tryz.prog) Tryz.underlying84 hE
  have hmbl : mb < w.heap.size := h.lt.2
  have hB0 := Hid.mk (below_one w (.mapIter (some mb) clock #[] clock))
  have hit1 := Hid.mk hit; have hl1 := Hid.mk hl; have hE1 := Hid.mk hE; clear hit hl hE
  clear h
  go_enter Tryz.func67, Tryz.ntmps67
  go_wp2
  clear hr1 c0
  generalize hit0 : w.heap.size = it at *
  go_loopw [3, 5] (fun v3 _ wr => ∃ (D : List S.Handle) (todo : List (S.Text × S.Handle)), Hid (IterAt encT S.Handle.val wr it mb E clock todo) ∧ Hid ((D ++ todo.map (·.2)).Perm (l.map (·.2))) ∧ Hid (wr.ownsRow it 106 1 v3 D.length (D.map fun x => Value.int .u64 (S.pack x))) ∧ Hid (Below it w wr)) (fun _ _ wr => iterLeft wr it E)
  case atStart =>
    refine ⟨[], _, hit1, Hid.mk ?_, ⟨rfl, .inl ⟨rfl, rfl⟩⟩, hB0⟩
    rw [List.nil_append, show E.map (fun x => x.2) = l from hl1.out]
  case round =>
    obtain ⟨D, todo, hi, hp, ho, hB⟩ := hrel
    by_cases ht : todo = []
    · subst ht
      have hnx := run_next_none (P := Tryz.prog) hi.out
      have hDl : D.length = l.length := by have := hp.out.length_eq; simpa using this
      have hDe : D = l.map (·.2) := by
        have hpp := hp.out
        simp only [List.map_nil, List.append_nil] at hpp
        match l, hfew, hpp with
        | [], _, hpp => simpa using hpp.eq_nil
        | [x], _, hpp => simpa using hpp.eq_singleton
        | _ :: _ :: _, hfew, _ => simp at hfew
      obtain ⟨A, c, e, hrow, -⟩ := own_row (enc := fun n : Int => Value.int .u64 n) (xs := D.map S.pack) (by simpa [List.map_map, Function.comp_def] using ho.out) (by simp) (by omega)
      subst e
      have hsort := Hid.mk (sort_u64 A D.length c (by omega) wr)
      have hcomp := Hid.mk (compact_u64 A D.length c (by omega) wr)
      have hrow1 := Hid.mk hrow
      have hDe1 := Hid.mk hDe
      have hDl1 := Hid.mk hDl
      clear hp hi hrow hDe hDl
      go_wp2_with (first | (go_at_call 108; (with_reducible refine hsort.out.mono ?_); rintro e w1 ⟨rfl, rfl⟩) | (go_at_call 109; (with_reducible refine hcomp.out.mono ?_); rintro e w1 ⟨rfl, rfl⟩))
      obtain ⟨P, hP⟩ : ∃ P, D.map S.pack = P := ⟨_, rfl⟩
      have hPb : ∀ (i : Nat) (x : Int), P[i]? = some x → 0 ≤ x ∧ x ≤ 18446744073709551615 := fun i x hx => by
        rw [← hP, List.getElem?_map] at hx
        obtain ⟨y, -, rfl⟩ := Option.map_eq_some_iff.1 hx
        exact S.pack_bounds y
      have hPl : D.length = P.length := by rw [← hP, List.length_map]
      rw [hP] at hrow1
      rw [hPl]
      have hP1 := Hid.mk hP
      have hPl1 : Hid (P.length = l.length) := by rw [← hPl]; exact hDl1.out
      have hPs : P.length ≤ 1 := by have := hPl1.out; omega
      clear hP hsort hcomp ho hnx hPl
      obtain ⟨wo, rfl⟩ : ∃ wo : World, wo = w1 := ⟨_, rfl⟩
      go_loopw [6, 28] (fun v6 v28 W => ∃ i : Nat, i ≤ P.length ∧ v28 = .int .i64 i ∧ Hid (W.ownsRow wo.heap.size 51 2 v6 i (((P.take i).map S.unpack).map S.Handle.cells).flatten) ∧ Hid (Below wo.heap.size wo W)) (fun _ v28 _ => P.length - (intOf v28).toNat)
      case atStart => exact ⟨0, Nat.zero_le _, rfl, ⟨rfl, .inl ⟨rfl, rfl⟩⟩, Below.refl _ _⟩
      case round =>
        obtain ⟨i, hi, rfl, ho, hb⟩ := hrel
        by_cases hlt : i < P.length
        · have hx : P[i]? = some P[i] := List.getElem?_eq_getElem hlt
          obtain ⟨b, off, rfl, hc⟩ := hrow1.out.2 i _ hx
          have c8 : wo.cell? ⟨b, off + i, none⟩ = some (.int .u64 P[i]) := by simpa using hc 0 _ rfl
          obtain ⟨x0, x1⟩ := hPb i _ hx
          have htk : (P.take (i + 1)).map S.unpack = (P.take i).map S.unpack ++ [S.unpack P[i]] := by rw [S.take_succ' hx, List.map_append]; rfl
          generalize P[i] = n at *
          have hun := fun W => Hid.mk (slots_Unpack n x0 x1 W)
          have cW := (hb.out.cell (p := ⟨b, off + i, none⟩) (World.block_lt_of_cell? _ _ c8)).trans c8
          have hil : decide (i < P.length) = true := by simp [hlt]
          have hx1 := Hid.mk hx; have htk1 := Hid.mk htk; clear hx htk
          clear hc c8
          go_wp2_with (first | (go_at_call 78; (with_reducible refine (hun _).out.mono ?_); rintro e w2 ⟨rfl, hb2⟩; have hb3 := Hid.mk hb2; clear hb2) | (at_builtin; go_must (refine app_Handle rfl _ _ rfl wo.heap.size _ _ _ rfl ((own_kept ho.out (fun k hk => hb3.out.block k (own_lt ho.out hk))).alloc _) ⟨w2.heap.size, 0, none⟩ 1 1 (S.Handle.cells (S.unpack n)) rfl rfl (news_new w2 _ _ _ rfl) (by simp [S.Handle.cells, Value.oneCell']) (by omega) (by have := hb.out.size; have := hb3.out.size; simp; omega) ?_; intro v' w5 ho5 hg5 h5 h6; clear h5; have ho51 := Hid.mk ho5; have hg51 := Hid.mk hg5; have h61 := Hid.mk h6; clear ho5 hg5 h6)))
          go_roundw
          case rel =>
            go_light
            have hbb := below_then hb.out hb3.out
            have hbb2 : Below wo.heap.size wo w5 := (hbb.new_ _).grown hg51.out (by have := hbb.size; simp; omega) (fun k e => own_block_ge ho.out e)
            refine ⟨i + 1, by omega, by go_num, Hid.mk ?_, Hid.mk hbb2⟩
            rw [htk1.out]
            simp only [List.map_append, List.map_cons, List.map_nil, List.flatten_append, List.flatten_cons, List.flatten_nil, List.append_nil]
            exact ho51.out
          case measure => simp [intOf]; omega
        · obtain rfl : i = P.length := by omega
          go_wp2
          go_ret
          go_light
          have h9 := ho.out
          rw [List.take_length] at h9
          have hPl := hPl1.out
          refine ⟨_, rfl, ?_, ?_⟩
          · rw [← hPl, show (l.map fun x => S.unpack (S.pack x.2)) = P.map S.unpack by rw [← hP1.out, hDe1.out]; simp]
            exact own_weak h9 (by have := hB.out.size; omega)
          · rw [hit0]
            exact hB.out.trans (hb.out.mono (by have := hB.out.size; omega))
    · obtain ⟨x, todo', w', hnx, hen, hperm, hi', hg, hs⟩ := run_next_some (P := Tryz.prog) hi.out ht (by omega) 0
      obtain ⟨nm, x⟩ := x
      have hen' : (Instr.entry (.pointer (some ⟨it, 0, none⟩))).run Tryz.prog w' = .ok (.tuple #[.string (S.mk nm), .agg #[.int .i64 x.slot, .int .i64 x.gen]]) w' := hen
      have hnx' : ∀ ty, (Instr.next (.pointer (some ⟨it, 0, none⟩)) false ty).run Tryz.prog wr = .ok (.tuple #[.bool true, .string (S.mk nm), .agg #[.int .i64 x.slot, .int .i64 x.gen]]) w' := fun ty => by
        obtain ⟨x2, t2, w2, h2, -⟩ := run_next_some (P := Tryz.prog) hi.out ht (by omega) ty
        exact hnx
      have hitl := hi.out.lt.1
      have hit9 : ∃ m a s b, wr.heap[it]? = some (.mapIter m a s b) := by obtain ⟨-, seen, last, hr, -⟩ := hi.out; exact ⟨_, _, _, _, hr⟩
      obtain ⟨m9, a9, s9, b9, hit9⟩ := hit9
      have hvne := own_ne_iter ho.out hit9
      have ho' : w'.ownsRow it 106 1 _ D.length _ := own_kept ho.out (fun k hk => hg.block k (own_lt ho.out hk) (fun e => hvne k hk (by simpa using e)))
      have hB' : Below it w w' := hB.out.grown hg (by have := hB.out.size; omega) (fun k e => by cases e; exact Nat.le_refl _)
      have hp' : ((D ++ [x]) ++ todo'.map (·.2)).Perm (l.map (·.2)) := by
        refine List.Perm.trans ?_ hp.out
        rw [List.append_assoc]
        exact List.Perm.append_left _ (show ([x] ++ todo'.map (·.2)).Perm (todo.map (·.2)) from (List.Perm.map (fun y : S.Text × S.Handle => y.2) hperm).symm)
      have hDl : D.length ≤ l.length := by have := hp'.length_eq; simp at this; omega
      have hm1 := Hid.mk (iterLeft_next hi.out hi' hperm)
      have hpk := fun W => Hid.mk (slots_Pack x W)
      have hzw : it < w'.heap.size := by omega
      have hi'1 := Hid.mk hi'; have ho'1 := Hid.mk ho'; have hB'1 := Hid.mk hB'; have hp'1 := Hid.mk hp'; have hvne1 := Hid.mk hvne; clear hi' ho' hB' hp' hvne
      clear hi hp hperm hg hs ht hnx hen hit9 ho hB
      go_wp2_with (first | (go_at_call 54; (with_reducible refine (hpk _).out.mono ?_); rintro e w2 ⟨rfl, hb2⟩; have hb3 := Hid.mk (below_then (below_one w' (.cells #[.int .i64 x.slot, .int .i64 x.gen] 51)) hb2); clear hb2) | (at_builtin; go_must (refine app_u64 rfl _ _ rfl it _ _ _ rfl ((own_kept ho'1.out (fun k hk => hb3.out.block k (own_lt ho'1.out hk))).alloc _) ⟨w2.heap.size, 0, none⟩ 1 1 [.int .u64 (S.pack x)] rfl rfl (cell_one_new _ _ _) (by simp [Value.oneCell']) (by omega) (by have := hb3.out.size; simp; omega) ?_; intro v' w5 ho5 hg5 h5 h6; clear h5; have ho51 := Hid.mk ho5; have hg51 := Hid.mk hg5; have h61 := Hid.mk h6; clear ho5 hg5 h6)))
      have hi5 : IterAt encT S.Handle.val w5 it mb E clock todo' := hi'1.out.kept ((hg51.out.block it (by have := hb3.out.size; simp; omega) (fun e => hvne1.out it e.symm rfl)).trans ((Below.heap_alloc _ _ _ (by have := hb3.out.size; omega)).trans (hb3.out.block it hzw))) ((hg51.out.block mb (by have := hb3.out.size; simp; omega) (fun e => by have := own_block_ge ho'1.out e.symm; omega)).trans ((Below.heap_alloc _ _ _ (by have := hb3.out.size; omega)).trans (hb3.out.block mb (by omega))))
      have hB5 : Below it w w5 := ((hB'1.out.trans (hb3.out.mono (by omega))).alloc (by have := hB'1.out.size; have := hb3.out.size; omega) _).grown hg51.out (by have := hB'1.out.size; have := hb3.out.size; simp; omega) (fun k e => own_block_ge ho'1.out e)
      have hi51 := Hid.mk hi5; have hB51 := Hid.mk hB5; clear hi5 hB5
      go_roundw
      case rel =>
        go_light
        have hgoal := (⟨D ++ [x], todo', hi51, hp'1, Hid.mk (by simpa using ho51.out), hB51⟩ : ∃ (D : List S.Handle) (todo : List (S.Text × S.Handle)), Hid (IterAt encT S.Handle.val _ it mb E clock todo) ∧ Hid ((D ++ todo.map (·.2)).Perm (l.map (·.2))) ∧ Hid (World.ownsRow _ it 106 1 _ D.length (D.map fun x => Value.int .u64 (S.pack x))) ∧ Hid (Below it w _))
        first | exact hgoal | ((repeat' apply Exists.intro); exact ⟨hgoal, rfl⟩)
      case measure =>
        go_light
        rw [iterLeft_eq hi51.out, ← iterLeft_eq hi'1.out]
        exact hm1.out
end Go.Proofs.YtdokiaicheillaaGreat
