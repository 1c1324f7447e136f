/-
  The walk of trans.Held where there is one root at most, and none when the transaction began.
-/
import Derived.Test.YtpfbfcnfldmfcaaGreatEnd
namespace Go.Proofs.YtpfbfcnfldmfcaaGreat
open Go.RowKit

section
variable {P : Program}
theorem run_append_zero (w : World) (t ty e : TypeId) (i : TypeInfo) (ht : P.underlying t = some (.slice e)) (hi : P.info? e = some i) (A : Option Addr) (n c : Nat) (hnc : n ≤ c) (A2 : Option Addr) (c2 : Nat) :
    (Builtin.append_ #[t, t] ty #[.slice A n c, .slice A2 0 c2]).run P w = .ok (.slice A n c) w := by
  have hl : ∀ (x : Addr), (loadCells x 0).run P w = .ok #[] w := fun x => by simpa using run_loadCells_list (P := P) w x [] (by simp)
  cases A <;> cases A2 <;> simp [Builtin.append_, run_underlying ht, sizeOf, typeInfo, hi, Builtin.lenOf, Builtin.firstCells, hnc, hl, storeCells, Result.andThen]
theorem wpl_append_zero {ops : Array Oper} {rest : List Oper} {o : Oper} {a : Act} {Q : Exit → Act → World → Prop} {w : World} (hgd : o.guard = none) (s x : Operand) (t : TypeId) (ho : o.op = .call { callee := .builtin .append, args := #[s, x], argTypes := #[t, t] })
    (e : TypeId) (ht : P.underlying t = some (.slice e)) (hi : (P.info? e).isSome = true) (A : Option Addr) (n c : Nat) (hnc : n ≤ c) (A2 : Option Addr) (c2 : Nat) (hs : a.eval s = .slice A n c) (hx : a.eval x = .slice A2 0 c2)
    (h : wpList P ops Q rest (a.put o.dst (.slice A n c)) w) : wpList P ops Q (o :: rest) a w := by
  obtain ⟨i, hi⟩ := Option.isSome_iff_exists.1 hi
  refine wpList_plain hgd fun K hK => ?_
  have hr := run_append_zero (P := P) w t o.type e i ht hi A n c hnc A2 c2
  unfold Oper.wp execOp
  simp only [ho, resolve, invoke, builtin, Sem.run_bind, Sem.run_pure, Result.andThen_ok, List.map_toArray, List.map_cons, List.map_nil, hs, hx, hr]
  exact hK _ _ h
end
theorem own_le {w : World} {base t size n : Nat} {v : Value} {xs : List Value} (h : w.ownsRow base t size v n xs) : ∃ A c, v = .slice A n c ∧ n ≤ c := by
  rcases h.2 with ⟨rfl, e⟩ | ⟨g, cap, cur, rfl, hb, hh, h2, _⟩
  · subst e
    exact ⟨none, 0, rfl, Nat.le_refl _⟩
  · exact ⟨_, _, rfl, h2⟩
theorem handle_there : (Tryz.prog.info? 34).isSome = true := by kernel_rfl

set_option maxRecDepth 100000 in
set_option maxHeartbeats 4000000 in
theorem trans_Held_few (q : WPlace) (Y : S.World) (Z : S.State) (w : World) (h : WorldAt w q Y) (hy : Y.old = some Z) (hfew : Y.now.R.length ≤ 1) (hZ : Z.R = []) :
    Calls Tryz.prog 18 #[.pointer (some ⟨q.T, 0, none⟩)] w fun e w' => ∃ v, e = .returned v ∧ w'.ownsRow w.heap.size 34 2 v Y.now.R.length ((Y.now.R.map fun x => S.unpack (S.pack x.2)).map S.Handle.cells).flatten ∧ Below w.heap.size w w' := by
  obtain ⟨o, s, Z', hq, hy', hs, hSt⟩ := h.parts (by rw [hy]; rfl)
  obtain rfl : Z = Z' := by rw [hy] at hy'; exact Option.some.inj hy'
  have hO : ∀ W, Below w.heap.size w W → Hid (Calls Tryz.prog 9 #[.pointer (some ⟨q.T, 0, none⟩)] W fun e w' => e = .returned (.bool true) ∧ w' = W) := fun W hb => by
    have := trans_Open q Y W (h.below hb)
    rw [hy] at this
    exact this
  have hH1 := Hid.mk (roots_Handles_few q.s.r q.s.mb Y.now.R w h.now.roots hfew)
  have hH2 : ∀ W, Below w.heap.size w W → Hid (Calls Tryz.prog 38 #[.pointer (some ⟨s.r, 0, none⟩)] W fun e w' => ∃ v, e = .returned v ∧ w'.ownsRow W.heap.size 34 2 v 0 [] ∧ Below W.heap.size W w') := fun W hb => by
    have := roots_Handles_few s.r s.mb Z.R W (hSt.below hb).roots (by rw [hZ]; simp)
    rw [hZ] at this
    exact this
  have c1 := h.c1
  have hc2 : ∀ W, Below w.heap.size w W → Hid (W.cell? ⟨q.T, 2, none⟩ = some (.pointer (some ⟨o, 0, none⟩)) ∧ W.cell? ⟨o, 1, none⟩ = some (.pointer (some ⟨s.r, 0, none⟩))) := fun W hb => by
    have := (h.below hb).c2
    rw [hq] at this
    exact ⟨this, (heap_cell ((hb.block o (Array.getElem?_eq_some_iff.1 hs).1).trans hs) (o := 1) rfl).1⟩
  have hf1 := Hid.mk hfew
  have hsr : ∀ (A : Option Addr) (n c : Nat) (f : Value) (hn : n ≤ 1) (W : World), Hid _ := fun A n c f hn W => Hid.mk (sort_hand A n c f hn W)
  have hco : ∀ (A : Option Addr) (n c : Nat) (hn : n ≤ 1) (W : World), Hid _ := fun A n c hn W => Hid.mk (compact_hand A n c hn W)
  clear h hy hq hy' hs hSt hZ hfew
  go_enter Tryz.func18, Tryz.ntmps18
  go_wp2_with (first | ((go_at_call 38); (with_reducible refine hH1.out.mono ?_); rintro e w1 ⟨v, rfl, ho, hb⟩; obtain ⟨A1, k1, rfl, hle⟩ := own_le ho; have ho1 := Hid.mk ho; have hb1 := Hid.mk hb; obtain ⟨d2, d1⟩ := (hc2 _ hb1.out).out; clear ho hb) | (go_at_call 9; (with_reducible refine (hO _ hb1.out).out.mono ?_); rintro e w2 ⟨rfl, hw⟩; obtain rfl := hw.symm) | ((go_at_call 38); (with_reducible refine (hH2 _ hb1.out).out.mono ?_); rintro e w3 ⟨v2, rfl, ho2, hb2⟩; obtain ⟨A2, k2, rfl, -⟩ := own_le ho2; have ho12 := Hid.mk (own_kept ho1.out (fun k hk => hb2.block k (own_lt ho1.out hk))); have hb12 := Hid.mk (below_then hb1.out hb2); clear ho2 hb2) | (at_builtin; refine wpl_append_zero rfl _ _ _ rfl 34 Tryz.underlying63 handle_there _ _ _ hle _ _ rfl rfl ?_) | (go_at_call 39; (with_reducible refine (hsr _ _ _ _ hf1.out _).out.mono ?_); rintro e w4 ⟨rfl, hw⟩; obtain rfl := hw.symm) | (go_at_call 43; (with_reducible refine (hco _ _ _ hf1.out _).out.mono ?_); rintro e w5 ⟨rfl, hw⟩; obtain rfl := hw.symm))
  go_ret
  go_light
  exact ⟨_, rfl, ho12.out, hb12.out⟩
end Go.Proofs.YtpfbfcnfldmfcaaGreat
