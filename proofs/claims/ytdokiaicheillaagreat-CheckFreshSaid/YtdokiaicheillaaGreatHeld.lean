/-
  The walk of trans.Held where there is one root at most, and none when the transaction began.
-/
import Derived.Test.YtdokiaicheillaaGreatRootHandles
import Derived.Test.YtdokiaicheillaaGreatObjCopy
namespace Go.Proofs.YtdokiaicheillaaGreat
open Go.RowKit

theorem frozen_block {w w' : World} {b o : Nat} (h : w'.heap[b]? = w.heap[b]?) : w'.frozen? ⟨b, o, none⟩ = w.frozen? ⟨b, o, none⟩ := by simp only [World.frozen?, h]
theorem load_state {w : World} {p : Nat} {v0 v1 : Value} (h0 : w.cell? ⟨p, 0, none⟩ = some v0) (h1 : w.cell? ⟨p, 1, none⟩ = some v1) :
    (loadVar 42 ⟨p, 0, none⟩).run Tryz.prog w = .ok (.agg #[v0, v1]) w := by
  simp [go_sem, h0, h1]

end Go.Proofs.YtdokiaicheillaaGreat

namespace Go.Proofs.YtdokiaicheillaaGreat
open Go.RowKit

namespace S
/-- What a world is. -/
structure State where
  X : Heap
  R : List (Text × Handle)
structure World where
  now : State
  old : Option State
end S
/-- Where a state lies: a heap, and roots. -/
structure SPlace where
  p : Parts
  r : Nat
  mb : Nat
def SPlace.F (s : SPlace) : List Nat := s.p.F ++ [s.r, s.mb]
structure StateAt (w : World) (s : SPlace) (Y : S.State) : Prop where
  heap : HeapAt w s.p Y.X
  ok : Y.X.ok
  roots : RootsAt w s.r s.mb Y.R
  apart : s.F.Nodup
theorem StateAt.lt {w : World} {s : SPlace} {Y : S.State} (h : StateAt w s Y) : ∀ k, k ∈ s.F → k < w.heap.size := fun k hk => by
  rcases List.mem_append.1 hk with hk | hk
  · exact h.heap.lt k hk
  · simp only [List.mem_cons, List.not_mem_nil, or_false] at hk
    rcases hk with rfl | rfl
    · exact h.roots.lt.1
    · exact h.roots.lt.2
theorem StateAt.calm {w : World} {s : SPlace} {Y : S.State} (h : StateAt w s Y) : Calm w s.F := h.heap.calm.append h.roots.calm
theorem StateAt.only {w w' : World} {s : SPlace} {Y : S.State} {G : List Nat} (h : StateAt w s Y) (hO : Only G w w') (hC : Calm w G) (hd : ∀ k, k ∈ s.F → k ∉ G) : StateAt w' s Y where
  heap := h.heap.only hO hC (fun k hk => hd k (List.mem_append.2 (.inl hk)))
  ok := h.ok
  roots := h.roots.kept (hO.block _ h.roots.lt.1 (hd _ (List.mem_append.2 (.inr (by simp))))) (hO.block _ h.roots.lt.2 (hd _ (List.mem_append.2 (.inr (by simp)))))
  apart := h.apart
theorem StateAt.below {w w' : World} {s : SPlace} {Y : S.State} (h : StateAt w s Y) (hb : Below w.heap.size w w') : StateAt w' s Y := h.only (Only.below hb []) (Calm.nil w) (fun _ _ => by simp)

/-- Where a world lies: its block, its state, and that of a transaction's beginning. -/
structure WPlace where
  T : Nat
  s : SPlace
  old : Option (Nat × SPlace)
def oldF : Option (Nat × SPlace) → List Nat
  | none => []
  | some (o, s) => o :: s.F
def oldV : Option (Nat × SPlace) → Value
  | none => .pointer none
  | some (o, _) => .pointer (some ⟨o, 0, none⟩)
def WPlace.F (q : WPlace) : List Nat := q.T :: (q.s.F ++ oldF q.old)
def OldAt (w : World) : Option (Nat × SPlace) → Option S.State → Prop
  | none, none => True
  | some (o, s), some Y => w.heap[o]? = some (.cells #[.pointer (some ⟨s.p.H, 0, none⟩), .pointer (some ⟨s.r, 0, none⟩)] 42 (0, 0)) ∧ StateAt w s Y
  | _, _ => False
structure WorldAt (w : World) (q : WPlace) (Y : S.World) : Prop where
  head : w.heap[q.T]? = some (.cells #[.pointer (some ⟨q.s.p.H, 0, none⟩), .pointer (some ⟨q.s.r, 0, none⟩), oldV q.old] 45 (0, 0))
  now : StateAt w q.s Y.now
  old : OldAt w q.old Y.old
  apart : q.F.Nodup
theorem OldAt.isSome {w : World} {o : Option (Nat × SPlace)} {Y : Option S.State} (h : OldAt w o Y) : o.isSome = Y.isSome := by
  rcases o with _ | ⟨o, s⟩ <;> rcases Y with _ | Y <;> first | rfl | exact h.elim
theorem OldAt.lt {w : World} {o : Option (Nat × SPlace)} {Y : Option S.State} (h : OldAt w o Y) : ∀ k, k ∈ oldF o → k < w.heap.size := fun k hk => by
  rcases o with _ | ⟨o, s⟩
  · cases hk
  · rcases Y with _ | Y
    · exact h.elim
    · rcases List.mem_cons.1 hk with rfl | hk
      · exact (Array.getElem?_eq_some_iff.1 h.1).1
      · exact h.2.lt k hk
theorem OldAt.only {w w' : World} {o : Option (Nat × SPlace)} {Y : Option S.State} {G : List Nat} (h : OldAt w o Y) (hO : Only G w w') (hC : Calm w G) (hd : ∀ k, k ∈ oldF o → k ∉ G) : OldAt w' o Y := by
  have hl := h.lt
  rcases o with _ | ⟨o, s⟩
  · rcases Y with _ | Y
    · trivial
    · exact h.elim
  · rcases Y with _ | Y
    · exact h.elim
    · exact ⟨(hO.block o (hl o (by simp [oldF])) (hd o (by simp [oldF]))).trans h.1, h.2.only hO hC (fun k hk => hd k (by simp [oldF, hk]))⟩
theorem WorldAt.lt {w : World} {q : WPlace} {Y : S.World} (h : WorldAt w q Y) : ∀ k, k ∈ q.F → k < w.heap.size := fun k hk => by
  rcases List.mem_cons.1 hk with rfl | hk
  · exact (Array.getElem?_eq_some_iff.1 h.head).1
  · rcases List.mem_append.1 hk with hk | hk
    · exact h.now.lt k hk
    · exact h.old.lt k hk
theorem WorldAt.only {w w' : World} {q : WPlace} {Y : S.World} {G : List Nat} (h : WorldAt w q Y) (hO : Only G w w') (hC : Calm w G) (hd : ∀ k, k ∈ q.F → k ∉ G) : WorldAt w' q Y where
  head := (hO.block _ (h.lt _ (by simp [WPlace.F])) (hd _ (by simp [WPlace.F]))).trans h.head
  now := h.now.only hO hC (fun k hk => hd k (by simp [WPlace.F, hk]))
  old := h.old.only hO hC (fun k hk => hd k (by simp [WPlace.F, hk]))
  apart := h.apart
theorem WorldAt.below {w w' : World} {q : WPlace} {Y : S.World} (h : WorldAt w q Y) (hb : Below w.heap.size w w') : WorldAt w' q Y := h.only (Only.below hb []) (Calm.nil w) (fun _ _ => by simp)
theorem WorldAt.c0 {w : World} {q : WPlace} {Y : S.World} (h : WorldAt w q Y) : w.cell? ⟨q.T, 0, none⟩ = some (.pointer (some ⟨q.s.p.H, 0, none⟩)) := (heap_cell h.head (o := 0) rfl).1
theorem WorldAt.c1 {w : World} {q : WPlace} {Y : S.World} (h : WorldAt w q Y) : w.cell? ⟨q.T, 1, none⟩ = some (.pointer (some ⟨q.s.r, 0, none⟩)) := (heap_cell h.head (o := 1) rfl).1
theorem WorldAt.c2 {w : World} {q : WPlace} {Y : S.World} (h : WorldAt w q Y) : w.cell? ⟨q.T, 2, none⟩ = some (oldV q.old) := (heap_cell h.head (o := 2) rfl).1

set_option maxRecDepth 100000 in
set_option maxHeartbeats 2000000 in
theorem trans_New (u n : Nat) (hu : u ≤ 1024) (hn : n ≤ 256) (w : World) :
    Calls Tryz.prog 4 #[.int .i64 u, .int .i64 n] w fun e w' => ∃ q, e = .returned (.tuple #[.pointer (some ⟨q.T, 0, none⟩), .int .i64 0]) ∧ WorldAt w' q ⟨⟨S.Heap.new u n, []⟩, none⟩ ∧ (∀ k, k ∈ q.F → w.heap.size ≤ k) ∧ Below w.heap.size w w' := by
  have hN := Hid.mk (obj_New u n hu hn w)
  go_enter Tryz.func4, Tryz.ntmps4
  go_wp2_with (first | (go_at_call 10; (with_reducible refine hN.out.mono ?_); rintro e w1 ⟨p, rfl, hh, hF, hb⟩; have hB1 := Hid.mk hb; have hh1 := Hid.mk hh; have hF1 := Hid.mk hF; clear hh hF; clear hb) | (go_at_call 11; (with_reducible refine (roots_New w1).mono ?_); rintro e w2 ⟨r, mb, rfl, hr, hz1, hz2, hb⟩; have hB2 := Hid.mk hb; have hro := Hid.mk hr; clear hb hr))
  go_ret2
  go_light
  have hb2 := hB2.out.new_ (.cells #[.pointer (some ⟨p.H, 0, none⟩), .pointer (some ⟨r, 0, none⟩), .pointer none] 45)
  have hz := hB1.out.size
  have hz9 := hB2.out.size
  have hrl := hro.out.lt
  have hpl : ∀ k, k ∈ p.F → k < w1.heap.size := hh1.out.lt
  refine ⟨⟨w2.heap.size, ⟨p, r, mb⟩, none⟩, rfl, ⟨heap_alloc_new _ _, ⟨hh1.out.below hb2, S.Heap.new_ok hu, hro.out.below (below_one _ _), ?_⟩, trivial, ?_⟩, fun k hk => ?_, below_then hB1.out hb2⟩
  · refine List.nodup_append.2 ⟨hh1.out.apart, by simp [hro.out.ne], fun a ha b hb => ?_⟩
    have := hpl a ha
    simp only [List.mem_cons, List.not_mem_nil, or_false] at hb
    omega
  · refine List.nodup_cons.2 ⟨fun hk => ?_, ?_⟩
    · simp only [oldF, List.append_nil] at hk
      rcases List.mem_append.1 hk with hk | hk
      · have := hpl _ hk; omega
      · simp only [List.mem_cons, List.not_mem_nil, or_false] at hk; omega
    · simp only [oldF, List.append_nil]
      refine List.nodup_append.2 ⟨hh1.out.apart, by simp [hro.out.ne], fun a ha b hb => ?_⟩
      have := hpl a ha
      simp only [List.mem_cons, List.not_mem_nil, or_false] at hb
      omega
  · rcases List.mem_cons.1 hk with rfl | hk
    · show w.heap.size ≤ w2.heap.size
      omega
    · simp only [oldF, List.append_nil] at hk
      rcases List.mem_append.1 hk with hk | hk
      · exact hF1.out k hk
      · simp only [List.mem_cons, List.not_mem_nil, or_false] at hk; omega

set_option maxHeartbeats 1000000 in
theorem trans_Open (q : WPlace) (Y : S.World) (w : World) (h : WorldAt w q Y) :
    Calls Tryz.prog 68 #[.pointer (some ⟨q.T, 0, none⟩)] w fun e w' => e = .returned (.bool Y.old.isSome) ∧ w' = w := by
  have c2 := h.c2
  rw [← h.old.isSome]
  obtain ⟨T, s, o⟩ := q
  rcases o with _ | ⟨o, s'⟩
  all_goals
    simp only [oldV] at c2
    clear h
    go_enter Tryz.func68, Tryz.ntmps68
    go_wp2
    go_ret
    go_light
    exact ⟨rfl, rfl⟩
set_option maxHeartbeats 1000000 in
theorem trans_Heap (q : WPlace) (Y : S.World) (w : World) (h : WorldAt w q Y) :
    Calls Tryz.prog 12 #[.pointer (some ⟨q.T, 0, none⟩)] w fun e w' => e = .returned (.pointer (some ⟨q.s.p.H, 0, none⟩)) ∧ w' = w := by
  have c0 := h.c0
  clear h
  go_enter Tryz.func12, Tryz.ntmps12
  go_wp2
  go_ret
  go_light
  exact ⟨rfl, rfl⟩
set_option maxHeartbeats 1000000 in
theorem trans_Roots (q : WPlace) (Y : S.World) (w : World) (h : WorldAt w q Y) :
    Calls Tryz.prog 13 #[.pointer (some ⟨q.T, 0, none⟩)] w fun e w' => e = .returned (.pointer (some ⟨q.s.r, 0, none⟩)) ∧ w' = w := by
  have c1 := h.c1
  clear h
  go_enter Tryz.func13, Tryz.ntmps13
  go_wp2
  go_ret
  go_light
  exact ⟨rfl, rfl⟩

theorem S.Heap.ok.perm {X : S.Heap} (h : X.ok) {C : List (S.Text × S.Kinds)} (hC : C.Perm X.cat) : S.Heap.ok { X with cat := C } where
  names := fun x hx => h.names x (hC.mem_iff.1 hx)
  kinds := fun x hx => h.kinds x (hC.mem_iff.1 hx)
  cats := by have := hC.length_eq; have := h.cats; simp only; omega
  keys := (hC.map _).nodup_iff.2 h.keys
  units := h.units
  within := h.within
  apart := h.apart
  things := h.things
  one := h.one
  used := h.used
  slot := h.slot
  alone := h.alone
  vs := h.vs

end Go.Proofs.YtdokiaicheillaaGreat

namespace Go.Proofs.YtdokiaicheillaaGreat
open Go.RowKit

theorem WorldAt.parts {w : World} {q : WPlace} {Y : S.World} (h : WorldAt w q Y) (ho : Y.old.isSome = true) : ∃ o s Z, q.old = some (o, s) ∧ Y.old = some Z ∧ w.heap[o]? = some (.cells #[.pointer (some ⟨s.p.H, 0, none⟩), .pointer (some ⟨s.r, 0, none⟩)] 42 (0, 0)) ∧ StateAt w s Z := by
  have h1 := h.old
  rcases hq : q.old with _ | ⟨o, s⟩ <;> rcases hy : Y.old with _ | Z <;> rw [hq, hy] at h1
  · rw [hy] at ho; cases ho
  · exact h1.elim
  · exact h1.elim
  · exact ⟨o, s, Z, rfl, rfl, h1.1, h1.2⟩

end Go.Proofs.YtdokiaicheillaaGreat

namespace Go.Proofs.YtdokiaicheillaaGreat
open Go.RowKit

section
variable {P : Program}
theorem run_append_zero (w : World) (t ty e : TypeId) (i : TypeInfo) (ht : P.underlying t = some (.slice e)) (hi : P.info? e = some i) (A : Option Addr) (n c : Nat) (hnc : n ≤ c) (A2 : Option Addr) (c2 : Nat) :
    (Builtin.append_ #[t, t] ty #[.slice A n c, .slice A2 0 c2]).run P w = .ok (.slice A n c) w := by
  have hl : ∀ (x : Addr), (loadCells x 0).run P w = .ok #[] w := fun x => by simpa using run_loadCells_list (P := P) w x [] (by simp)
  cases A <;> cases A2 <;> simp [Builtin.append_, run_underlying ht, sizeOf, typeInfo, hi, Builtin.lenOf, Builtin.firstCells, hnc, hl, storeCells, Result.andThen]
theorem wpl_append_zero {ops : Array Oper} {rest : List Oper} {o : Oper} {a : Act} {Q : Exit → Act → World → Prop} {w : World} (hgd : o.guard = none) (s x : Operand) (t : TypeId) (ho : o.op = .call { callee := .builtin .append, args := #[s, x], argTypes := #[t, t] })
    (e : TypeId) (ht : P.underlying t = some (.slice e)) (hi : (P.info? e).isSome = true) (A : Option Addr) (n c : Nat) (hnc : n ≤ c) (A2 : Option Addr) (c2 : Nat) (hs : a.eval s = .slice A n c) (hx : a.eval x = .slice A2 0 c2)
    (h : wpList P ops Q rest (a.put o.dst (.slice A n c)) w) : wpList P ops Q (o :: rest) a w := by
  obtain ⟨i, hi⟩ := Option.isSome_iff_exists.1 hi
  refine wpList_plain hgd fun K hK => ?_
  have hr := run_append_zero (P := P) w t o.type e i ht hi A n c hnc A2 c2
  unfold Oper.wp execOp
  simp only [ho, resolve, invoke, builtin, Sem.run_bind, Sem.run_pure, Result.andThen_ok, List.map_toArray, List.map_cons, List.map_nil, hs, hx, hr]
  exact hK _ _ h
end
theorem own_le {w : World} {base t size n : Nat} {v : Value} {xs : List Value} (h : w.ownsRow base t size v n xs) : ∃ A c, v = .slice A n c ∧ n ≤ c := by
  rcases h.2 with ⟨rfl, e⟩ | ⟨g, cap, cur, rfl, hb, hh, h2, _⟩
  · subst e
    exact ⟨none, 0, rfl, Nat.le_refl _⟩
  · exact ⟨_, _, rfl, h2⟩
theorem handle_there : (Tryz.prog.info? 51).isSome = true := by kernel_rfl

set_option maxRecDepth 100000 in
set_option maxHeartbeats 4000000 in
theorem trans_Held_few (q : WPlace) (Y : S.World) (Z : S.State) (w : World) (h : WorldAt w q Y) (hy : Y.old = some Z) (hfew : Y.now.R.length ≤ 1) (hZ : Z.R = []) :
    Calls Tryz.prog 25 #[.pointer (some ⟨q.T, 0, none⟩)] w fun e w' => ∃ v, e = .returned v ∧ w'.ownsRow w.heap.size 51 2 v Y.now.R.length ((Y.now.R.map fun x => S.unpack (S.pack x.2)).map S.Handle.cells).flatten ∧ Below w.heap.size w w' := by
  obtain ⟨o, s, Z', hq, hy', hs, hSt⟩ := h.parts (by rw [hy]; rfl)
  obtain rfl : Z = Z' := by rw [hy] at hy'; exact Option.some.inj hy'
  have hO : ∀ W, Below w.heap.size w W → Hid (Calls Tryz.prog 68 #[.pointer (some ⟨q.T, 0, none⟩)] W fun e w' => e = .returned (.bool true) ∧ w' = W) := fun W hb => by
    have := trans_Open q Y W (h.below hb)
    rw [hy] at this
    exact this
  have hH1 := Hid.mk (roots_Handles_few q.s.r q.s.mb Y.now.R w h.now.roots hfew)
  have hH2 : ∀ W, Below w.heap.size w W → Hid (Calls Tryz.prog 67 #[.pointer (some ⟨s.r, 0, none⟩)] W fun e w' => ∃ v, e = .returned v ∧ w'.ownsRow W.heap.size 51 2 v 0 [] ∧ Below W.heap.size W w') := fun W hb => by
    have := roots_Handles_few s.r s.mb Z.R W (hSt.below hb).roots (by rw [hZ]; simp)
    rw [hZ] at this
    exact this
  have c1 := h.c1
  have hc2 : ∀ W, Below w.heap.size w W → Hid (W.cell? ⟨q.T, 2, none⟩ = some (.pointer (some ⟨o, 0, none⟩)) ∧ W.cell? ⟨o, 1, none⟩ = some (.pointer (some ⟨s.r, 0, none⟩))) := fun W hb => by
    have := (h.below hb).c2
    rw [hq] at this
    exact ⟨this, (heap_cell ((hb.block o (Array.getElem?_eq_some_iff.1 hs).1).trans hs) (o := 1) rfl).1⟩
  have hf1 := Hid.mk hfew
  have hsr : ∀ (A : Option Addr) (n c : Nat) (f : Value) (hn : n ≤ 1) (W : World), Hid _ := fun A n c f hn W => Hid.mk (sort_hand A n c f hn W)
  have hco : ∀ (A : Option Addr) (n c : Nat) (hn : n ≤ 1) (W : World), Hid _ := fun A n c hn W => Hid.mk (compact_hand A n c hn W)
  clear h hy hq hy' hs hSt hZ hfew
  go_enter Tryz.func25, Tryz.ntmps25
  go_wp2_with (first | ((go_at_call 67); (with_reducible refine hH1.out.mono ?_); rintro e w1 ⟨v, rfl, ho, hb⟩; obtain ⟨A1, k1, rfl, hle⟩ := own_le ho; have ho1 := Hid.mk ho; have hb1 := Hid.mk hb; obtain ⟨d2, d1⟩ := (hc2 _ hb1.out).out; clear ho hb) | (go_at_call 68; (with_reducible refine (hO _ hb1.out).out.mono ?_); rintro e w2 ⟨rfl, hw⟩; obtain rfl := hw.symm) | ((go_at_call 67); (with_reducible refine (hH2 _ hb1.out).out.mono ?_); rintro e w3 ⟨v2, rfl, ho2, hb2⟩; obtain ⟨A2, k2, rfl, -⟩ := own_le ho2; have ho12 := Hid.mk (own_kept ho1.out (fun k hk => hb2.block k (own_lt ho1.out hk))); have hb12 := Hid.mk (below_then hb1.out hb2); clear ho2 hb2) | (at_builtin; refine wpl_append_zero rfl _ _ _ rfl 51 Tryz.underlying28 handle_there _ _ _ hle _ _ rfl rfl ?_) | (go_at_call 69; (with_reducible refine (hsr _ _ _ _ hf1.out _).out.mono ?_); rintro e w4 ⟨rfl, hw⟩; obtain rfl := hw.symm) | (go_at_call 73; (with_reducible refine (hco _ _ _ hf1.out _).out.mono ?_); rintro e w5 ⟨rfl, hw⟩; obtain rfl := hw.symm))
  go_ret
  go_light
  exact ⟨_, rfl, ho12.out, hb12.out⟩
end Go.Proofs.YtdokiaicheillaaGreat
