/-
  The walk of ecdysislaw17.alive.
-/
import Derived.Test.YtdokiaicheillaaGreatHeld
import Derived.Test.YtdokiaicheillaaGreatSetCat
namespace Go.Proofs.YtdokiaicheillaaGreat
open Go.RowKit

theorem WorldAt.apart3 {w : World} {q : WPlace} {Y : S.World} (h : WorldAt w q Y) : q.T ∉ q.s.F ∧ q.T ∉ oldF q.old ∧ q.s.F.Nodup ∧ (oldF q.old).Nodup ∧ (∀ k, k ∈ q.s.F → k ∉ oldF q.old) := by
  have ha := h.apart
  simp only [WPlace.F, List.nodup_cons, List.mem_append, not_or] at ha
  obtain ⟨h3, h4, h5⟩ := List.nodup_append.1 ha.2
  exact ⟨ha.1.1, ha.1.2, h3, h4, fun k hk ho => h5 k hk k ho rfl⟩
theorem WorldAt.setHeap {w w' : World} {q : WPlace} {Y : S.World} {p' : Parts} {X' : S.Heap} (h : WorldAt w q Y) (hh : HeapAt w' p' X') (hX : X'.ok) (hH : p'.H = q.s.p.H) (hF : ∀ k, k ∈ p'.F → k ∈ q.s.p.F ∨ w.heap.size ≤ k) (hO : Only q.s.p.F w w') :
    WorldAt w' ⟨q.T, ⟨p', q.s.r, q.s.mb⟩, q.old⟩ ⟨⟨X', Y.now.R⟩, Y.old⟩ := by
  obtain ⟨a1, a2, a3, a4, a5⟩ := h.apart3
  have hC := h.now.heap.calm
  have hsub : ∀ k, k ∈ q.s.p.F → k ∈ q.s.F := fun k hk => List.mem_append.2 (.inl hk)
  have hTl := h.lt q.T (by simp [WPlace.F])
  obtain ⟨b1, b2, b3⟩ := List.nodup_append.1 a3
  have hrl := h.now.roots.lt
  have hnd : (p'.F ++ [q.s.r, q.s.mb]).Nodup := by
    refine List.nodup_append.2 ⟨hh.apart, b2, fun a ha b hb e => ?_⟩
    subst e
    rcases hF a ha with h1 | h1
    · exact b3 a h1 a hb rfl
    · simp only [List.mem_cons, List.not_mem_nil, or_false] at hb
      rcases hb with rfl | rfl <;> omega
  refine ⟨?_, ⟨hh, hX, h.now.roots.kept (hO.block _ hrl.1 (fun hk => b3 _ hk _ (by simp) rfl)) (hO.block _ hrl.2 (fun hk => b3 _ hk _ (by simp) rfl)), hnd⟩, h.old.only hO hC (fun k hk hk' => a5 k (hsub k hk') hk), ?_⟩
  · have := (hO.block q.T hTl (fun hk => a1 (hsub _ hk))).trans h.head
    rw [← hH] at this
    exact this
  · have hnew : ∀ k, k ∈ p'.F ++ [q.s.r, q.s.mb] → k ∈ q.s.F ∨ w.heap.size ≤ k := fun k hk => by
      rcases List.mem_append.1 hk with hk | hk
      · exact (hF k hk).imp (hsub k) id
      · exact .inl (List.mem_append.2 (.inr hk))
    refine List.nodup_cons.2 ⟨fun hk => ?_, List.nodup_append.2 ⟨hnd, a4, fun a ha b hb e => ?_⟩⟩
    · rcases List.mem_append.1 hk with hk | hk
      · rcases hnew _ hk with h1 | h1
        · exact a1 h1
        · have h1' : w.heap.size ≤ q.T := h1
          omega
      · exact a2 hk
    · subst e
      rcases hnew a ha with h1 | h1
      · exact a5 a h1 hb
      · have := h.old.lt a hb; omega
theorem WorldAt.setRoots {w w' : World} {q : WPlace} {Y : S.World} {R' : List (S.Text × S.Handle)} (h : WorldAt w q Y) (hr : RootsAt w' q.s.r q.s.mb R') (hO : Only [q.s.mb] w w') : WorldAt w' q ⟨⟨Y.now.X, R'⟩, Y.old⟩ := by
  obtain ⟨a1, a2, a3, a4, a5⟩ := h.apart3
  have hC : Calm w [q.s.mb] := by obtain ⟨a, cl, hm⟩ := h.now.roots.map.obj; exact calm_map hm
  have hmb : q.s.mb ∈ q.s.F := by simp [SPlace.F]
  obtain ⟨b1, b2, b3⟩ := List.nodup_append.1 a3
  refine ⟨(hO.block q.T (h.lt q.T (by simp [WPlace.F])) (fun hk => a1 (by simp only [List.mem_singleton] at hk; rw [hk]; exact hmb))).trans h.head, ⟨h.now.heap.only hO hC (fun k hk hk' => by simp only [List.mem_singleton] at hk'; exact b3 k hk q.s.mb (by simp) hk'), h.now.ok, hr, a3⟩, h.old.only hO hC (fun k hk hk' => by simp only [List.mem_singleton] at hk'; subst hk'; exact a5 _ hmb hk), h.apart⟩

/-! ### what is computed on the way -/
def tA : S.Text := [97]
def tR : S.Text := [114]
def catA : List (S.Text × S.Kinds) := [(tA, ⟨1, [S.same []]⟩)]
theorem def_A : S.define [] tA [] = (catA, 0) := by
  have h1 : (S.nameOk tA && S.right []) = true := by decide
  have h2 : ((getK ([] : List (S.Text × S.Kinds)) tA).isSome || decide (16 ≤ ([] : List (S.Text × S.Kinds)).length)) = false := by decide
  rw [S.define, if_pos h1, h2]
  rfl
def heapA : S.Heap := { S.Heap.new 20 5 with cat := catA }
theorem create_A : ∃ X, S.create heapA tA = (X, ⟨0, 1⟩, 0) := by
  have hk : getK heapA.cat tA = some ⟨1, [S.same []]⟩ := by decide
  have hlong : (S.Kinds.long ⟨1, [S.same []]⟩) = 0 := by decide
  have hm : S.slotMake heapA.slots 0 = ((List.replicate 5 S.noSlot).set 0 ⟨1, true, 0⟩, ⟨0, 1⟩, 0) := by decide
  have ht : S.take heapA.units heapA.blks (3 + (((S.Kinds.long ⟨1, [S.same []]⟩) / 8 : Nat) : Int)) = ([((0 : Int), (3 : Int))], 0, 0) := by
    rw [hlong]
    have he : S.each ([] : List (Int × Int)) = [] := by simp [S.each]
    show S.take 20 [] 3 = _
    rw [S.take, if_neg (by decide), he]
    rfl
  exact ⟨_, S.create_yes hk ht hm⟩
theorem rset_A : S.rset [] tR ⟨0, 1⟩ = ([(tR, ⟨0, 1⟩)], 0) := by decide
theorem handles_new (n : Nat) : ∀ k, S.handlesFrom k (List.replicate n S.noSlot) = [] := by
  induction n with
  | zero => intro k; rfl
  | succ n ih => intro k; rw [List.replicate_succ, S.handlesFrom, ih]; rfl


/-! ### a world that a call has made -/
structure Stg (w W : World) (q : WPlace) (Y : S.World) : Prop where
  at_ : WorldAt W q Y
  new : ∀ k, k ∈ q.F → w.heap.size ≤ k
  below : Below w.heap.size w W
theorem Stg.then {w W W' : World} {q : WPlace} {Y : S.World} (h : Stg w W q Y) (hb : Below W.heap.size W W') : Stg w W' q Y := ⟨h.at_.below hb, h.new, below_then h.below hb⟩
theorem Stg.only {w W W' : World} {q q' : WPlace} {Y Y' : S.World} {G : List Nat} (h : Stg w W q Y) (ha : WorldAt W' q' Y') (hO : Only G W W') (hG : ∀ k, k ∈ G → w.heap.size ≤ k) (hF : ∀ k, k ∈ q'.F → k ∈ q.F ∨ W.heap.size ≤ k) : Stg w W' q' Y' :=
  ⟨ha, fun k hk => (hF k hk).elim (h.new k) (fun h9 => by have := h.below.size; omega), h.below.trans (hO.toBelow hG h.below.size)⟩
theorem q_sub {q : WPlace} {k : Nat} (h : k ∈ q.s.p.F) : k ∈ q.F := by simp only [WPlace.F, SPlace.F, List.mem_cons, List.mem_append]; exact .inr (.inl (.inl h))
theorem stg_New (u n : Nat) (hu : u ≤ 1024) (hn : n ≤ 256) (w : World) : Calls Tryz.prog 4 #[.int .i64 u, .int .i64 n] w fun e w' => ∃ T s o, e = .returned (.tuple #[.pointer (some ⟨T, 0, none⟩), .int .i64 0]) ∧ Stg w w' ⟨T, s, o⟩ ⟨⟨S.Heap.new u n, []⟩, none⟩ :=
  (trans_New u n hu hn w).mono fun e w' ⟨q, e1, h1, h2, h3⟩ => ⟨q.T, q.s, q.old, e1, h1, h2, h3⟩
theorem stg_Define {w W : World} {T r mb : Nat} {p : Parts} {o : Option (Nat × SPlace)} {Y : S.World} (h : Stg w W ⟨T, ⟨p, r, mb⟩, o⟩ Y) (name : S.Text) (A : Option Addr) (cc : Nat) (l : List S.Field) (hn : name.length ≤ 1073741824) (hl : Fields W.cell? A l) (hA : A = none → cc = 0) (hs : Short l) :
    Calls Tryz.prog 15 #[.pointer (some ⟨p.c, 0, none⟩), .string (S.mk name), .slice A l.length cc] W fun e w' => e = .returned (.int .i64 (S.define Y.now.X.cat name l).2) ∧ ∃ p', Stg w w' ⟨T, ⟨p', r, mb⟩, o⟩ ⟨⟨{ Y.now.X with cat := (S.define Y.now.X.cat name l).1 }, Y.now.R⟩, Y.old⟩ :=
  (obj_Define p Y.now.X name A cc l W h.at_.now.heap h.at_.now.ok hn hl hA hs).mono fun e w' ⟨e1, ps', h1, h2, h3, h4⟩ => ⟨e1, _, h.only (h.at_.setHeap h1 h2 rfl h3 h4) h4 (fun k hk => h.new k (q_sub (q := ⟨T, ⟨p, r, mb⟩, o⟩) hk)) (fun k hk => by
    simp only [WPlace.F, SPlace.F, List.mem_cons, List.mem_append] at hk ⊢
    rcases hk with hk | (hk | hk) | hk
    · exact .inl (.inl hk)
    · exact (h3 k hk).imp (fun h9 => .inr (.inl (.inl h9))) id
    · exact .inl (.inr (.inl (.inr hk)))
    · exact .inl (.inr (.inr hk)))⟩
theorem stg_Create {w W : World} {T r mb : Nat} {p : Parts} {o : Option (Nat × SPlace)} {Y : S.World} (h : Stg w W ⟨T, ⟨p, r, mb⟩, o⟩ Y) (name : S.Text) :
    Calls Tryz.prog 16 #[.pointer (some ⟨p.H, 0, none⟩), .string (S.mk name)] W fun e w' => e = .returned (.tuple #[(S.create Y.now.X name).2.1.val, .int .i64 (S.create Y.now.X name).2.2]) ∧ Stg w w' ⟨T, ⟨p, r, mb⟩, o⟩ ⟨⟨(S.create Y.now.X name).1, Y.now.R⟩, Y.old⟩ :=
  (obj_Create p Y.now.X name W h.at_.now.heap h.at_.now.ok).mono fun e w' ⟨e1, h1, h2, h3⟩ => ⟨e1, h.only (h.at_.setHeap h1 h2 rfl (fun k hk => .inl hk) h3) h3 (fun k hk => h.new k (q_sub (q := ⟨T, ⟨p, r, mb⟩, o⟩) hk)) (fun k hk => .inl hk)⟩
theorem stg_Set {w W : World} {T r mb : Nat} {p : Parts} {o : Option (Nat × SPlace)} {Y : S.World} (h : Stg w W ⟨T, ⟨p, r, mb⟩, o⟩ Y) (name : S.Text) (x : S.Handle) (hn : name.length ≤ 1073741824) (hR : Y.now.R.length ≤ 1073741824) :
    Calls Tryz.prog 17 #[.pointer (some ⟨r, 0, none⟩), .string (S.mk name), .agg #[.int .i64 x.slot, .int .i64 x.gen]] W fun e w' => e = .returned (.int .i64 (S.rset Y.now.R name x).2) ∧ Stg w w' ⟨T, ⟨p, r, mb⟩, o⟩ ⟨⟨Y.now.X, (S.rset Y.now.R name x).1⟩, Y.old⟩ ∧ Only [mb] W w' :=
  (roots_Set r mb Y.now.R name x W h.at_.now.roots hn hR).mono fun e w' ⟨e1, h1, h2⟩ => ⟨e1, h.only (h.at_.setRoots h1 h2) h2 (fun k hk => by simp only [List.mem_singleton] at hk; rw [hk]; exact h.new mb (by simp [WPlace.F, SPlace.F])) (fun k hk => .inl hk), h2⟩
end Go.Proofs.YtdokiaicheillaaGreat

namespace Go.Proofs.YtdokiaicheillaaGreat
open Go.RowKit

end Go.Proofs.YtdokiaicheillaaGreat
