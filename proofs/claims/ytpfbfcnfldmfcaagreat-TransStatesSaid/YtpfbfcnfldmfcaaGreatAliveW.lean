/-
  The walk of ecdysislaw17.alive.
-/
import Derived.Test.YtpfbfcnfldmfcaaGreatHeld
import Derived.Test.YtpfbfcnfldmfcaaGreatSetCat
namespace Go.Proofs.YtpfbfcnfldmfcaaGreat
open Go.RowKit

theorem WorldAt.apart3 {w : World} {q : WPlace} {Y : S.World} (h : WorldAt w q Y) : q.T ∉ q.s.F ∧ q.T ∉ oldF q.old ∧ q.s.F.Nodup ∧ (oldF q.old).Nodup ∧ (∀ k, k ∈ q.s.F → k ∉ oldF q.old) := by
  have ha := h.apart
  simp only [WPlace.F, List.nodup_cons, List.mem_append, not_or] at ha
  obtain ⟨h3, h4, h5⟩ := List.nodup_append.1 ha.2
  exact ⟨ha.1.1, ha.1.2, h3, h4, fun k hk ho => h5 k hk k ho rfl⟩
theorem WorldAt.setHeap {w w' : World} {q : WPlace} {Y : S.World} {p' : Parts} {X' : S.Heap} (h : WorldAt w q Y) (hh : HeapAt w' p' X') (hX : X'.ok) (hH : p'.H = q.s.p.H) (hF : ∀ k, k ∈ p'.F → k ∈ q.s.p.F ∨ w.heap.size ≤ k) (hO : Only q.s.p.F w w') :
    WorldAt w' ⟨q.T, ⟨p', q.s.r, q.s.mb⟩, q.old⟩ ⟨⟨X', Y.now.R⟩, Y.old⟩ := by
  obtain ⟨a1, a2, a3, a4, a5⟩ := h.apart3
  have hC := h.now.heap.calm
  have hsub : ∀ k, k ∈ q.s.p.F → k ∈ q.s.F := fun k hk => List.mem_append.2 (.inl hk)
  have hTl := h.lt q.T (by simp [WPlace.F])
  obtain ⟨b1, b2, b3⟩ := List.nodup_append.1 a3
  have hrl := h.now.roots.lt
  have hnd : (p'.F ++ [q.s.r, q.s.mb]).Nodup := by
    refine List.nodup_append.2 ⟨hh.apart, b2, fun a ha b hb e => ?_⟩
    subst e
    rcases hF a ha with h1 | h1
    · exact b3 a h1 a hb rfl
    · simp only [List.mem_cons, List.not_mem_nil, or_false] at hb
      rcases hb with rfl | rfl <;> omega
  refine ⟨?_, ⟨hh, hX, h.now.roots.kept (hO.block _ hrl.1 (fun hk => b3 _ hk _ (by simp) rfl)) (hO.block _ hrl.2 (fun hk => b3 _ hk _ (by simp) rfl)), hnd⟩, h.old.only hO hC (fun k hk hk' => a5 k (hsub k hk') hk), ?_⟩
  · have := (hO.block q.T hTl (fun hk => a1 (hsub _ hk))).trans h.head
    rw [← hH] at this
    exact this
  · have hnew : ∀ k, k ∈ p'.F ++ [q.s.r, q.s.mb] → k ∈ q.s.F ∨ w.heap.size ≤ k := fun k hk => by
      rcases List.mem_append.1 hk with hk | hk
      · exact (hF k hk).imp (hsub k) id
      · exact .inl (List.mem_append.2 (.inr hk))
    refine List.nodup_cons.2 ⟨fun hk => ?_, List.nodup_append.2 ⟨hnd, a4, fun a ha b hb e => ?_⟩⟩
    · rcases List.mem_append.1 hk with hk | hk
      · rcases hnew _ hk with h1 | h1
        · exact a1 h1
        · have h1' : w.heap.size ≤ q.T := h1
          omega
      · exact a2 hk
    · subst e
      rcases hnew a ha with h1 | h1
      · exact a5 a h1 hb
      · have := h.old.lt a hb; omega
theorem WorldAt.setRoots {w w' : World} {q : WPlace} {Y : S.World} {R' : List (S.Text × S.Handle)} (h : WorldAt w q Y) (hr : RootsAt w' q.s.r q.s.mb R') (hO : Only [q.s.mb] w w') : WorldAt w' q ⟨⟨Y.now.X, R'⟩, Y.old⟩ := by
  obtain ⟨a1, a2, a3, a4, a5⟩ := h.apart3
  have hC : Calm w [q.s.mb] := by obtain ⟨a, cl, hm⟩ := h.now.roots.map.obj; exact calm_map hm
  have hmb : q.s.mb ∈ q.s.F := by simp [SPlace.F]
  obtain ⟨b1, b2, b3⟩ := List.nodup_append.1 a3
  refine ⟨(hO.block q.T (h.lt q.T (by simp [WPlace.F])) (fun hk => a1 (by simp only [List.mem_singleton] at hk; rw [hk]; exact hmb))).trans h.head, ⟨h.now.heap.only hO hC (fun k hk hk' => by simp only [List.mem_singleton] at hk'; exact b3 k hk q.s.mb (by simp) hk'), h.now.ok, hr, a3⟩, h.old.only hO hC (fun k hk hk' => by simp only [List.mem_singleton] at hk'; subst hk'; exact a5 _ hmb hk), h.apart⟩

/-! ### what is computed on the way -/
def tA : S.Text := [97]
def tR : S.Text := [114]
def catA : List (S.Text × S.Kinds) := [(tA, ⟨1, [S.same []]⟩)]
theorem def_A : S.define [] tA [] = (catA, 0) := by
  have h1 : (S.nameOk tA && S.right []) = true := by decide
  have h2 : ((getK ([] : List (S.Text × S.Kinds)) tA).isSome || decide (16 ≤ ([] : List (S.Text × S.Kinds)).length)) = false := by decide
  rw [S.define, if_pos h1, h2]
  rfl
def heapA : S.Heap := { S.Heap.new 20 5 with cat := catA }
theorem create_A : ∃ X, S.create heapA tA = (X, ⟨0, 1⟩, 0) := by
  have hk : getK heapA.cat tA = some ⟨1, [S.same []]⟩ := by decide
  have hlong : (S.Kinds.long ⟨1, [S.same []]⟩) = 0 := by decide
  have hm : S.slotMake heapA.slots 0 = ((List.replicate 5 S.noSlot).set 0 ⟨1, true, 0⟩, ⟨0, 1⟩, 0) := by decide
  have ht : S.take heapA.units heapA.blks (3 + (((S.Kinds.long ⟨1, [S.same []]⟩) / 8 : Nat) : Int)) = ([((0 : Int), (3 : Int))], 0, 0) := by
    rw [hlong]
    have he : S.each ([] : List (Int × Int)) = [] := by simp [S.each]
    show S.take 20 [] 3 = _
    rw [S.take, if_neg (by decide), he]
    rfl
  exact ⟨_, S.create_yes hk ht hm⟩
theorem rset_A : S.rset [] tR ⟨0, 1⟩ = ([(tR, ⟨0, 1⟩)], 0) := by decide
theorem handles_new (n : Nat) : ∀ k, S.handlesFrom k (List.replicate n S.noSlot) = [] := by
  induction n with
  | zero => intro k; rfl
  | succ n ih => intro k; rw [List.replicate_succ, S.handlesFrom, ih]; rfl


/-! ### a world that a call has made -/
structure Stg (w W : World) (q : WPlace) (Y : S.World) : Prop where
  at_ : WorldAt W q Y
  new : ∀ k, k ∈ q.F → w.heap.size ≤ k
  below : Below w.heap.size w W
theorem Stg.then {w W W' : World} {q : WPlace} {Y : S.World} (h : Stg w W q Y) (hb : Below W.heap.size W W') : Stg w W' q Y := ⟨h.at_.below hb, h.new, below_then h.below hb⟩
theorem Stg.only {w W W' : World} {q q' : WPlace} {Y Y' : S.World} {G : List Nat} (h : Stg w W q Y) (ha : WorldAt W' q' Y') (hO : Only G W W') (hG : ∀ k, k ∈ G → w.heap.size ≤ k) (hF : ∀ k, k ∈ q'.F → k ∈ q.F ∨ W.heap.size ≤ k) : Stg w W' q' Y' :=
  ⟨ha, fun k hk => (hF k hk).elim (h.new k) (fun h9 => by have := h.below.size; omega), h.below.trans (hO.toBelow hG h.below.size)⟩
theorem q_sub {q : WPlace} {k : Nat} (h : k ∈ q.s.p.F) : k ∈ q.F := by simp only [WPlace.F, SPlace.F, List.mem_cons, List.mem_append]; exact .inr (.inl (.inl h))
theorem stg_New (u n : Nat) (hu : u ≤ 1024) (hn : n ≤ 256) (w : World) : Calls Tryz.prog 4 #[.int .i64 u, .int .i64 n] w fun e w' => ∃ T s o, e = .returned (.tuple #[.pointer (some ⟨T, 0, none⟩), .int .i64 0]) ∧ Stg w w' ⟨T, s, o⟩ ⟨⟨S.Heap.new u n, []⟩, none⟩ :=
  (trans_New u n hu hn w).mono fun e w' ⟨q, e1, h1, h2, h3⟩ => ⟨q.T, q.s, q.old, e1, h1, h2, h3⟩
theorem stg_Define {w W : World} {T r mb : Nat} {p : Parts} {o : Option (Nat × SPlace)} {Y : S.World} (h : Stg w W ⟨T, ⟨p, r, mb⟩, o⟩ Y) (name : S.Text) (A : Option Addr) (cc : Nat) (l : List S.Field) (hn : name.length ≤ 1073741824) (hl : Fields W.cell? A l) (hA : A = none → cc = 0) (hs : Short l) :
    Calls Tryz.prog 15 #[.pointer (some ⟨p.c, 0, none⟩), .string (S.mk name), .slice A l.length cc] W fun e w' => e = .returned (.int .i64 (S.define Y.now.X.cat name l).2) ∧ ∃ p', Stg w w' ⟨T, ⟨p', r, mb⟩, o⟩ ⟨⟨{ Y.now.X with cat := (S.define Y.now.X.cat name l).1 }, Y.now.R⟩, Y.old⟩ :=
  (obj_Define p Y.now.X name A cc l W h.at_.now.heap h.at_.now.ok hn hl hA hs).mono fun e w' ⟨e1, ps', h1, h2, h3, h4⟩ => ⟨e1, _, h.only (h.at_.setHeap h1 h2 rfl h3 h4) h4 (fun k hk => h.new k (q_sub (q := ⟨T, ⟨p, r, mb⟩, o⟩) hk)) (fun k hk => by
    simp only [WPlace.F, SPlace.F, List.mem_cons, List.mem_append] at hk ⊢
    rcases hk with hk | (hk | hk) | hk
    · exact .inl (.inl hk)
    · exact (h3 k hk).imp (fun h9 => .inr (.inl (.inl h9))) id
    · exact .inl (.inr (.inl (.inr hk)))
    · exact .inl (.inr (.inr hk)))⟩
theorem stg_Create {w W : World} {T r mb : Nat} {p : Parts} {o : Option (Nat × SPlace)} {Y : S.World} (h : Stg w W ⟨T, ⟨p, r, mb⟩, o⟩ Y) (name : S.Text) :
    Calls Tryz.prog 16 #[.pointer (some ⟨p.H, 0, none⟩), .string (S.mk name)] W fun e w' => e = .returned (.tuple #[(S.create Y.now.X name).2.1.val, .int .i64 (S.create Y.now.X name).2.2]) ∧ Stg w w' ⟨T, ⟨p, r, mb⟩, o⟩ ⟨⟨(S.create Y.now.X name).1, Y.now.R⟩, Y.old⟩ :=
  (obj_Create p Y.now.X name W h.at_.now.heap h.at_.now.ok).mono fun e w' ⟨e1, h1, h2, h3⟩ => ⟨e1, h.only (h.at_.setHeap h1 h2 rfl (fun k hk => .inl hk) h3) h3 (fun k hk => h.new k (q_sub (q := ⟨T, ⟨p, r, mb⟩, o⟩) hk)) (fun k hk => .inl hk)⟩
theorem stg_Set {w W : World} {T r mb : Nat} {p : Parts} {o : Option (Nat × SPlace)} {Y : S.World} (h : Stg w W ⟨T, ⟨p, r, mb⟩, o⟩ Y) (name : S.Text) (x : S.Handle) (hn : name.length ≤ 1073741824) (hR : Y.now.R.length ≤ 1073741824) :
    Calls Tryz.prog 17 #[.pointer (some ⟨r, 0, none⟩), .string (S.mk name), .agg #[.int .i64 x.slot, .int .i64 x.gen]] W fun e w' => e = .returned (.int .i64 (S.rset Y.now.R name x).2) ∧ Stg w w' ⟨T, ⟨p, r, mb⟩, o⟩ ⟨⟨Y.now.X, (S.rset Y.now.R name x).1⟩, Y.old⟩ ∧ Only [mb] W w' :=
  (roots_Set r mb Y.now.R name x W h.at_.now.roots hn hR).mono fun e w' ⟨e1, h1, h2⟩ => ⟨e1, h.only (h.at_.setRoots h1 h2) h2 (fun k hk => by simp only [List.mem_singleton] at hk; rw [hk]; exact h.new mb (by simp [WPlace.F, SPlace.F])) (fun k hk => .inl hk), h2⟩
theorem stg_Begin {w W : World} {T : Nat} {s : SPlace} {o : Option (Nat × SPlace)} {Y : S.State} (h : Stg w W ⟨T, s, o⟩ ⟨Y, none⟩) :
    Calls Tryz.prog 6 #[.pointer (some ⟨T, 0, none⟩)] W fun e w' => e = .returned (.int .i64 0) ∧ ∃ o' C', C'.Perm Y.X.cat ∧ Stg w w' ⟨T, s, o'⟩ ⟨Y, some ⟨{ Y.X with cat := C' }, Y.R⟩⟩ :=
  (trans_Begin ⟨T, s, o⟩ ⟨Y, none⟩ W h.at_ rfl).mono fun e w' ⟨e1, o', s', C', h1, h2, h3, h4⟩ => ⟨e1, _, C', h1, h.only h2 h4 (fun k hk => by simp only [List.mem_singleton] at hk; rw [hk]; exact h.new T (by simp [WPlace.F])) (fun k hk => by
    simp only [WPlace.F, oldF, List.mem_cons, List.mem_append] at hk ⊢
    rcases hk with hk | hk | hk
    · exact .inl (.inl hk)
    · exact .inl (.inr (.inl hk))
    · exact .inr (h3 k (List.mem_cons.2 hk)))⟩
theorem stg_Abort {w W : World} {T : Nat} {s : SPlace} {o : Option (Nat × SPlace)} {Y Z : S.State} (h : Stg w W ⟨T, s, o⟩ ⟨Y, some Z⟩) :
    Calls Tryz.prog 8 #[.pointer (some ⟨T, 0, none⟩)] W fun e w' => e = .returned (.int .i64 0) ∧ ∃ s', Stg w w' ⟨T, s', none⟩ ⟨Z, none⟩ :=
  (trans_Abort ⟨T, s, o⟩ ⟨Y, some Z⟩ W h.at_ rfl).mono fun e w' ⟨e1, o', s', Z', h1, h2, h3, h4⟩ => by
    simp only [Option.some.injEq] at h2
    simp only at h1
    subst h2
    refine ⟨e1, s', h.only h3 h4 (fun k hk => by simp only [List.mem_singleton] at hk; rw [hk]; exact h.new T (by simp [WPlace.F])) (fun k hk => ?_)⟩
    simp only [WPlace.F, oldF, h1, List.append_nil, List.mem_cons, List.mem_append] at hk ⊢
    rcases hk with hk | hk
    · exact .inl (.inl hk)
    · exact .inl (.inr (.inr (.inr hk)))
theorem stg_Commit {w W : World} {T : Nat} {s : SPlace} {o : Option (Nat × SPlace)} {Y Z : S.State} (h : Stg w W ⟨T, s, o⟩ ⟨Y, some Z⟩) :
    Calls Tryz.prog 7 #[.pointer (some ⟨T, 0, none⟩)] W fun e w' => e = .returned (.int .i64 0) ∧ Stg w w' ⟨T, s, none⟩ ⟨Y, none⟩ :=
  (trans_Commit ⟨T, s, o⟩ ⟨Y, some Z⟩ W h.at_ rfl).mono fun e w' ⟨e1, h3, h4⟩ => ⟨e1, h.only h3 h4 (fun k hk => by simp only [List.mem_singleton] at hk; rw [hk]; exact h.new T (by simp [WPlace.F])) (fun k hk => by
    simp only [WPlace.F, oldF, List.append_nil, List.mem_cons, List.mem_append] at hk ⊢
    rcases hk with hk | hk
    · exact .inl (.inl hk)
    · exact .inl (.inr (.inl hk)))⟩
end Go.Proofs.YtpfbfcnfldmfcaaGreat

namespace Go.Proofs.YtpfbfcnfldmfcaaGreat
open Go.RowKit

set_option maxRecDepth 100000 in
set_option maxHeartbeats 16000000 in
theorem alive_yes (w : World) : Calls Tryz.prog 5 #[] w fun e w' => e = .returned (.bool true) ∧ Below w.heap.size w w' := by
  have hN : Hid (Calls Tryz.prog 4 #[.int .i64 20, .int .i64 5] w fun e w' => ∃ T s o, e = .returned (.tuple #[.pointer (some ⟨T, 0, none⟩), .int .i64 0]) ∧ Stg w w' ⟨T, s, o⟩ ⟨⟨S.Heap.new 20 5, []⟩, none⟩) := stg_New 20 5 (by decide) (by decide) w
  have hDf : ∀ (w1 : World) (T r mb : Nat) (p : Parts) (o : Option (Nat × SPlace)), Stg w w1 ⟨T, ⟨p, r, mb⟩, o⟩ ⟨⟨S.Heap.new 20 5, []⟩, none⟩ → Hid (Calls Tryz.prog 15 #[.pointer (some ⟨p.c, 0, none⟩), .string { data := #[97] }, .slice none 0 0] w1 fun e w' => e = .returned (.int .i64 0) ∧ ∃ p', Stg w w' ⟨T, ⟨p', r, mb⟩, o⟩ ⟨⟨heapA, []⟩, none⟩) := fun w1 T r mb p o g => by
    have h := stg_Define g tA none 0 [] (by decide) (Row.nil _ _ _ _) (fun _ => rfl) (fun i f hf => by simp at hf)
    have e : S.define (S.Heap.new 20 5).cat tA [] = (catA, 0) := def_A
    simp only at h
    rw [e] at h
    exact h
  obtain ⟨X4, hX4⟩ := create_A
  have hCr : ∀ (w1 : World) (T r mb : Nat) (p : Parts) (o : Option (Nat × SPlace)) (O : Option S.State), Stg w w1 ⟨T, ⟨p, r, mb⟩, o⟩ ⟨⟨heapA, []⟩, O⟩ → Hid (Calls Tryz.prog 16 #[.pointer (some ⟨p.H, 0, none⟩), .string { data := #[97] }] w1 fun e w' => e = .returned (.tuple #[.agg #[.int .i64 0, .int .i64 1], .int .i64 0]) ∧ Stg w w' ⟨T, ⟨p, r, mb⟩, o⟩ ⟨⟨X4, []⟩, O⟩) := fun w1 T r mb p o O g => by
    have h := stg_Create g tA
    simp only [hX4] at h
    exact h
  have hSe : ∀ (w1 : World) (T r mb : Nat) (p : Parts) (o : Option (Nat × SPlace)) (O : Option S.State), Stg w w1 ⟨T, ⟨p, r, mb⟩, o⟩ ⟨⟨X4, []⟩, O⟩ → Hid (Calls Tryz.prog 17 #[.pointer (some ⟨r, 0, none⟩), .string { data := #[114] }, .agg #[.int .i64 0, .int .i64 1]] w1 fun e w' => e = .returned (.int .i64 0) ∧ Stg w w' ⟨T, ⟨p, r, mb⟩, o⟩ ⟨⟨X4, [(tR, ⟨0, 1⟩)]⟩, O⟩ ∧ Only [mb] w1 w') := fun w1 T r mb p o O g => by
    have h := stg_Set g tR ⟨0, 1⟩ (by decide) (by simp)
    simp only [rset_A] at h
    exact h
  have hHe : ∀ (w1 : World) (T r mb : Nat) (p : Parts) (o : Option (Nat × SPlace)) (C : List (S.Text × S.Kinds)), Stg w w1 ⟨T, ⟨p, r, mb⟩, o⟩ ⟨⟨X4, [(tR, ⟨0, 1⟩)]⟩, some ⟨{ heapA with cat := C }, []⟩⟩ → Hid (Calls Tryz.prog 18 #[.pointer (some ⟨T, 0, none⟩)] w1 fun e w' => ∃ A c, e = .returned (.slice A 1 c) ∧ Stg w w' ⟨T, ⟨p, r, mb⟩, o⟩ ⟨⟨X4, [(tR, ⟨0, 1⟩)]⟩, some ⟨{ heapA with cat := C }, []⟩⟩) := fun w1 T r mb p o C g =>
    (trans_Held_few _ _ _ w1 g.at_ rfl (by simp) rfl).mono fun e w' ⟨v, e1, h1, h2⟩ => by
      obtain ⟨A, c, rfl⟩ := own_slice h1
      exact ⟨A, c, e1, g.then h2⟩
  have hHa : ∀ (w1 : World) (T r mb : Nat) (p : Parts) (o : Option (Nat × SPlace)) (C : List (S.Text × S.Kinds)), Stg w w1 ⟨T, ⟨p, r, mb⟩, o⟩ ⟨⟨{ heapA with cat := C }, []⟩, none⟩ → Hid (Calls Tryz.prog 19 #[.pointer (some ⟨p.H, 0, none⟩)] w1 fun e w' => ∃ A c, e = .returned (.slice A 0 c) ∧ Stg w w' ⟨T, ⟨p, r, mb⟩, o⟩ ⟨⟨{ heapA with cat := C }, []⟩, none⟩) := fun w1 T r mb p o C g =>
    (obj_Handles p _ w1 g.at_.now.heap).mono fun e w' ⟨v, e1, h1, h2⟩ => by
      rw [show S.handles ({ heapA with cat := C } : S.Heap).slots = [] from handles_new 5 0] at h1
      obtain ⟨A, c, rfl⟩ := own_slice h1
      exact ⟨A, c, e1, g.then h2⟩
  have hNa : ∀ (w1 : World) (T r mb : Nat) (p : Parts) (o : Option (Nat × SPlace)) (Z : S.Heap), Stg w w1 ⟨T, ⟨p, r, mb⟩, o⟩ ⟨⟨Z, []⟩, none⟩ → Hid (Calls Tryz.prog 20 #[.pointer (some ⟨r, 0, none⟩)] w1 fun e w' => ∃ A c, e = .returned (.slice A 0 c) ∧ Stg w w' ⟨T, ⟨p, r, mb⟩, o⟩ ⟨⟨Z, []⟩, none⟩) := fun w1 T r mb p o Z g =>
    (roots_Names r mb [] w1 g.at_.now.roots (by simp)).mono fun e w' ⟨v, e1, h1, h2⟩ => by
      obtain ⟨A, c, rfl⟩ := own_slice h1
      exact ⟨A, c, e1, g.then h2⟩
  clear hX4
  go_enter Tryz.func5, Tryz.ntmps5
  go_wp2_with (first
    | (go_at_call 4; (with_reducible refine hN.out.mono ?_); rintro e w1 ⟨T, s, o, rfl, g⟩; obtain ⟨p, r, mb⟩ := s; have g1 := Hid.mk g; clear g)
    | (go_at_call 12; (with_reducible refine (trans_Heap _ _ _ g3.out.at_).mono ?_); rintro e w0 ⟨rfl, hw⟩; obtain rfl := hw.symm)
    | (go_at_call 12; (with_reducible refine (trans_Heap _ _ _ g1.out.at_).mono ?_); rintro e w0 ⟨rfl, hw⟩; obtain rfl := hw.symm)
    | (go_at_call 13; (with_reducible refine (trans_Roots _ _ _ g1.out.at_).mono ?_); rintro e w0 ⟨rfl, hw⟩; obtain rfl := hw.symm)
    | (go_at_call 14; (with_reducible refine (obj_Schema _ _ _ g1.out.at_.now.heap).mono ?_); rintro e w0 ⟨rfl, hw⟩; obtain rfl := hw.symm)
    | (go_at_call 15; (with_reducible refine (hDf _ _ _ _ _ _ g1.out).out.mono ?_); rintro e w2 ⟨rfl, p2, g⟩; have g2 := Hid.mk g; clear g)
    | (go_at_call 6; (with_reducible refine (trans_Begin_open _ _ _ g3.out.at_ rfl).mono ?_); rintro e w0 ⟨rfl, hw⟩; obtain rfl := hw.symm)
    | (go_at_call 6; (with_reducible refine (stg_Begin g2.out).mono ?_); rintro e w3 ⟨rfl, o3, C', hC, g⟩; have g3 := Hid.mk g; clear g hC)
    | (go_at_call 16; (with_reducible refine (hCr _ _ _ _ _ _ _ g3.out).out.mono ?_); rintro e w4 ⟨rfl, g⟩; have g4 := Hid.mk g; clear g))
  have g5 := Hid.mk (g4.out.then (show Below w4.heap.size w4 (w4.alloc (.cells #[.int .i64 0, .int .i64 1] 34)).drew from (below_one w4 _).drew))
  have hT5 := heap_alloc_new w4 (.cells #[.int .i64 0, .int .i64 1] 34)
  have t0 := (heap_cell hT5 (o := 0) (v := .int .i64 0) rfl).1
  have t1 := (heap_cell hT5 (o := 1) (v := .int .i64 1) rfl).1
  have hml : mb < w4.heap.size := g4.out.at_.now.roots.lt.2
  clear hT5
  go_region_held3 (fun W => W.cell? ⟨w4.heap.size, 0, none⟩ = some (.int .i64 0) ∧ W.cell? ⟨w4.heap.size, 1, none⟩ = some (.int .i64 1))
    (first | go_keep | (go_split_ands; exact ⟨(cell_block (hO6.out.block _ (by simp) (by simp; omega))).trans (by assumption), (cell_block (hO6.out.block _ (by simp) (by simp; omega))).trans (by assumption)⟩))
    (first
      | ((with_reducible refine (trans_Roots _ _ _ g5.out.at_).mono ?_); rintro e w0 ⟨rfl, hw⟩; obtain rfl := hw.symm)
      | ((with_reducible refine (hSe _ _ _ _ _ _ _ g5.out).out.mono ?_); rintro e w6 ⟨rfl, g, hO⟩; have g6 := Hid.mk g; have hO6 := Hid.mk hO; clear g hO)
      | fail)
  clear t0 t1
  go_wp2_with (first
    | (go_at_call 9; (with_reducible refine (trans_Open _ _ _ g6.out.at_).mono ?_); rintro e w0 ⟨rfl, hw⟩; obtain rfl := hw.symm)
    | (go_at_call 9; (with_reducible refine (trans_Open _ _ _ g10.out.at_).mono ?_); rintro e w0 ⟨rfl, hw⟩; obtain rfl := hw.symm)
    | (go_at_call 18; (with_reducible refine (hHe _ _ _ _ _ _ _ g6.out).out.mono ?_); rintro e w7 ⟨A7, c7, rfl, g⟩; have g7 := Hid.mk g; clear g)
    | (go_at_call 8; (with_reducible refine (trans_Abort_none _ _ _ g8.out.at_ rfl).mono ?_); rintro e w9 ⟨rfl, hb⟩; have g9 := Hid.mk (g8.out.then hb); clear hb)
    | (go_at_call 8; (with_reducible refine (stg_Abort g7.out).mono ?_); rintro e w8 ⟨rfl, s8, g⟩; obtain ⟨p8, r8, m8⟩ := s8; have g8 := Hid.mk g; clear g)
    | (go_at_call 12; (with_reducible refine (trans_Heap _ _ _ g9.out.at_).mono ?_); rintro e w0 ⟨rfl, hw⟩; obtain rfl := hw.symm)
    | (go_at_call 19; (with_reducible refine (hHa _ _ _ _ _ _ _ g9.out).out.mono ?_); rintro e wa ⟨Aa, ca, rfl, g⟩; have ga := Hid.mk g; clear g)
    | (go_at_call 13; (with_reducible refine (trans_Roots _ _ _ ga.out.at_).mono ?_); rintro e w0 ⟨rfl, hw⟩; obtain rfl := hw.symm)
    | (go_at_call 20; (with_reducible refine (hNa _ _ _ _ _ _ _ ga.out).out.mono ?_); rintro e wb ⟨Ab, c9, rfl, g⟩; have g10 := Hid.mk g; clear g))
  go_ret
  go_light
  exact ⟨rfl, g10.out.below⟩
end Go.Proofs.YtpfbfcnfldmfcaaGreat
