/-
  The walks of trans: New, Open, Heap, Roots, Begin, Commit, Abort.
-/
import Derived.Test.YtpfbfcnfldmfcaaGreatTrans
namespace Go.Proofs.YtpfbfcnfldmfcaaGreat
open Go.RowKit

namespace S
/-- What a world is. -/
structure State where
  X : Heap
  R : List (Text × Handle)
structure World where
  now : State
  old : Option State
end S
/-- Where a state lies: a heap, and roots. -/
structure SPlace where
  p : Parts
  r : Nat
  mb : Nat
def SPlace.F (s : SPlace) : List Nat := s.p.F ++ [s.r, s.mb]
structure StateAt (w : World) (s : SPlace) (Y : S.State) : Prop where
  heap : HeapAt w s.p Y.X
  ok : Y.X.ok
  roots : RootsAt w s.r s.mb Y.R
  apart : s.F.Nodup
theorem StateAt.lt {w : World} {s : SPlace} {Y : S.State} (h : StateAt w s Y) : ∀ k, k ∈ s.F → k < w.heap.size := fun k hk => by
  rcases List.mem_append.1 hk with hk | hk
  · exact h.heap.lt k hk
  · simp only [List.mem_cons, List.not_mem_nil, or_false] at hk
    rcases hk with rfl | rfl
    · exact h.roots.lt.1
    · exact h.roots.lt.2
theorem StateAt.calm {w : World} {s : SPlace} {Y : S.State} (h : StateAt w s Y) : Calm w s.F := h.heap.calm.append h.roots.calm
theorem StateAt.only {w w' : World} {s : SPlace} {Y : S.State} {G : List Nat} (h : StateAt w s Y) (hO : Only G w w') (hC : Calm w G) (hd : ∀ k, k ∈ s.F → k ∉ G) : StateAt w' s Y where
  heap := h.heap.only hO hC (fun k hk => hd k (List.mem_append.2 (.inl hk)))
  ok := h.ok
  roots := h.roots.kept (hO.block _ h.roots.lt.1 (hd _ (List.mem_append.2 (.inr (by simp))))) (hO.block _ h.roots.lt.2 (hd _ (List.mem_append.2 (.inr (by simp)))))
  apart := h.apart
theorem StateAt.below {w w' : World} {s : SPlace} {Y : S.State} (h : StateAt w s Y) (hb : Below w.heap.size w w') : StateAt w' s Y := h.only (Only.below hb []) (Calm.nil w) (fun _ _ => by simp)

/-- Where a world lies: its block, its state, and that of a transaction's beginning. -/
structure WPlace where
  T : Nat
  s : SPlace
  old : Option (Nat × SPlace)
def oldF : Option (Nat × SPlace) → List Nat
  | none => []
  | some (o, s) => o :: s.F
def oldV : Option (Nat × SPlace) → Value
  | none => .pointer none
  | some (o, _) => .pointer (some ⟨o, 0, none⟩)
def WPlace.F (q : WPlace) : List Nat := q.T :: (q.s.F ++ oldF q.old)
def OldAt (w : World) : Option (Nat × SPlace) → Option S.State → Prop
  | none, none => True
  | some (o, s), some Y => w.heap[o]? = some (.cells #[.pointer (some ⟨s.p.H, 0, none⟩), .pointer (some ⟨s.r, 0, none⟩)] 52 (0, 0)) ∧ StateAt w s Y
  | _, _ => False
structure WorldAt (w : World) (q : WPlace) (Y : S.World) : Prop where
  head : w.heap[q.T]? = some (.cells #[.pointer (some ⟨q.s.p.H, 0, none⟩), .pointer (some ⟨q.s.r, 0, none⟩), oldV q.old] 55 (0, 0))
  now : StateAt w q.s Y.now
  old : OldAt w q.old Y.old
  apart : q.F.Nodup
theorem OldAt.isSome {w : World} {o : Option (Nat × SPlace)} {Y : Option S.State} (h : OldAt w o Y) : o.isSome = Y.isSome := by
  rcases o with _ | ⟨o, s⟩ <;> rcases Y with _ | Y <;> first | rfl | exact h.elim
theorem OldAt.lt {w : World} {o : Option (Nat × SPlace)} {Y : Option S.State} (h : OldAt w o Y) : ∀ k, k ∈ oldF o → k < w.heap.size := fun k hk => by
  rcases o with _ | ⟨o, s⟩
  · cases hk
  · rcases Y with _ | Y
    · exact h.elim
    · rcases List.mem_cons.1 hk with rfl | hk
      · exact (Array.getElem?_eq_some_iff.1 h.1).1
      · exact h.2.lt k hk
theorem OldAt.only {w w' : World} {o : Option (Nat × SPlace)} {Y : Option S.State} {G : List Nat} (h : OldAt w o Y) (hO : Only G w w') (hC : Calm w G) (hd : ∀ k, k ∈ oldF o → k ∉ G) : OldAt w' o Y := by
  have hl := h.lt
  rcases o with _ | ⟨o, s⟩
  · rcases Y with _ | Y
    · trivial
    · exact h.elim
  · rcases Y with _ | Y
    · exact h.elim
    · exact ⟨(hO.block o (hl o (by simp [oldF])) (hd o (by simp [oldF]))).trans h.1, h.2.only hO hC (fun k hk => hd k (by simp [oldF, hk]))⟩
theorem WorldAt.lt {w : World} {q : WPlace} {Y : S.World} (h : WorldAt w q Y) : ∀ k, k ∈ q.F → k < w.heap.size := fun k hk => by
  rcases List.mem_cons.1 hk with rfl | hk
  · exact (Array.getElem?_eq_some_iff.1 h.head).1
  · rcases List.mem_append.1 hk with hk | hk
    · exact h.now.lt k hk
    · exact h.old.lt k hk
theorem WorldAt.only {w w' : World} {q : WPlace} {Y : S.World} {G : List Nat} (h : WorldAt w q Y) (hO : Only G w w') (hC : Calm w G) (hd : ∀ k, k ∈ q.F → k ∉ G) : WorldAt w' q Y where
  head := (hO.block _ (h.lt _ (by simp [WPlace.F])) (hd _ (by simp [WPlace.F]))).trans h.head
  now := h.now.only hO hC (fun k hk => hd k (by simp [WPlace.F, hk]))
  old := h.old.only hO hC (fun k hk => hd k (by simp [WPlace.F, hk]))
  apart := h.apart
theorem WorldAt.below {w w' : World} {q : WPlace} {Y : S.World} (h : WorldAt w q Y) (hb : Below w.heap.size w w') : WorldAt w' q Y := h.only (Only.below hb []) (Calm.nil w) (fun _ _ => by simp)
theorem WorldAt.c0 {w : World} {q : WPlace} {Y : S.World} (h : WorldAt w q Y) : w.cell? ⟨q.T, 0, none⟩ = some (.pointer (some ⟨q.s.p.H, 0, none⟩)) := (heap_cell h.head (o := 0) rfl).1
theorem WorldAt.c1 {w : World} {q : WPlace} {Y : S.World} (h : WorldAt w q Y) : w.cell? ⟨q.T, 1, none⟩ = some (.pointer (some ⟨q.s.r, 0, none⟩)) := (heap_cell h.head (o := 1) rfl).1
theorem WorldAt.c2 {w : World} {q : WPlace} {Y : S.World} (h : WorldAt w q Y) : w.cell? ⟨q.T, 2, none⟩ = some (oldV q.old) := (heap_cell h.head (o := 2) rfl).1

set_option maxRecDepth 100000 in
set_option maxHeartbeats 2000000 in
theorem trans_New (u n : Nat) (hu : u ≤ 1024) (hn : n ≤ 256) (w : World) :
    Calls Tryz.prog 4 #[.int .i64 u, .int .i64 n] w fun e w' => ∃ q, e = .returned (.tuple #[.pointer (some ⟨q.T, 0, none⟩), .int .i64 0]) ∧ WorldAt w' q ⟨⟨S.Heap.new u n, []⟩, none⟩ ∧ (∀ k, k ∈ q.F → w.heap.size ≤ k) ∧ Below w.heap.size w w' := by
  have hN := Hid.mk (obj_New u n hu hn w)
  go_enter Tryz.func4, Tryz.ntmps4
  go_wp2_with (first | (go_at_call 10; (with_reducible refine hN.out.mono ?_); rintro e w1 ⟨p, rfl, hh, hF, hb⟩; have hB1 := Hid.mk hb; have hh1 := Hid.mk hh; have hF1 := Hid.mk hF; clear hh hF; clear hb) | (go_at_call 11; (with_reducible refine (roots_New w1).mono ?_); rintro e w2 ⟨r, mb, rfl, hr, hz1, hz2, hb⟩; have hB2 := Hid.mk hb; have hro := Hid.mk hr; clear hb hr))
  go_ret2
  go_light
  have hb2 := hB2.out.new_ (.cells #[.pointer (some ⟨p.H, 0, none⟩), .pointer (some ⟨r, 0, none⟩), .pointer none] 55)
  have hz := hB1.out.size
  have hz9 := hB2.out.size
  have hrl := hro.out.lt
  have hpl : ∀ k, k ∈ p.F → k < w1.heap.size := hh1.out.lt
  refine ⟨⟨w2.heap.size, ⟨p, r, mb⟩, none⟩, rfl, ⟨heap_alloc_new _ _, ⟨hh1.out.below hb2, S.Heap.new_ok hu, hro.out.below (below_one _ _), ?_⟩, trivial, ?_⟩, fun k hk => ?_, below_then hB1.out hb2⟩
  · refine List.nodup_append.2 ⟨hh1.out.apart, by simp [hro.out.ne], fun a ha b hb => ?_⟩
    have := hpl a ha
    simp only [List.mem_cons, List.not_mem_nil, or_false] at hb
    omega
  · refine List.nodup_cons.2 ⟨fun hk => ?_, ?_⟩
    · simp only [oldF, List.append_nil] at hk
      rcases List.mem_append.1 hk with hk | hk
      · have := hpl _ hk; omega
      · simp only [List.mem_cons, List.not_mem_nil, or_false] at hk; omega
    · simp only [oldF, List.append_nil]
      refine List.nodup_append.2 ⟨hh1.out.apart, by simp [hro.out.ne], fun a ha b hb => ?_⟩
      have := hpl a ha
      simp only [List.mem_cons, List.not_mem_nil, or_false] at hb
      omega
  · rcases List.mem_cons.1 hk with rfl | hk
    · show w.heap.size ≤ w2.heap.size
      omega
    · simp only [oldF, List.append_nil] at hk
      rcases List.mem_append.1 hk with hk | hk
      · exact hF1.out k hk
      · simp only [List.mem_cons, List.not_mem_nil, or_false] at hk; omega

set_option maxHeartbeats 1000000 in
theorem trans_Open (q : WPlace) (Y : S.World) (w : World) (h : WorldAt w q Y) :
    Calls Tryz.prog 9 #[.pointer (some ⟨q.T, 0, none⟩)] w fun e w' => e = .returned (.bool Y.old.isSome) ∧ w' = w := by
  have c2 := h.c2
  rw [← h.old.isSome]
  obtain ⟨T, s, o⟩ := q
  rcases o with _ | ⟨o, s'⟩
  all_goals
    simp only [oldV] at c2
    clear h
    go_enter Tryz.func9, Tryz.ntmps9
    go_wp2
    go_ret
    go_light
    exact ⟨rfl, rfl⟩
set_option maxHeartbeats 1000000 in
theorem trans_Heap (q : WPlace) (Y : S.World) (w : World) (h : WorldAt w q Y) :
    Calls Tryz.prog 12 #[.pointer (some ⟨q.T, 0, none⟩)] w fun e w' => e = .returned (.pointer (some ⟨q.s.p.H, 0, none⟩)) ∧ w' = w := by
  have c0 := h.c0
  clear h
  go_enter Tryz.func12, Tryz.ntmps12
  go_wp2
  go_ret
  go_light
  exact ⟨rfl, rfl⟩
set_option maxHeartbeats 1000000 in
theorem trans_Roots (q : WPlace) (Y : S.World) (w : World) (h : WorldAt w q Y) :
    Calls Tryz.prog 13 #[.pointer (some ⟨q.T, 0, none⟩)] w fun e w' => e = .returned (.pointer (some ⟨q.s.r, 0, none⟩)) ∧ w' = w := by
  have c1 := h.c1
  clear h
  go_enter Tryz.func13, Tryz.ntmps13
  go_wp2
  go_ret
  go_light
  exact ⟨rfl, rfl⟩

theorem S.Heap.ok.perm {X : S.Heap} (h : X.ok) {C : List (S.Text × S.Kinds)} (hC : C.Perm X.cat) : S.Heap.ok { X with cat := C } where
  names := fun x hx => h.names x (hC.mem_iff.1 hx)
  kinds := fun x hx => h.kinds x (hC.mem_iff.1 hx)
  cats := by have := hC.length_eq; have := h.cats; simp only; omega
  keys := (hC.map _).nodup_iff.2 h.keys
  units := h.units
  within := h.within
  apart := h.apart
  things := h.things
  one := h.one
  used := h.used
  slot := h.slot
  alone := h.alone
  vs := h.vs

set_option maxHeartbeats 1000000 in
theorem trans_Begin_open (q : WPlace) (Y : S.World) (w : World) (h : WorldAt w q Y) (ho : Y.old.isSome = true) :
    Calls Tryz.prog 6 #[.pointer (some ⟨q.T, 0, none⟩)] w fun e w' => e = .returned (.int .i64 170) ∧ w' = w := by
  have hO := trans_Open q Y w h
  rw [ho] at hO
  have hO1 := Hid.mk hO; clear hO
  clear h ho
  go_enter Tryz.func6, Tryz.ntmps6
  go_wp2_with (go_at_call 9; (with_reducible refine hO1.out.mono ?_); rintro e w1 ⟨rfl, hw⟩; obtain rfl := hw.symm)
  go_ret
  go_light
  exact ⟨rfl, rfl⟩

set_option maxRecDepth 100000 in
set_option maxHeartbeats 4000000 in
theorem trans_Begin (q : WPlace) (Y : S.World) (w : World) (h : WorldAt w q Y) (ho : Y.old.isSome = false) :
    Calls Tryz.prog 6 #[.pointer (some ⟨q.T, 0, none⟩)] w fun e w' => e = .returned (.int .i64 0) ∧ ∃ o s' C', C'.Perm Y.now.X.cat ∧ WorldAt w' ⟨q.T, q.s, some (o, s')⟩ ⟨Y.now, some ⟨{ Y.now.X with cat := C' }, Y.now.R⟩⟩ ∧ (∀ k, k ∈ o :: s'.F → w.heap.size ≤ k) ∧ Only [q.T] w w' := by
  have hO := trans_Open q Y w h
  rw [ho] at hO
  have hcl := state_clone q.s.p Y.now.X q.s.r q.s.mb Y.now.R w h.now.heap h.now.ok h.now.roots
  have c0 := h.c0
  have c1 := h.c1
  have h1 := Hid.mk h
  have hTl : q.T < w.heap.size := h.lt _ (by simp [WPlace.F])
  have hq : q.old = none := by have := h.old.isSome; rw [ho] at this; simpa using this
  have hq1 := Hid.mk hq
  have ho1 := Hid.mk ho
  have hO1 := Hid.mk hO; have hcl1 := Hid.mk hcl; clear hO hcl
  clear h ho hq
  go_enter Tryz.func6, Tryz.ntmps6
  go_wp2_with (first | (go_at_call 9; (with_reducible refine hO1.out.mono ?_); rintro e w1 ⟨rfl, hw⟩; obtain rfl := hw.symm) | (go_at_call 21; (with_reducible refine hcl1.out.mono ?_); rintro e w2 ⟨p', C', r', mb', rfl, hh, hpe, hr, hnd, hF, hb⟩; have hT2 := (hb.block q.T hTl).trans h1.out.head; obtain ⟨d2, f2⟩ := heap_cell hT2 (o := 2) (v := oldV q.old) rfl; have hTl2 : q.T < w2.heap.size := below_lt hb hTl; have hB2 := Hid.mk hb; have hh1 := Hid.mk hh; have hpe1 := Hid.mk hpe; have hr1 := Hid.mk hr; have hnd1 := Hid.mk hnd; have hF1 := Hid.mk hF; have hT21 := Hid.mk hT2; clear hh hpe hr hnd hF hT2; clear hb))
  go_ret
  go_light
  have hz := hB2.out.size
  have hl : ∀ k, k ∈ p'.F ++ [r', mb'] → k < w2.heap.size := fun k hk => by
    rcases List.mem_append.1 hk with hk | hk
    · exact hh1.out.lt k hk
    · simp only [List.mem_cons, List.not_mem_nil, or_false] at hk
      rcases hk with rfl | rfl
      · exact hr1.out.lt.1
      · exact hr1.out.lt.2
  have hsz : (w2.setCell ⟨q.T, 2, none⟩ (.pointer (some ⟨w2.heap.size, 0, none⟩))).heap.size = w2.heap.size := (KeepsWalks.setCell w2 ⟨q.T, 2, none⟩ (.pointer (some ⟨w2.heap.size, 0, none⟩))).size |> fun h => by have := World.size_setCell w2 ⟨q.T, 2, none⟩ (.pointer (some ⟨w2.heap.size, 0, none⟩)); exact this
  have hOT := ((Only.refl [q.T] w2).set (k := q.T) (.inl (by simp)) 2 (.pointer (some ⟨w2.heap.size, 0, none⟩))).alloc (.cells #[.pointer (some ⟨p'.H, 0, none⟩), .pointer (some ⟨r', 0, none⟩)] 52)
  have hCT := calm_cells hT21.out (by decide) (by decide)
  have hW := h1.out.below hB2.out
  have hTs : q.T ∉ q.s.F := by
    have := h1.out.apart
    simp only [WPlace.F, List.nodup_cons, List.mem_append, not_or] at this
    exact this.1.1
  have hS' : StateAt w2 ⟨p', r', mb'⟩ ⟨{ Y.now.X with cat := C' }, Y.now.R⟩ := ⟨hh1.out, h1.out.now.ok.perm hpe1.out, hr1.out, hnd1.out⟩
  refine ⟨rfl, w2.heap.size, ⟨p', r', mb'⟩, C', hpe1.out, ⟨?_, hW.now.only hOT hCT (fun k hk => by simp only [List.mem_singleton]; rintro rfl; exact hTs hk), ⟨?_, hS'.only hOT hCT (fun k hk => ?_)⟩, ?_⟩, fun k hk => ?_, ?_⟩
  · exact (Below.heap_alloc _ _ _ (by rw [hsz]; exact hTl2)).trans (heap_set_at hT21.out _)
  · have := heap_alloc_new (w2.setCell ⟨q.T, 2, none⟩ (.pointer (some ⟨w2.heap.size, 0, none⟩))) (.cells #[.pointer (some ⟨p'.H, 0, none⟩), .pointer (some ⟨r', 0, none⟩)] 52)
    rwa [hsz] at this
  · have := hF1.out k hk
    simp only [List.mem_singleton]
    omega
  · have ha := h1.out.apart
    have hlw := h1.out.lt
    simp only [WPlace.F, hq1.out, oldF, List.append_nil] at ha
    have e : WPlace.F ⟨q.T, q.s, some (w2.heap.size, ⟨p', r', mb'⟩)⟩ = (q.T :: q.s.F) ++ (w2.heap.size :: (p'.F ++ [r', mb'])) := by simp [WPlace.F, oldF, SPlace.F]
    rw [e]
    refine List.nodup_append.2 ⟨ha, List.nodup_cons.2 ⟨fun hk => by have := hl _ hk; omega, hnd1.out⟩, fun a ha b hb => ?_⟩
    have h5 : a < w.heap.size := hlw a (by simp only [WPlace.F, hq1.out, oldF, List.append_nil]; exact ha)
    rcases List.mem_cons.1 hb with rfl | hb
    · omega
    · have := hF1.out b hb; omega
  · rcases List.mem_cons.1 hk with rfl | hk
    · exact hz
    · exact hF1.out k hk
  · exact (Only.below hB2.out [q.T]).trans hOT (fun b hb => .inl hb)
end Go.Proofs.YtpfbfcnfldmfcaaGreat
