/-
  A heap whose catalogue is turned; Define keeps a heap right.
-/
import Derived.Test.YtdokiaicheillaaGreatCreate
namespace Go.Proofs.YtdokiaicheillaaGreat
open Go.RowKit

theorem HeapAt.setCat {w w' : World} {p : Parts} {X : S.Heap} {ps' : List Spot} {C' : List (S.Text × S.Kinds)} {G : List Nat} (h : HeapAt w p X) (hO : Only G w w') (hG : ∀ k, k ∈ G → k ∈ catF p.c p.mb p.ps) (hc : CatAt w' p.c p.mb ps' C') (hn : ∀ k, k ∈ catF p.c p.mb ps' → k ∈ catF p.c p.mb p.ps ∨ w.heap.size ≤ k) :
    HeapAt w' { p with ps := ps' } { X with cat := C' } := by
  have hs := Parts.sep h.apart
  have hk : ∀ k, k ∈ p.F → k ∉ catF p.c p.mb p.ps → w'.heap[k]? = w.heap[k]? := fun k hk hn => hO.block k (h.lt k hk) (fun hg => hn (hG k hg))
  refine ⟨(hk _ (mem_F.2 (.inl rfl)) hs.Hc).trans h.head, hc, h.blk.kept (hk _ (mem_F.2 (.inr (.inr (.inl rfl)))) (fun e => (hs.c _ e).1 rfl)) (hk _ (mem_F.2 (.inr (.inr (.inr (.inl rfl))))) (fun e => (hs.c _ e).2.1 rfl)),
    h.slt.kept (hk _ (mem_F.2 (.inr (.inr (.inr (.inr (.inl rfl)))))) (fun e => (hs.c _ e).2.2.1 rfl)) (fun k hk' => hk k (mem_F.2 (.inr (.inr (.inr (.inr (.inr (.inl hk'))))))) (fun e => (hs.c _ e).2.2.2.1 hk')),
    h.mem.kept (fun k hk' => hk k (mem_F.2 (.inr (.inr (.inr (.inr (.inr (.inr hk'))))))) (fun e => (hs.c _ e).2.2.2.2 hk')), ?_⟩
  have hl := h.lt
  have hne : ∀ k, k ∈ p.F → k ∉ catF p.c p.mb p.ps → k ∉ catF p.c p.mb ps' := fun k hk hn' hc' => by
    rcases hn k hc' with h1 | h1
    · exact hn' h1
    · have := hl k hk; omega
  have ha := h.apart
  simp only [Parts.F, List.nodup_cons, List.mem_append, not_or] at ha ⊢
  obtain ⟨⟨h1, h2⟩, h3⟩ := ha
  obtain ⟨-, h5, h6⟩ := List.nodup_append.1 h3
  refine ⟨⟨hne _ (mem_F.2 (.inl rfl)) h1, h2⟩, List.nodup_append.2 ⟨hc.apart, h5, fun a ha b hb e => ?_⟩⟩
  subst e
  have hbF : a ∈ p.F := by simp only [Parts.F, List.mem_cons, List.mem_append]; exact .inr (.inr (by simpa using hb))
  exact hne a hbF (fun hc => h6 a hc a hb rfl) ha

theorem S.Heap.ok.define {X : S.Heap} (h : X.ok) (name : S.Text) (l : List S.Field) : S.Heap.ok { X with cat := (S.define X.cat name l).1 } := by
  cases h1 : S.nameOk name && S.right l with
  | false =>
    have : S.define X.cat name l = (X.cat, 60) := by simp [S.define, h1]
    rw [this]
    exact h
  | true =>
    cases h2 : (getK X.cat name).isSome || decide (16 ≤ X.cat.length) with
    | true =>
      have : S.define X.cat name l = (X.cat, 91) := by simp [S.define, h1, h2]
      rw [this]
      exact h
    | false =>
      have : S.define X.cat name l = (X.cat ++ [(name, ⟨1, [S.same l]⟩)], 0) := by simp [S.define, h1, h2]
      rw [this]
      simp only [Bool.and_eq_true] at h1
      simp only [Bool.or_eq_false_iff, Option.isSome_eq_false_iff, Option.isNone_iff_eq_none, decide_eq_false_iff_not] at h2
      refine ⟨fun x hx => ?_, fun x hx => ?_, by simp; omega, ?_, h.units, h.within, h.apart, h.things, h.one, h.used, h.slot, h.alone, h.vs⟩
      · rcases List.mem_append.1 hx with hx | hx
        · exact h.names x hx
        · simp only [List.mem_singleton] at hx
          subst hx
          exact h1.1
      · rcases List.mem_append.1 hx with hx | hx
        · exact h.kinds x hx
        · simp only [List.mem_singleton] at hx
          subst hx
          refine ⟨⟨by simp, by simp, by simp⟩, fun T hT => ?_⟩
          simp only [List.mem_singleton] at hT
          subst hT
          simp [S.same, h1.2]
      · rw [List.map_append, List.nodup_append]
        refine ⟨h.keys, by simp, fun a ha b hb e => ?_⟩
        simp only [List.map_cons, List.map_nil, List.mem_singleton] at hb
        subst hb
        obtain ⟨x, hx, rfl⟩ := List.mem_map.1 ha
        exact getK_none_iff.1 h2.1 x hx e.symm

set_option maxHeartbeats 1000000 in
theorem obj_Schema (p : Parts) (X : S.Heap) (w : World) (h : HeapAt w p X) :
    Calls Tryz.prog 14 #[.pointer (some ⟨p.H, 0, none⟩)] w fun e w' => e = .returned (.pointer (some ⟨p.c, 0, none⟩)) ∧ w' = w := by
  have c0 := h.c0
  clear h
  go_enter Tryz.func14, Tryz.ntmps14
  go_wp2
  go_ret
  go_light
  exact ⟨rfl, rfl⟩

/-- Define on a heap's catalogue. -/
theorem obj_Define (p : Parts) (X : S.Heap) (name : S.Text) (A : Option Addr) (cc : Nat) (l : List S.Field) (w : World) (h : HeapAt w p X) (hX : X.ok) (hn : name.length ≤ 1073741824) (hl : Fields w.cell? A l) (hA : A = none → cc = 0) (hs : Short l) :
    Calls Tryz.prog 15 #[.pointer (some ⟨p.c, 0, none⟩), .string (S.mk name), .slice A l.length cc] w fun e w' => e = .returned (.int .i64 (S.define X.cat name l).2) ∧ ∃ ps', HeapAt w' { p with ps := ps' } { X with cat := (S.define X.cat name l).1 } ∧ S.Heap.ok { X with cat := (S.define X.cat name l).1 } ∧
      (∀ k, k ∈ Parts.F { p with ps := ps' } → k ∈ p.F ∨ w.heap.size ≤ k) ∧ Only p.F w w' := by
  have hmb : p.mb ∈ catF p.c p.mb p.ps := by simp [catF]
  refine (schema_Define p.c p.mb p.ps X.cat name A cc l w h.cat (by have := hX.cats; omega) hn hl hA hs).mono fun e w' ⟨e1, ps', h1, h2, h3⟩ => ⟨e1, ps', h.setCat h3 (fun k hk => by simp only [List.mem_singleton] at hk; rw [hk]; exact hmb) h1 h2, hX.define name l, fun k hk => ?_, h3.weak (fun k hk => by simp only [List.mem_singleton] at hk; rw [hk]; exact mem_F.2 (.inr (.inl hmb)))⟩
  rcases mem_F.1 hk with rfl | hk | hk
  · exact .inl (mem_F.2 (.inl rfl))
  · rcases h2 k hk with h4 | h4
    · exact .inl (mem_F.2 (.inr (.inl h4)))
    · exact .inr h4
  · exact .inl (mem_F.2 (.inr (.inr hk)))
end Go.Proofs.YtdokiaicheillaaGreat
