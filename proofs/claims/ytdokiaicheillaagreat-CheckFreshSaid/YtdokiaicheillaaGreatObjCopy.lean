/-
  The walk of object's Copy.
-/
import Derived.Test.YtdokiaicheillaaGreatCreateS
import Derived.Deep.DeepMust
import Derived.Test.YtdokiaicheillaaGreatCreate
namespace Go.Proofs.YtdokiaicheillaaGreat
open Go.RowKit

/-- A type that is laid into a catalogue's map. -/
theorem cat_add {w w' : World} {c mb sb : Nat} {v : Value} {ps : List Spot} {C : List (S.Text × S.Kinds)} {name : S.Text} {k : S.Kinds} (h : CatAt w c mb ps C) (hO : Only [mb] w w') (hm : MapAt encT encB w' mb (ps.map (fun p => (p.1, p.2.1)) ++ [(name, sb)]))
    (hs : SortAt w' sb v k) (h1 : w.heap.size ≤ sb) (h2 : ∀ k, k ∈ rowF v → w.heap.size ≤ k ∧ k ≠ sb) : CatAt w' c mb (ps ++ [(name, sb, v)]) (C ++ [(name, k)]) := by
  have hmc : Calm w [mb] := by obtain ⟨a, cl, hm⟩ := h.map.obj; exact calm_map hm
  have hap := h.apart
  simp only [catF, List.nodup_cons, List.mem_cons, List.mem_flatMap, not_or] at hap
  obtain ⟨⟨a1, a2⟩, a3, a4⟩ := hap
  have hlen : ps.length = C.length := by have := congrArg List.length h.names; simpa using this
  refine ⟨(hO.block c (h.lt c (by simp [catF])) (by simpa using a1)).trans h.head, by simpa using hm, by simp [h.names], fun i p k hp hk => ?_, ?_⟩
  · by_cases hi : i < ps.length
    · rw [List.getElem?_append_left hi] at hp
      rw [List.getElem?_append_left (by omega)] at hk
      have hin : p ∈ ps := List.mem_of_getElem? hp
      have hb : ∀ k, (k = p.2.1 ∨ k ∈ rowF p.2.2) → w'.heap[k]? = w.heap[k]? := fun k hk => hO.block k (h.lt k (by simp only [catF, List.mem_cons, List.mem_flatMap]; exact .inr (.inr ⟨p, hin, hk⟩))) (by
        simp only [List.mem_singleton]
        rintro rfl
        exact a3 ⟨p, hin, hk⟩)
      exact (h.sorts i p k hp hk).kept (hb _ (.inl rfl)) (fun k hk => hb k (.inr hk)) (hmc.keeps hO)
    · have hi2 : i = ps.length := by
        have := (List.getElem?_eq_some_iff.1 hp).1
        simp at this
        omega
      subst hi2
      rw [List.getElem?_append_right (Nat.le_refl _), Nat.sub_self] at hp
      rw [List.getElem?_append_right (by omega), show ps.length - C.length = 0 by omega] at hk
      simp only [List.getElem?_cons_zero, Option.some.injEq] at hp hk
      subst hp
      subst hk
      exact hs
  · have hap := h.apart
    have e : catF c mb (ps ++ [(name, sb, v)]) = catF c mb ps ++ (sb :: rowF v) := by simp [catF]
    rw [e]
    refine List.nodup_append.2 ⟨hap, List.nodup_cons.2 ⟨fun hk => (h2 sb hk).2 rfl, by unfold rowF; cases v.ownBlock <;> simp⟩, fun a ha b hb => ?_⟩
    have := h.lt a ha
    rcases List.mem_cons.1 hb with rfl | hb
    · omega
    · have := (h2 b hb).1
      omega

theorem IterAt.kept {K V : Type} {enc : K → Value} {dec : V → Value} {w w' : World} {r mb : Nat} {E : List (Nat × K × V)} {clock : Nat} {todo : List (K × V)} (h : IterAt enc dec w r mb E clock todo) (h1 : w'.heap[r]? = w.heap[r]?) (h2 : w'.heap[mb]? = w.heap[mb]?) : IterAt enc dec w' r mb E clock todo := by
  obtain ⟨hE, seen, last, hr, hl, e⟩ := h
  exact ⟨⟨h2.trans hE.heap, hE.old, hE.born, hE.keys⟩, seen, last, h1.trans hr, hl, e⟩
theorem IterAt.lt {K V : Type} {enc : K → Value} {dec : V → Value} {w : World} {r mb : Nat} {E : List (Nat × K × V)} {clock : Nat} {todo : List (K × V)} (h : IterAt enc dec w r mb E clock todo) : r < w.heap.size ∧ mb < w.heap.size := by
  obtain ⟨hE, seen, last, hr, hl, e⟩ := h
  exact ⟨(Array.getElem?_eq_some_iff.1 hr).1, (Array.getElem?_eq_some_iff.1 hE.heap).1⟩
theorem IterAt.same {K V : Type} {enc : K → Value} {dec : V → Value} {w : World} {r mb : Nat} {E : List (Nat × K × V)} {clock : Nat} {todo : List (K × V)} (h : IterAt enc dec w r mb E clock todo) : EntsAt enc dec w mb E clock := h.1

theorem CatAt.ckeys {w : World} {c mb : Nat} {ps : List Spot} {C : List (S.Text × S.Kinds)} (h : CatAt w c mb ps C) : (C.map (·.1)).Nodup := by
  have h1 := h.map.keys
  rw [List.map_map] at h1
  rw [← h.names]
  exact h1
/-- What is known of an entry of a catalogue's map. -/
theorem CatAt.entry {w : World} {c mb : Nat} {ps : List Spot} {C : List (S.Text × S.Kinds)} (h : CatAt w c mb ps C) {x : S.Text × Nat} (hx : x ∈ ps.map fun p => (p.1, p.2.1)) : ∃ v k, SortAt w x.2 v k ∧ (x.1, k) ∈ C ∧ x.2 ∈ catF c mb ps ∧ (∀ b, b ∈ rowF v → b ∈ catF c mb ps) := by
  obtain ⟨p, hp, rfl⟩ := List.mem_map.1 hx
  obtain ⟨k, hk, hs⟩ := h.spot hp
  exact ⟨_, k, hs, hk, by simp only [catF, List.mem_cons, List.mem_flatMap]; exact .inr (.inr ⟨p, hp, .inl rfl⟩), fun b hb => by simp only [catF, List.mem_cons, List.mem_flatMap]; exact .inr (.inr ⟨p, hp, .inr hb⟩)⟩

/-- What is still to be copied. -/
def restC (C : List (S.Text × S.Kinds)) (todo : List (S.Text × Nat)) : List (S.Text × S.Kinds) := todo.map fun x => (x.1, (getK C x.1).getD ⟨0, []⟩)
theorem restC_perm {C : List (S.Text × S.Kinds)} {a b : List (S.Text × Nat)} (h : a.Perm b) : (restC C a).Perm (restC C b) := h.map _
theorem restC_all {w : World} {c mb : Nat} {ps : List Spot} {C : List (S.Text × S.Kinds)} (h : CatAt w c mb ps C) : restC C (ps.map fun p => (p.1, p.2.1)) = C := by
  have hk := h.ckeys
  have h1 : restC C (ps.map fun p => (p.1, p.2.1)) = (ps.map (·.1)).map fun a => (a, (getK C a).getD ⟨0, []⟩) := by simp [restC, List.map_map, Function.comp_def]
  rw [h1, h.names, List.map_map]
  refine (List.map_congr_left (fun x hx => ?_)).trans (List.map_id C)
  simp only [Function.comp_apply, getK_of_mem hk (show (x.1, x.2) ∈ C from hx)]
  rfl

theorem own_rows {w : World} {v : Value} {n : Nat} {rows : List (List Value)} {tabs : List S.Table} (h : w.ownsRow 0 96 3 v n rows.flatten) (hn : rows.length = n) (ht : tabs.length = n) (hT : ∀ (i : Nat) (r : List Value) (T : S.Table), rows[i]? = some r → tabs[i]? = some T → TabVals w r T) :
    (∀ r, r ∈ rows → r.length = 3) ∧ (∀ r, r ∈ rows → ∀ u, u ∈ r → u.oneCell' = true) := by
  have h1 : ∀ r, r ∈ rows → ∃ T, TabVals w r T := fun r hr => by
    obtain ⟨i, hi⟩ := List.getElem?_of_mem hr
    have hi2 := (List.getElem?_eq_some_iff.1 hi).1
    exact ⟨_, hT i r _ hi (List.getElem?_eq_getElem (by omega))⟩
  constructor
  · intro r hr
    obtain ⟨T, vo, vn, vm, e, -⟩ := h1 r hr
    rw [e]
    rfl
  · intro r hr u hu
    obtain ⟨T, vo, vn, vm, e, ⟨A1, c1, e1, -⟩, ⟨A2, c2, e2, -⟩, ⟨A3, c3, e3, -⟩⟩ := h1 r hr
    rw [e] at hu
    simp only [List.mem_cons, List.not_mem_nil, or_false] at hu
    rcases hu with rfl | rfl | rfl
    · rw [e1]; rfl
    · rw [e2]; rfl
    · rw [e3]; rfl

end Go.Proofs.YtdokiaicheillaaGreat

namespace Go.Proofs.YtdokiaicheillaaGreat
open Go.RowKit

theorem flat_one (l : List Value) : (l.map fun v => [v]).flatten = l := by
  induction l with
  | nil => rfl
  | cons x r ih => simp [ih]
/-- slices.Clone of bytes. -/
theorem clone_bytes (A : Option Addr) (c : Nat) (l : List UInt8) (w : World) (hr : Bytes w.cell? A l) (hA : A = none → c = 0) :
    Calls Tryz.prog 119 #[.slice A l.length c] w fun e w' => ∃ v, e = .returned v ∧ w'.ownsRow w.heap.size 5 1 v l.length (l.map encByte) ∧ Below w.heap.size w w' := by
  have h := clone_byte A c (l.map fun c => [encByte c]) w (Row.id.1 hr) (fun r hr => by obtain ⟨x, -, rfl⟩ := List.mem_map.1 hr; rfl) (fun r hr u hu => by obtain ⟨x, -, rfl⟩ := List.mem_map.1 hr; simp only [List.mem_singleton] at hu; rw [hu]; rfl) hA
  have e1 : (l.map fun c => [encByte c]).flatten = l.map encByte := by
    have := flat_one (l.map encByte)
    rwa [List.map_map] at this
  rw [e1, List.length_map] at h
  exact h
theorem own_bytes {w : World} {base n : Nat} {v : Value} {l : List UInt8} (h : w.ownsRow base 5 1 v n (l.map encByte)) (hn : n = l.length) (hl : l.length ≤ 1073741824) : ∃ A c, v = .slice A n c ∧ Bytes w.cell? A l ∧ (A = none → c = 0) := by
  subst hn
  rcases h.2 with ⟨rfl, e⟩ | ⟨g, cap, cur, rfl, _⟩
  · have : l = [] := by simpa using e
    subst this
    exact ⟨none, 0, rfl, Row.nil _ _ _ _, fun _ => rfl⟩
  · exact ⟨_, _, rfl, bytes_of_own h hl, fun e => by cases e⟩

theorem heap_joined {W : World} {p : Parts} {X : S.Heap} (h0 : W.heap[p.H]? = some (.cells #[.pointer (some ⟨p.c, 0, none⟩), .pointer (some ⟨p.b, 0, none⟩), .pointer (some ⟨p.s, 0, none⟩), p.vm] 83 (0, 0)))
    (h1 : CatAt W p.c p.mb p.ps X.cat) (h2 : BlocksAt W p.b p.bb X.units X.blks) (h3 : SlotsAt W p.s p.vs X.slots) (h4 : MemAt W p.vm X.units X.things)
    (n1 n2 n3 : Nat) (hc : ∀ k, k ∈ catF p.c p.mb p.ps → k < n1) (hb : n1 ≤ p.b ∧ n1 ≤ p.bb ∧ p.b < n2 ∧ p.bb < n2) (hs : n2 ≤ p.s ∧ p.s < n3) (hv : ∀ k, k ∈ rowF p.vs → n2 ≤ k ∧ k < n3 ∧ k ≠ p.s) (hm : ∀ k, k ∈ rowF p.vm → n3 ≤ k ∧ k < p.H) (hH : n3 ≤ p.H) : HeapAt W p X := by
  refine ⟨h0, h1, h2, h3, h4, ?_⟩
  have hbb := h2.ne
  simp only [Parts.F, List.nodup_cons, List.mem_cons, List.mem_append, not_or, List.nodup_append]
  have hnv : ∀ k, k < n2 ∨ n3 ≤ k ∨ k = p.s → k ∉ rowF p.vs := fun k hk h => by have := hv k h; omega
  have hnm : ∀ k, k < n3 ∨ p.H ≤ k → k ∉ rowF p.vm := fun k hk h => by have := hm k h; omega
  refine ⟨⟨fun h => by have := hc _ h; omega, by omega, by omega, by omega, hnv _ (by omega), hnm _ (by omega)⟩, h1.apart, ⟨⟨hbb, by omega, hnv _ (by omega), hnm _ (by omega)⟩, ⟨by omega, hnv _ (by omega), hnm _ (by omega)⟩, ⟨hnv _ (by omega), hnm _ (by omega)⟩, rowF_nodup _, rowF_nodup _, fun a ha b hb => by have := hv a ha; have := hm b hb; omega⟩, fun a ha b hb => ?_⟩
  have := hc a ha
  rcases hb with rfl | rfl | rfl | hb | hb
  · omega
  · omega
  · omega
  · have := hv b hb; omega
  · have := hm b hb; omega

end Go.Proofs.YtdokiaicheillaaGreat
