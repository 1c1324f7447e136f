/-
  slices.Sorted, by the shelf's contract of slices.Sort.
-/
import Derived.Test.YtpfbfcnfldmfcaaGreatKeys
import Derived.Test.YtpfbfcnfldmfcaaGreatShelf
namespace Go.Proofs.YtpfbfcnfldmfcaaGreat
open Go.RowKit Go.Shelf Go.Sort

theorem own_holds {α : Type} [Inhabited α] {w : World} {base e n cap g : Nat} {enc : α → Value} {xs : List α} (h : w.ownsRow base e 1 (.slice (some ⟨g, 0, none⟩) n cap) n (xs.map enc)) : Holds enc w g 0 xs.toArray := by
  intro j hj
  have hj' : j < xs.length := by simpa using hj
  rcases h.2 with ⟨e1, _⟩ | ⟨g', cap', cur, e1, _, hh, _, _, hs, ht⟩
  · cases e1
  · simp only [Value.slice.injEq, Option.some.injEq, Addr.mk.injEq, and_true, true_and] at e1
    obtain ⟨rfl, rfl⟩ := e1
    constructor
    · have hq : (cur.toList.take (n * 1))[j]? = some (enc xs[j]) := by rw [ht]; simp [hj']
      rw [List.getElem?_take] at hq
      split at hq
      · simp only [World.cell?, hh, Option.isSome_none, Bool.false_eq_true, if_false, Nat.zero_add]
        rw [getElem!_pos _ j hj]
        simpa using hq
      · cases hq
    · simp [World.frozen?, hh]

theorem own_sort {α : Type} [Inhabited α] {w w' : World} {base e n cap g k : Nat} {enc : α → Value} {xs ys : List α} {os : Array Obj} (h : w.ownsRow base e 1 (.slice (some ⟨g, 0, none⟩) n cap) n (xs.map enc)) (hw : w' = grow (putRow enc (Sort.ahead w k) g 0 ys.toArray) os) (hl : ys.length = xs.length) :
    w'.ownsRow base e 1 (.slice (some ⟨g, 0, none⟩) n cap) n (ys.map enc) ∧ w.grownBy w' (some g) := by
  have hn : xs.length = n := by have := h.1; simpa using this
  rcases h.2 with ⟨e1, _⟩ | ⟨g', cap', cur, e1, hb, hh, h1, h2, hs, ht⟩
  · cases e1
  · simp only [Value.slice.injEq, Option.some.injEq, Addr.mk.injEq, and_true, true_and] at e1
    obtain ⟨rfl, rfl⟩ := e1
    have hlt := (Array.getElem?_eq_some_iff.1 hh).1
    subst hw
    refine ⟨⟨by simp [hl, hn], .inr ⟨g, cap, putCells enc 0 ys.toArray cur, rfl, hb, ?_, h1, h2, by simp [putCells, hs], ?_⟩⟩, ⟨rfl, rfl, rfl, ?_, ?_⟩⟩
    · simp only [grow, putRow, mapBlock, Sort.ahead]
      rw [Array.getElem?_append_left (by simpa using hlt), Array.getElem?_modify, if_pos rfl, hh]
      rfl
    · apply List.ext_getElem?
      intro j
      rw [List.getElem?_take]
      by_cases hj : j < n
      · have hj2 : j < ys.length := by omega
        have hj3 : j < cur.size := by omega
        simp only [Nat.mul_one, hj, if_true, Array.getElem?_toList, putCells, Array.getElem?_mapIdx, List.getElem?_map]
        simp [hj3, hj2]
      · have hj2 : ¬ j < (ys.map enc).length := by rw [List.length_map]; omega
        rw [if_neg (by omega), List.getElem?_eq_none (by omega)]
    · simp [grow, putRow, mapBlock, Sort.ahead]
    · intro i hi hne
      simp only [grow, putRow, mapBlock, Sort.ahead]
      rw [Array.getElem?_append_left (by simpa using hi), Array.getElem?_modify, if_neg (fun e => hne (by rw [e]))]
end Go.Proofs.YtpfbfcnfldmfcaaGreat
