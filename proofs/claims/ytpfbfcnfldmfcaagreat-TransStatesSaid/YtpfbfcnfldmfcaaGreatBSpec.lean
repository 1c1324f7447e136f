/-
  The plain side of the layer of blocks: what is gone through, and the pieces that are free.
-/
import Derived.Test.YtpfbfcnfldmfcaaGreatSorted
namespace Go.Proofs.YtpfbfcnfldmfcaaGreat.S
open Go.RowKit

/-- Blocks in order. -/
def each (l : List (Int × Int)) : List (Int × Int) := ((l.map (·.1)).mergeSort leI).map fun k => (k, (getK l k).getD 0)
theorem each_length (l : List (Int × Int)) : (each l).length = l.length := by simp [each, List.length_mergeSort]

def gaps : Int → List (Int × Int) → List (Int × Int)
  | _, [] => []
  | e, x :: r => (if e < x.1 then [(e, x.1 - e)] else []) ++ gaps (x.1 + x.2) r
def endOf : Int → List (Int × Int) → Int
  | e, [] => e
  | _, x :: r => endOf (x.1 + x.2) r
theorem endOf_append : ∀ (l m : List (Int × Int)) (e : Int), endOf e (l ++ m) = endOf (endOf e l) m
  | [], _, _ => rfl
  | x :: r, m, e => by simp [endOf, endOf_append r]
theorem gaps_append : ∀ (l m : List (Int × Int)) (e : Int), gaps e (l ++ m) = gaps e l ++ gaps (endOf e l) m
  | [], _, _ => rfl
  | x :: r, m, e => by simp [gaps, endOf, gaps_append r]
/-- The pieces that are free, of so many units. -/
def holes (u : Int) (l : List (Int × Int)) : List (Int × Int) := gaps 0 l ++ (if endOf 0 l < u then [(endOf 0 l, u - endOf 0 l)] else [])
theorem gaps_length : ∀ (l : List (Int × Int)) (e : Int), (gaps e l).length ≤ l.length
  | [], _ => by simp [gaps]
  | x :: r, e => by
    have := gaps_length r (x.1 + x.2)
    simp only [gaps, List.length_append, List.length_cons]
    split <;> simp <;> omega
theorem holes_length (u : Int) (l : List (Int × Int)) : (holes u l).length ≤ l.length + 1 := by
  have := gaps_length l 0
  simp only [holes, List.length_append]
  split <;> simp <;> omega
/-- Blocks that lie within u units. -/
def within (u : Int) (l : List (Int × Int)) : Prop := ∀ x, x ∈ l → 0 ≤ x.1 ∧ 1 ≤ x.2 ∧ x.1 + x.2 ≤ u
theorem getK_mem {K V : Type} [DecidableEq K] {l : List (K × V)} {k : K} (h : k ∈ l.map (·.1)) : ∃ v, getK l k = some v ∧ (k, v) ∈ l := by
  obtain ⟨x, hx, rfl⟩ := List.mem_map.1 h
  have hs : (l.find? (fun y => decide (x.1 = y.1))).isSome := by rw [List.find?_isSome]; exact ⟨x, hx, by simp⟩
  obtain ⟨y, hy⟩ := Option.isSome_iff_exists.1 hs
  refine ⟨y.2, by simp [getK, hy], ?_⟩
  have h1 := List.find?_some hy
  have h2 := List.mem_of_find?_eq_some hy
  simp only [decide_eq_true_eq] at h1
  rw [h1]; exact h2
theorem mem_each {l : List (Int × Int)} {x : Int × Int} (h : x ∈ each l) : x ∈ l := by
  obtain ⟨k, hk, rfl⟩ := List.mem_map.1 h
  obtain ⟨v, hv, hm⟩ := getK_mem (l := l) (k := k) ((List.mergeSort_perm _ _).mem_iff.1 hk)
  rw [hv]; exact hm
theorem within_each {u : Int} {l : List (Int × Int)} (h : within u l) : within u (each l) := fun x hx => h x (mem_each hx)
theorem endOf_bounds {u : Int} : ∀ {l : List (Int × Int)} {e : Int}, within u l → 0 ≤ e → e ≤ u → 0 ≤ endOf e l ∧ endOf e l ≤ u
  | [], e, _, h0, h1 => ⟨h0, h1⟩
  | x :: r, e, hw, _, _ => by
    have h := hw x (by simp)
    exact endOf_bounds (l := r) (fun y hy => hw y (by simp [hy])) (by omega) (by omega)
theorem within_take {u : Int} {l : List (Int × Int)} (h : within u l) (i : Nat) : within u (l.take i) := fun x hx => h x (List.mem_of_mem_take hx)
theorem each_getK {l : List (Int × Int)} {i : Nat} {k : Int} (h : ((l.map (·.1)).mergeSort leI)[i]? = some k) : ∃ v, getK l k = some v ∧ (each l)[i]? = some (k, v) := by
  have hk : k ∈ l.map (·.1) := (List.mergeSort_perm _ _).mem_iff.1 (List.mem_of_getElem? h)
  obtain ⟨v, hv, -⟩ := getK_mem hk
  exact ⟨v, hv, by simp [each, h, hv]⟩
end Go.Proofs.YtpfbfcnfldmfcaaGreat.S
