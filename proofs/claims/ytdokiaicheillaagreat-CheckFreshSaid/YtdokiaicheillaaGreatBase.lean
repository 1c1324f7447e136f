/-
  Words and lemmas on memory that all walks of this claim use; no program in sight.
-/
import Derived.WalkKit
import Derived.WalkSpells
import Derived.WalkLawsBesides
import Derived.Deep.Light
import Derived.Maps.AppendAt
namespace Go.Proofs.YtdokiaicheillaaGreat.S

/-- The bytes of a text. -/
abbrev tx (s : ByteArray) : List UInt8 := s.data.toList
/-- Bytes as a text. -/
abbrev mk (l : List UInt8) : ByteArray := ⟨l.toArray⟩
theorem tx_mk (l : List UInt8) : tx (mk l) = l := rfl
theorem mk_tx (s : ByteArray) : mk (tx s) = s := rfl
theorem tx_length (s : ByteArray) : (tx s).length = s.size := rfl

abbrev Text := List UInt8

structure Field where
  name : Text
  kind : Int
  long : Int
deriving DecidableEq, Inhabited

structure Val where
  kind : Int
  bits : Int
  text : Text
deriving DecidableEq, Inhabited

structure Handle where
  slot : Int
  gen : Int
deriving DecidableEq, Inhabited

structure Move where
  src : Int
  dflt : Val
deriving DecidableEq, Inhabited

structure Table where
  old : List Field
  new : List Field
  moves : List Move
deriving DecidableEq, Inhabited

def noVal : Val := ⟨0, 0, []⟩
def noHandle : Handle := ⟨0, 0⟩
def noTable : Table := ⟨[], [], []⟩

/-! ### word -/
def size (k : Int) : Nat :=
  if k = 4 ∨ k = 8 ∨ k = 10 ∨ k = 11 then 8 else if k = 3 ∨ k = 7 then 4 else if k = 2 ∨ k = 6 then 2 else if k = 1 ∨ k = 5 ∨ k = 9 then 1 else 0
theorem size_le (k : Int) : size k ≤ 8 := by unfold size; (repeat' split) <;> omega

/-! ### kind -/
def may (f : Field) : Bool := if f.kind = 12 then decide (1 ≤ f.long) && decide (f.long ≤ 64) else decide (0 < size f.kind) && f.long == 0
def long (f : Field) : Nat := if may f then (if f.kind = 12 then f.long.toNat else size f.kind) else 0
theorem long_le (f : Field) : long f ≤ 64 := by
  unfold long
  have := size_le f.kind
  split
  · rename_i h
    split
    · rename_i h12
      simp only [may, h12, if_true, Bool.and_eq_true, decide_eq_true_eq] at h
      omega
    · omega
  · omega

theorem may_12 {f : Field} (h : may f = true) (h12 : f.kind = 12) : 1 ≤ f.long ∧ f.long ≤ 64 := by
  simp only [may, h12, if_true, Bool.and_eq_true, decide_eq_true_eq] at h
  exact h
theorem long_no {f : Field} (h : (!may f) = true) : (long f : Int) = 0 := by simp_all [long]
theorem long_12 {f : Field} (h : (!may f) = false) (h12 : (f.kind == 12) = true) : (long f : Int) = f.long := by
  have h := may_12 (f := f) (by simpa using h) (by simpa using h12)
  simp_all [long]
  omega
theorem long_n {f : Field} (h : (!may f) = false) (h12 : (f.kind == 12) = false) : (long f : Int) = size f.kind := by simp_all [long]
theorem long_pos {f : Field} : long f ≠ 0 ↔ may f = true := by
  constructor
  · intro h
    simp only [long] at h
    split at h <;> simp_all
  · intro h
    simp only [long, h, if_true]
    split
    · rename_i h12
      have := may_12 h h12
      omega
    · rename_i h12
      simp [may, h12] at h
      omega

/-! ### field -/
def letter (c : UInt8) : Bool := 97 ≤ c.toNat && c.toNat ≤ 122
def sign (c : UInt8) : Bool := letter c || (48 ≤ c.toNat && c.toNat ≤ 57) || c.toNat == 95
def nameFrom (i : Nat) (l : List UInt8) : Bool :=
  match l with
  | [] => true
  | c :: r => (if i = 0 then letter c else sign c) && nameFrom (i + 1) r
def nameOk (s : Text) : Bool := nameFrom 0 s && decide (1 ≤ s.length) && decide (s.length ≤ 15)

theorem name_step {s : ByteArray} {i : Nat} (h : i < s.size) : nameFrom i ((tx s).drop i) = ((if i = 0 then letter (s[i]'h) else sign (s[i]'h)) && nameFrom (i + 1) ((tx s).drop (i + 1))) := by
  have h' : i < (tx s).length := h
  rw [List.drop_eq_getElem_cons h']
  rfl
theorem name_yes {s : ByteArray} {i : Nat} (h : i < s.size) (hc : (if i = 0 then letter (s[i]'h) else sign (s[i]'h)) = true) (hn : nameFrom 0 (tx s) = nameFrom i ((tx s).drop i)) :
    nameFrom 0 (tx s) = nameFrom (i + 1) ((tx s).drop (i + 1)) := by rw [hn, name_step h, hc, Bool.true_and]
theorem name_no {s : ByteArray} {i : Nat} (h : i < s.size) (hc : (if i = 0 then letter (s[i]'h) else sign (s[i]'h)) = false) (hn : nameFrom 0 (tx s) = nameFrom i ((tx s).drop i)) :
    nameOk (tx s) = false := by simp [nameOk, hn, name_step h, hc]
theorem name_end {s : ByteArray} {i : Nat} (h : ¬ i < s.size) (hn : nameFrom 0 (tx s) = nameFrom i ((tx s).drop i)) :
    nameOk (tx s) = (decide (1 ≤ s.size) && decide (s.size ≤ 15)) := by
  have h' : (tx s).length ≤ i := by rw [tx_length]; omega
  rw [nameOk, hn, List.drop_of_length_le h', tx_length]; simp [nameFrom]
/-- The first place of a name; the length, if there is none. -/
def place (l : List Field) (n : Text) : Nat := l.findIdx (fun f => f.name == n)
def find (l : List Field) (n : Text) : Int := if place l n < l.length then (place l n : Int) else -1
theorem find_at {l : List Field} {n : Text} {i : Nat} {f : Field} (hf : l[i]? = some f) (h : (f.name == n) = true) (hb : ∀ (j : Nat) (g : Field), j < i → l[j]? = some g → (g.name == n) = false) : find l n = i := by
  obtain ⟨hi, e⟩ := List.getElem?_eq_some_iff.1 hf
  have hp : place l n = i := by
    refine (List.findIdx_eq hi).2 ⟨by rw [e]; exact h, fun j hj => ?_⟩
    exact hb j _ hj (List.getElem?_eq_getElem (by omega))
  simp [find, hp, hi]
theorem find_none {l : List Field} {n : Text} (hb : ∀ (j : Nat) (g : Field), l[j]? = some g → (g.name == n) = false) : find l n = -1 := by
  have hp : ¬ place l n < l.length := by
    intro h
    have := List.findIdx_getElem (xs := l) (p := fun (f : Field) => f.name == n) (w := h)
    exact absurd ((hb (place l n) _ (List.getElem?_eq_getElem h)).symm.trans this) (by decide)
  simp only [find, hp, if_false]
def okAt (l : List Field) (i : Nat) : Bool :=
  match l[i]? with
  | some f => nameOk f.name && (long f != 0) && (place l f.name == i)
  | none => true
def right (l : List Field) : Bool := (List.range l.length).all (okAt l) && decide (l.length ≤ 16)

theorem all_range_true {n : Nat} {p : Nat → Bool} (h : ∀ j, j < n → p j = true) : (List.range n).all p = true := by
  rw [List.all_eq_true]
  intro x hx
  exact h x (List.mem_range.1 hx)
theorem all_range_false {n i : Nat} {p : Nat → Bool} (hi : i < n) (h : p i = false) : (List.range n).all p = false := by
  rw [List.all_eq_false]
  exact ⟨i, List.mem_range.2 hi, by simp [h]⟩
theorem all_range_at {n : Nat} {p : Nat → Bool} (h : (List.range n).all p = true) (j : Nat) (hj : j < n) : p j = true :=
  List.all_eq_true.1 h j (List.mem_range.2 hj)

theorem okAt_eq {l : List Field} {i : Nat} {f : Field} (hf : l[i]? = some f) : okAt l i = (nameOk f.name && (long f != 0) && (place l f.name == i)) := by simp [okAt, hf]
theorem find_place {l : List Field} {i : Nat} {f : Field} (hf : l[i]? = some f) : find l f.name = (place l f.name : Int) := by
  have : place l f.name < l.length := by
    refine List.findIdx_lt_length.2 ⟨f, List.mem_of_getElem? hf, by simp⟩
  simp [find, this]
theorem right_no {l : List Field} {i : Nat} {f : Field} (hf : l[i]? = some f) (h : (nameOk f.name && (long f != 0) && (place l f.name == i)) = false) : right l = false := by
  have hi := (List.getElem?_eq_some_iff.1 hf).1
  rw [right, all_range_false hi (by rw [okAt_eq hf]; exact h), Bool.false_and]
theorem right_end {l : List Field} (h : ∀ j, j < l.length → okAt l j = true) : right l = decide (l.length ≤ 16) := by rw [right, all_range_true h, Bool.true_and]
theorem right_at {l : List Field} (h : right l = true) {i : Nat} {f : Field} (hf : l[i]? = some f) : nameOk f.name = true ∧ long f ≠ 0 ∧ find l f.name = i := by
  simp only [right, Bool.and_eq_true] at h
  have := all_range_at h.1 i (List.getElem?_eq_some_iff.1 hf).1
  rw [okAt_eq hf] at this
  simp only [Bool.and_eq_true, bne_iff_ne, beq_iff_eq] at this
  exact ⟨this.1.1, this.1.2, by rw [find_place hf, this.2]⟩
theorem right_len {l : List Field} (h : right l = true) : l.length ≤ 16 := by
  simp only [right, Bool.and_eq_true, decide_eq_true_eq] at h
  exact h.2

/-- The first multiple of n from a place on. -/
def up (at_ n : Nat) : Nat := (at_ + n - 1) / n * n
def begins (at_ : Nat) (f : Field) : Nat := if f.kind = 12 then at_ else up at_ (long f)
def places : Nat → List Field → List Nat
  | _, [] => []
  | at_, f :: r => begins at_ f :: places (begins at_ f + long f) r
def ends : Nat → List Field → Nat
  | at_, [] => at_
  | at_, f :: r => ends (begins at_ f + long f) r
def spots : Nat → List Field → List (Nat × Field)
  | _, [] => []
  | at_, f :: r => (begins at_ f, f) :: spots (begins at_ f + long f) r
theorem spots_fst : ∀ (l : List Field) (a : Nat), (spots a l).map (·.1) = places a l
  | [], _ => rfl
  | f :: r, a => by simp [spots, places, spots_fst r]
theorem spots_length : ∀ (l : List Field) (a : Nat), (spots a l).length = l.length
  | [], _ => rfl
  | f :: r, a => by simp [spots, spots_length r]
theorem ends_append : ∀ (l m : List Field) (a : Nat), ends a (l ++ m) = ends (ends a l) m
  | [], _, _ => rfl
  | f :: r, m, a => by simp [ends, ends_append r]
theorem spots_append : ∀ (l m : List Field) (a : Nat), spots a (l ++ m) = spots a l ++ spots (ends a l) m
  | [], _, _ => rfl
  | f :: r, m, a => by simp [ends, spots, spots_append r]
theorem take_succ' {α : Type} {l : List α} {i : Nat} {x : α} (h : l[i]? = some x) : l.take (i + 1) = l.take i ++ [x] := by
  rw [List.take_add_one, h]; rfl
theorem ends_succ {l : List Field} {i : Nat} {f : Field} (h : l[i]? = some f) : ends 0 (l.take (i + 1)) = begins (ends 0 (l.take i)) f + long f := by
  rw [take_succ' h, ends_append]; rfl
theorem spots_succ {l : List Field} {i : Nat} {f : Field} (h : l[i]? = some f) : spots 0 (l.take (i + 1)) = spots 0 (l.take i) ++ [(begins (ends 0 (l.take i)) f, f)] := by
  rw [take_succ' h, spots_append]; rfl
theorem up_le (a n : Nat) : up a n ≤ a + n := by
  unfold up
  have := Nat.div_mul_le_self (a + n - 1) n
  omega
theorem begins_le (a : Nat) (f : Field) : begins a f ≤ a + 64 := by
  unfold begins
  have := up_le a (long f)
  have := long_le f
  split <;> omega
theorem ends_le : ∀ (l : List Field) (a : Nat), ends a l ≤ a + l.length * 128
  | [], a => by simp [ends]
  | f :: r, a => by
    have h1 := ends_le r (begins a f + long f)
    have h2 := begins_le a f
    have h3 := long_le f
    simp only [ends, List.length_cons]
    omega
/-- Where the last one ends. -/
def lastEnd (l : List (Nat × Field)) : Nat := match l.getLast? with | some x => x.1 + long x.2 | none => 0
theorem lastEnd_snoc (l : List (Nat × Field)) (x : Nat × Field) : lastEnd (l ++ [x]) = x.1 + long x.2 := by simp [lastEnd]
theorem lastEnd_spots (l : List Field) : lastEnd (spots 0 l) = ends 0 l := by
  rcases List.eq_nil_or_concat l with rfl | ⟨r, f, rfl⟩
  · rfl
  · rw [List.concat_eq_append, spots_append, ends_append]
    exact lastEnd_snoc _ _
def layout (l : List Field) : List Nat × Nat := if right l then (places 0 l, up (ends 0 l) 8) else ([], 0)

/-! ### table -/
def sameFrom (n : Nat) : List Move := (List.range n).map fun (k : Nat) => ⟨(k : Int), noVal⟩
def same (l : List Field) : Table := if right l then ⟨l, l, sameFrom l.length⟩ else noTable

end Go.Proofs.YtdokiaicheillaaGreat.S

namespace Go.Proofs.YtdokiaicheillaaGreat
open Go.RowKit

/-! ### returns -/
theorem ret_v {a b : Value} (h : a = b) : Ending.returned a = .returned b := by rw [h]
theorem ret_int {k : IntKind} {a b : Int} (h : a = b) : Ending.returned (.int k a) = .returned (.int k b) := by rw [h]
theorem ret_bool {a b : Bool} (h : a = b) : Ending.returned (.bool a) = .returned (.bool b) := by rw [h]
theorem ret_string {a b : ByteArray} (h : a = b) : Ending.returned (.string a) = .returned (.string b) := by rw [h]

theorem _root_.Go.RowKit.Hid.mk {p : Prop} (h : p) : Hid p := h

/-! ### what is read -/
abbrev Mem := Addr → Option Value

/-- A row of elements of k cells each lies at A. -/
def Row {α : Type} (m : Mem) (A : Option Addr) (k : Nat) (enc : α → List Value) (l : List α) : Prop :=
  l.length ≤ 1073741824 ∧ ∀ i x, l[i]? = some x → ∃ b off, A = some ⟨b, off, none⟩ ∧ ∀ j v, (enc x)[j]? = some v → m ⟨b, off + i * k + j, none⟩ = some v

theorem Row.nil {α : Type} (m : Mem) (A : Option Addr) (k : Nat) (enc : α → List Value) : Row m A k enc [] := ⟨by simp, by simp⟩
theorem Row.mono {α : Type} {m m' : Mem} {A : Option Addr} {k : Nat} {enc : α → List Value} {l : List α} (h : Row m A k enc l) (hm : ∀ a v, m a = some v → m' a = some v) : Row m' A k enc l :=
  ⟨h.1, fun i x hx => by
    obtain ⟨b, off, hA, hc⟩ := h.2 i x hx
    exact ⟨b, off, hA, fun j v hv => hm _ _ (hc j v hv)⟩⟩

theorem below_reads {w w' : World} (h : Below w.heap.size w w') : ∀ a v, w.cell? a = some v → w'.cell? a = some v :=
  fun a _ ha => (h.cell (World.block_lt_of_cell? w a ha)).trans ha
theorem Row.below {α : Type} {w w' : World} {A : Option Addr} {k : Nat} {enc : α → List Value} {l : List α} (h : Row w.cell? A k enc l) (hb : Below w.heap.size w w') : Row w'.cell? A k enc l :=
  h.mono (below_reads hb)

theorem Row.id {α : Type} {m : Mem} {A : Option Addr} {k : Nat} {enc : α → List Value} {l : List α} : Row m A k enc l ↔ Row m A k _root_.id (l.map enc) := by
  constructor
  · intro h
    refine ⟨by simpa using h.1, fun i x hx => ?_⟩
    rw [List.getElem?_map] at hx
    obtain ⟨y, hy, rfl⟩ := Option.map_eq_some_iff.1 hx
    exact h.2 i y hy
  · intro h
    refine ⟨by simpa using h.1, fun i x hx => ?_⟩
    exact h.2 i (enc x) (by rw [List.getElem?_map, hx]; rfl)

theorem flat_get {k : Nat} : ∀ {rows : List (List Value)}, (∀ r, r ∈ rows → r.length = k) → ∀ {j : Nat} {u : Value}, rows.flatten[j]? = some u → ∃ i r j', j = i * k + j' ∧ rows[i]? = some r ∧ r[j']? = some u
  | [], _, j, u, h => by simp at h
  | r :: rows, hk, j, u, h => by
    have hr : r.length = k := hk r (by simp)
    rw [List.flatten_cons] at h
    by_cases hj : j < r.length
    · rw [List.getElem?_append_left hj] at h
      exact ⟨0, r, j, by omega, rfl, h⟩
    · rw [List.getElem?_append_right (by omega)] at h
      obtain ⟨i, r', j', e, h1, h2⟩ := flat_get (fun r hr => hk r (by simp [hr])) h
      exact ⟨i + 1, r', j', by rw [Nat.add_mul]; omega, by simpa using h1, h2⟩
theorem flat_at {k : Nat} : ∀ {rows : List (List Value)}, (∀ r, r ∈ rows → r.length = k) → ∀ {i j : Nat} {r : List Value} {u : Value}, rows[i]? = some r → r[j]? = some u → rows.flatten[i * k + j]? = some u
  | [], _, i, j, r, u, h, _ => by simp at h
  | r0 :: rows, hk, i, j, r, u, h, hu => by
    have hr : r0.length = k := hk r0 (by simp)
    rw [List.flatten_cons]
    cases i with
    | zero =>
      simp at h
      subst h
      rw [List.getElem?_append_left (by have := (List.getElem?_eq_some_iff.1 hu).1; omega)]
      simpa using hu
    | succ i =>
      rw [List.getElem?_append_right (by rw [Nat.add_mul]; omega)]
      have := flat_at (rows := rows) (fun r hr => hk r (List.mem_cons_of_mem _ hr)) (i := i) (by simpa using h) hu
      rw [← this]
      congr 1
      rw [Nat.add_mul]
      omega
theorem flat_length {k : Nat} : ∀ {rows : List (List Value)}, (∀ r, r ∈ rows → r.length = k) → rows.flatten.length = rows.length * k
  | [], _ => by simp
  | r0 :: rows, hk => by
    rw [List.flatten_cons, List.length_append, flat_length (fun r hr => hk r (by simp [hr])), hk r0 (by simp), List.length_cons, Nat.add_mul]
    omega
/-- What a row that is read lends to an append. -/
theorem Row.news {m : Mem} {b off k : Nat} {rows : List (List Value)} (h : Row m (some ⟨b, off, none⟩) k _root_.id rows) (hk : ∀ r, r ∈ rows → r.length = k) :
    ∀ j u, rows.flatten[j]? = some u → m ((⟨b, off, none⟩ : Addr).add j) = some u := by
  intro j u hj
  obtain ⟨i, r, j', rfl, h1, h2⟩ := flat_get hk hj
  obtain ⟨b', off', e, hc⟩ := h.2 i r h1
  simp only [Option.some.injEq, Addr.mk.injEq, and_true] at e
  obtain ⟨rfl, rfl⟩ := e
  have ha : (⟨b, off, none⟩ : Addr).add (i * k + j') = ⟨b, off + i * k + j', none⟩ := by unfold Addr.add; split <;> simp_all [Nat.add_assoc]
  rw [ha]
  exact hc j' u h2
/-- A row of the call's own is one that can be read. -/
theorem Row.of_own {w : World} {base e k n : Nat} {v : Value} {rows : List (List Value)} (h : w.ownsRow base e k v n rows.flatten) (hk : ∀ r, r ∈ rows → r.length = k) (hn : n = rows.length) (hb : n ≤ 1073741824) :
    ∃ A c, v = .slice A n c ∧ Row w.cell? A k _root_.id rows ∧ (A = none → c = 0) := by
  rcases h.2 with ⟨rfl, rfl⟩ | ⟨g, cap, cur, rfl, _, hh, hc, hm, hs, ht⟩
  · have : rows = [] := List.eq_nil_of_length_eq_zero hn.symm
    subst this
    exact ⟨none, 0, rfl, Row.nil _ _ _ _, fun _ => rfl⟩
  · refine ⟨some ⟨g, 0, none⟩, cap, rfl, ⟨by omega, fun i r hr => ⟨g, 0, rfl, fun j u hu => ?_⟩⟩, fun e => by cases e⟩
    have hf := flat_at hk hr hu
    rw [← ht, List.getElem?_take] at hf
    split at hf
    · simp only [World.cell?, hh, Option.isSome_none, Bool.false_eq_true, if_false, Nat.zero_add]
      simpa using hf
    · cases hf

theorem row_ne {W : World} {base e size n k : Nat} {v : Value} {xs : List Value} {cs : Array Value} {t : TypeId} {fr : Nat × Nat} (h : W.ownsRow base e size v n xs) (hk : W.heap[k]? = some (.cells cs t fr)) (ht : t ≠ e) : some k ≠ v.ownBlock := by
  rcases h.2 with ⟨rfl, _⟩ | ⟨g, cap, cur, rfl, _, hg, _⟩
  · simp [Value.ownBlock]
  · intro e'
    obtain rfl : k = g := by simpa [Value.ownBlock] using e'
    rw [hg] at hk
    simp only [Option.some.injEq, Obj.cells.injEq] at hk
    exact ht hk.2.1.symm
theorem own_weak {W : World} {base base' e size n : Nat} {v : Value} {xs : List Value} (h : W.ownsRow base e size v n xs) (hb : base' ≤ base) : W.ownsRow base' e size v n xs := by
  refine ⟨h.1, ?_⟩
  rcases h.2 with h2 | ⟨g, cap, cur, hv, hg, r⟩
  · exact .inl h2
  · exact .inr ⟨g, cap, cur, hv, Nat.le_trans hb hg, r⟩
theorem own_block_ge {W : World} {base e size n k : Nat} {v : Value} {xs : List Value} (h : W.ownsRow base e size v n xs) (hk : v.ownBlock = some k) : base ≤ k := by
  rcases h.2 with ⟨rfl, _⟩ | ⟨g, cap, cur, rfl, hg, _⟩
  · simp [Value.ownBlock] at hk
  · have : g = k := by simpa [Value.ownBlock] using hk
    omega

theorem own_slice {w : World} {base t size n : Nat} {v : Value} {xs : List Value} (h : w.ownsRow base t size v n xs) : ∃ A c, v = .slice A n c := by
  rcases h.2 with ⟨rfl, e⟩ | ⟨g, cap, cur, rfl, _⟩
  · subst e; exact ⟨_, _, rfl⟩
  · exact ⟨_, _, rfl⟩

theorem cell_set_ne {W : World} {B k o : Nat} {v u : Value} (h : W.cell? ⟨k, o, none⟩ = some v) (hne : k ≠ B) : (W.setCell ⟨B, 0, none⟩ u).cell? ⟨k, o, none⟩ = some v :=
  (World.cell?_setCell_other _ _ _ _ (by simp only [ne_eq, Addr.mk.injEq]; omega)).trans h
theorem heap_ne {W : World} {j k : Nat} {c c' : Array Value} {t t' : TypeId} {fr fr' : Nat × Nat} (h : W.heap[j]? = some (.cells c t fr)) (h' : W.heap[k]? = some (.cells c' t' fr')) (ht : t ≠ t') : j ≠ k := by
  rintro rfl
  rw [h] at h'
  simp only [Option.some.injEq, Obj.cells.injEq] at h'
  exact ht h'.2.1

/-- What is below the first one's end is kept by what comes behind. -/
theorem below_then {w w1 w2 : World} (h : Below w.heap.size w w1) (k : Below w1.heap.size w1 w2) : Below w.heap.size w w2 := h.trans (k.mono h.size)
theorem below_new {w w1 : World} (h : Below w.heap.size w w1) (o : Obj) : Below w.heap.size w (w1.alloc o) := h.alloc h.size o

theorem _root_.Go.RowKit.Below.new_ {B : Nat} {w w1 : World} (h : Below B w w1) (o : Obj) (hB : B ≤ w.heap.size := by exact Nat.le_refl _) : Below B w (w1.alloc o) := h.alloc (Nat.le_trans hB h.size) o
theorem below_one (w : World) (o : Obj) : Below w.heap.size w (w.alloc o) := below_new (Below.refl _ _) o

/-- What a walk uses of a call that made memory: each cell and each mark below reads as it did. -/
theorem bcell {W w1 : World} (hb : Below W.heap.size W w1) : (∀ b o, b < W.heap.size → w1.cell? ⟨b, o, none⟩ = W.cell? ⟨b, o, none⟩) ∧ (∀ b o, b < W.heap.size → w1.frozen? ⟨b, o, none⟩ = W.frozen? ⟨b, o, none⟩) :=
  ⟨fun b o h => hb.cell (p := ⟨b, o, none⟩) h, fun b o h => hb.frozen (p := ⟨b, o, none⟩) h⟩
theorem below_lt {W w1 : World} {n : Nat} (hb : Below W.heap.size W w1) (h : n < W.heap.size) : n < w1.heap.size := Nat.lt_of_lt_of_le h hb.size

/-! ### a range over a text -/
theorem decode_high (s : ByteArray) (i : Nat) (h : i < s.size) (ha : ¬ (s[i]'h).toNat < 128) : 128 ≤ (Utf8.decode s i).1 ∧ (Utf8.decode s i).1 < 2147483648 := by
  have e : s.get! (i + 0) = s[i]'h := by
    show s.get! i = _
    simp [ByteArray.get!, getElem!_pos, h]
    rfl
  have hb : ∀ k, (s.get! (i + k)).toNat < 256 := fun k => (s.get! (i + k)).toNat_lt
  have h0 := hb 0; have h1 := hb 1; have h2 := hb 2; have h3 := hb 3
  unfold Utf8.decode
  simp only [e] at *
  generalize (s[i]'h).toNat = x at *
  generalize (s.get! (i + 1)).toNat = y at *
  generalize (s.get! (i + 2)).toNat = z at *
  generalize (s.get! (i + 3)).toNat = u at *
  rw [if_neg ha]
  simp only [Utf8.runeError]
  (repeat' split) <;> simp_all <;> omega
theorem run_next_at {P : Program} (w : World) (s : ByteArray) (pos : Nat) (ty : TypeId) (h : pos < s.size) :
    (Instr.next (.pointer (some ⟨w.heap.size, 0, none⟩)) true ty).run P (w.iter s pos) =
      .ok (.tuple #[.bool true, .int .i64 pos, .int .i32 ((Utf8.decode s pos).1 : Int)]) (w.iter s (pos + (Utf8.decode s pos).2)) := by
  simp only [Instr.next, getObj, setObj, Sem.run_bind, Sem.run, World.iter_heap, Result.andThen, h, if_true, World.iter_set]
  simp [goInt]

def iterPos (w : World) (b : Nat) : Nat := match w.heap[b]? with | some (.stringIter _ p) => p | _ => 0
theorem iterPos_iter (w : World) (s : ByteArray) (p : Nat) : iterPos (w.iter s p) w.heap.size = p := by simp [iterPos, World.iter_heap]
theorem below_iter (w : World) (s : ByteArray) (p : Nat) : Below w.heap.size w (w.iter s p) := below_one _ _

/-! ### the kinds of elements -/
namespace S
def Field.cells (f : Field) : List Value := [.string (S.mk f.name), .int .i64 f.kind, .int .i64 f.long]
def Val.cells (v : Val) : List Value := [.int .i64 v.kind, .int .u64 v.bits, .string (S.mk v.text)]
def Handle.cells (h : Handle) : List Value := [.int .i64 h.slot, .int .i64 h.gen]
def Move.cells (m : Move) : List Value := [.int .i64 m.src, .int .i64 m.dflt.kind, .int .u64 m.dflt.bits, .string (S.mk m.dflt.text)]
end S

abbrev Fields (m : Mem) (A : Option Addr) (l : List S.Field) : Prop := Row m A 3 S.Field.cells l
abbrev Moves (m : Mem) (A : Option Addr) (l : List S.Move) : Prop := Row m A 4 S.Move.cells l
abbrev Handles (m : Mem) (A : Option Addr) (l : List S.Handle) : Prop := Row m A 2 S.Handle.cells l
abbrev Ints (m : Mem) (A : Option Addr) (l : List Int) : Prop := Row m A 1 (fun n => [Value.int .i64 n]) l
abbrev Strs (m : Mem) (A : Option Addr) (l : List S.Text) : Prop := Row m A 1 (fun s => [Value.string (S.mk s)]) l
abbrev Bytes (m : Mem) (A : Option Addr) (l : List UInt8) : Prop := Row m A 1 (fun c => [Value.int .u8 (c.toNat : Int)]) l

theorem Fields.at {w : World} {A : Option Addr} {l : List S.Field} (h : Fields w.cell? A l) {i : Nat} {f : S.Field} (hf : l[i]? = some f) :
    ∃ b off, A = some ⟨b, off, none⟩ ∧ w.cell? ⟨b, off + i * 3, none⟩ = some (.string (S.mk f.name)) ∧ w.cell? ⟨b, off + i * 3 + 1, none⟩ = some (.int .i64 f.kind) ∧ w.cell? ⟨b, off + i * 3 + 2, none⟩ = some (.int .i64 f.long) ∧ b < w.heap.size := by
  obtain ⟨b, off, hA, hc⟩ := h.2 i f hf
  have h0 := hc 0 _ rfl
  exact ⟨b, off, hA, h0, hc 1 _ rfl, hc 2 _ rfl, World.block_lt_of_cell? w _ h0⟩

abbrev encT (x : S.Text) : Value := Value.string (S.mk x)
abbrev encByte (c : UInt8) : Value := .int .u8 (c.toNat : Int)
end Go.Proofs.YtdokiaicheillaaGreat
