/-
  The walks of the layer of slots: New, Len, At, Make.
-/
import Derived.Test.YtdokiaicheillaaGreatEach
import Derived.Test.YtdokiaicheillaaGreatStillIn
import Derived.Test.YtdokiaicheillaaGreatClone
import Derived.Laws.OwnMore
import Derived.BigRegion
import Derived.BigQuiet
import Derived.Handy
namespace Go.Proofs.YtdokiaicheillaaGreat
open Go.RowKit

/-- Nothing but the blocks of F, and what is new, differs. -/
structure Only (F : List Nat) (w w' : World) : Prop where
  os : w'.os = w.os
  tape : w'.tape = w.tape
  output : w'.output = w.output
  size : w.heap.size ≤ w'.heap.size
  block : ∀ k, k < w.heap.size → k ∉ F → w'.heap[k]? = w.heap[k]?

theorem Only.refl (F : List Nat) (w : World) : Only F w w := ⟨rfl, rfl, rfl, Nat.le_refl _, fun _ _ _ => rfl⟩
theorem Only.trans {F G : List Nat} {w w1 w2 : World} (h : Only F w w1) (k : Only G w1 w2) (hG : ∀ b, b ∈ G → b ∈ F ∨ w.heap.size ≤ b) : Only F w w2 :=
  ⟨k.os.trans h.os, k.tape.trans h.tape, k.output.trans h.output, Nat.le_trans h.size k.size, fun b hb hF =>
    (k.block b (Nat.lt_of_lt_of_le hb h.size) (fun hg => (hG b hg).elim hF (fun h2 => by omega))).trans (h.block b hb hF)⟩
theorem Only.below {w w' : World} (h : Below w.heap.size w w') (F : List Nat) : Only F w w' := ⟨h.os, h.tape, h.output, h.size, fun k hk _ => h.block k hk⟩
theorem Only.toBelow {F : List Nat} {w w' : World} (h : Only F w w') {B : Nat} (hF : ∀ k, k ∈ F → B ≤ k) (hB : B ≤ w.heap.size) : Below B w w' :=
  ⟨h.os, h.tape, h.output, h.size, fun k hk => h.block k (by omega) (fun hf => by have := hF k hf; omega)⟩
theorem Only.weak {F G : List Nat} {w w' : World} (h : Only F w w') (hG : ∀ b, b ∈ F → b ∈ G) : Only G w w' := ⟨h.os, h.tape, h.output, h.size, fun k hk hn => h.block k hk (fun hf => hn (hG k hf))⟩
/-- .. what is new to the first may be forgotten. -/
theorem Only.weak' {F G : List Nat} {w w' : World} (h : Only F w w') (hG : ∀ b, b ∈ F → b ∈ G ∨ w.heap.size ≤ b) : Only G w w' := ⟨h.os, h.tape, h.output, h.size, fun k hk hn => h.block k hk (fun hf => (hG k hf).elim hn (fun h2 => by omega))⟩
theorem Only.grown {F : List Nat} {w w1 w2 : World} {row : Option Nat} (h : Only F w w1) (hg : w1.grownBy w2 row) (hr : ∀ k, row = some k → k ∈ F ∨ w.heap.size ≤ k) : Only F w w2 :=
  ⟨hg.os.trans h.os, hg.tape.trans h.tape, hg.output.trans h.output, Nat.le_trans h.size hg.size, fun k hk hn =>
    (hg.block k (Nat.lt_of_lt_of_le hk h.size) (fun e => (hr k e.symm).elim hn (fun h2 => by omega))).trans (h.block k hk hn)⟩
theorem Only.then {F : List Nat} {w w1 w2 : World} (h : Only F w w1) (k : Below w1.heap.size w1 w2) : Only F w w2 := h.trans (Only.below k []) (fun _ h => by cases h)
theorem Only.alloc {F : List Nat} {w w1 : World} (h : Only F w w1) (o : Obj) : Only F w (w1.alloc o) := h.then (below_one _ _)
theorem Only.set {F : List Nat} {w w1 : World} (h : Only F w w1) {k : Nat} (hk : k ∈ F ∨ w.heap.size ≤ k) (o : Nat) (v : Value) : Only F w (w1.setCell ⟨k, o, none⟩ v) :=
  ⟨h.os, h.tape, h.output, by have := (KeepsWalks.setCell w1 ⟨k, o, none⟩ v).size; have := h.size; omega, fun b hb hn => (Below.heap_setCell w1 ⟨k, o, none⟩ v b (fun e => hk.elim (fun h1 => hn (by rw [e]; exact h1)) (fun h2 => by simp only at e; omega))).trans (h.block b hb hn)⟩
theorem Only.draw {F : List Nat} {w w1 : World} (h : Only F w w1) (n : Nat) : Only F w (w1.drewN n) := ⟨h.os, h.tape, h.output, h.size, h.block⟩
theorem Only.cell {F : List Nat} {w w' : World} (h : Only F w w') {b o : Nat} (hb : b < w.heap.size) (hn : b ∉ F) : w'.cell? ⟨b, o, none⟩ = w.cell? ⟨b, o, none⟩ := by
  simp only [World.cell?, h.block b hb hn]
theorem cell_block {w w' : World} {b o : Nat} (h : w'.heap[b]? = w.heap[b]?) : w'.cell? ⟨b, o, none⟩ = w.cell? ⟨b, o, none⟩ := by simp only [World.cell?, h]

theorem own_kept {w w' : World} {base t size n : Nat} {v : Value} {xs : List Value} (h : w.ownsRow base t size v n xs) (hk : ∀ k, v.ownBlock = some k → w'.heap[k]? = w.heap[k]?) : w'.ownsRow base t size v n xs := by
  refine ⟨h.1, ?_⟩
  rcases h.2 with h2 | ⟨g, cap, cur, rfl, hg, hh, r⟩
  · exact .inl h2
  · exact .inr ⟨g, cap, cur, rfl, hg, (hk g rfl).trans hh, r⟩
theorem own_lt {w : World} {base t size n k : Nat} {v : Value} {xs : List Value} (h : w.ownsRow base t size v n xs) (hk : v.ownBlock = some k) : k < w.heap.size := by
  obtain ⟨c, hc⟩ := own_cells h hk
  exact (Array.getElem?_eq_some_iff.1 hc).1
/-- The block of a row, as a footprint. -/
def rowF (v : Value) : List Nat := v.ownBlock.toList
theorem mem_rowF {v : Value} {k : Nat} : k ∈ rowF v ↔ v.ownBlock = some k := by simp [rowF, Option.mem_toList]
theorem rowF_slice (g n c : Nat) : rowF (.slice (some ⟨g, 0, none⟩) n c) = [g] := rfl
theorem rowF_nil : rowF (.slice none 0 0) = [] := rfl

/-- One cell of a row of one's own is turned. -/
theorem own_set {w : World} {base t size n g cap j : Nat} {xs : List Value} {u : Value} (h : w.ownsRow base t size (.slice (some ⟨g, 0, none⟩) n cap) n xs) (hj : j < xs.length) :
    (w.setCell ⟨g, j, none⟩ u).ownsRow base t size (.slice (some ⟨g, 0, none⟩) n cap) n (xs.set j u) := by
  refine ⟨by simpa using h.1, .inr ?_⟩
  rcases h.2 with ⟨e, _⟩ | ⟨g', cap', cur, e, hg, hh, h1, h2, h3, h4⟩
  · cases e
  · simp only [Value.slice.injEq, Option.some.injEq, Addr.mk.injEq, and_true, true_and] at e
    obtain ⟨rfl, rfl⟩ := e
    have hlt := (Array.getElem?_eq_some_iff.1 hh).1
    refine ⟨g, cap, cur.setIfInBounds j u, rfl, hg, ?_, h1, h2, by simpa using h3, ?_⟩
    · show (w.heap.modify g _)[g]? = _
      rw [Array.getElem?_modify, if_pos rfl, hh]
      rfl
    · rw [Array.toList_setIfInBounds, List.take_set, h4]
end Go.Proofs.YtdokiaicheillaaGreat

namespace Go.Proofs.YtdokiaicheillaaGreat
open Go.RowKit

namespace S
structure Slot where
  gen : Int
  used : Bool
  v : Int
deriving DecidableEq, Inhabited
def noSlot : Slot := ⟨0, false, 0⟩
def Slot.cells (x : Slot) : List Value := [.int .i64 x.gen, .bool x.used, .int .u64 x.v]
/-- Which slots may be. -/
def Slot.ok (x : Slot) : Prop := 0 ≤ x.gen ∧ x.gen ≤ 65535 ∧ (x.used = true → 1 ≤ x.gen)
/-- The first slot from a place on that can be used. -/
def freeFrom : Nat → List Slot → Option Nat
  | _, [] => none
  | k, x :: r => if !x.used && decide (x.gen < 65535) then some k else freeFrom (k + 1) r
def slotMake (l : List Slot) (v : Int) : List Slot × Handle × Int :=
  match freeFrom 0 l with
  | some k => (l.set k ⟨((l[k]?).getD noSlot).gen + 1, true, v⟩, ⟨k, ((l[k]?).getD noSlot).gen + 1⟩, 0)
  | none => (l, noHandle, 110)
def slotAt (l : List Slot) (k : Nat) : Handle × Bool :=
  match l[k]? with
  | some x => if x.used then (⟨k, x.gen⟩, true) else (noHandle, false)
  | none => (noHandle, false)
end S

theorem made_flat {cs : Array Value} {k n : Nat} (hk : cs.size = k) : (madeCells cs (n * k)).toList = (List.replicate n cs.toList).flatten := by
  apply List.ext_getElem?
  intro i
  have hrows : ∀ r, r ∈ List.replicate n cs.toList → r.length = k := fun r hr => by rw [List.eq_of_mem_replicate hr]; simpa using hk
  by_cases hi : i < n * k
  · have hk0 : 0 < k := by rcases Nat.eq_zero_or_pos k with h | h; · rw [h, Nat.mul_zero] at hi; omega
                           · exact h
    have hq : i / k < n := Nat.div_lt_of_lt_mul (by rw [Nat.mul_comm]; exact hi)
    have hm : i % k < k := Nat.mod_lt _ hk0
    have e : i = i / k * k + i % k := by have := Nat.div_add_mod i k; rw [Nat.mul_comm] at this; exact this.symm
    have h2 := flat_at hrows (i := i / k) (j := i % k) (r := cs.toList) (u := cs[i % k]!) (by simp [hq]) (by simp [hk, hm])
    rw [e, h2, ← e]
    simp [madeCells, hi, hk, Nat.mod_lt _ hk0]
  · rw [List.getElem?_eq_none (by rw [Array.length_toList, size_madeCells]; omega), List.getElem?_eq_none (by rw [flat_length hrows, List.length_replicate]; omega)]

/-- Slots lie at s, in the row v. -/
structure SlotsAt (w : World) (s : Nat) (v : Value) (l : List S.Slot) : Prop where
  head : w.heap[s]? = some (.cells #[v] 164 (0, 0))
  row : w.ownsRow 0 175 3 v l.length (l.map S.Slot.cells).flatten
  many : l.length ≤ 256
  ok : ∀ x, x ∈ l → x.ok

theorem SlotsAt.kept {w w' : World} {s : Nat} {v : Value} {l : List S.Slot} (h : SlotsAt w s v l) (h1 : w'.heap[s]? = w.heap[s]?) (h2 : ∀ k, k ∈ rowF v → w'.heap[k]? = w.heap[k]?) : SlotsAt w' s v l :=
  ⟨h1.trans h.head, own_kept h.row (fun k hk => h2 k (mem_rowF.2 hk)), h.many, h.ok⟩
theorem SlotsAt.cell {w : World} {s : Nat} {v : Value} {l : List S.Slot} (h : SlotsAt w s v l) : w.cell? ⟨s, 0, none⟩ = some v := by simp [World.cell?, h.head]
theorem slot_rows (l : List S.Slot) : ∀ r, r ∈ l.map S.Slot.cells → r.length = 3 := fun r hr => by obtain ⟨x, -, rfl⟩ := List.mem_map.1 hr; rfl
/-- .. as they are read. -/
theorem SlotsAt.reads {w : World} {s : Nat} {v : Value} {l : List S.Slot} (h : SlotsAt w s v l) : ∃ A c, v = .slice A l.length c ∧ Row w.cell? A 3 S.Slot.cells l := by
  obtain ⟨A, c, hv, hr, -⟩ := Row.of_own h.row (slot_rows l) (by simp) (by have := h.many; omega)
  exact ⟨A, c, hv, Row.id.2 hr⟩
theorem slot_at {w : World} {A : Option Addr} {l : List S.Slot} (h : Row w.cell? A 3 S.Slot.cells l) {i : Nat} {x : S.Slot} (hx : l[i]? = some x) :
    ∃ b off, A = some ⟨b, off, none⟩ ∧ w.cell? ⟨b, off + i * 3, none⟩ = some (.int .i64 x.gen) ∧ w.cell? ⟨b, off + i * 3 + 1, none⟩ = some (.bool x.used) ∧ w.cell? ⟨b, off + i * 3 + 2, none⟩ = some (.int .u64 x.v) ∧ b < w.heap.size := by
  obtain ⟨b, off, hA, hc⟩ := h.2 i x hx
  have h0 := hc 0 _ rfl
  exact ⟨b, off, hA, h0, hc 1 _ rfl, hc 2 _ rfl, World.block_lt_of_cell? w _ h0⟩

set_option maxHeartbeats 1000000 in
theorem slots_New_yes (n : Nat) (hn : n ≤ 256) (w : World) :
    Calls Tryz.prog 43 #[.int .i64 n] w fun e w' => ∃ s v, e = .returned (.tuple #[.pointer (some ⟨s, 0, none⟩), .int .i64 0]) ∧ SlotsAt w' s v (List.replicate n S.noSlot) ∧ w.heap.size ≤ s ∧ (∀ k, k ∈ rowF v → w.heap.size ≤ k ∧ k ≠ s) ∧ Below w.heap.size w w' := by
  obtain ⟨i0, hi, hzz⟩ := Option.map_eq_some_iff.1 clone_slot_info
  simp only [Prod.mk.injEq] at hzz
  obtain ⟨hz0, hz1, hz2⟩ := hzz
  obtain ⟨w1, hr, ho, hg⟩ := run_make_full (P := Tryz.prog) (w := w) w.heap.size 162 175 i0 _ 3 Tryz.underlying162 hi hz0 hz1 .i64 .i64 n (by rw [hz2]; omega) (by unfold maxLen; omega) (Nat.le_refl _)
  have ho1 := Hid.mk ho
  have hg1 := Hid.mk hg
  have t1 : decide ((n : Int) < 0) = false := by simp
  have t2 : decide (256 < (n : Int)) = false := by simp; omega
  clear ho hg hi hz0 hz1 hz2
  go_enter Tryz.func43, Tryz.ntmps43
  go_wp2
  go_ret2
  go_light
  have hlt : w.heap.size < w1.heap.size := own_lt ho1.out rfl
  refine ⟨_, _, rfl, ⟨heap_alloc_new _ _, ?_, by simp; omega, ?_⟩, hg1.out.size, ?_, (((Below.refl _ w).grown hg1.out (Nat.le_refl _) (fun _ e => by cases e))).new_ _⟩
  · have h2 := own_weak ho1.out (Nat.zero_le _)
    rw [made_flat (by rfl)] at h2
    have h3 : (List.replicate n S.noSlot).map S.Slot.cells = List.replicate n (Value.cells (.agg #[.int .i64 0, .bool false, .int .u64 0])).toList := by rw [List.map_replicate]; rfl
    rw [h3, List.length_replicate]
    exact own_kept h2 (fun k hk => by cases hk; exact Below.heap_alloc _ _ _ hlt)
  · intro x hx
    rw [List.eq_of_mem_replicate hx]
    exact ⟨by decide, by decide, fun h => by cases h⟩
  · intro k hk
    rw [rowF_slice] at hk
    simp only [List.mem_singleton] at hk
    omega

set_option maxHeartbeats 1000000 in
theorem slots_Len (s : Nat) (v : Value) (l : List S.Slot) (w : World) (h : SlotsAt w s v l) :
    Calls Tryz.prog 58 #[.pointer (some ⟨s, 0, none⟩)] w fun e w' => e = .returned (.int .i64 l.length) ∧ Below w.heap.size w w' := by
  obtain ⟨A, c, rfl, hr⟩ := h.reads
  have hc := h.cell
  have hm := h.many
  clear h hr
  go_enter Tryz.func58, Tryz.ntmps58
  go_wp2
  go_ret
  go_light
  exact ⟨rfl, Below.refl _ _⟩

abbrev S.Handle.val (h : S.Handle) : Value := .agg #[.int .i64 h.slot, .int .i64 h.gen]

set_option maxHeartbeats 1000000 in
theorem slots_At (s : Nat) (v : Value) (l : List S.Slot) (k : Nat) (hk : k < l.length) (w : World) (h : SlotsAt w s v l) :
    Calls Tryz.prog 59 #[.pointer (some ⟨s, 0, none⟩), .int .i64 k] w fun e w' => e = .returned (.tuple #[(S.slotAt l k).1.val, .bool (S.slotAt l k).2]) ∧ Below w.heap.size w w' := by
  obtain ⟨A, c, rfl, hr⟩ := h.reads
  have hc := h.cell
  have hm := h.many
  have hs : s < w.heap.size := World.block_lt_of_cell? w _ hc
  obtain ⟨b, off, rfl, h0, h1, h2, hb⟩ := slot_at hr (List.getElem?_eq_getElem hk)
  have hat : S.slotAt l k = if l[k].used then (⟨k, l[k].gen⟩, true) else (S.noHandle, false) := by simp [S.slotAt, hk]
  rw [hat]
  generalize l[k] = x at *
  have t1 : decide ((k : Int) < 0) = false := by simp
  have t2 : decide ((l.length : Int) ≤ (k : Int)) = false := by simp; omega
  have t3 : decide (l.length ≤ k) = false := by simp; omega
  clear h hr hat
  cases hu : x.used
  · rw [hu] at h1
    go_enter Tryz.func59, Tryz.ntmps59
    go_wp2
    go_returns
    go_light
    exact ⟨rfl, below_one _ _⟩
  · rw [hu] at h1
    go_enter Tryz.func59, Tryz.ntmps59
    go_wp2
    go_returns
    go_light
    exact ⟨rfl, below_one _ _⟩

theorem S.free_step {l : List S.Slot} {i : Nat} {x : S.Slot} (hx : l[i]? = some x) (h : (!x.used && decide (x.gen < 65535)) = false) (hf : S.freeFrom 0 l = S.freeFrom i (l.drop i)) : S.freeFrom 0 l = S.freeFrom (i + 1) (l.drop (i + 1)) := by
  obtain ⟨hi, e⟩ := List.getElem?_eq_some_iff.1 hx
  rw [hf, List.drop_eq_getElem_cons hi, e]
  simp [S.freeFrom, h]
theorem S.free_found {l : List S.Slot} {i : Nat} {x : S.Slot} (hx : l[i]? = some x) (h : (!x.used && decide (x.gen < 65535)) = true) (hf : S.freeFrom 0 l = S.freeFrom i (l.drop i)) (v : Int) : S.slotMake l v = (l.set i ⟨x.gen + 1, true, v⟩, ⟨i, x.gen + 1⟩, 0) := by
  obtain ⟨hi, e⟩ := List.getElem?_eq_some_iff.1 hx
  have : S.freeFrom 0 l = some i := by rw [hf, List.drop_eq_getElem_cons hi, e]; simp [S.freeFrom, h]
  simp [S.slotMake, this, hx]
theorem S.free_none {l : List S.Slot} {i : Nat} (hi : ¬ i < l.length) (hf : S.freeFrom 0 l = S.freeFrom i (l.drop i)) (v : Int) : S.slotMake l v = (l, S.noHandle, 110) := by
  have : S.freeFrom 0 l = none := by rw [hf, List.drop_of_length_le (by omega)]; rfl
  simp [S.slotMake, this]

theorem flat_set {k : Nat} : ∀ {rows : List (List Value)}, (∀ r, r ∈ rows → r.length = k) → ∀ {i : Nat} {r' : List Value}, i < rows.length → r'.length = k → (rows.set i r').flatten = rows.flatten.take (i * k) ++ r' ++ rows.flatten.drop (i * k + k)
  | [], _, i, r', h, _ => by simp at h
  | r :: rows, hk, 0, r', _, hr => by
    have : r.length = k := hk r (by simp)
    simp [List.drop_append, this]
  | r :: rows, hk, i + 1, r', h, hr => by
    have h1 : r.length = k := hk r (by simp)
    have ih := flat_set (rows := rows) (fun r hr => hk r (by simp [hr])) (i := i) (r' := r') (by simpa using h) hr
    have e1 : (r :: rows).flatten.take ((i + 1) * k) = r ++ rows.flatten.take (i * k) := by
      rw [List.flatten_cons, List.take_append, List.take_of_length_le (by rw [h1, Nat.add_mul]; omega), h1, show (i + 1) * k - k = i * k by rw [Nat.add_mul]; omega]
    have e2 : (r :: rows).flatten.drop ((i + 1) * k + k) = rows.flatten.drop (i * k + k) := by
      rw [List.flatten_cons, List.drop_append, List.drop_of_length_le (by rw [h1, Nat.add_mul]; omega), h1, show (i + 1) * k + k - k = i * k + k by rw [Nat.add_mul]; omega, List.nil_append]
    rw [List.set_cons_succ, List.flatten_cons, ih, e1, e2]
    simp
theorem set3 {α : Type} {L : List α} {j : Nat} {a b c : α} (h : j + 3 ≤ L.length) : ((L.set j a).set (j + 1) b).set (j + 2) c = L.take j ++ [a, b, c] ++ L.drop (j + 3) := by
  apply List.ext_getElem?
  intro i
  simp only [List.getElem?_set, List.length_set]
  by_cases h1 : i < j
  · rw [if_neg (by omega), if_neg (by omega), if_neg (by omega), List.append_assoc, List.getElem?_append_left (by simp; omega)]
    simp [h1]
  · rw [List.append_assoc, List.getElem?_append_right (by simp; omega)]
    simp only [List.length_take]
    rw [show min j L.length = j by omega]
    by_cases h2 : i < j + 3
    · have : i = j ∨ i = j + 1 ∨ i = j + 2 := by omega
      rcases this with rfl | rfl | rfl
      · simp; omega
      · simp; omega
      · simp; omega
    · rw [if_neg (by omega), if_neg (by omega), if_neg (by omega), List.getElem?_append_right (by simp; omega)]
      simp only [List.length_cons, List.length_nil, List.getElem?_drop]
      congr 1
      omega

theorem own_off {w : World} {base t size n b off c : Nat} {xs : List Value} (h : w.ownsRow base t size (.slice (some ⟨b, off, none⟩) n c) n xs) : off = 0 := by
  rcases h.2 with ⟨e, _⟩ | ⟨g, cap, cur, e, _⟩
  · cases e
  · simp only [Value.slice.injEq, Option.some.injEq, Addr.mk.injEq, and_true, true_and] at e
    exact e.1.2

theorem slots_stored {w : World} {s b cap i : Nat} {l : List S.Slot} {y : S.Slot} (h : SlotsAt w s (.slice (some ⟨b, 0, none⟩) l.length cap) l) (hs : s ≠ b) (hi : i < l.length) (hy : y.ok) :
    SlotsAt (((w.setCell ⟨b, i * 3, none⟩ (.int .i64 y.gen)).setCell ⟨b, i * 3 + 1, none⟩ (.bool y.used)).setCell ⟨b, i * 3 + 2, none⟩ (.int .u64 y.v)) s (.slice (some ⟨b, 0, none⟩) l.length cap) (l.set i y) ∧
      Only [b] w (((w.setCell ⟨b, i * 3, none⟩ (.int .i64 y.gen)).setCell ⟨b, i * 3 + 1, none⟩ (.bool y.used)).setCell ⟨b, i * 3 + 2, none⟩ (.int .u64 y.v)) := by
  have hO := (((Only.refl [b] w).set (k := b) (.inl (by simp)) (i * 3) (.int .i64 y.gen)).set (k := b) (.inl (by simp)) (i * 3 + 1) (.bool y.used)).set (k := b) (.inl (by simp)) (i * 3 + 2) (.int .u64 y.v)
  have hslt : s < w.heap.size := (Array.getElem?_eq_some_iff.1 h.head).1
  have hfl : (l.map S.Slot.cells).flatten.length = l.length * 3 := by rw [flat_length (slot_rows l), List.length_map]
  have hb3 : i * 3 + 3 ≤ l.length * 3 := by omega
  refine ⟨⟨(hO.block s hslt (by simpa using hs)).trans h.head, ?_, by simpa using h.many, ?_⟩, hO⟩
  · have r1 := own_set (u := .int .i64 y.gen) h.row (j := i * 3) (by omega)
    have r2 := own_set (u := .bool y.used) r1 (j := i * 3 + 1) (by rw [List.length_set]; omega)
    have r3 := own_set (u := .int .u64 y.v) r2 (j := i * 3 + 2) (by rw [List.length_set, List.length_set]; omega)
    rw [set3 (by omega)] at r3
    rw [List.length_set]
    rw [show ((l.set i y).map S.Slot.cells).flatten = (l.map S.Slot.cells).flatten.take (i * 3) ++ [.int .i64 y.gen, .bool y.used, .int .u64 y.v] ++ (l.map S.Slot.cells).flatten.drop (i * 3 + 3) by rw [List.map_set]; exact flat_set (slot_rows l) (by simpa using hi) rfl]
    exact r3
  · intro x hx
    rcases List.mem_or_eq_of_mem_set hx with h1 | rfl
    · exact h.ok x h1
    · exact hy

/-- The cell of a result that is a handle. -/
def Boxed2 (w : World) (k : Nat) : Prop := w.heap[k]? = some (.cells #[.int .i64 0, .int .i64 0] 51 (0, 0))
theorem Boxed2.cell0 {w : World} {k : Nat} (h : Boxed2 w k) : w.cell? ⟨k, 0, none⟩ = some (.int .i64 0) := by simp [World.cell?, show w.heap[k]? = _ from h]
theorem Boxed2.cell1 {w : World} {k : Nat} (h : Boxed2 w k) : w.cell? ⟨k, 1, none⟩ = some (.int .i64 0) := by simp [World.cell?, show w.heap[k]? = _ from h]
theorem Boxed2.frozen0 {w : World} {k : Nat} (h : Boxed2 w k) : w.frozen? ⟨k, 0, none⟩ = false := by simp [World.frozen?, show w.heap[k]? = _ from h]
theorem Boxed2.frozen1 {w : World} {k : Nat} (h : Boxed2 w k) : w.frozen? ⟨k, 1, none⟩ = false := by simp [World.frozen?, show w.heap[k]? = _ from h]

/-! ### results that lie in cells -/
theorem load_handle {w : World} {p : Nat} {v0 v1 : Value} (h0 : w.cell? ⟨p, 0, none⟩ = some v0) (h1 : w.cell? ⟨p, 1, none⟩ = some v1) :
    (loadVar 51 ⟨p, 0, none⟩).run Tryz.prog w = .ok (.agg #[v0, v1]) w := by
  simp [go_sem, h0, h1]
theorem load_int {w : World} {p : Nat} {v : Value} (h0 : w.cell? ⟨p, 0, none⟩ = some v) : (loadVar 3 ⟨p, 0, none⟩).run Tryz.prog w = .ok v w := by
  simp [go_sem, h0]
theorem load_errno {w : World} {p : Nat} {v : Value} (h0 : w.cell? ⟨p, 0, none⟩ = some v) : (loadVar 23 ⟨p, 0, none⟩).run Tryz.prog w = .ok v w := by
  simp [go_sem, h0]
theorem results_ct {fn : Func} {t u : Tmp} {ty : TypeId} (h : fn.results = #[.cell t ty, .tmp u]) (tmps : Array Value) (P : Program) (w : World) {a : Addr} {v : Value} (ha : tmps.getD t undef = .pointer (some a)) (hl : (loadVar ty a).run P w = .ok v w) :
    (results fn tmps).run P w = .ok (.tuple #[v, tmps.getD u undef]) w := by
  have ha2 : tmps[t]?.getD undef = .pointer (some a) := by rw [← Array.getD_eq_getD_getElem?]; exact ha
  simp [results, h, ha2, hl, asAddr]
theorem results_cc {fn : Func} {t u : Tmp} {ty ty' : TypeId} (h : fn.results = #[.cell t ty, .cell u ty']) (tmps : Array Value) (P : Program) (w : World) {a a' : Addr} {v v' : Value} (ha : tmps.getD t undef = .pointer (some a)) (hl : (loadVar ty a).run P w = .ok v w) (ha' : tmps.getD u undef = .pointer (some a')) (hl' : (loadVar ty' a').run P w = .ok v' w) :
    (results fn tmps).run P w = .ok (.tuple #[v, v']) w := by
  have ha2 : tmps[t]?.getD undef = .pointer (some a) := by rw [← Array.getD_eq_getD_getElem?]; exact ha
  have ha3 : tmps[u]?.getD undef = .pointer (some a') := by rw [← Array.getD_eq_getD_getElem?]; exact ha'
  simp [results, h, ha2, hl, ha3, hl', asAddr]
theorem pair_cells {W : World} {p : Nat} {u0 u1 a b : Value} (h0 : W.cell? ⟨p, 0, none⟩ = some u0) (h1 : W.cell? ⟨p, 1, none⟩ = some u1) :
    ((W.setCell ⟨p, 0, none⟩ a).setCell ⟨p, 1, none⟩ b).cell? ⟨p, 0, none⟩ = some a ∧ ((W.setCell ⟨p, 0, none⟩ a).setCell ⟨p, 1, none⟩ b).cell? ⟨p, 1, none⟩ = some b := by
  have e0 : (W.setCell ⟨p, 0, none⟩ a).cell? ⟨p, 0, none⟩ = some a := World.cell?_setCell_same' _ _ _ (by rw [h0]; rfl)
  have e1 : (W.setCell ⟨p, 0, none⟩ a).cell? ⟨p, 1, none⟩ = some u1 := (World.cell?_setCell_other _ _ _ _ (by simp)).trans h1
  exact ⟨(World.cell?_setCell_other _ _ _ _ (by simp)).trans e0, World.cell?_setCell_same' _ _ _ (by rw [e1]; rfl)⟩
end Go.Proofs.YtdokiaicheillaaGreat
