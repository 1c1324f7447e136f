/-
  The walks of the layer of schemas: newest, Versions, from, Fields.
-/
import Derived.Test.YtdokiaicheillaaGreatLayout
import Derived.Test.YtdokiaicheillaaGreatSlots
import Derived.Test.YtdokiaicheillaaGreatRoots
import Derived.BigQuiet
namespace Go.Proofs.YtdokiaicheillaaGreat
open Go.RowKit

set_option maxHeartbeats 1000000 in
theorem field_New (A : Option Addr) (c : Nat) (l : List S.Field) (w : World) (hl : Fields w.cell? A l) (hs : Short l) (hr : S.right l = true) :
    Calls Tryz.prog 49 #[.slice A l.length c] w fun e w' => ∃ g, e = .returned (.slice (some ⟨g, 0, none⟩) (S.layout l).2 (S.layout l).2) ∧ w'.ownsRow w.heap.size 5 1 (.slice (some ⟨g, 0, none⟩) (S.layout l).2 (S.layout l).2) (S.layout l).2 (List.replicate (S.layout l).2 (.int .u8 0)) ∧ Below w.heap.size w w' := by
  have hlay : (S.layout l).2 = S.up (S.ends 0 l) 8 := by rw [S.layout, if_pos hr]
  rw [hlay]
  have hle : S.up (S.ends 0 l) 8 ≤ 4096 := by have h1 := S.ends_le l 0; have h2 := S.up_le (S.ends 0 l) 8; have h3 := S.right_len hr; omega
  have h1 := Hid.mk (field_Layout_yes A c l w hl hs hr)
  generalize S.up (S.ends 0 l) 8 = n at *
  obtain ⟨i0, hi, hzz⟩ := Option.map_eq_some_iff.1 clone_byte_info
  simp only [Prod.mk.injEq] at hzz
  obtain ⟨hz0, hz1, hz2⟩ := hzz
  have hmk : ∀ W : World, Hid (∃ W', (Instr.makeSlice 81 (.int .i64 (n : Int)) (.int .i64 (n : Int))).run Tryz.prog W = .ok (.slice (some ⟨W.heap.size, 0, none⟩) n n) W' ∧ W'.ownsRow W.heap.size 5 1 (.slice (some ⟨W.heap.size, 0, none⟩) n n) n (madeCells (Value.int .u8 0).cells (n * 1)).toList ∧ W.grownBy W' none) := fun W =>
    run_make_full (P := Tryz.prog) (w := W) W.heap.size 81 5 i0 _ 1 Tryz.underlying81 hi hz0 hz1 .i64 .i64 n (by rw [hz2]; omega) (by unfold maxLen; omega) (Nat.le_refl _)
  clear hl hs hr hlay hi hz0 hz1 hz2
  go_enter Tryz.func49, Tryz.ntmps49
  go_wp2_with (go_at_call 96; refine h1.out.mono ?_; rintro e w1 ⟨v, rfl, ho, hb⟩; obtain ⟨w2, hm, ho2, hg2⟩ := (hmk w1).out; have hb1 := Hid.mk hb; have ho21 := Hid.mk ho2; have hg21 := Hid.mk hg2; clear ho hb ho2 hg2)
  go_ret
  go_light
  have hrw : (madeCells (Value.int .u8 0).cells (n * 1)).toList = List.replicate n (Value.int .u8 0) := by
    rw [made_flat (by rfl), show (Value.int .u8 0).cells.toList = [Value.int .u8 0] from rfl]
    simp
  refine ⟨_, rfl, ?_, hb1.out.grown hg21.out hb1.out.size (fun k e => by cases e)⟩
  rw [← hrw]
  exact own_weak ho21.out hb1.out.size
end Go.Proofs.YtdokiaicheillaaGreat

namespace Go.Proofs.YtdokiaicheillaaGreat
open Go.RowKit

namespace S
/-- A type: its oldest version, and its tables. -/
structure Kinds where
  oldest : Int
  tabs : List Table
deriving DecidableEq, Inhabited
end S

/-- A slice that reads as l, in cells of the kind t. -/
def ReadAt {α : Type} (w : World) (v : Value) (t : TypeId) (k : Nat) (enc : α → List Value) (l : List α) : Prop :=
  ∃ A c, v = .slice A l.length c ∧ Row w.cell? A k enc l ∧ (∀ b off, A = some ⟨b, off, none⟩ → ∃ (cs : Array Value) (fr : Nat × Nat), w.heap[b]? = some (Obj.cells cs t fr)) ∧ (A = none → c = 0)
theorem ReadAt.kept {α : Type} {w w' : World} {v : Value} {t : TypeId} {k : Nat} {enc : α → List Value} {l : List α} (h : ReadAt w v t k enc l) (hk : ∀ (b : Nat) (cs : Array Value) (fr : Nat × Nat), w.heap[b]? = some (Obj.cells cs t fr) → w'.heap[b]? = some (Obj.cells cs t fr)) : ReadAt w' v t k enc l := by
  obtain ⟨A, c, hv, hr, ht, hA⟩ := h
  refine ⟨A, c, hv, hr.kept (fun b off e => ?_), fun b off e => ?_, hA⟩
  · obtain ⟨cs, fr, hc⟩ := ht b off e
    exact (hk b cs fr hc).trans hc.symm
  · obtain ⟨cs, fr, hc⟩ := ht b off e
    exact ⟨cs, fr, hk b cs fr hc⟩
/-- .. and a row of one's own does. -/
theorem ReadAt.of_own {α : Type} {w : World} {base t k n : Nat} {v : Value} {enc : α → List Value} {l : List α} (h : w.ownsRow base t k v n (l.map enc).flatten) (hk : ∀ x, x ∈ l → (enc x).length = k) (hn : n = l.length) (hb : n ≤ 1073741824) : ReadAt w v t k enc l := by
  have hrows : ∀ r, r ∈ l.map enc → r.length = k := fun r hr => by obtain ⟨x, hx, rfl⟩ := List.mem_map.1 hr; exact hk x hx
  obtain ⟨A, c, rfl, hr, hA⟩ := Row.of_own h hrows (by simpa using hn) hb
  subst hn
  refine ⟨A, c, rfl, Row.id.2 hr, fun b off e => ?_, hA⟩
  subst e
  obtain rfl := own_off h
  obtain ⟨cs, hc⟩ := own_cells h rfl
  exact ⟨cs, _, hc⟩

/-- Three values that are a table. -/
def TabVals (w : World) (row : List Value) (T : S.Table) : Prop :=
  ∃ vo vn vm, row = [vo, vn, vm] ∧ ReadAt w vo 147 3 S.Field.cells T.old ∧ ReadAt w vn 147 3 S.Field.cells T.new ∧ ReadAt w vm 169 4 S.Move.cells T.moves
/-- A type lies at sb, its tables in the row v. -/
structure SortAt (w : World) (sb : Nat) (v : Value) (s : S.Kinds) : Prop where
  head : w.heap[sb]? = some (.cells #[.int .i64 s.oldest, v] 100 (0, 0))
  row : ∃ (rows : List (List Value)), w.ownsRow 0 96 3 v s.tabs.length rows.flatten ∧ rows.length = s.tabs.length ∧ ∀ (i : Nat) (r : List Value) (T : S.Table), rows[i]? = some r → s.tabs[i]? = some T → TabVals w r T
theorem TabVals.kept {w w' : World} {row : List Value} {T : S.Table} (h : TabVals w row T) (hk : ∀ (b : Nat) (cs : Array Value) (t : TypeId) (fr : Nat × Nat), t = 147 ∨ t = 169 → w.heap[b]? = some (Obj.cells cs t fr) → w'.heap[b]? = some (Obj.cells cs t fr)) : TabVals w' row T := by
  obtain ⟨vo, vn, vm, e, h1, h2, h3⟩ := h
  exact ⟨vo, vn, vm, e, h1.kept (fun b cs fr => hk b cs _ fr (.inl rfl)), h2.kept (fun b cs fr => hk b cs _ fr (.inl rfl)), h3.kept (fun b cs fr => hk b cs _ fr (.inr rfl))⟩
theorem SortAt.kept {w w' : World} {sb : Nat} {v : Value} {s : S.Kinds} (h : SortAt w sb v s) (h1 : w'.heap[sb]? = w.heap[sb]?) (h2 : ∀ k, k ∈ rowF v → w'.heap[k]? = w.heap[k]?)
    (hk : ∀ (b : Nat) (cs : Array Value) (t : TypeId) (fr : Nat × Nat), t = 147 ∨ t = 169 → w.heap[b]? = some (Obj.cells cs t fr) → w'.heap[b]? = some (Obj.cells cs t fr)) : SortAt w' sb v s := by
  obtain ⟨rows, r1, r2, r3⟩ := h.row
  exact ⟨h1.trans h.head, rows, own_kept r1 (fun k hk' => h2 k (mem_rowF.2 hk')), r2, fun i r T hr hT => (r3 i r T hr hT).kept hk⟩

/-- A place of a type: its name, its block, its row of tables. -/
abbrev Spot := S.Text × Nat × Value
abbrev encB (b : Nat) : Value := .pointer (some ⟨b, 0, none⟩)
/-- The blocks of a catalogue. -/
def catF (c mb : Nat) (ps : List Spot) : List Nat := c :: mb :: ps.flatMap fun p => p.2.1 :: rowF p.2.2
/-- A catalogue lies at c, in the map mb, its types at ps. -/
structure CatAt (w : World) (c mb : Nat) (ps : List Spot) (C : List (S.Text × S.Kinds)) : Prop where
  head : w.heap[c]? = some (.cells #[.map (some mb)] 93 (0, 0))
  map : MapAt encT encB w mb (ps.map fun p => (p.1, p.2.1))
  names : ps.map (·.1) = C.map (·.1)
  sorts : ∀ (i : Nat) (p : Spot) (k : S.Text × S.Kinds), ps[i]? = some p → C[i]? = some k → SortAt w p.2.1 p.2.2 k.2
  apart : (catF c mb ps).Nodup

set_option maxHeartbeats 1000000 in
theorem schema_New (w : World) :
    Calls Tryz.prog 44 #[] w fun e w' => ∃ c mb, e = .returned (.pointer (some ⟨c, 0, none⟩)) ∧ CatAt w' c mb [] [] ∧ w.heap.size ≤ c ∧ w.heap.size ≤ mb ∧ Below w.heap.size w w' := by
  have hmm := @run_makeMap Tryz.prog
  go_enter Tryz.func44, Tryz.ntmps44
  go_wp2
  go_ret
  go_light
  refine ⟨w.heap.size + 1, w.heap.size, rfl, ⟨?_, (MapAt.new w).kept (Below.heap_alloc _ _ _ (by simp)), rfl, fun i p k h => by simp at h, by simp [catF]⟩, by omega, by omega, (below_one w _).new_ _⟩
  have := heap_alloc_new (w.alloc (.map #[] 0)) (.cells #[.map (some w.heap.size)] 93)
  rwa [World.size_alloc] at this
end Go.Proofs.YtdokiaicheillaaGreat

namespace Go.Proofs.YtdokiaicheillaaGreat
open Go.RowKit

namespace S
/-- Which types may be. -/
def Kinds.ok (k : Kinds) : Prop := 1 ≤ k.oldest ∧ 1 ≤ k.tabs.length ∧ k.oldest + k.tabs.length ≤ 65
def Kinds.newest (k : Kinds) : Int := k.oldest + k.tabs.length - 1
end S
theorem SortAt.c0 {w : World} {sb : Nat} {v : Value} {s : S.Kinds} (h : SortAt w sb v s) : w.cell? ⟨sb, 0, none⟩ = some (.int .i64 s.oldest) := by simp [World.cell?, h.head]
theorem SortAt.c1 {w : World} {sb : Nat} {v : Value} {s : S.Kinds} (h : SortAt w sb v s) : w.cell? ⟨sb, 1, none⟩ = some v := by simp [World.cell?, h.head]

set_option maxHeartbeats 1000000 in
theorem sort_newest (sb : Nat) (v : Value) (s : S.Kinds) (w : World) (h : SortAt w sb v s) (hk : s.ok) :
    Calls Tryz.prog 117 #[.pointer (some ⟨sb, 0, none⟩)] w fun e w' => e = .returned (.int .i64 s.newest) ∧ ∃ m, w' = w.drewN m := by
  have c0 := h.c0
  have c1 := h.c1
  obtain ⟨rows, r1, -, -⟩ := h.row
  obtain ⟨A, c, rfl⟩ := own_slice r1
  obtain ⟨k1, k2, k3⟩ := hk
  have e1 : IntKind.i64.wrap (s.oldest + s.tabs.length) = s.oldest + s.tabs.length := by rw [IntWalk.i64_left]; unfold wrap64; omega
  have e2 : IntKind.i64.wrap (s.oldest + s.tabs.length - 1) = s.oldest + s.tabs.length - 1 := by rw [IntWalk.i64_left]; unfold wrap64; omega
  have hn : s.newest = s.oldest + s.tabs.length - 1 := rfl
  rw [hn]
  generalize s.tabs.length = n at *
  generalize s.oldest = o at *
  clear h r1 hn
  go_enter Tryz.func117, Tryz.ntmps117
  go_wp2
  go_quiet (fail)
  go_wp2
  go_ret
  go_light
  exact ⟨rfl, _, rfl⟩

theorem getK_spot {R : Spot → S.Text × S.Kinds → Prop} (a : S.Text) : ∀ {ps : List Spot} {C : List (S.Text × S.Kinds)}, ps.map (·.1) = C.map (·.1) → (∀ (i : Nat) (p : Spot) (k : S.Text × S.Kinds), ps[i]? = some p → C[i]? = some k → R p k) →
    (∀ k, getK C a = some k → ∃ p, p ∈ ps ∧ p.1 = a ∧ getK (ps.map fun p => (p.1, p.2.1)) a = some p.2.1 ∧ R p (a, k)) ∧ (getK C a = none → getK (ps.map fun p => (p.1, p.2.1)) a = none)
  | [], [], _, _ => ⟨fun k h => by simp [getK] at h, fun _ => rfl⟩
  | [], _ :: _, h, _ => by simp at h
  | _ :: _, [], h, _ => by simp at h
  | p :: ps, x :: C, h, hR => by
    simp only [List.map_cons, List.cons.injEq] at h
    obtain ⟨h1, h2⟩ := getK_spot (R := R) a h.2 (fun i p k hp hk => hR (i + 1) p k (by simpa using hp) (by simpa using hk))
    by_cases ha : a = x.1
    · have hp : a = p.1 := by rw [h.1]; exact ha
      refine ⟨fun k hk => ⟨p, by simp, hp.symm, by simp [getK, ← hp], ?_⟩, fun hk => by simp [getK, ha] at hk⟩
      have := hR 0 p x rfl rfl
      have hk' : x.2 = k := by simpa [getK, ha] using hk
      rw [← hk', ha]
      exact this
    · have hp : a ≠ p.1 := by rw [h.1]; exact ha
      refine ⟨fun k hk => ?_, fun hk => ?_⟩
      · obtain ⟨q, q1, q2, q3, q4⟩ := h1 k (by simpa [getK, ha] using hk)
        exact ⟨q, by simp [q1], q2, by simpa [getK, hp] using q3, q4⟩
      · have := h2 (by simpa [getK, ha] using hk)
        simpa [getK, hp] using this

set_option maxHeartbeats 2000000 in
theorem schema_Versions_none (c mb : Nat) (ps : List Spot) (C : List (S.Text × S.Kinds)) (a : S.Text) (w : World) (h : CatAt w c mb ps C) (hn : getK C a = none) :
    Calls Tryz.prog 81 #[.pointer (some ⟨c, 0, none⟩), .string (S.mk a)] w fun e w' => e = .returned (.tuple #[.int .i64 0, .int .i64 0, .int .i64 90]) ∧ Below w.heap.size w w' := by
  have c0 : w.cell? ⟨c, 0, none⟩ = some (.map (some mb)) := by simp [World.cell?, h.head]
  have hl := run_look_none (P := Tryz.prog) (key_text Tryz.underlying9) Tryz.underlying91 h.map a ((getK_spot a h.names h.sorts).2 hn) (Tryz.zeroValue90 w) false
  clear h
  go_enter Tryz.func81, Tryz.ntmps81
  go_wp2
  go_ret3
  go_light
  exact ⟨rfl, Below.refl _ _⟩

theorem SortAt.draw {w : World} {sb : Nat} {v : Value} {s : S.Kinds} (h : SortAt w sb v s) (n : Nat) : SortAt (w.drewN n) sb v s := h.kept rfl (fun _ _ => rfl) (fun _ _ _ _ _ h => h)

set_option maxHeartbeats 2000000 in
theorem schema_Versions (c mb : Nat) (ps : List Spot) (C : List (S.Text × S.Kinds)) (a : S.Text) (k : S.Kinds) (w : World) (h : CatAt w c mb ps C) (hn : getK C a = some k) (hk : k.ok) :
    Calls Tryz.prog 81 #[.pointer (some ⟨c, 0, none⟩), .string (S.mk a)] w fun e w' => e = .returned (.tuple #[.int .i64 k.oldest, .int .i64 k.newest, .int .i64 0]) ∧ ∃ m, w' = w.drewN m := by
  have c0 : w.cell? ⟨c, 0, none⟩ = some (.map (some mb)) := by simp [World.cell?, h.head]
  obtain ⟨p, -, -, hp, hs⟩ := (getK_spot a h.names h.sorts).1 k hn
  have hl := run_look (P := Tryz.prog) (key_text Tryz.underlying9) Tryz.underlying91 h.map a hp false
  obtain ⟨nm, sb, v⟩ := p
  dsimp only at hs hl
  have d0 := hs.c0
  have hs1 := Hid.mk hs
  have hk1 := Hid.mk hk
  clear h hs hp hn hk
  go_enter Tryz.func81, Tryz.ntmps81
  go_wp2
  go_quiet ((go_at_call 117; exact Calls.quiet_of (sort_newest sb v k _ (hs1.out.draw _) hk1.out)))
  go_wp2
  go_ret3
  go_light
  exact ⟨rfl, _, rfl⟩

set_option maxRecDepth 100000 in
set_option maxHeartbeats 2000000 in
theorem schema_from (c mb : Nat) (ps : List Spot) (C : List (S.Text × S.Kinds)) (a : S.Text) (k : S.Kinds) (j : Nat) (w : World) (h : CatAt w c mb ps C) (hn : getK C a = some k) (hk : k.ok) (hj : j < k.tabs.length) :
    ∃ sb g cap, SortAt w sb (.slice (some ⟨g, 0, none⟩) k.tabs.length cap) k ∧
    Calls Tryz.prog 113 #[.pointer (some ⟨c, 0, none⟩), .string (S.mk a), .int .i64 (k.oldest + j)] w fun e w' => e = .returned (.tuple #[.slice (some ⟨g, j * 3, none⟩) (k.tabs.length - j) (k.tabs.length - j), .int .i64 0]) ∧ ∃ m, w' = w.drewN m := by
  have c0 : w.cell? ⟨c, 0, none⟩ = some (.map (some mb)) := by simp [World.cell?, h.head]
  obtain ⟨p, -, -, hp, hs⟩ := (getK_spot a h.names h.sorts).1 k hn
  have hl := run_look (P := Tryz.prog) (key_text Tryz.underlying9) Tryz.underlying91 h.map a hp false
  obtain ⟨nm, sb, v⟩ := p
  dsimp only [encB] at hs hl
  obtain ⟨rows, r1, -, -⟩ := hs.row
  obtain ⟨k1, k2, k3⟩ := id hk
  rcases r1.2 with ⟨rfl, e⟩ | ⟨g, cap, cur, rfl, -, -, hcap, -⟩
  · exact absurd (by have := r1.1; rw [e] at this; simp at this; omega) (by omega : ¬ k.tabs.length = 0)
  refine ⟨sb, g, cap, hs, ?_⟩
  have d0 := hs.c0
  have d1 := hs.c1
  have hs1 := Hid.mk hs
  have hk1 := Hid.mk hk
  have hnw : k.newest = k.oldest + k.tabs.length - 1 := rfl
  have t1 : decide (k.oldest + j < k.oldest) = false := by simp; omega
  have t2 : decide (k.newest < k.oldest + j) = false := by simp; omega
  have e1 : wrap64 (k.oldest + j - k.oldest) = j := by unfold wrap64; omega
  have e2 : IntKind.i64.wrap (k.oldest + j - k.oldest) = j := by rw [IntWalk.i64_left]; exact e1
  clear h hs hp hn hk r1
  go_enter Tryz.func113, Tryz.ntmps113
  go_wp2_with (go_at_call 117; refine (sort_newest sb _ k _ hs1.out hk1.out).mono ?_; rintro e w1 ⟨rfl, m, rfl⟩)
  have hjl : (j : Int) ≤ (k.tabs.length : Int) := by omega
  have hlc : (k.tabs.length : Int) ≤ (cap : Int) := by omega
  go_quiet (fail)
  go_wp2
  go_ret2
  go_light
  exact ⟨rfl, _, by rw [World.drewN_drewN]⟩

theorem field_one (l : List S.Field) : ∀ r, r ∈ l.map S.Field.cells → ∀ u, u ∈ r → u.oneCell' = true := by
  intro r hr u hu
  obtain ⟨x, -, rfl⟩ := List.mem_map.1 hr
  simp only [S.Field.cells, List.mem_cons, List.not_mem_nil, or_false] at hu
  rcases hu with rfl | rfl | rfl <;> rfl
theorem field_rows (l : List S.Field) : ∀ r, r ∈ l.map S.Field.cells → r.length = 3 := fun r hr => by obtain ⟨x, -, rfl⟩ := List.mem_map.1 hr; rfl

/-- The cells of one table of a type. -/
theorem SortAt.at {w : World} {sb g cap j : Nat} {k : S.Kinds} {T : S.Table} (h : SortAt w sb (.slice (some ⟨g, 0, none⟩) k.tabs.length cap) k) (hT : k.tabs[j]? = some T) :
    ∃ vo vn vm, w.cell? ⟨g, j * 3, none⟩ = some vo ∧ w.cell? ⟨g, j * 3 + 1, none⟩ = some vn ∧ w.cell? ⟨g, j * 3 + 2, none⟩ = some vm ∧ ReadAt w vo 147 3 S.Field.cells T.old ∧ ReadAt w vn 147 3 S.Field.cells T.new ∧ ReadAt w vm 169 4 S.Move.cells T.moves := by
  obtain ⟨rows, r1, r2, r3⟩ := h.row
  obtain ⟨hj, -⟩ := List.getElem?_eq_some_iff.1 hT
  have hr : rows[j]? = some rows[j] := List.getElem?_eq_getElem (by omega)
  have hall : ∀ r, r ∈ rows → r.length = 3 := fun r hr => by
    obtain ⟨i, hi⟩ := List.getElem?_of_mem hr
    obtain ⟨hi2, -⟩ := List.getElem?_eq_some_iff.1 hi
    obtain ⟨vo, vn, vm, e, -⟩ := r3 i r _ hi (List.getElem?_eq_getElem (by omega))
    rw [e]; rfl
  obtain ⟨vo, vn, vm, e, h1, h2, h3⟩ := r3 j _ T hr hT
  rcases r1.2 with ⟨e0, -⟩ | ⟨g', cap', cur, e0, -, hh, -, -, -, ht⟩
  · cases e0
  simp only [Value.slice.injEq, Option.some.injEq, Addr.mk.injEq, and_true, true_and] at e0
  obtain ⟨rfl, rfl⟩ := e0
  have hc : ∀ (i : Nat) (u : Value), rows[j][i]? = some u → w.cell? ⟨g, j * 3 + i, none⟩ = some u := fun i u hu => by
    have hf := flat_at hall hr hu
    rw [← ht, List.getElem?_take] at hf
    split at hf
    · simp only [World.cell?, hh]
      simpa using hf
    · cases hf
  rw [e] at hc
  exact ⟨vo, vn, vm, hc 0 _ rfl, hc 1 _ rfl, hc 2 _ rfl, h1, h2, h3⟩

set_option maxRecDepth 100000 in
set_option maxHeartbeats 2000000 in
theorem schema_Fields (c mb : Nat) (ps : List Spot) (C : List (S.Text × S.Kinds)) (a : S.Text) (k : S.Kinds) (j : Nat) (T : S.Table) (w : World) (h : CatAt w c mb ps C) (hn : getK C a = some k) (hk : k.ok) (hT : k.tabs[j]? = some T) :
    Calls Tryz.prog 75 #[.pointer (some ⟨c, 0, none⟩), .string (S.mk a), .int .i64 (k.oldest + j)] w fun e w' => ∃ v, e = .returned (.tuple #[v, .int .i64 0]) ∧ w'.ownsRow w.heap.size 147 3 v T.new.length (T.new.map S.Field.cells).flatten ∧ Below w.heap.size w w' := by
  obtain ⟨hj, -⟩ := List.getElem?_eq_some_iff.1 hT
  obtain ⟨sb, g, cap, hs, hc⟩ := schema_from c mb ps C a k j w h hn hk hj
  obtain ⟨vo, vn, vm, d0, d1, d2, -, ⟨A, c2, rfl, hrow, -, hA⟩, -⟩ := hs.at hT
  have hc1 := Hid.mk hc
  have hcl : ∀ m, Hid (Calls Tryz.prog 95 #[.slice A T.new.length c2] (w.drewN m) fun e w' => ∃ v, e = .returned v ∧ w'.ownsRow w.heap.size 147 3 v T.new.length (T.new.map S.Field.cells).flatten ∧ Below w.heap.size w w') := fun m => by
    have := clone_Field A c2 (T.new.map S.Field.cells) (w.drewN m) (Row.id.1 (hrow.kept (fun _ _ _ => rfl))) (field_rows _) (field_one _) hA
    rw [List.length_map] at this
    exact this.mono fun e w' ⟨v, h1, h2, h3⟩ => ⟨v, h1, h2, ⟨h3.os, h3.tape, h3.output, h3.size, h3.block⟩⟩
  have hjl : 0 < k.tabs.length - j := by omega
  clear h hn hk hs hc hrow hA d0 d2
  go_enter Tryz.func75, Tryz.ntmps75
  go_wp2_with (first | (go_at_call 113; refine hc1.out.mono ?_; rintro e w1 ⟨rfl, m, rfl⟩) | (go_at_call 95; refine (hcl m).out.mono ?_; rintro e w2 ⟨v, rfl, ho, hb⟩; have ho1 := Hid.mk ho; have hb1 := Hid.mk hb; clear ho hb))
  go_ret2
  go_light
  exact ⟨_, rfl, ho1.out, hb1.out⟩
end Go.Proofs.YtdokiaicheillaaGreat
