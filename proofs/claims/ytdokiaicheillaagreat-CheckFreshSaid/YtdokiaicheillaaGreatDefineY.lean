/-
  The walk of schema.Define, where a type is added; all of Define.
-/
import Derived.Test.YtdokiaicheillaaGreatSame
namespace Go.Proofs.YtdokiaicheillaaGreat
open Go.RowKit

/-- None of these blocks has cells of fields or of moves. -/
def Calm (w : World) (F : List Nat) : Prop := ∀ (k : Nat) (cs : Array Value) (t : TypeId) (fr : Nat × Nat), k ∈ F → w.heap[k]? = some (Obj.cells cs t fr) → t ≠ 147 ∧ t ≠ 169
theorem Calm.nil (w : World) : Calm w [] := fun _ _ _ _ h => by cases h
theorem Calm.keeps {w w' : World} {F : List Nat} (hC : Calm w F) (hO : Only F w w') (b : Nat) (cs : Array Value) (t : TypeId) (fr : Nat × Nat) (ht : t = 147 ∨ t = 169) (h : w.heap[b]? = some (Obj.cells cs t fr)) : w'.heap[b]? = some (Obj.cells cs t fr) := by
  refine (hO.block b (Array.getElem?_eq_some_iff.1 h).1 (fun hb => ?_)).trans h
  have := hC b cs t fr hb h
  rcases ht with rfl | rfl
  · exact this.1 rfl
  · exact this.2 rfl
theorem calm_map {w : World} {mb : Nat} {a : Array MapEntry} {c : Nat} (h : w.heap[mb]? = some (.map a c)) : Calm w [mb] := fun k cs t fr hk h2 => by
  simp only [List.mem_singleton] at hk
  subst hk
  rw [h] at h2
  cases h2
theorem calm_cells {w : World} {g : Nat} {cs : Array Value} {t : TypeId} {fr : Nat × Nat} (h : w.heap[g]? = some (.cells cs t fr)) (h1 : t ≠ 147) (h2 : t ≠ 169) : Calm w [g] := fun k cs' t' fr' hk h3 => by
  simp only [List.mem_singleton] at hk
  subst hk
  rw [h] at h3
  simp only [Option.some.injEq, Obj.cells.injEq] at h3
  rw [← h3.2.1]
  exact ⟨h1, h2⟩
theorem calm_row {w : World} {base t size n : Nat} {v : Value} {xs : List Value} (h : w.ownsRow base t size v n xs) (h1 : t ≠ 147) (h2 : t ≠ 169) : Calm w (rowF v) := fun k cs' t' fr' hk h3 => by
  obtain ⟨c, hc⟩ := own_cells h (mem_rowF.1 hk)
  rw [hc] at h3
  simp only [Option.some.injEq, Obj.cells.injEq] at h3
  rw [← h3.2.1]
  exact ⟨h1, h2⟩
theorem Calm.append {w : World} {F G : List Nat} (h : Calm w F) (h' : Calm w G) : Calm w (F ++ G) := fun k cs t fr hk h3 => (List.mem_append.1 hk).elim (fun h1 => h k cs t fr h1 h3) (fun h1 => h' k cs t fr h1 h3)

theorem CatAt.spot {w : World} {c mb : Nat} {ps : List Spot} {C : List (S.Text × S.Kinds)} (h : CatAt w c mb ps C) {p : Spot} (hp : p ∈ ps) : ∃ k, (p.1, k) ∈ C ∧ SortAt w p.2.1 p.2.2 k := by
  obtain ⟨i, hi⟩ := List.getElem?_of_mem hp
  have hl : ps.length = C.length := by have := congrArg List.length h.names; simpa using this
  have hlt := (List.getElem?_eq_some_iff.1 hi).1
  have hk : C[i]? = some C[i] := List.getElem?_eq_getElem (by omega)
  have hn : p.1 = C[i].1 := by
    have := congrArg (fun l => l[i]?) h.names
    simp only [List.getElem?_map, hi, hk, Option.map_some, Option.some.injEq] at this
    exact this
  exact ⟨C[i].2, by rw [hn]; exact List.mem_of_getElem? hk, h.sorts i p _ hi hk⟩
theorem CatAt.lt {w : World} {c mb : Nat} {ps : List Spot} {C : List (S.Text × S.Kinds)} (h : CatAt w c mb ps C) : ∀ k, k ∈ catF c mb ps → k < w.heap.size := by
  intro k hk
  simp only [catF, List.mem_cons, List.mem_flatMap] at hk
  rcases hk with rfl | rfl | ⟨p, hp, rfl | hk⟩
  · exact (Array.getElem?_eq_some_iff.1 h.head).1
  · exact h.map.lt
  · obtain ⟨x, -, hs⟩ := h.spot hp
    exact (Array.getElem?_eq_some_iff.1 hs.head).1
  · obtain ⟨x, -, hs⟩ := h.spot hp
    obtain ⟨rows, r1, -, -⟩ := hs.row
    exact own_lt r1 (mem_rowF.1 hk)
theorem CatAt.calm {w : World} {c mb : Nat} {ps : List Spot} {C : List (S.Text × S.Kinds)} (h : CatAt w c mb ps C) : Calm w (catF c mb ps) := by
  intro k cs t fr hk h3
  simp only [catF, List.mem_cons, List.mem_flatMap] at hk
  rcases hk with rfl | rfl | ⟨p, hp, rfl | hk⟩
  · exact calm_cells h.head (by decide) (by decide) k cs t fr (by simp) h3
  · obtain ⟨a, cl, hm⟩ := h.map.obj
    exact calm_map hm k cs t fr (by simp) h3
  · obtain ⟨x, -, hs⟩ := h.spot hp
    exact calm_cells hs.head (by decide) (by decide) _ cs t fr (by simp) h3
  · obtain ⟨x, -, hs⟩ := h.spot hp
    obtain ⟨rows, r1, -, -⟩ := hs.row
    exact calm_row r1 (by decide) (by decide) k cs t fr hk h3
theorem CatAt.kept {w w' : World} {c mb : Nat} {ps : List Spot} {C : List (S.Text × S.Kinds)} (h : CatAt w c mb ps C) (hk : ∀ k, k ∈ catF c mb ps → w'.heap[k]? = w.heap[k]?)
    (hf : ∀ (b : Nat) (cs : Array Value) (t : TypeId) (fr : Nat × Nat), t = 147 ∨ t = 169 → w.heap[b]? = some (Obj.cells cs t fr) → w'.heap[b]? = some (Obj.cells cs t fr)) : CatAt w' c mb ps C where
  head := (hk c (by simp [catF])).trans h.head
  map := h.map.kept (hk mb (by simp [catF]))
  names := h.names
  sorts := fun i p x hp hx => (h.sorts i p x hp hx).kept (hk _ (by simp only [catF, List.mem_cons, List.mem_flatMap]; exact .inr (.inr ⟨p, List.mem_of_getElem? hp, .inl rfl⟩))) (fun k hk' => hk k (by simp only [catF, List.mem_cons, List.mem_flatMap]; exact .inr (.inr ⟨p, List.mem_of_getElem? hp, .inr hk'⟩))) hf
  apart := h.apart
theorem CatAt.only {w w' : World} {c mb : Nat} {ps : List Spot} {C : List (S.Text × S.Kinds)} {G : List Nat} (h : CatAt w c mb ps C) (hO : Only G w w') (hC : Calm w G) (hd : ∀ k, k ∈ catF c mb ps → k ∉ G) : CatAt w' c mb ps C :=
  h.kept (fun k hk => hO.block k (h.lt k hk) (hd k hk)) (hC.keeps hO)
theorem CatAt.below {w w' : World} {c mb : Nat} {ps : List Spot} {C : List (S.Text × S.Kinds)} (h : CatAt w c mb ps C) (hb : Below w.heap.size w w') : CatAt w' c mb ps C :=
  h.only (Only.below hb []) (Calm.nil w) (fun _ _ => by simp)

namespace S
def define (C : List (Text × Kinds)) (name : Text) (l : List Field) : List (Text × Kinds) × Int :=
  if nameOk name && right l then (if (getK C name).isSome || decide (16 ≤ C.length) then (C, 91) else (C ++ [(name, ⟨1, [same l]⟩)], 0)) else (C, 60)
end S
theorem setK_new {K V : Type} [DecidableEq K] {l : List (K × V)} {a : K} (h : getK l a = none) (v : V) : setK l a v = l ++ [(a, v)] := by
  have : l.any (fun x => decide (a = x.1)) = false := by
    rw [List.any_eq_false]
    intro x hx
    have h2 : l.find? (fun x => decide (a = x.1)) = none := by simpa [getK] using h
    simpa using List.find?_eq_none.1 h2 x hx
  simp [setK, this]

theorem cat_new {w w' : World} {c mb sb tb : Nat} {ps : List Spot} {C : List (S.Text × S.Kinds)} {name : S.Text} {l : List S.Field} {vo vn vm : Value} (h : CatAt w c mb ps C) (hr : S.right l = true) (hO : Only [mb] w w')
    (hm : MapAt encT encB w' mb (ps.map (fun p => (p.1, p.2.1)) ++ [(name, sb)])) (hs : w'.heap[sb]? = some (.cells #[.int .i64 1, .slice (some ⟨tb, 0, none⟩) 1 1] 100 (0, 0))) (ht : w'.heap[tb]? = some (.cells #[vo, vn, vm] 96 (0, 0)))
    (h1 : w.heap.size ≤ sb) (h2 : w.heap.size ≤ tb) (ho : w'.ownsRow w.heap.size 147 3 vo l.length (l.map S.Field.cells).flatten) (hn : w'.ownsRow w.heap.size 147 3 vn l.length (l.map S.Field.cells).flatten)
    (hv : w'.ownsRow w.heap.size 169 4 vm l.length ((S.sameFrom l.length).map S.Move.cells).flatten) :
    CatAt w' c mb (ps ++ [(name, sb, .slice (some ⟨tb, 0, none⟩) 1 1)]) (C ++ [(name, ⟨1, [S.same l]⟩)]) := by
  have hl16 := S.right_len hr
  have hmc : Calm w [mb] := by obtain ⟨a, cl, hm⟩ := h.map.obj; exact calm_map hm
  have hap := h.apart
  simp only [catF, List.nodup_cons, List.mem_cons, List.mem_flatMap, not_or] at hap
  obtain ⟨⟨a1, a2⟩, a3, a4⟩ := hap
  have hlen : ps.length = C.length := by have := congrArg List.length h.names; simpa using this
  have hst : sb ≠ tb := by rintro rfl; rw [hs] at ht; simp only [Option.some.injEq, Obj.cells.injEq] at ht; exact absurd ht.2.1 (by decide)
  refine ⟨(hO.block c (h.lt c (by simp [catF])) (by simpa using a1)).trans h.head, by simpa using hm, by simp [h.names], fun i p k hp hk => ?_, ?_⟩
  · by_cases hi : i < ps.length
    · rw [List.getElem?_append_left hi] at hp
      rw [List.getElem?_append_left (by omega)] at hk
      have hin : p ∈ ps := List.mem_of_getElem? hp
      have hb : ∀ k, (k = p.2.1 ∨ k ∈ rowF p.2.2) → w'.heap[k]? = w.heap[k]? := fun k hk => hO.block k (h.lt k (by simp only [catF, List.mem_cons, List.mem_flatMap]; exact .inr (.inr ⟨p, hin, hk⟩))) (by
        simp only [List.mem_singleton]
        rintro rfl
        exact a3 ⟨p, hin, hk⟩)
      exact (h.sorts i p k hp hk).kept (hb _ (.inl rfl)) (fun k hk => hb k (.inr hk)) (hmc.keeps hO)
    · have hi2 : i = ps.length := by
        have := (List.getElem?_eq_some_iff.1 hp).1
        simp at this
        omega
      subst hi2
      rw [List.getElem?_append_right (Nat.le_refl _), Nat.sub_self] at hp
      rw [List.getElem?_append_right (by omega), show ps.length - C.length = 0 by omega] at hk
      simp only [List.getElem?_cons_zero, Option.some.injEq] at hp hk
      subst hp
      subst hk
      refine ⟨hs, [[vo, vn, vm]], ⟨rfl, .inr ⟨tb, 1, #[vo, vn, vm], rfl, Nat.zero_le _, ht, by simp, by decide, rfl, rfl⟩⟩, rfl, fun i r T h3 h4 => ?_⟩
      match i, h3, h4 with
      | 0, h3, h4 =>
        simp only [List.getElem?_cons_zero, Option.some.injEq] at h3 h4
        subst h3
        subst h4
        refine ⟨vo, vn, vm, rfl, ?_, ?_, ?_⟩
        · exact ReadAt.of_own (by simpa [S.same, hr] using ho) (fun _ _ => rfl) (by simp [S.same, hr]) (by omega)
        · exact ReadAt.of_own (by simpa [S.same, hr] using hn) (fun _ _ => rfl) (by simp [S.same, hr]) (by omega)
        · exact ReadAt.of_own (by simpa [S.same, hr] using hv) (fun _ _ => rfl) (by simp [S.same, hr, S.sameFrom]) (by omega)
      | i + 1, h3, _ => simp at h3
  · have hap := h.apart
    have e : catF c mb (ps ++ [(name, sb, .slice (some ⟨tb, 0, none⟩) 1 1)]) = catF c mb ps ++ [sb, tb] := by simp [catF, rowF_slice]
    rw [e]
    refine List.nodup_append.2 ⟨hap, by simp [hst], fun a ha b hb => ?_⟩
    have := h.lt a ha
    simp only [List.mem_cons, List.not_mem_nil, or_false] at hb
    omega

set_option maxRecDepth 100000 in
set_option maxHeartbeats 4000000 in
theorem schema_Define_no (c mb : Nat) (ps : List Spot) (C : List (S.Text × S.Kinds)) (name : S.Text) (A : Option Addr) (cc : Nat) (l : List S.Field) (w : World) (h : CatAt w c mb ps C) (hn : name.length ≤ 1073741824)
    (hl : Fields w.cell? A l) (hs : Short l) (hno : (S.nameOk name && S.right l) = false) :
    Calls Tryz.prog 15 #[.pointer (some ⟨c, 0, none⟩), .string (S.mk name), .slice A l.length cc] w fun e w' => e = .returned (.int .i64 60) ∧ Below w.heap.size w w' := by
  have hN := Hid.mk (field_Name name w hn)
  cases hnm : S.nameOk name with
  | false =>
    rw [hnm] at hN
    clear h hn hl hs hno hnm
    go_enter Tryz.func15, Tryz.ntmps15
    go_wp2_with (go_at_call 45; refine hN.out.mono ?_; rintro e w1 ⟨rfl, hb⟩; have hb1 := Hid.mk hb; clear hb)
    go_ret
    go_light
    exact ⟨rfl, hb1.out⟩
  | true =>
    have hr : S.right l = false := by simpa [hnm] using hno
    have hR : ∀ w1, Below w.heap.size w w1 → Hid (Calls Tryz.prog 46 #[.slice A l.length cc] w1 fun e w' => e = .returned (.bool false) ∧ Below w1.heap.size w1 w') := fun w1 hb => by
      have := field_Right A cc l w1 (hl.below hb) hs
      rwa [hr] at this
    rw [hnm] at hN
    clear h hn hl hs hno hnm hr
    go_enter Tryz.func15, Tryz.ntmps15
    go_wp2_with (first | (go_at_call 45; refine hN.out.mono ?_; rintro e w1 ⟨rfl, hb⟩; have hb1 := Hid.mk hb; clear hb) | (go_at_call 46; refine (hR _ hb1.out).out.mono ?_; rintro e w2 ⟨rfl, hb⟩; have hb2 := Hid.mk (below_then hb1.out hb); clear hb))
    go_ret
    go_light
    exact ⟨rfl, hb2.out⟩

set_option maxRecDepth 100000 in
set_option maxHeartbeats 4000000 in
theorem schema_Define_there (c mb : Nat) (ps : List Spot) (C : List (S.Text × S.Kinds)) (name : S.Text) (A : Option Addr) (cc : Nat) (l : List S.Field) (w : World) (h : CatAt w c mb ps C) (hn : name.length ≤ 1073741824)
    (hl : Fields w.cell? A l) (hs : Short l) (hok : (S.nameOk name && S.right l) = true) (hC : C.length ≤ 1073741824) (hth : ((getK C name).isSome || decide (16 ≤ C.length)) = true) :
    Calls Tryz.prog 15 #[.pointer (some ⟨c, 0, none⟩), .string (S.mk name), .slice A l.length cc] w fun e w' => e = .returned (.int .i64 91) ∧ Below w.heap.size w w' := by
  have hN := Hid.mk (field_Name name w hn)
  simp only [Bool.and_eq_true] at hok
  have hR : ∀ w1, Below w.heap.size w w1 → Hid (Calls Tryz.prog 46 #[.slice A l.length cc] w1 fun e w' => e = .returned (.bool true) ∧ Below w1.heap.size w1 w') := fun w1 hb => by
    have := field_Right A cc l w1 (hl.below hb) hs
    rwa [hok.2] at this
  rw [hok.1] at hN
  have hcl : c < w.heap.size := h.lt c (by simp [catF])
  have h1 := Hid.mk h
  have hlen : (ps.map fun p => (p.1, p.2.1)).length = C.length := by have := congrArg List.length h.names; simpa using this
  cases hg : getK C name with
  | none =>
    have h16 : decide (16 ≤ (C.length : Int)) = true := by simp [hg] at hth; simp; omega
    have hw : ∀ w2, Below w.heap.size w w2 → Hid ((Instr.lookup 91 (.map (some mb)) (.string (S.mk name)) false).run Tryz.prog w2 = .ok (.pointer none) w2 ∧ (∀ ty, (Builtin.len_ #[91] ty #[.map (some mb)]).run Tryz.prog w2 = .ok (.int .i64 (C.length : Nat)) w2) ∧ w2.cell? ⟨c, 0, none⟩ = some (.map (some mb))) := fun w2 hb => by
      have h2 := h.below hb
      refine ⟨?_, fun ty => ?_, by simp [World.cell?, h2.head]⟩
      · exact run_look_none (P := Tryz.prog) (key_text Tryz.underlying9) Tryz.underlying91 h2.map name ((getK_spot name h2.names h2.sorts).2 hg) (Tryz.zeroValue90 w2) false
      · have := run_maplen (P := Tryz.prog) h2.map Tryz.underlying91 ty
        rwa [hlen] at this
    clear h hn hl hs hok hth hg hC hlen
    go_enter Tryz.func15, Tryz.ntmps15
    go_wp2_with (first | (go_at_call 45; refine hN.out.mono ?_; rintro e w1 ⟨rfl, hb⟩; have hb1 := Hid.mk hb; clear hb) | (go_at_call 46; refine (hR _ hb1.out).out.mono ?_; rintro e w2 ⟨rfl, hb⟩; have hb2 := Hid.mk (below_then hb1.out hb); clear hb; obtain ⟨q1, q2, q3⟩ := (hw _ hb2.out).out))
    go_ret
    go_light
    exact ⟨rfl, hb2.out⟩
  | some k =>
    have hw : ∃ sb : Nat, ∀ w2, Below w.heap.size w w2 → Hid ((Instr.lookup 91 (.map (some mb)) (.string (S.mk name)) false).run Tryz.prog w2 = .ok (.pointer (some ⟨sb, 0, none⟩)) w2 ∧ w2.cell? ⟨c, 0, none⟩ = some (.map (some mb))) := by
      obtain ⟨p, -, -, hp, -⟩ := (getK_spot name h.names h.sorts).1 k hg
      refine ⟨p.2.1, fun w2 hb => ?_⟩
      have h2 := h.below hb
      exact ⟨run_look (P := Tryz.prog) (key_text Tryz.underlying9) Tryz.underlying91 h2.map name hp false, by simp [World.cell?, h2.head]⟩
    obtain ⟨sb, hw⟩ := hw
    clear h hn hl hs hok hth hg hC hlen
    go_enter Tryz.func15, Tryz.ntmps15
    go_wp2_with (first | (go_at_call 45; refine hN.out.mono ?_; rintro e w1 ⟨rfl, hb⟩; have hb1 := Hid.mk hb; clear hb) | (go_at_call 46; refine (hR _ hb1.out).out.mono ?_; rintro e w2 ⟨rfl, hb⟩; have hb2 := Hid.mk (below_then hb1.out hb); clear hb; obtain ⟨q1, q3⟩ := (hw _ hb2.out).out))
    go_ret
    go_light
    exact ⟨rfl, hb2.out⟩
end Go.Proofs.YtdokiaicheillaaGreat

namespace Go.Proofs.YtdokiaicheillaaGreat
open Go.RowKit

set_option maxRecDepth 100000 in
set_option maxHeartbeats 1000000 in
theorem schema_Define_yes (c mb : Nat) (ps : List Spot) (C : List (S.Text × S.Kinds)) (name : S.Text) (A : Option Addr) (cc : Nat) (l : List S.Field) (w : World) (h : CatAt w c mb ps C) (hn : name.length ≤ 1073741824)
    (hl : Fields w.cell? A l) (hA : A = none → cc = 0) (hs : Short l) (hok : (S.nameOk name && S.right l) = true) (hth : ((getK C name).isSome || decide (16 ≤ C.length)) = false) :
    Calls Tryz.prog 15 #[.pointer (some ⟨c, 0, none⟩), .string (S.mk name), .slice A l.length cc] w fun e w' => e = .returned (.int .i64 0) ∧ ∃ sb v, CatAt w' c mb (ps ++ [(name, sb, v)]) (C ++ [(name, ⟨1, [S.same l]⟩)]) ∧ w.heap.size ≤ sb ∧ (∀ k, k ∈ rowF v → w.heap.size ≤ k) ∧ Only [mb] w w' := by
  have hN := Hid.mk (field_Name name w hn)
  simp only [Bool.and_eq_true] at hok
  have hR : ∀ w1, Below w.heap.size w w1 → Hid (Calls Tryz.prog 46 #[.slice A l.length cc] w1 fun e w' => e = .returned (.bool true) ∧ Below w1.heap.size w1 w') := fun w1 hb => by
    have := field_Right A cc l w1 (hl.below hb) hs
    rwa [hok.2] at this
  have hSm : ∀ w1, Below w.heap.size w w1 → Hid (Calls Tryz.prog 47 #[.slice A l.length cc] w1 fun e w' => ∃ vo vn vm, e = .returned (.agg #[vo, vn, vm]) ∧ w'.ownsRow w1.heap.size 147 3 vo l.length (l.map S.Field.cells).flatten ∧ w'.ownsRow w1.heap.size 147 3 vn l.length (l.map S.Field.cells).flatten ∧
      w'.ownsRow w1.heap.size 169 4 vm l.length ((S.sameFrom l.length).map S.Move.cells).flatten ∧ (∀ k, vo.ownBlock = some k → vn.ownBlock ≠ some k) ∧ Below w1.heap.size w1 w') := fun w1 hb => table_Same A cc l w1 (hl.below hb) hA hs hok.2
  rw [hok.1] at hN
  simp only [Bool.or_eq_false_iff, Option.isSome_eq_false_iff, Option.isNone_iff_eq_none, decide_eq_false_iff_not] at hth
  obtain ⟨hg, h16⟩ := hth
  have hcl : c < w.heap.size := h.lt c (by simp [catF])
  have h1 := Hid.mk h
  have hlen : (ps.map fun p => (p.1, p.2.1)).length = C.length := by have := congrArg List.length h.names; simpa using this
  have hgp := (getK_spot name h.names h.sorts).2 hg
  have hw : ∀ w2, Below w.heap.size w w2 → Hid ((Instr.lookup 91 (.map (some mb)) (.string (S.mk name)) false).run Tryz.prog w2 = .ok (.pointer none) w2 ∧ (∀ ty, (Builtin.len_ #[91] ty #[.map (some mb)]).run Tryz.prog w2 = .ok (.int .i64 (C.length : Nat)) w2) ∧ w2.cell? ⟨c, 0, none⟩ = some (.map (some mb))) := fun w2 hb => by
    have h2 := h.below hb
    refine ⟨?_, fun ty => ?_, by simp [World.cell?, h2.head]⟩
    · exact run_look_none (P := Tryz.prog) (key_text Tryz.underlying9) Tryz.underlying91 h2.map name hgp (Tryz.zeroValue90 w2) false
    · have := run_maplen (P := Tryz.prog) h2.map Tryz.underlying91 ty
      rwa [hlen] at this
  have hst : ∀ w3 (sb : Nat), Below w.heap.size w w3 → ∃ o, (Instr.mapUpdate 91 (.map (some mb)) (.string (S.mk name)) (.pointer (some ⟨sb, 0, none⟩))).run Tryz.prog w3 = .ok () (w3.putObj mb o) ∧ Hid (MapAt encT encB (w3.putObj mb o) mb (ps.map (fun p => (p.1, p.2.1)) ++ [(name, sb)])) := fun w3 sb hb => by
    obtain ⟨o, h3, h4⟩ := run_store (P := Tryz.prog) (key_text Tryz.underlying9) Tryz.underlying91 (h.below hb).map name sb
    rw [setK_new hgp] at h4
    exact ⟨o, h3, h4⟩
  have hst1 := Hid.mk hst
  have hr := Hid.mk hok.2
  have hcm : c ≠ mb := by
    have := h.apart
    simp only [catF, List.nodup_cons, List.mem_cons, not_or] at this
    exact this.1.1
  have hml : mb < w.heap.size := h.map.lt
  clear h hn hl hs hok hg hlen hgp hst
  go_enter Tryz.func15, Tryz.ntmps15
  go_wp2_with (first | (go_at_call 45; refine hN.out.mono ?_; rintro e w1 ⟨rfl, hb⟩; have hb1 := Hid.mk hb; clear hb) | (go_at_call 46; refine (hR _ hb1.out).out.mono ?_; rintro e w2 ⟨rfl, hb⟩; have hb2 := Hid.mk (below_then hb1.out hb); clear hb; obtain ⟨q1, q2, q3⟩ := (hw _ hb2.out).out))
  clear q1 q2
  have hbd : Hid (Below w.heap.size w w2.drew) := hb2.out.drew
  clear hR hw hN
  go_region_held3 (fun w' => w'.cell? ⟨c, 0, none⟩ = some (.map (some mb)))
    (first | go_keep | (exact (cell_block (World.putObj_heap_other hcm)).trans (by assumption)) | (exact (cell_block (hb3.out.block c (by have := hbd.out.size; omega))).trans q3))
    (first | ((with_reducible refine (hSm _ hbd.out).out.mono ?_); rintro e w3 ⟨vo, vn, vm, rfl, ho, hn, hv, -, hb⟩; obtain ⟨Ao, co, rfl⟩ := own_slice ho; obtain ⟨An, cn, rfl⟩ := own_slice hn; obtain ⟨Am, cm, rfl⟩ := own_slice hv; have hb3 := Hid.mk hb; have hB3 := Hid.mk (below_then hbd.out hb); obtain ⟨o, hsto, hmo⟩ := hst1.out ((w3.alloc (.cells #[.slice Ao l.length co, .slice An l.length cn, .slice Am l.length cm] 96)).alloc (.cells #[.int .i64 1, .slice (some ⟨w3.heap.size, 0, none⟩) 1 1] 100)) (w3.heap.size + 1) ((hB3.out.new_ _).new_ _); have ho1 := Hid.mk ho; have hn1 := Hid.mk hn; have hv1 := Hid.mk hv; have hb1 := Hid.mk hb; clear ho hn hv hb) | fail)
  go_wp2
  go_ret
  go_light
  have hz : w.heap.size ≤ w3.heap.size := hB3.out.size
  refine ⟨rfl, w3.heap.size + 1, .slice (some ⟨w3.heap.size, 0, none⟩) 1 1, ?_, by omega, fun k hk => by rw [rowF_slice] at hk; simp only [List.mem_singleton] at hk; omega, ?_⟩
  · have hO : Only [mb] w (((w3.alloc (.cells #[.slice Ao l.length co, .slice An l.length cn, .slice Am l.length cm] 96)).alloc (.cells #[.int .i64 1, .slice (some ⟨w3.heap.size, 0, none⟩) 1 1] 100)).putObj mb o) := (Only.below ((hB3.out.new_ _).new_ _) [mb]).grown (grownBy_putObj' _ _ _) (fun k e => by cases e; exact .inl (by simp))
    have hk3 : ∀ k, k < w3.heap.size → k ≠ mb → (((w3.alloc (.cells #[.slice Ao l.length co, .slice An l.length cn, .slice Am l.length cm] 96)).alloc (.cells #[.int .i64 1, .slice (some ⟨w3.heap.size, 0, none⟩) 1 1] 100)).putObj mb o).heap[k]? = w3.heap[k]? := fun k hk hm => by
      rw [World.putObj_heap_other hm, Below.heap_alloc _ _ _ (by simp; omega), Below.heap_alloc _ _ _ hk]
    refine cat_new h1.out hr.out hO hmo.out ?_ ?_ (by omega) hz (own_weak (own_kept ho1.out (fun k hk => hk3 k (own_lt ho1.out hk) (by have h5 := own_block_ge ho1.out hk; have h6 : w.heap.size ≤ w2.drew.heap.size := hb2.out.size; omega))) (show w.heap.size ≤ w2.drew.heap.size from hb2.out.size)) (own_weak (own_kept hn1.out (fun k hk => hk3 k (own_lt hn1.out hk) (by have h5 := own_block_ge hn1.out hk; have h6 : w.heap.size ≤ w2.drew.heap.size := hb2.out.size; omega))) (show w.heap.size ≤ w2.drew.heap.size from hb2.out.size)) (own_weak (own_kept hv1.out (fun k hk => hk3 k (own_lt hv1.out hk) (by have h5 := own_block_ge hv1.out hk; have h6 : w.heap.size ≤ w2.drew.heap.size := hb2.out.size; omega))) (show w.heap.size ≤ w2.drew.heap.size from hb2.out.size))
    · rw [World.putObj_heap_other (by omega)]
      have := heap_alloc_new (w3.alloc (.cells #[.slice Ao l.length co, .slice An l.length cn, .slice Am l.length cm] 96)) (.cells #[.int .i64 1, .slice (some ⟨w3.heap.size, 0, none⟩) 1 1] 100)
      rwa [World.size_alloc] at this
    · rw [World.putObj_heap_other (by omega), Below.heap_alloc _ _ _ (by simp)]
      exact heap_alloc_new _ _
  · exact (Only.below ((hB3.out.new_ _).new_ _) [mb]).grown (grownBy_putObj' _ _ _) (fun k e => by cases e; exact .inl (by simp))

theorem mem_catF_snoc {c mb sb k : Nat} {v : Value} {ps : List Spot} {name : S.Text} (h : k ∈ catF c mb (ps ++ [(name, sb, v)])) : k ∈ catF c mb ps ∨ k = sb ∨ k ∈ rowF v := by
  simp only [catF, List.flatMap_append, List.mem_cons, List.mem_append, List.flatMap_cons, List.flatMap_nil, List.append_nil] at h ⊢
  rcases h with h | h | h | h | h
  · exact .inl (.inl h)
  · exact .inl (.inr (.inl h))
  · exact .inl (.inr (.inr h))
  · exact .inr (.inl h)
  · exact .inr (.inr h)

/-- Define: all of it. -/
theorem schema_Define (c mb : Nat) (ps : List Spot) (C : List (S.Text × S.Kinds)) (name : S.Text) (A : Option Addr) (cc : Nat) (l : List S.Field) (w : World) (h : CatAt w c mb ps C) (hC : C.length ≤ 1073741824) (hn : name.length ≤ 1073741824)
    (hl : Fields w.cell? A l) (hA : A = none → cc = 0) (hs : Short l) :
    Calls Tryz.prog 15 #[.pointer (some ⟨c, 0, none⟩), .string (S.mk name), .slice A l.length cc] w fun e w' => e = .returned (.int .i64 (S.define C name l).2) ∧ ∃ ps', CatAt w' c mb ps' (S.define C name l).1 ∧ (∀ k, k ∈ catF c mb ps' → k ∈ catF c mb ps ∨ w.heap.size ≤ k) ∧ Only [mb] w w' := by
  cases h1 : S.nameOk name && S.right l with
  | false =>
    have hD : S.define C name l = (C, 60) := by simp [S.define, h1]
    rw [hD]
    exact (schema_Define_no c mb ps C name A cc l w h hn hl hs h1).mono fun e w' ⟨e1, hb⟩ => ⟨e1, ps, h.below hb, fun k hk => .inl hk, Only.below hb _⟩
  | true =>
    cases h2 : (getK C name).isSome || decide (16 ≤ C.length) with
    | true =>
      have hD : S.define C name l = (C, 91) := by simp [S.define, h1, h2]
      rw [hD]
      exact (schema_Define_there c mb ps C name A cc l w h hn hl hs h1 hC h2).mono fun e w' ⟨e1, hb⟩ => ⟨e1, ps, h.below hb, fun k hk => .inl hk, Only.below hb _⟩
    | false =>
      have hD : S.define C name l = (C ++ [(name, ⟨1, [S.same l]⟩)], 0) := by simp [S.define, h1, h2]
      rw [hD]
      exact (schema_Define_yes c mb ps C name A cc l w h hn hl hA hs h1 h2).mono fun e w' ⟨e1, sb, v, h3, h4, h5, h6⟩ => ⟨e1, _, h3, fun k hk => by
        rcases mem_catF_snoc hk with h7 | rfl | h7
        · exact .inl h7
        · exact .inr h4
        · exact .inr (h5 k h7), h6⟩
end Go.Proofs.YtdokiaicheillaaGreat
