/-
  Maps whose keys are texts or ints and whose elements are whatever values: what is looked up, stored, deleted, and gone through.
-/
import Derived.Test.YtdokiaicheillaaGreatBase
import Derived.RangeFuncRecord
import Derived.RangeFuncSeq
namespace Go.Proofs.YtdokiaicheillaaGreat
open Go.RowKit

/-- What the keys of a map are as values. -/
structure KeyOf {K : Type} [DecidableEq K] (P : Program) (t : TypeId) (enc : K → Value) : Prop where
  same : ∃ d, P.underlying t = some d ∧ ∀ a b, Instr.sameNow d (enc a) (enc b) = some (decide (a = b))
  check : ∀ (e : Bool) (a : K) (w : World), (Instr.checkKey e 10000 t (enc a)).run P w = .ok () w
  stays : ∀ a, Instr.sameBits 10000 (enc a) (enc a) = true

theorem check_text {P : Program} {t : TypeId} (h : P.underlying t = some .string) (e : Bool) (a : ByteArray) (w : World) (n : Nat) : (Instr.checkKey e (n + 1) t (.string a)).run P w = .ok () w := by
  simp [Instr.checkKey, run_underlying h]
theorem check_int {P : Program} {t : TypeId} (h : P.underlying t = some (.int .i64)) (e : Bool) (a : Int) (w : World) (n : Nat) : (Instr.checkKey e (n + 1) t (.int .i64 a)).run P w = .ok () w := by
  simp [Instr.checkKey, run_underlying h]
theorem key_text {P : Program} {t : TypeId} (h : P.underlying t = some .string) : KeyOf P t (fun s : S.Text => Value.string (S.mk s)) where
  same := ⟨_, h, fun a b => by
    show some (S.mk a == S.mk b) = _
    congr 1
    rw [Bool.eq_iff_iff, decide_eq_true_iff]
    constructor
    · intro h
      have h1 : (S.mk a).data == (S.mk b).data := h
      simpa using h1
    · rintro rfl
      show ((S.mk a).data == (S.mk a).data) = true
      simp⟩
  check := fun e a w => check_text h e _ w 9999
  stays := fun a => by
    show ((S.mk a).data == (S.mk a).data) = true
    simp
theorem key_int {P : Program} {t : TypeId} (h : P.underlying t = some (.int .i64)) : KeyOf P t (fun n : Int => Value.int .i64 n) where
  same := ⟨_, h, fun a b => by show (if IntKind.i64 = IntKind.i64 then some (a == b) else none) = _; rw [if_pos rfl]; rfl⟩
  check := fun e a w => check_int h e _ w 9999
  stays := fun a => by
    show (IntKind.i64 == IntKind.i64 && a == a) = true
    simp

/-- An entry of a map: when it was born, its key, its element. -/
def ent {K V : Type} (enc : K → Value) (dec : V → Value) (t : Nat × K × V) : MapEntry := { key := enc t.2.1, val := dec t.2.2, born := t.1 }
/-- These entries lie at a block. -/
structure EntsAt {K V : Type} (enc : K → Value) (dec : V → Value) (w : World) (mb : Nat) (E : List (Nat × K × V)) (clock : Nat) : Prop where
  heap : w.heap[mb]? = some (.map (E.map (ent enc dec)).toArray clock)
  old : ∀ t, t ∈ E → t.1 < clock
  born : (E.map (·.1)).Nodup
  keys : (E.map (·.2.1)).Nodup
/-- A map of these keys and elements lies at a block, in this order; no key twice. -/
def MapAt {K V : Type} (enc : K → Value) (dec : V → Value) (w : World) (mb : Nat) (l : List (K × V)) : Prop :=
  ∃ E clock, EntsAt enc dec w mb E clock ∧ E.map (·.2) = l

section
variable {K V : Type} {P : Program} {kt mt et : TypeId} {enc : K → Value} {dec : V → Value} {w : World} {mb : Nat} {l : List (K × V)}
theorem run_getObj_map {W : World} {arr : Array MapEntry} {clock : Nat} (h : W.heap[mb]? = some (.map arr clock)) : (getObj mb).run P W = .ok (.map arr clock) W := by
  simp [getObj, Sem.run, h]

theorem MapAt.kept {w' : World} (h : MapAt enc dec w mb l) (hh : w'.heap[mb]? = w.heap[mb]?) : MapAt enc dec w' mb l := by
  obtain ⟨E, clock, hE, e⟩ := h
  exact ⟨E, clock, ⟨hh.trans hE.heap, hE.old, hE.born, hE.keys⟩, e⟩
theorem MapAt.lt (h : MapAt enc dec w mb l) : mb < w.heap.size := by
  obtain ⟨E, clock, hE, _⟩ := h
  exact (Array.getElem?_eq_some_iff.1 hE.heap).1
theorem MapAt.obj (h : MapAt enc dec w mb l) : ∃ a c, w.heap[mb]? = some (.map a c) := by
  obtain ⟨E, clock, hE, _⟩ := h
  exact ⟨_, _, hE.heap⟩
theorem MapAt.new (W : World) : MapAt enc dec (W.alloc (.map #[] 0)) W.heap.size ([] : List (K × V)) :=
  ⟨[], 0, ⟨heap_alloc_new W _, by simp, by simp, by simp⟩, rfl⟩
theorem MapAt.keys (h : MapAt enc dec w mb l) : (l.map (·.1)).Nodup := by
  obtain ⟨E, clock, hE, rfl⟩ := h
  rw [List.map_map]; exact hE.keys

theorem run_maplen (h : MapAt enc dec w mb l) (hm : P.underlying mt = some (.map kt et)) (ty : TypeId) : (Builtin.len_ #[mt] ty #[.map (some mb)]).run P w = .ok (.int .i64 (l.length : Nat)) w := by
  obtain ⟨E, clock, hE, rfl⟩ := h
  simp [Builtin.len_, run_underlying hm, run_getObj_map hE.heap, goInt]

theorem putObj_at {W : World} {o o' : Obj} (h : W.heap[mb]? = some o) : (W.putObj mb o').heap[mb]? = some o' := by
  have := (Array.getElem?_eq_some_iff.1 h).1
  simp [World.putObj, this]

end

section
variable {K V : Type} [DecidableEq K]
def getK (l : List (K × V)) (a : K) : Option V := (l.find? (fun x => decide (a = x.1))).map (·.2)
def setK (l : List (K × V)) (a : K) (v : V) : List (K × V) := if l.any (fun x => decide (a = x.1)) then l.map (fun x => if a = x.1 then (x.1, v) else x) else l ++ [(a, v)]
def delK (l : List (K × V)) (a : K) : List (K × V) := l.filter (fun x => decide (a ≠ x.1))

variable {P : Program} {kt mt et : TypeId} {enc : K → Value} {dec : V → Value} {w : World} {mb : Nat} {l : List (K × V)}

theorem findNow_get {d : TypeDesc} (hd : ∀ a b, Instr.sameNow d (enc a) (enc b) = some (decide (a = b))) (a : K) : ∀ (es : List MapEntry) (l : List (K × V)) (i : Nat), es.map (fun e => (e.key, e.val)) = l.map (fun x => (enc x.1, dec x.2)) →
    Instr.findNow d (enc a) es i = some (match l.findIdx? (fun x => decide (a = x.1)) with | some j => (l[j]?).map (fun x => (i + j, dec x.2)) | none => none)
  | [], [], _, _ => rfl
  | [], _ :: _, _, h => by simp at h
  | _ :: _, [], _, h => by simp at h
  | e :: es, x :: l, i, h => by
    simp only [List.map_cons, List.cons.injEq, Prod.mk.injEq] at h
    obtain ⟨⟨hk, hv⟩, ht⟩ := h
    simp only [Instr.findNow, hk, hd]
    by_cases hax : a = x.1
    · simp [hax, List.findIdx?_cons, hv]
    · have ih := findNow_get hd a es l (i + 1) ht
      simp only [hax, decide_false]
      rw [ih, List.findIdx?_cons]
      simp only [hax, decide_false]
      cases hf : l.findIdx? (fun x => decide (a = x.1)) with
      | none => simp
      | some j => simp [Nat.add_assoc, Nat.add_comm 1 j]

theorem run_findKey (hk : KeyOf P kt enc) (a : K) {es : List MapEntry} (h : es.map (fun e => (e.key, e.val)) = l.map (fun x => (enc x.1, dec x.2))) (W : World) :
    (Instr.findKey kt (enc a) es).run P W = .ok (match l.findIdx? (fun x => decide (a = x.1)) with | some j => (l[j]?).map (fun x => (j, dec x.2)) | none => none) W := by
  obtain ⟨d, hd, hs⟩ := hk.same
  simp only [Instr.findKey, Sem.run_bind, run_underlying hd, Result.andThen_ok, findNow_get hs a es l 0 h]
  simp

theorem getK_idx (l : List (K × V)) (a : K) : getK l a = (l.findIdx? (fun x => decide (a = x.1))).bind (fun j => (l[j]?).map (·.2)) := by
  induction l with
  | nil => rfl
  | cons x l ih =>
    by_cases hax : a = x.1
    · simp [getK, hax, List.findIdx?_cons]
    · simp only [getK, List.find?_cons, hax, decide_false, List.findIdx?_cons] at ih ⊢
      simp only [Bool.false_eq_true, if_false]
      rw [ih]
      cases l.findIdx? (fun x => decide (a = x.1)) <;> simp

theorem run_look (hk : KeyOf P kt enc) (hm : P.underlying mt = some (.map kt et)) (h : MapAt enc dec w mb l) (a : K) {v : V} (hv : getK l a = some v) (ok : Bool) :
    (Instr.lookup mt (.map (some mb)) (enc a) ok).run P w = .ok (if ok then .tuple #[dec v, .bool true] else dec v) w := by
  obtain ⟨E, clock, hE, rfl⟩ := h
  have hh := hE.heap
  have he : (E.map (ent enc dec)).map (fun e => (e.key, e.val)) = (E.map (·.2)).map (fun x => (enc x.1, dec x.2)) := by simp [ent]
  rw [getK_idx] at hv
  cases hf : (E.map (·.2)).findIdx? (fun x => decide (a = x.1)) with
  | none => simp [hf] at hv
  | some j =>
    simp only [hf, Option.bind_some] at hv
    obtain ⟨x, hx, rfl⟩ := Option.map_eq_some_iff.1 hv
    simp only [Instr.lookup, Sem.run_bind, run_underlying hm, Result.andThen_ok, run_getObj_map hh, Sem.run_pure, hk.check, run_findKey hk a he, hf, hx, Option.map_some]
theorem run_look_none (hk : KeyOf P kt enc) (hm : P.underlying mt = some (.map kt et)) (h : MapAt enc dec w mb l) (a : K) (hv : getK l a = none) {z : Value} (hz : (zeroValue et).run P w = .ok z w) (ok : Bool) :
    (Instr.lookup mt (.map (some mb)) (enc a) ok).run P w = .ok (if ok then .tuple #[z, .bool false] else z) w := by
  obtain ⟨E, clock, hE, rfl⟩ := h
  have hh := hE.heap
  have he : (E.map (ent enc dec)).map (fun e => (e.key, e.val)) = (E.map (·.2)).map (fun x => (enc x.1, dec x.2)) := by simp [ent]
  rw [getK_idx] at hv
  cases hf : (E.map (·.2)).findIdx? (fun x => decide (a = x.1)) with
  | some j =>
    simp only [hf, Option.bind_some] at hv
    have hj := (List.findIdx?_eq_some_iff_getElem.1 hf).1
    simp [List.getElem?_eq_getElem hj] at hv
  | none =>
    simp only [Instr.lookup, Sem.run_bind, run_underlying hm, Result.andThen_ok, run_getObj_map hh, Sem.run_pure, hk.check, run_findKey hk a he, hf, hz]

theorem run_store (hk : KeyOf P kt enc) (hm : P.underlying mt = some (.map kt et)) (h : MapAt enc dec w mb l) (a : K) (v : V) :
    ∃ o, (Instr.mapUpdate mt (.map (some mb)) (enc a) (dec v)).run P w = .ok () (w.putObj mb o) ∧ MapAt enc dec (w.putObj mb o) mb (setK l a v) := by
  obtain ⟨E, clock, hE, rfl⟩ := h
  have hh := hE.heap
  have he : (E.map (ent enc dec)).map (fun e => (e.key, e.val)) = (E.map (·.2)).map (fun x => (enc x.1, dec x.2)) := by simp [ent]
  have hrun := fun W => run_findKey (P := P) hk a he W
  cases hf : (E.map (·.2)).findIdx? (fun x => decide (a = x.1)) with
  | none =>
    have hno : ∀ t, t ∈ E → ¬ a = t.2.1 := by
      intro t ht e
      have := List.findIdx?_eq_none_iff.1 hf t.2 (List.mem_map_of_mem ht)
      simp [e] at this
    refine ⟨.map ((E ++ [(clock, a, v)]).map (ent enc dec)).toArray (clock + 1), ?_, E ++ [(clock, a, v)], clock + 1, ⟨putObj_at hh, ?_, ?_, ?_⟩, ?_⟩
    · simp only [Instr.mapUpdate, Sem.run_bind, run_underlying hm, Result.andThen_ok, run_getObj_map hh, hk.check, hrun, hf]
      simp [setObj, Sem.run, World.putObj, ent, hh]
    · intro t ht
      rcases List.mem_append.1 ht with h | h
      · have := hE.old t h; omega
      · simp at h; subst h; simp
    · rw [List.map_append, List.nodup_append]
      refine ⟨hE.born, by simp, ?_⟩
      intro x hx y hy e
      simp at hy
      obtain ⟨t, ht, rfl⟩ := List.mem_map.1 hx
      have := hE.old t ht
      omega
    · rw [List.map_append, List.nodup_append]
      refine ⟨hE.keys, by simp, ?_⟩
      intro x hx y hy e
      simp at hy
      obtain ⟨t, ht, rfl⟩ := List.mem_map.1 hx
      exact hno t ht (by rw [← hy, e])
    · have : (E.map (·.2)).any (fun x => decide (a = x.1)) = false := by
        rw [List.any_eq_false]
        intro x hx
        obtain ⟨t, ht, rfl⟩ := List.mem_map.1 hx
        simpa using hno t ht
      simp [setK, this]
  | some j =>
    obtain ⟨hj, hj2, _⟩ := List.findIdx?_eq_some_iff_getElem.1 hf
    have hjE : j < E.length := by simpa using hj
    have hka : a = (E[j]'hjE).2.1 := by simpa using hj2
    have hset : ((E.map (ent enc dec)).toArray.modify j fun e => { e with key := enc a, val := dec v }) = ((E.map fun t => if a = t.2.1 then (t.1, t.2.1, v) else t).map (ent enc dec)).toArray := by
      apply Array.ext'
      rw [Array.toList_modify]
      apply List.ext_getElem?
      intro i
      rw [List.getElem?_modify]
      simp only [List.getElem?_map]
      cases hi : E[i]? with
      | none => simp
      | some t =>
        obtain ⟨hiE, rfl⟩ := List.getElem?_eq_some_iff.1 hi
        by_cases hji : j = i
        · subst hji
          simp [ent, hka]
        · have hne : ¬ a = (E[i]'hiE).2.1 := by
            intro e
            rw [hka] at e
            have h1 : (E.map (·.2.1))[j]'(by simpa using hjE) = (E.map (·.2.1))[i]'(by simpa using hiE) := by simpa using e
            have hp := List.pairwise_iff_getElem.1 hE.keys
            rcases Nat.lt_or_gt_of_ne hji with h | h
            · exact hp j i (by simpa using hjE) (by simpa using hiE) h h1
            · exact hp i j (by simpa using hiE) (by simpa using hjE) h h1.symm
          simp [ent, hji, hne]
    have hmem : ∃ x ∈ E, a = x.2.1 := ⟨_, List.getElem_mem hjE, hka⟩
    refine ⟨.map ((E.map fun t => if a = t.2.1 then (t.1, t.2.1, v) else t).map (ent enc dec)).toArray clock, ?_, E.map fun t => if a = t.2.1 then (t.1, t.2.1, v) else t, clock, ⟨putObj_at hh, ?_, ?_, ?_⟩, ?_⟩
    · simp only [Instr.mapUpdate, Sem.run_bind, run_underlying hm, Result.andThen_ok, run_getObj_map hh, hk.check, hrun, hf]
      have hx : (E.map (·.2))[j]? = some (E[j]'hjE).2 := by simp [hjE]
      have hkk : (((E.map (ent enc dec)).toArray[j]?).map (·.key)).getD (enc a) = enc a := by simp [hjE, ent, hka]
      simp only [hx, Option.map_some, hkk, Instr.keyThatStays, hk.stays, if_true, Sem.run_bind, Sem.run_pure, Result.andThen_ok]
      rw [hset]
      simp [setObj, Sem.run, World.putObj, hh]
    · intro t ht
      obtain ⟨t', ht', rfl⟩ := List.mem_map.1 ht
      have := hE.old t' ht'
      split <;> simpa using this
    · have : (E.map fun t => if a = t.2.1 then (t.1, t.2.1, v) else t).map (·.1) = E.map (·.1) := by
        rw [List.map_map]
        apply List.map_congr_left
        intro t _
        simp only [Function.comp]
        split <;> rfl
      rw [this]
      exact hE.born
    · have : (E.map fun t => if a = t.2.1 then (t.1, t.2.1, v) else t).map (·.2.1) = E.map (·.2.1) := by
        rw [List.map_map]
        apply List.map_congr_left
        intro t _
        simp only [Function.comp]
        split <;> rfl
      rw [this]
      exact hE.keys
    · have hany : (E.map (·.2)).any (fun x => decide (a = x.1)) = true := by
        obtain ⟨x, hx, e⟩ := hmem
        rw [List.any_eq_true]
        exact ⟨x.2, List.mem_map_of_mem hx, by simp [e]⟩
      simp only [setK, hany, if_true, List.map_map]
      apply List.map_congr_left
      intro t _
      simp only [Function.comp]
      split <;> rfl

theorem run_del (hk : KeyOf P kt enc) (hm : P.underlying mt = some (.map kt et)) (h : MapAt enc dec w mb l) (a : K) (tk ty : TypeId) :
    ∃ o, (Builtin.delete_ #[mt, tk] ty #[.map (some mb), enc a]).run P w = .ok (.tuple #[]) (w.putObj mb o) ∧ MapAt enc dec (w.putObj mb o) mb (delK l a) := by
  obtain ⟨E, clock, hE, rfl⟩ := h
  have hh := hE.heap
  have he : (E.map (ent enc dec)).map (fun e => (e.key, e.val)) = (E.map (·.2)).map (fun x => (enc x.1, dec x.2)) := by simp [ent]
  have hrun := fun W => run_findKey (P := P) hk a he W
  cases hf : (E.map (·.2)).findIdx? (fun x => decide (a = x.1)) with
  | none =>
    have hno : ∀ t, t ∈ E → ¬ a = t.2.1 := by
      intro t ht e
      have := List.findIdx?_eq_none_iff.1 hf t.2 (List.mem_map_of_mem ht)
      simp [e] at this
    refine ⟨.map (E.map (ent enc dec)).toArray clock, ?_, E, clock, ⟨putObj_at hh, hE.old, hE.born, hE.keys⟩, ?_⟩
    · simp only [Builtin.delete_, List.getElem?_toArray, List.getElem?_cons_zero, List.getElem?_cons_succ, Sem.run_bind, run_underlying hm, Result.andThen_ok, run_getObj_map hh, hk.check, hrun, hf]
      simp [setObj, Sem.run, World.putObj, hh]
    · rw [delK, List.filter_eq_self.2]
      intro x hx
      obtain ⟨t, ht, rfl⟩ := List.mem_map.1 hx
      simpa using hno t ht
  | some j =>
    obtain ⟨hj, hj2, _⟩ := List.findIdx?_eq_some_iff_getElem.1 hf
    have hjE : j < E.length := by simpa using hj
    have hka : a = (E[j]'hjE).2.1 := by simpa using hj2
    have hdel : E.eraseIdx j = E.filter (fun t => decide (a ≠ t.2.1)) := by
      have h1 : E = E.take j ++ E[j]'hjE :: E.drop (j + 1) := by rw [List.getElem_cons_drop, List.take_append_drop]
      have hp := hE.keys
      have h2 : E.eraseIdx j = E.take j ++ E.drop (j + 1) := List.eraseIdx_eq_take_drop_succ ..
      rw [h2]
      conv => rhs; rw [h1]
      rw [h1, List.map_append, List.map_cons, List.nodup_append] at hp
      obtain ⟨_, hq, hd⟩ := hp
      rw [List.nodup_cons] at hq
      rw [List.filter_append, List.filter_cons]
      simp only [← hka, ne_eq, not_true, decide_false, Bool.false_eq_true, if_false]
      congr 1
      · refine (List.filter_eq_self.2 fun t ht => ?_).symm
        have := hd t.2.1 (List.mem_map_of_mem ht) _ (List.mem_cons_self)
        rw [← hka] at this
        simpa using fun e => this e.symm
      · refine (List.filter_eq_self.2 fun t ht => ?_).symm
        have : ¬ t.2.1 = a := fun e => hq.1 (by rw [← hka, ← e]; exact List.mem_map_of_mem ht)
        simpa using fun e => this e.symm
    refine ⟨.map ((E.eraseIdx j).map (ent enc dec)).toArray clock, ?_, E.eraseIdx j, clock, ⟨putObj_at hh, ?_, ?_, ?_⟩, ?_⟩
    · simp only [Builtin.delete_, List.getElem?_toArray, List.getElem?_cons_zero, List.getElem?_cons_succ, Sem.run_bind, run_underlying hm, Result.andThen_ok, run_getObj_map hh, hk.check, hrun, hf]
      have hx : (E.map (·.2))[j]? = some (E[j]'hjE).2 := by simp [hjE]
      have hes : (E.map (ent enc dec)).toArray.eraseIdxIfInBounds j = ((E.eraseIdx j).map (ent enc dec)).toArray := by
        apply Array.ext'
        simp only [Array.eraseIdxIfInBounds, List.size_toArray, List.length_map, hjE, dif_pos, Array.toList_eraseIdx]
        rw [List.eraseIdx_eq_take_drop_succ, List.eraseIdx_eq_take_drop_succ]
        simp [List.map_take, List.map_drop]
      simp only [hx, Option.map_some, hes]
      simp [setObj, Sem.run, World.putObj, hh]
    · exact fun t ht => hE.old t (List.mem_of_mem_eraseIdx ht)
    · exact hE.born.sublist ((List.eraseIdx_sublist E j).map _)
    · exact hE.keys.sublist ((List.eraseIdx_sublist E j).map _)
    · rw [hdel, delK, List.filter_map]
      rfl
end

/-! ### a range over a map -/
section
variable {K V : Type} {P : Program} {kt mt et : TypeId} {enc : K → Value} {dec : V → Value} {w : World} {mb r : Nat} {l : List (K × V)} {E : List (Nat × K × V)} {clock : Nat}

/-- A range over a map goes on: these are still to come. -/
def IterAt (enc : K → Value) (dec : V → Value) (w : World) (r mb : Nat) (E : List (Nat × K × V)) (clock : Nat) (todo : List (K × V)) : Prop :=
  EntsAt enc dec w mb E clock ∧ ∃ seen last, w.heap[r]? = some (.mapIter (some mb) clock seen last) ∧ (seen = #[] ∨ last = clock) ∧ todo = (E.filter (fun t => !seen.contains t.1)).map (·.2)

theorem run_range (hm : P.underlying mt = some (.map kt et)) (h : EntsAt enc dec w mb E clock) :
    (Instr.range mt (.map (some mb))).run P w = .ok (.pointer (some ⟨w.heap.size, 0, none⟩)) (w.alloc (.mapIter (some mb) clock #[] clock)) ∧ IterAt enc dec (w.alloc (.mapIter (some mb) clock #[] clock)) w.heap.size mb E clock (E.map (·.2)) := by
  have hlt := (Array.getElem?_eq_some_iff.1 h.heap).1
  refine ⟨?_, ⟨(Below.heap_alloc w _ mb hlt).trans h.heap, h.old, h.born, h.keys⟩, #[], clock, heap_alloc_new w _, .inl rfl, by rw [List.filter_eq_self.2 (fun t _ => by simp)]⟩
  simp [Instr.range, run_underlying hm, run_getObj_map h.heap]

theorem run_next_none (h : IterAt enc dec w r mb E clock []) (ty : TypeId) : (Instr.next (.pointer (some ⟨r, 0, none⟩)) false ty).run P w = .ok (.tuple #[.bool false]) w := by
  obtain ⟨hE, seen, last, hr, hl, ht⟩ := h
  have hf : E.filter (fun t => !seen.contains t.1) = [] := by simpa using ht.symm
  have hleft : ((E.map (ent enc dec)).toArray.filter fun e => !seen.contains e.born) = #[] := by
    apply Array.ext'
    rw [Array.toList_filter, List.filter_map]
    simp only [Function.comp_def, ent]
    rw [hf]
    rfl
  have hchk : (!seen.isEmpty && !(E.map (ent enc dec)).toArray.isEmpty && (E.map (ent enc dec)).toArray.all (fun e => decide (e.born ≥ last))) = false := by
    rcases hl with rfl | rfl
    · simp
    · cases E with
      | nil => simp
      | cons t E =>
        have := hE.old t (by simp)
        simp [ent]
        omega
  have hg : (getObj r).run P w = .ok (.mapIter (some mb) clock seen last) w := by simp [getObj, Sem.run, hr]
  simp only [Instr.next, Sem.run_bind, hg, Result.andThen_ok, run_getObj_map hE.heap, hchk, Bool.false_eq_true, if_false, hleft]
  simp [Question.forced]

theorem find_born {t : Nat × K × V} : ∀ {E : List (Nat × K × V)}, (E.map (·.1)).Nodup → t ∈ E → (E.map (ent enc dec)).find? (fun e => e.born == t.1) = some (ent enc dec t)
  | [], _, h => by simp at h
  | u :: E, hn, h => by
    rw [List.map_cons, List.nodup_cons] at hn
    rcases List.mem_cons.1 h with rfl | h
    · simp [ent]
    · have : ¬ u.1 = t.1 := fun e => hn.1 (by rw [e]; exact List.mem_map_of_mem h)
      rw [List.map_cons, List.find?_cons]
      simp only [ent]
      have hb : (u.1 == t.1) = false := by simpa using this
      simp only [hb]
      exact find_born hn.2 h

theorem run_next_some {todo : List (K × V)} (h : IterAt enc dec w r mb E clock todo) (hne : todo ≠ []) (hrm : r ≠ mb) (ty : TypeId) :
    ∃ x todo' w', (Instr.next (.pointer (some ⟨r, 0, none⟩)) false ty).run P w = .ok (.tuple #[.bool true, enc x.1, dec x.2]) w' ∧ (Instr.entry (.pointer (some ⟨r, 0, none⟩))).run P w' = .ok (.tuple #[enc x.1, dec x.2]) w' ∧
      todo.Perm (x :: todo') ∧ IterAt enc dec w' r mb E clock todo' ∧ w.grownBy w' (some r) ∧ w'.heap.size = w.heap.size := by
  obtain ⟨hE, seen, last, hr, hl, rfl⟩ := h
  have hg : ∀ W : World, W.heap = w.heap → (getObj r).run P W = .ok (.mapIter (some mb) clock seen last) W := fun W e => by simp [getObj, Sem.run, e, hr]
  have hrl := (Array.getElem?_eq_some_iff.1 hr).1
  obtain ⟨F, hF⟩ : ∃ F, F = E.filter (fun t => !seen.contains t.1) := ⟨_, rfl⟩
  rw [← hF] at hne ⊢
  have hFne : F ≠ [] := fun e => hne (by rw [e]; rfl)
  have hleft : ((E.map (ent enc dec)).toArray.filter fun e => !seen.contains e.born) = (F.map (ent enc dec)).toArray := by
    apply Array.ext'
    rw [Array.toList_filter, List.filter_map, hF]
    rfl
  have hold : ((F.map (ent enc dec)).toArray.filter fun e => decide (e.born < clock)) = (F.map (ent enc dec)).toArray := by
    apply Array.ext'
    rw [Array.toList_filter]
    refine List.filter_eq_self.2 ?_
    intro e he
    obtain ⟨t, ht, rfl⟩ := List.mem_map.1 he
    rw [hF] at ht
    exact decide_eq_true (hE.old t (List.mem_filter.1 ht).1)
  have hnew : ((F.map (ent enc dec)).toArray.filter fun e => decide (e.born ≥ clock)) = #[] := by
    apply Array.ext'
    rw [Array.toList_filter]
    refine List.filter_eq_nil_iff.2 ?_
    intro e he
    obtain ⟨t, ht, rfl⟩ := List.mem_map.1 he
    rw [hF] at ht
    have := hE.old t ((List.mem_filter.1 ht).1)
    simp [ent]
    omega
  have hchk : (!seen.isEmpty && !(E.map (ent enc dec)).toArray.isEmpty && (E.map (ent enc dec)).toArray.all (fun e => decide (e.born ≥ last))) = false := by
    rcases hl with rfl | rfl
    · simp
    · cases E with
      | nil => simp
      | cons t E =>
        have := hE.old t (by simp)
        simp [ent]
        omega
  have hFe : (F.map (ent enc dec)).toArray.isEmpty = false := by
    cases F with
    | nil => exact absurd rfl hFne
    | cons t F => simp
  -- which one is drawn
  obtain ⟨c, W1, hc, hch, hW1⟩ : ∃ c W1, c < F.length ∧ (choose (.mapNext F.length)).run P w = .ok c W1 ∧ (W1 = w ∨ W1 = w.drew) := by
    have hpos : 0 < F.length := List.length_pos_iff.2 hFne
    by_cases h1 : F.length ≤ 1
    · exact ⟨0, w, hpos, by simp [Question.forced, h1], .inl rfl⟩
    · exact ⟨_, w.drew, Nat.mod_lt _ hpos, by simp only [run_choose_drew, Question.forced, h1, decide_false, Bool.false_eq_true, if_false]; rfl, .inr rfl⟩
  have hW1h : W1.heap = w.heap := by rcases hW1 with rfl | rfl <;> rfl
  have ht := List.getElem_mem hc
  obtain ⟨t, het⟩ : ∃ t, t = F[c]'hc := ⟨_, rfl⟩
  rw [← het] at ht
  have htE : t ∈ E := by rw [hF] at ht; exact (List.mem_filter.1 ht).1
  refine ⟨t.2, (E.filter (fun u => !(seen.push t.1).contains u.1)).map (·.2), W1.putObj r (.mapIter (some mb) clock (seen.push t.1) clock), ?_, ?_, ?_, ?_, ?_, ?_⟩
  · simp only [Instr.next, Sem.run_bind, hg w rfl, Result.andThen_ok, run_getObj_map hE.heap, hchk, Bool.false_eq_true, if_false, hleft, hold, hnew, Array.append_empty, hFe, Array.empty_append]
    have hsz : (Array.map some (F.map (ent enc dec)).toArray).size = F.length := by simp
    rw [hsz, hch]
    have hgc : (Array.map some (F.map (ent enc dec)).toArray)[c]? = some (some (ent enc dec t)) := by simp [het, hc]
    simp only [Result.andThen_ok, hgc]
    simp [setObj, Sem.run, World.putObj, hW1h, hr, ent]
  · have h1 : (W1.putObj r (.mapIter (some mb) clock (seen.push t.1) clock)).heap[r]? = some (.mapIter (some mb) clock (seen.push t.1) clock) := putObj_at (by rw [hW1h]; exact hr)
    have h2 : (W1.putObj r (.mapIter (some mb) clock (seen.push t.1) clock)).heap[mb]? = some (.map (E.map (ent enc dec)).toArray clock) := by
      rw [World.putObj_heap_other (fun e => hrm e.symm), hW1h]
      exact hE.heap
    have h3 : (getObj r).run P (W1.putObj r (.mapIter (some mb) clock (seen.push t.1) clock)) = .ok (.mapIter (some mb) clock (seen.push t.1) clock) (W1.putObj r (.mapIter (some mb) clock (seen.push t.1) clock)) := by simp [getObj, Sem.run, h1]
    have h4 : (E.map (ent enc dec)).toArray.find? (fun e => e.born == t.1) = some (ent enc dec t) := by
      rw [List.find?_toArray]
      exact find_born hE.born htE
    simp only [Instr.entry, Sem.run_bind, h3, Result.andThen_ok, Array.back?_push, run_getObj_map h2, bne_self_eq_false, Bool.false_eq_true, if_false, h4]
    simp [ent]
  · have h1 : E.filter (fun u => !(seen.push t.1).contains u.1) = F.filter (fun u => !(u.1 == t.1)) := by
      rw [hF, List.filter_filter]
      apply List.filter_congr
      intro u _
      rw [Bool.eq_iff_iff]
      simp [and_comm]
    rw [h1]
    have h2 : F = F.take c ++ t :: F.drop (c + 1) := by rw [het, List.getElem_cons_drop, List.take_append_drop]
    have hb : (F.map (·.1)).Nodup := by rw [hF]; exact hE.born.sublist ((List.filter_sublist ..).map _)
    have h3 : F.filter (fun u => !(u.1 == t.1)) = F.take c ++ F.drop (c + 1) := by
      conv => lhs; rw [h2]
      rw [h2, List.map_append, List.map_cons, List.nodup_append] at hb
      obtain ⟨_, hq, hd⟩ := hb
      rw [List.nodup_cons] at hq
      rw [List.filter_append, List.filter_cons]
      simp only [beq_self_eq_true, Bool.not_true, Bool.false_eq_true, if_false]
      congr 1
      · refine List.filter_eq_self.2 fun u hu => ?_
        have := hd u.1 (List.mem_map_of_mem hu) _ List.mem_cons_self
        simpa using this
      · refine List.filter_eq_self.2 fun u hu => ?_
        have : ¬ u.1 = t.1 := fun e => hq.1 (by rw [← e]; exact List.mem_map_of_mem hu)
        simpa using this
    rw [h3]
    conv => lhs; rw [h2]
    simp only [List.map_append, List.map_cons]
    exact List.perm_middle
  · refine ⟨⟨?_, hE.old, hE.born, hE.keys⟩, seen.push t.1, clock, putObj_at (by rw [hW1h]; exact hr), .inr rfl, rfl⟩
    rw [World.putObj_heap_other (fun e => hrm e.symm), hW1h]
    exact hE.heap
  · rcases hW1 with rfl | rfl
    · exact ⟨rfl, rfl, rfl, by simp, fun k _ hk => World.putObj_heap_other (fun e => hk (by rw [e]))⟩
    · exact ⟨rfl, rfl, rfl, by simp, fun k _ hk => (World.putObj_heap_other (fun e => hk (by rw [e]))).trans rfl⟩
  · rw [World.putObj_size, hW1h]

/-- How many entries are still to come. -/
def iterLeft (w : World) (r : Nat) (E : List (Nat × K × V)) : Nat := match w.heap[r]? with | some (.mapIter _ _ seen _) => (E.filter (fun t => !seen.contains t.1)).length | _ => 0
theorem iterLeft_eq {todo : List (K × V)} (h : IterAt enc dec w r mb E clock todo) : iterLeft w r E = todo.length := by
  obtain ⟨_, seen, last, hr, _, rfl⟩ := h
  simp [iterLeft, hr]
theorem iterLeft_next {todo todo' : List (K × V)} {x : K × V} {w' : World} (h : IterAt enc dec w r mb E clock todo) (h' : IterAt enc dec w' r mb E clock todo') (hp : todo.Perm (x :: todo')) : iterLeft w' r E < iterLeft w r E := by
  have := hp.length_eq
  rw [iterLeft_eq h, iterLeft_eq h']
  simp at this
  omega
theorem IterAt.walks {todo : List (K × V)} {w' : World} (h : IterAt enc dec w r mb E clock todo) (hk : KeepsWalks w w') : IterAt enc dec w' r mb E clock todo := by
  obtain ⟨hE, seen, last, hr, hl, e⟩ := h
  exact ⟨⟨hk.same _ _ hE.heap rfl, hE.old, hE.born, hE.keys⟩, seen, last, hk.same _ _ hr rfl, hl, e⟩
theorem iterLeft_walks {todo : List (K × V)} {w' : World} (h : IterAt enc dec w r mb E clock todo) (hk : KeepsWalks w w') : iterLeft w' r E = iterLeft w r E := by rw [iterLeft_eq (h.walks hk), iterLeft_eq h]
end
end Go.Proofs.YtdokiaicheillaaGreat
