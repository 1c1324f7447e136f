/-
  copy into a row of one's own, from a slice or a text; append and copy as steps of a region.
-/
import Derived.Test.YtdokiaicheillaaGreatAppU
import Derived.Laws.CopyOwn
import Derived.Deep.RegionHeld3
namespace Go.Proofs.YtdokiaicheillaaGreat
open Go.RowKit

def lay {α : Type} (xs : List α) (off : Nat) (cs : List α) : List α := xs.take off ++ cs ++ xs.drop (off + cs.length)
theorem lay_length {α : Type} {xs : List α} {off : Nat} {cs : List α} (h : off + cs.length ≤ xs.length) : (lay xs off cs).length = xs.length := by simp [lay]; omega
theorem lay_map {α β : Type} (f : α → β) (xs : List α) (off : Nat) (cs : List α) : (lay xs off cs).map f = lay (xs.map f) off (cs.map f) := by simp [lay]

section
variable {P : Program} {w : World}
theorem own_splice {base t N cap g : Nat} {xs : List Value} (h : w.ownsRow base t 1 (.slice (some ⟨g, 0, none⟩) N cap) N xs) (off : Nat) (cs : List Value) (hfit : off + cs.length ≤ N) (h1 : ∀ v ∈ cs, v.oneCell' = true) :
    ∃ w', (storeCells ⟨g, off, none⟩ cs).run P w = .ok () w' ∧ w'.ownsRow base t 1 (.slice (some ⟨g, 0, none⟩) N cap) N (lay xs off cs) ∧ w.grownBy w' (some g) ∧ w'.heap.size = w.heap.size := by
  rcases h.2 with ⟨e, _⟩ | ⟨g', cap', cur, e, hb, hh, h2, h3, hs, ht⟩
  · cases e
  simp only [Value.slice.injEq, Option.some.injEq, Addr.mk.injEq, and_true, true_and] at e
  obtain ⟨rfl, rfl⟩ := e
  have hlt := (Array.getElem?_eq_some_iff.1 hh).1
  have hN : N ≤ cur.size := by omega
  have hxl : xs.length = N := by have := h.1; omega
  refine ⟨_, run_storeCells_at P g off t cs 0 cur w hh (by simp; omega) h1, ⟨by rw [lay_length (by omega), hxl]; omega, .inr ⟨g, cap, _, rfl, hb, setRow_heap w g cur _ t _ hh, h2, h3, ?_, ?_⟩⟩, ⟨rfl, rfl, rfl, by simp [World.setRow], fun k hk hn => setRow_other w g k _ (by simpa using hn)⟩, by simp [World.setRow]⟩
  · simp
    omega
  · simp only [Nat.add_zero, List.toList_toArray, lay]
    rw [Nat.mul_one] at ht ⊢
    have hx : xs = cur.toList.take N := ht.symm
    rw [hx]
    apply List.ext_getElem?
    intro i
    have hcl : cur.toList.length = cur.size := by simp
    simp only [List.getElem?_take, List.getElem?_append, List.getElem?_drop, List.length_append, List.length_take, hcl]
    by_cases h4 : i < N
    · rw [if_pos h4]
      rw [show min off cur.size = off by omega, show min off (min N cur.size) = off by omega]
      by_cases h5 : i < off + cs.length
      · rw [if_pos h5, if_pos h5]
        by_cases h6 : i < off
        · rw [if_pos h6, if_pos h6, if_pos h6, if_pos h6, if_pos h4]
        · rw [if_neg h6, if_neg h6]
      · rw [if_neg h5, if_neg h5, if_pos (by omega)]
    · rw [if_neg h4, if_neg (by omega), if_neg (by omega)]

theorem run_copy_str (dT sT ty elem : TypeId) (hu : P.underlying dT = some (.slice elem)) (hs : (P.info? elem).map (·.size) = some 1) {base t N cap g : Nat} {xs : List Value} (h : w.ownsRow base t 1 (.slice (some ⟨g, 0, none⟩) N cap) N xs) (off dLen dCap : Nat) (s : ByteArray) (hsz : s.size ≤ dLen) (hfit : off + s.size ≤ N) :
    ∃ w', (Builtin.copy_ #[dT, sT] ty #[.slice (some ⟨g, off, none⟩) dLen dCap, .string s]).run P w = .ok (goInt s.size) w' ∧ w'.ownsRow base t 1 (.slice (some ⟨g, 0, none⟩) N cap) N (lay xs off ((S.tx s).map encByte)) ∧ w.grownBy w' (some g) ∧ w'.heap.size = w.heap.size := by
  obtain ⟨w', hr, ho, hg, hz⟩ := own_splice (P := P) h off ((S.tx s).map encByte) (by simpa using hfit) (by intro v hv; obtain ⟨c, -, rfl⟩ := List.mem_map.1 hv; rfl)
  refine ⟨w', ?_, ho, hg, hz⟩
  have hmin : Nat.min s.size dLen = s.size := Nat.min_eq_left hsz
  cases hq : P.info? elem with
  | none => simp [hq] at hs
  | some i =>
    have hi : i.size = 1 := by simpa [hq] using hs
    simp [Builtin.copy_, run_underlying hu, Builtin.lenOf, Builtin.firstCells, sizeOf, typeInfo, hq, hi, hmin]
    rw [show List.take s.size (List.map (fun b : UInt8 => Value.int .u8 b.toNat) s.data.toList) = List.map encByte (S.tx s) from List.take_of_length_le (by simp), hr]
    rfl

theorem run_copy_own (dT sT ty elem : TypeId) (hu : P.underlying dT = some (.slice elem)) (hs : (P.info? elem).map (·.size) = some 1) {base t N cap g : Nat} {xs : List Value} (h : w.ownsRow base t 1 (.slice (some ⟨g, 0, none⟩) N cap) N xs) (off dLen dCap : Nat)
    (sp : Option Addr) (sLen sCap : Nat) (cs : List Value) (hn : cs.length = Nat.min sLen dLen) (hsrc : 0 < cs.length → ∃ ad, sp = some ad ∧ ∀ j v, cs[j]? = some v → w.cell? (ad.add j) = some v) (h1 : ∀ v ∈ cs, v.oneCell' = true) (hfit : off + cs.length ≤ N) :
    ∃ w', (Builtin.copy_ #[dT, sT] ty #[.slice (some ⟨g, off, none⟩) dLen dCap, .slice sp sLen sCap]).run P w = .ok (goInt cs.length) w' ∧ w'.ownsRow base t 1 (.slice (some ⟨g, 0, none⟩) N cap) N (lay xs off cs) ∧ w.grownBy w' (some g) ∧ w'.heap.size = w.heap.size := by
  by_cases h0 : cs.length = 0
  · obtain rfl : cs = [] := List.eq_nil_of_length_eq_zero h0
    exact ⟨w, run_copy_none (P := P) w dT sT ty elem _ sp dLen dCap sLen sCap hu hs (by simpa using hn.symm), by simpa [lay] using h, ⟨rfl, rfl, rfl, Nat.le_refl _, fun _ _ _ => rfl⟩, rfl⟩
  · obtain ⟨ad, rfl, hc⟩ := hsrc (by omega)
    obtain ⟨w', hr, ho, hg, hz⟩ := own_splice (P := P) h off cs hfit h1
    refine ⟨w', ?_, ho, hg, hz⟩
    have hl := run_loadCells_list (P := P) w ad cs hc
    cases hq : P.info? elem with
    | none => simp [hq] at hs
    | some i =>
      have hi : i.size = 1 := by simpa [hq] using hs
      simp [Builtin.copy_, run_underlying hu, Builtin.lenOf, Builtin.firstCells, sizeOf, typeInfo, hq, hi, ← hn, hl, hr]
end

section
variable {P : Program} {ops : Array Oper} {rest : List Oper} {o : Oper} {a : Act} {Q : Exit → Act → World → Prop} {w : World}
theorem wpl_copy {w' : World} {n : Nat} (hgd : o.guard = none) (d s : Operand) (dT sT : TypeId) (ho : o.op = .call { callee := .builtin .copy, args := #[d, s], argTypes := #[dT, sT] }) (vd vs : Value) (hd : a.eval d = vd) (hs : a.eval s = vs)
    (hrun : (Builtin.copy_ #[dT, sT] o.type #[vd, vs]).run P w = .ok (goInt n) w') (h : wpList P ops Q rest (a.put o.dst (goInt n)) w') : wpList P ops Q (o :: rest) a w := by
  refine wpList_plain hgd fun K hK => ?_
  unfold Oper.wp
  simp [execOp, ho, resolve, invoke, builtin, hd, hs, hrun, Result.andThen]
  exact hK _ _ h
theorem step_copy {w' : World} {n : Nat} {K : Act → World → Prop} {E : Prop} (hgd : o.guard = none) (d s : Operand) (dT sT : TypeId) (ho : o.op = .call { callee := .builtin .copy, args := #[d, s], argTypes := #[dT, sT] }) (vd vs : Value) (hd : a.eval d = vd) (hs : a.eval s = vs)
    (hrun : (Builtin.copy_ #[dT, sT] o.type #[vd, vs]).run P w = .ok (goInt n) w') (h : K (a.put o.dst (goInt n)) w') : if Region.wanted o (yielded ops a.tmps) = true then Oper.wp P o a w K Q else E := by
  have hw : Region.wanted o (yielded ops a.tmps) = true := by simp [Region.wanted, hgd]
  rw [if_pos hw]
  unfold Oper.wp
  simp [execOp, ho, resolve, invoke, builtin, hd, hs, hrun, Result.andThen]
  exact h
theorem step_append {K : Act → World → Prop} {E : Prop} (hgd : o.guard = none) (s x : Operand) (t : TypeId)
    (ho : o.op = .call { callee := .builtin .append, args := #[s, x], argTypes := #[t, t] })
    (base : Nat) (e : TypeId) (i : TypeInfo) (z : Value) (size bytes : Nat) (ht : P.underlying t = some (.slice e)) (hi : P.info? e = some i) (hz : i.zero = some z)
    (hsize : i.size = size) (hby : i.bytes = bytes) (hzs : z.cells.size = size) (hsz : 0 < size)
    (v : Value) (n : Nat) (xs : List Value) (hs : a.eval s = v) (hown : w.ownsRow base e size v n xs)
    (ad : Addr) (m c : Nat) (news : List Value) (hx : a.eval x = .slice (some ad) m c) (hl : news.length = m * size) (hnews : ∀ j u, news[j]? = some u → w.cell? (ad.add j) = some u) (h1 : ∀ u ∈ news, u.oneCell' = true)
    (h63 : n + m ≤ maxLen) (hbytes : (n + m) * bytes ≤ 140737488355328) (hbase : base ≤ w.heap.size)
    (h : ∀ v' w', w'.ownsRow base e size v' (n + m) (xs ++ news) → w.grownBy w' v.ownBlock → (v' = .slice none 0 0 ↔ v = .slice none 0 0 ∧ m = 0) → (v'.ownBlock = v.ownBlock ∨ v'.ownBlock = some w.heap.size) → K (a.put o.dst v') w') :
    if Region.wanted o (yielded ops a.tmps) = true then Oper.wp P o a w K Q else E := by
  have hw : Region.wanted o (yielded ops a.tmps) = true := by simp [Region.wanted, hgd]
  rw [if_pos hw]
  obtain ⟨v', w', hr, h2, h3, h4, h5⟩ := run_append_own_at (P := P) w base t o.type e i z size bytes ht hi hz hsize hby hzs hsz v n xs hown ad m c news hl hnews h1 h63 hbytes hbase
  unfold Oper.wp execOp
  simp only [ho, resolve, invoke, builtin, Sem.run_bind, Sem.run_pure, Result.andThen_ok, List.map_toArray, List.map_cons, List.map_nil, hs, hx, hr]
  exact h v' w' h2 h3 h4 h5
end
end Go.Proofs.YtdokiaicheillaaGreat
