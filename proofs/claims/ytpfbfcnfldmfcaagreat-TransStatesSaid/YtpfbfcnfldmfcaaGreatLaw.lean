/-
  THE LAW 'TransStates': at every input true; the input reads as it did.
-/
import Derived.Test.YtpfbfcnfldmfcaaGreatStates
import Derived.Deep.Slices
import Derived.ChangeArms
import Derived.Test.YtpfbfcnfldmfcaaGreatRows
import Derived.ProofKit
namespace Go.Proofs.YtpfbfcnfldmfcaaGreat
open Go.RowKit Go.ChangeShapes Go.WideShapes Go.Deep

section
variable {H : Type} {enc : TypeId × Value → H} {w : World} {base : Nat} {spare : Nat → Bool} {held : Bool}
theorem dec_some {α : Type} {xs : List α} {n i : Nat} {o : Option α} (h : o = xs[i]?) (hl : xs.length = n) (hi : i < n) : ∃ x, o = some x := ⟨xs[i]'(by omega), by rw [h]; exact List.getElem?_eq_getElem _⟩
theorem dec_field {ft : TypeId} {fields : Array Field} {off : Nat} {cs ds : List Value} {n k : Nat} {xs : List (DataW H × List MemPlace)} (hl : xs.length = fields.size)
    (hf : ∀ (i : Nat) (f : Field), fields[i]? = some f → DataW.trod enc Tryz.prog w base spare held n f.type ((cs.drop f.offset).take (Tryz.prog.cellsOf f.type)) = xs[i]?)
    (i : Nat) {f : Field} (hi : fields[i]? = some f) (ht : f.type = ft) (ho : f.offset = off) (hk : Tryz.prog.cellsOf ft = k) (hd : (cs.drop off).take k = ds) : ∃ x, DataW.trod enc Tryz.prog w base spare held n ft ds = some x := by
  subst ht ho hk hd
  rw [hf i f hi]
  have : i < xs.length := by
    rw [hl]
    exact (Array.getElem?_eq_some_iff.1 hi).1
  exact ⟨xs[i], List.getElem?_eq_getElem this⟩
theorem dec_int {fuel : Nat} {c : Value} {x : DataW H × List MemPlace} (h : DataW.trod enc Tryz.prog w base spare held fuel 3 [c] = some x) : ∃ n, c = .int .i64 n := by
  obtain ⟨n, h1, -⟩ := DataW.trod_int Tryz.underlying3 h
  exact ⟨n, by simpa using h1⟩
theorem dec_u64 {fuel : Nat} {c : Value} {x : DataW H × List MemPlace} (h : DataW.trod enc Tryz.prog w base spare held fuel 35 [c] = some x) : ∃ n, c = .int .u64 n := by
  obtain ⟨n, h1, -⟩ := DataW.trod_int Tryz.underlying35 h
  exact ⟨n, by simpa using h1⟩
theorem dec_str {fuel : Nat} {c : Value} {x : DataW H × List MemPlace} (h : DataW.trod enc Tryz.prog w base spare held fuel 9 [c] = some x) : ∃ s, c = .string s := by
  obtain ⟨s, h1, -⟩ := DataW.trod_string Tryz.underlying9 h
  exact ⟨s, by simpa using h1⟩
theorem dec_slice {fuel : Nat} {c : Value} {t e : TypeId} (ht : Tryz.prog.underlying t = some (.slice e)) {x : DataW H × List MemPlace} (h : DataW.trod enc Tryz.prog w base spare held fuel t [c] = some x) : ∃ A n k, c = .slice A n k := by
  rcases DataW.trod_slice ht h with ⟨h1, -⟩ | ⟨a, len, cap, elems, rest, n, -, h1, -⟩
  · exact ⟨none, 0, 0, by simpa using h1⟩
  · exact ⟨some a, len, cap, by simpa using h1⟩
theorem dec_handle {fuel : Nat} {c0 c1 : Value} {x : DataW H × List MemPlace} (h : DataW.trod enc Tryz.prog w base spare held fuel 34 [c0, c1] = some x) : ∃ a b, c0 = .int .i64 a ∧ c1 = .int .i64 b := by
  obtain ⟨xs, n, -, -, -, hl, hf⟩ := DataW.trod_struct Tryz.underlying34 h
  obtain ⟨x0, h0⟩ := dec_field hl hf 0 rfl (ft := 3) rfl rfl (k := 1) (by kernel_rfl) rfl
  obtain ⟨x1, h1⟩ := dec_field hl hf 1 rfl (ft := 3) rfl rfl (k := 1) (by kernel_rfl) rfl
  obtain ⟨a, rfl⟩ := dec_int h0
  obtain ⟨b, rfl⟩ := dec_int h1
  exact ⟨a, b, rfl, rfl⟩
theorem dec_value {fuel : Nat} {c0 c1 c2 : Value} {x : DataW H × List MemPlace} (h : DataW.trod enc Tryz.prog w base spare held fuel 37 [c0, c1, c2] = some x) : ∃ a b s, c0 = .int .i64 a ∧ c1 = .int .u64 b ∧ c2 = .string s := by
  obtain ⟨xs, n, -, -, -, hl, hf⟩ := DataW.trod_struct Tryz.underlying37 h
  obtain ⟨x0, h0⟩ := dec_field hl hf 0 rfl (ft := 3) rfl rfl (k := 1) (by kernel_rfl) rfl
  obtain ⟨x1, h1⟩ := dec_field hl hf 1 rfl (ft := 35) rfl rfl (k := 1) (by kernel_rfl) rfl
  obtain ⟨x2, h2⟩ := dec_field hl hf 2 rfl (ft := 9) rfl rfl (k := 1) (by kernel_rfl) rfl
  obtain ⟨a, rfl⟩ := dec_int h0
  obtain ⟨b, rfl⟩ := dec_u64 h1
  obtain ⟨s, rfl⟩ := dec_str h2
  exact ⟨a, b, s, rfl, rfl, rfl⟩
theorem dec_op09 {fuel : Nat} {c0 c1 c2 c3 c4 : Value} {x : DataW H × List MemPlace} (h : DataW.trod enc Tryz.prog w base spare held fuel 32 [c0, c1, c2, c3, c4] = some x) :
    ∃ k s A1 n1 m1 A2 n2 m2 A3 n3 m3, c0 = .int .i64 k ∧ c1 = .string s ∧ c2 = .slice A1 n1 m1 ∧ c3 = .slice A2 n2 m2 ∧ c4 = .slice A3 n3 m3 := by
  obtain ⟨xs, n, -, -, -, hl, hf⟩ := DataW.trod_struct Tryz.underlying32 h
  obtain ⟨x0, h0⟩ := dec_field hl hf 0 rfl (ft := 3) rfl rfl (k := 1) (by kernel_rfl) rfl
  obtain ⟨x1, h1⟩ := dec_field hl hf 1 rfl (ft := 9) rfl rfl (k := 1) (by kernel_rfl) rfl
  obtain ⟨x2, h2⟩ := dec_field hl hf 2 rfl (ft := 28) rfl rfl (k := 1) (by kernel_rfl) rfl
  obtain ⟨x3, h3⟩ := dec_field hl hf 3 rfl (ft := 29) rfl rfl (k := 1) (by kernel_rfl) rfl
  obtain ⟨x4, h4⟩ := dec_field hl hf 4 rfl (ft := 30) rfl rfl (k := 1) (by kernel_rfl) rfl
  obtain ⟨k, rfl⟩ := dec_int h0
  obtain ⟨s, rfl⟩ := dec_str h1
  obtain ⟨A1, n1, m1, rfl⟩ := dec_slice Tryz.underlying28 h2
  obtain ⟨A2, n2, m2, rfl⟩ := dec_slice Tryz.underlying29 h3
  obtain ⟨A3, n3, m3, rfl⟩ := dec_slice Tryz.underlying30 h4
  exact ⟨k, s, A1, n1, m1, A2, n2, m2, A3, n3, m3, rfl, rfl, rfl, rfl, rfl⟩
theorem dec_op12 {fuel : Nat} {c0 c1 c2 c3 c4 c5 c6 c7 c8 c9 ca cb : Value} {x : DataW H × List MemPlace} (h : DataW.trod enc Tryz.prog w base spare held fuel 39 [c0, c1, c2, c3, c4, c5, c6, c7, c8, c9, ca, cb] = some x) :
    ∃ k0 k s A1 n1 m1 A2 n2 m2 A3 n3 m3 nm x1 x2 v1 v2 vs, c0 = .int .i64 k0 ∧ c1 = .int .i64 k ∧ c2 = .string s ∧ c3 = .slice A1 n1 m1 ∧ c4 = .slice A2 n2 m2 ∧ c5 = .slice A3 n3 m3 ∧ c6 = .string nm ∧ c7 = .int .i64 x1 ∧ c8 = .int .i64 x2 ∧ c9 = .int .i64 v1 ∧ ca = .int .u64 v2 ∧ cb = .string vs := by
  obtain ⟨xs, n, -, -, -, hl, hf⟩ := DataW.trod_struct Tryz.underlying39 h
  obtain ⟨x0, h0⟩ := dec_field hl hf 0 rfl (ft := 3) rfl rfl (k := 1) (by kernel_rfl) rfl
  obtain ⟨x1, h1⟩ := dec_field hl hf 1 rfl (ft := 32) rfl rfl (k := 5) (by kernel_rfl) rfl
  obtain ⟨x2, h2⟩ := dec_field hl hf 2 rfl (ft := 9) rfl rfl (k := 1) (by kernel_rfl) rfl
  obtain ⟨x3, h3⟩ := dec_field hl hf 3 rfl (ft := 34) rfl rfl (k := 2) (by kernel_rfl) rfl
  obtain ⟨x4, h4⟩ := dec_field hl hf 4 rfl (ft := 37) rfl rfl (k := 3) (by kernel_rfl) rfl
  obtain ⟨k0, rfl⟩ := dec_int h0
  obtain ⟨k, s, A1, n1, m1, A2, n2, m2, A3, n3, m3, rfl, rfl, rfl, rfl, rfl⟩ := dec_op09 h1
  obtain ⟨nm, rfl⟩ := dec_str h2
  obtain ⟨x1, x2, rfl, rfl⟩ := dec_handle h3
  obtain ⟨v1, v2, vs, rfl, rfl, rfl⟩ := dec_value h4
  exact ⟨k0, k, s, A1, n1, m1, A2, n2, m2, A3, n3, m3, nm, x1, x2, v1, v2, vs, rfl, rfl, rfl, rfl, rfl, rfl, rfl, rfl, rfl, rfl, rfl, rfl⟩
theorem dec_op13 {fuel : Nat} {c0 c1 c2 c3 : Value} {x : DataW H × List MemPlace} (h : DataW.trod enc Tryz.prog w base spare held fuel 41 [c0, c1, c2, c3] = some x) :
    ∃ k s a b, c0 = .int .i64 k ∧ c1 = .string s ∧ c2 = .int .i64 a ∧ c3 = .int .i64 b := by
  obtain ⟨xs, n, -, -, -, hl, hf⟩ := DataW.trod_struct Tryz.underlying41 h
  obtain ⟨x0, h0⟩ := dec_field hl hf 0 rfl (ft := 3) rfl rfl (k := 1) (by kernel_rfl) rfl
  obtain ⟨x1, h1⟩ := dec_field hl hf 1 rfl (ft := 9) rfl rfl (k := 1) (by kernel_rfl) rfl
  obtain ⟨x2, h2⟩ := dec_field hl hf 2 rfl (ft := 34) rfl rfl (k := 2) (by kernel_rfl) rfl
  obtain ⟨k, rfl⟩ := dec_int h0
  obtain ⟨s, rfl⟩ := dec_str h1
  obtain ⟨a, b, rfl, rfl⟩ := dec_handle h2
  exact ⟨k, s, a, b, rfl, rfl, rfl, rfl⟩
set_option maxRecDepth 100000 in
theorem dec_op17 {fuel : Nat} {cs : List Value} {x : DataW H × List MemPlace} (h : DataW.trod enc Tryz.prog w base spare held fuel 43 cs = some x) : ∃ t : TOp, cs = t.cells := by
  obtain ⟨xs, n, -, -, hlen, hl, hf⟩ := DataW.trod_struct Tryz.underlying43 h
  have k9 : Tryz.prog.cellsOf 43 = 17 := by kernel_rfl
  rw [k9] at hlen
  match cs, hlen, hf with
  | [c0, c1, c2, c3, c4, c5, c6, c7, c8, c9, ca, cb, cc, cd, ce, cf, cg], _, hf =>
    obtain ⟨x0, h0⟩ := dec_field hl hf 0 rfl (ft := 3) rfl rfl (k := 1) (by kernel_rfl) rfl
    obtain ⟨x1, h1⟩ := dec_field hl hf 1 rfl (ft := 39) rfl rfl (k := 12) (by kernel_rfl) rfl
    obtain ⟨x2, h2⟩ := dec_field hl hf 2 rfl (ft := 41) rfl rfl (k := 4) (by kernel_rfl) rfl
    obtain ⟨k, rfl⟩ := dec_int h0
    obtain ⟨p0, p1, p2, A1, n1, m1, A2, n2, m2, A3, n3, m3, nm, y1, y2, v1, v2, vs, rfl, rfl, rfl, rfl, rfl, rfl, rfl, rfl, rfl, rfl, rfl, rfl⟩ := dec_op12 h1
    obtain ⟨r1, r2, r3, r4, rfl, rfl, rfl, rfl⟩ := dec_op13 h2
    exact ⟨⟨k, p0, p1, p2, A1, n1, m1, A2, n2, m2, A3, n3, m3, nm, y1, y2, v1, v2, vs, r1, r2, r3, r4⟩, rfl⟩
theorem cell_spot {w : World} {a : Addr} {v : Value} (h : w.cell? a = some v) : a.spot = none := by
  obtain ⟨b, off, s⟩ := a
  cases s with
  | none => rfl
  | some s =>
    exfalso
    unfold World.cell? at h
    split at h <;> simp at h
/-- The argument's cells. -/
theorem dec_script {fuel : Nat} {A : Option Addr} {n c : Nat} {x : DataW H × List MemPlace} (h : DataW.trod enc Tryz.prog w base (fun _ => true) held fuel 22 [.slice A n c] = some x) : TRow w A n ∧ n ≤ maxLen := by
  rcases open_slice Tryz.underlying22 h with ⟨h1, -⟩ | ⟨a, len, cap, m, f, D, Pl, h1, -, hlc, hcm, hm, -, hi⟩
  · simp only [List.cons.injEq, Value.slice.injEq, and_true] at h1
    obtain ⟨rfl, rfl, rfl⟩ := h1
    exact ⟨fun i hi => absurd hi (Nat.not_lt_zero _), Nat.zero_le _⟩
  · simp only [List.cons.injEq, Value.slice.injEq, and_true] at h1
    obtain ⟨rfl, rfl, rfl⟩ := h1
    refine ⟨fun i hin => ?_, by omega⟩
    have him : i < m := by
      rw [hm]
      simp only [if_true]
      omega
    have k9 : Tryz.prog.cellsOf 43 = 17 := by kernel_rfl
    rw [k9] at hi
    obtain ⟨cs, hc, ht⟩ := hi i him
    obtain ⟨t, rfl⟩ := dec_op17 ht
    obtain ⟨-, -, hg⟩ := World.cells?_some hc
    have hs : a.spot = none := by
      obtain ⟨ds, hd, hv⟩ := hi 0 (by omega)
      obtain ⟨t0, rfl⟩ := dec_op17 hv
      obtain ⟨-, -, h0⟩ := World.cells?_some hd
      have h5 := cell_spot ((h0 0 (by decide)).trans (show t0.cells[0]? = some _ from rfl))
      rw [Nat.zero_mul] at h5
      have h6 : (a.add 0).add 0 = a := by simp only [Addr.add, if_true]
      rw [h6] at h5
      exact h5
    obtain ⟨b, off, s⟩ := a
    simp only at hs
    subst hs
    refine ⟨b, off, t, rfl, fun j v hv => ?_⟩
    have hj : j < 17 := (List.getElem?_eq_some_iff.1 hv).1
    have := (hg j hj).trans hv
    rwa [add_add, Addr.add_mid, ← Nat.add_assoc] at this
end
end Go.Proofs.YtpfbfcnfldmfcaaGreat

namespace Go.Proofs.YtpfbfcnfldmfcaaGreat
open Go.ChangeShapes Go.WideShapes Go.ChangeAt Go.RowKit

theorem Tryz.own : ownKnob Tryz.prog.godebug = none := by kernel_rfl
theorem Tryz.laidOut : laidOutB Tryz.prog = true := by kernel_rfl

theorem post_below {H : Type} {enc : TypeId × Value → H} {P : Program} {f : Func} {s : ChangeSpec} {apart fresh handsOn : Bool} {W W' : World} {args : Array Value} {v : Value} {ds gs : List (DataW H)} {before pa pv : List MemPlace}
    (hW : DataW.Whole enc P f.params.toList s.vars apart W args.toList ds gs before)
    (hres : ∀ (b : Nat) (sp : Nat → Bool) (hd : Bool), DataW.TrodAll enc P W' b sp hd f.resultTypes.toList (v.resultList f.resultTypes.size) (s.fn H (ds ++ gs)).results [])
    (hargs : DataW.TrodAll enc P W' 0 (fun b => decide (b < W.heap.size)) true f.params.toList args.toList (s.fn H (ds ++ gs)).args pa)
    (hvars : DataW.TrodVars enc P W' (fun b => decide (b < W.heap.size)) s.vars (s.fn H (ds ++ gs)).vars pv)
    (hps : before = pa ++ pv) (hb : Below W.heap.size W W') :
    s.post enc P f apart fresh handsOn false W args v W' := by
  refine ⟨ds, gs, before, [], pa, pv, hW, hres _ _ _, hargs, hvars, World.keptBut_mono (fun p hp => ⟨hp, ?_⟩) (hb.frame (· ∈ before)), fun h => by cases h⟩
  rw [hps, List.mem_append] at hp
  exact Or.inr hp

theorem states_walk {H : Type} {enc : TypeId × Value → H} {base : Nat} {held : Bool} {A : Option Addr} {n c : Nat} {d : DataW H} {ps : List MemPlace} {W : World}
    (h : DataW.Trod enc Tryz.prog W base (fun _ => true) held 22 (.slice A n c) d ps) : Calls Tryz.prog 3 #[.slice A n c] W fun e w' => e = .returned (.bool true) ∧ Below W.heap.size W w' := by
  obtain ⟨fuel, hf⟩ := h
  obtain ⟨hT, hm⟩ := dec_script (A := A) (n := n) (c := c) hf
  by_cases hn : n ≤ 100
  · exact states_few A n c W hn hT
  · exact states_many A n c W (by omega) (Nat.le_trans hm (by decide))

set_option maxRecDepth 100000 in
theorem transStates_lifted (os : Os) (started : os.Started) (H : Type) (enc : TypeId × Value → H) :
    ReturnsInHanded {} Tryz.checked os 3 .any (Rows.transStatesSpec.pre6 enc Tryz.prog Tryz.f3 Rows.transStatesRow.domain false) (Rows.transStatesSpec.post enc Tryz.prog Tryz.f3 false true false false) := by
  refine returnsInHanded_of_change (C := Tryz.checked) Tryz.own started (by kernel_rfl) Tryz.func3
    (ChangeSpec.witness6 (enc := enc) (C := Tryz.checked) false ⟨#[], #[.slice none 0 0], []⟩ 8 (by kernel_rfl) (by kernel_rfl) (by kernel_rfl) (by kernel_rfl)) ?_
  intro W base args ds gs before hval0 hW hcnd _
  have hval : ∀ (j : Nat) t v, Tryz.f3.params[j]? = some t → args[j]? = some v → Value.okWide Tryz.prog W .any base t v := hval0
  have hW' := hW
  obtain ⟨p, q, hA0, hV, rfl, hfz, hnd⟩ := hW
  have hA : DataW.TrodAll enc Tryz.prog W 0 (fun _ => true) true Tryz.f3.params.toList args.toList ds p := hA0
  rw [Tryz.params3] at hA hval
  obtain ⟨v0, d0, rfl, rfl, h0⟩ := trodAll_one hA
  obtain ⟨rfl, rfl⟩ := trodVars_none hV
  obtain ⟨a0, len, cap, rfl⟩ := okWide_slice Tryz.underlying22 (hval 0 22 v0 rfl rfl)
  clear hA0 hval0
  simp only [List.append_nil] at hW'
  refine (states_walk h0).mono fun e W' ⟨he, hb⟩ => ?_
  subst he
  exact ⟨_, rfl, post_below (pa := p) (pv := []) hW' (fun _ _ _ => trodAll_mk1 (shut_bool Tryz.underlying4 true))
    (trodAll_mk1 (Below.trod Tryz.laidOut (by kernel_rfl) (of_decide_eq_true (by kernel_rfl)) h0 hb (fun x hx => hW'.lt x hx))) rfl (List.append_nil p).symm hb⟩

theorem transStates_holds : Rows.TransStatesSaid :=
  OpenClaim.holds_of_wide 3 Tryz.f3 rfl rfl rfl rfl rfl rfl rfl ⟨rfl, rfl, rfl, rfl, rfl⟩ rfl rfl rfl rfl rfl (by kernel_rfl) Tryz.func3 (by kernel_rfl)
    (of_decide_eq_true (by kernel_rfl)) (by unfold Func.isWrapper; first | (rw [if_pos (by decide +kernel)]; kernel_rfl) | (rw [if_neg (by decide +kernel)]; exact ⟨rfl, rfl⟩))
    (fun os started H enc _ => transStates_lifted os started H enc)
end Go.Proofs.YtpfbfcnfldmfcaaGreat
