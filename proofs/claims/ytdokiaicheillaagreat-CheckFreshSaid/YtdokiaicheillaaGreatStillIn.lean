/-
  A region that draws its order, all of whose operations but a forced tail leave the world as it is: one walk, inside the wide fence.
-/
import Derived.Test.YtdokiaicheillaaGreatBase
import Derived.StillTailTactics
import Derived.OrdersIn
import Derived.TacticsIn
namespace Go.Proofs.YtdokiaicheillaaGreat
open Go Go.RowKit

section
variable {P : Program} {ops : Array Oper} {md : Region.Mode} {w : World} {m : Nat} {F : Fence}

/-- A fence that lets all in: the wide one, and a round of it. -/
structure Lets (F : Fence) : Prop where
  fn : ∀ f, F.fn f
  depth : F.depth = none
  calls : ∀ {n : Nat} {P : Program} {f : FuncId} {args : Array Value} {w : World} {R : Ending → World → Prop}, Calls P f args w R → CallsIn F n P f args w R
theorem lets_wide : Lets Fence.wide := ⟨fun _ => trivial, rfl, fun h => callsIn_wide.2 h⟩
theorem lets_round (l : Nat) : Lets (Fence.wide.inRound l) := ⟨fun _ => trivial, rfl, fun h => (callsIn_wide.2 h : CallsIn Fence.wide _ _ _ _ _ _)⟩

def noDefer (o : Oper) : Bool := match o.op with | .defer _ => false | _ => true
theorem noDefer_spec {o : Oper} (h : noDefer o = true) : ∀ c, o.op ≠ .defer c := fun c e => by simp [noDefer, e] at h

theorem operIn_of_still (hF : Lets F) {o : Oper} (hd : noDefer o = true) {a : Act} {K : Act → Prop} {K' : Act → World → Prop} {Q' : Exit → Act → World → Prop} (h : ∀ a, K a → K' a w) (hh : o.still P a w K) : o.wpIn F m P a w K' Q' := by
  refine ⟨fun f _ => hF.fn f, ?_⟩
  rw [Oper.semAt_eq _ _ _ (noDefer_spec hd)]
  unfold Oper.still at hh
  generalize (execOp a.eval o).run P w = r at *
  cases r with
  | ok x w' =>
    cases x <;> simp only [Oper.stillUpon] at hh
    case value v => obtain ⟨rfl, h2⟩ := hh; exact h _ h2
    case skip => obtain ⟨rfl, h2⟩ := hh; exact h _ h2
    case enter f args =>
      obtain ⟨rfl, v, hc, hn⟩ := hh
      rw [Oper.uponIn_enter]
      refine ⟨fun h => (by rw [hF.depth] at h; cases h), hF.calls (Calls.mono hc ?_)⟩
      rintro e w2 ⟨rfl, rfl⟩
      exact h _ hn
  | halt x w' => simp only [Oper.stillUpon] at hh

theorem opIn_of_still (hF : Lets F) (hd : ∀ (i : Nat) (o : Oper), ops[i]? = some o → noDefer o = true) {i : Nat} {a : Act} {K : Act → Prop} {K' : Act → World → Prop} {Q' : Exit → Act → World → Prop} (h : ∀ a, K a → K' a w) (hh : stOp P ops w i K a) : wpOpIn F m P ops Q' i K' a w := by
  unfold stOp at hh
  unfold wpOpIn
  cases ho : ops[i]? with
  | none => simp only [ho] at hh ⊢; exact h _ hh
  | some o =>
    simp only [ho] at hh ⊢
    by_cases hw : Region.wanted o (yielded ops a.tmps) = true
    · simp only [hw, if_true] at hh ⊢; exact operIn_of_still hF (hd i o ho) h hh
    · simp only [hw] at hh ⊢; exact ⟨fun f _ => hF.fn f, h _ hh⟩

theorem anyIn_of_head (hF : Lets F) (hd : ∀ (i : Nat) (o : Oper), ops[i]? = some o → noDefer o = true) {n g : Nat} {L : Array Bool → Act → Prop} {Q' : Exit → Act → World → Prop} (hL : ∀ listed a, L listed a → wpAnyIn F m P md ops Q' g listed a w) :
    ∀ (f : Nat) (listed : Array Bool) (a : Act), wpAnyL P md ops w n L f listed a → wpAnyIn F m P md ops Q' (f + g) listed a w
  | 0, listed, a, h => by rw [Nat.zero_add]; exact hL _ _ h
  | f + 1, listed, a, h => by
    rw [show f + 1 + g = (f + g) + 1 by omega]
    exact ⟨fun h0 => absurd h0 h.1, fun i hi => opIn_of_still hF hd (fun a' h' => anyIn_of_head hF hd hL f _ a' h') (h.2 i hi).2⟩

theorem anyIn_of_seq {Q' : Exit → Act → World → Prop} : ∀ (l : List Oper) (k : Nat) (listed : Array Bool) (a : Act) (w : World), (∀ j, l[j]? = ops[k + j]?) →
    Region.seqB md ops l.length k listed = true → wpListIn F m P ops Q' l a w → wpAnyIn F m P md ops Q' l.length listed a w
  | [], _, _, _, _, _, hB, h => ⟨by simpa [Region.seqB] using hB, h⟩
  | o :: l, k, listed, a, w, hl, hB, h => by
    have h0 : ops[k]? = some o := by simpa using (hl 0).symm
    simp only [List.length_cons, Region.seqB, Bool.and_eq_true, decide_eq_true_eq] at hB
    refine ⟨fun h1 => (by rw [hB.1] at h1; cases h1), fun i hi => ?_⟩
    rw [hB.1] at hi
    have hik : i = k := by simpa using hi
    subst hik
    have hw : wpOpIn F m P ops Q' i (wpListIn F m P ops Q' l) a w := by unfold wpOpIn; simp only [h0]; exact h
    exact wpOpIn_mono (fun a' w' h' => anyIn_of_seq l (i + 1) _ a' w' (fun j => by have := hl (j + 1); simpa [Nat.add_assoc, Nat.add_comm 1 j] using this) hB.2 h') hw

theorem wpIn_still_tail (hF : Lets F) {id : Nat} {Q : Exit → Act → World → Prop} {a : Act} {w : World} {l : List Oper} (n : Nat) (hm : P.follows .mixedOrders = true) (hB : (Region.lexTailB .any l.toArray n && l.all noDefer) = true)
    (h : wpStill P l.toArray w.drew (fun a' => wpListIn F m P l.toArray Q (l.drop n) a' w.drew) (l.take n) a) : (Code.region id l.toArray true).wpIn F m P Q a w := by
  simp only [Region.lexTailB, Bool.and_eq_true, decide_eq_true_eq] at hB
  obtain ⟨⟨⟨⟨⟨hsel, hn⟩, hs⟩, hc⟩, hlex⟩, hnd⟩ := hB
  have hd : ∀ (i : Nat) (o : Oper), l.toArray[i]? = some o → noDefer o = true := fun i o ho => List.all_eq_true.1 hnd o (List.mem_of_getElem? (by simpa using ho))
  have hn' : n < l.length := by simpa using hn
  have htl : (l.take n).length = n := by simp; omega
  have hdl : (l.drop n).length = l.toArray.size - n := by simp
  have inv0 : HeadInv .any l.toArray n (Array.replicate l.toArray.size false) :=
    ⟨by simp, fun j oj _ hl => (by rw [getD_replicate_false] at hl; cases hl), fun t _ ht => getD_in (by simpa using ht) (getD_replicate_false _ _)⟩
  have H := wpAnyL_lex (md := .any) (g := l.toArray.size - n) hsel hs hc hn (l.take n) 0 _ a (fun j hj => by
    have hj' : j < n := by rw [htl] at hj; exact hj
    simp [hj']) (by simpa using htl) inv0 (by rw [htl]; exact hlex) h
  refine wpIn_region_any hm ?_
  have := anyIn_of_head (m := m) hF hd (Q' := Q) (g := l.toArray.size - n) (fun listed a' hL => by
    have := anyIn_of_seq (F := F) (m := m) (md := .any) (Q' := Q) (l.drop n) n listed a' { w with drawn := w.drawn + 1 } (fun j => by simp [List.getElem?_drop]) (by rw [hdl]; exact hL.1) hL.2
    rwa [hdl] at this) _ _ _ H
  rw [htl, show n + (l.toArray.size - n) = l.toArray.size by omega] at this
  exact this
end
/-- The kit's law outside a fence, the draw spelled as the walk spells it. -/
theorem wp_still_tail_d {P : Program} {id : Nat} {Q : Exit → Act → World → Prop} {a : Act} {w : World} {l : List Oper} (n : Nat) (hm : P.follows .mixedOrders = true) (hB : Region.lexTailB .any l.toArray n = true)
    (h : wpStill P l.toArray w.drew (fun a' => wpList P l.toArray Q (l.drop n) a' w.drew) (l.take n) a) : (Code.region id l.toArray true).wp P Q a w := wp_region_still_tail n hm hB h
end Go.Proofs.YtdokiaicheillaaGreat
