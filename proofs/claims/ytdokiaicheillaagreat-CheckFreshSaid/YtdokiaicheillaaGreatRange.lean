/-
  A range over an iterator that itself ranges over an iterator: the contract at one world, what a round must keep of what was laid since, and the law of the statement for it.
-/
import Derived.Test.YtdokiaicheillaaGreatBase
import Derived.RangeFuncNested
import Derived.RangeFuncBound
import Derived.RangeFuncCalls
namespace Go.Proofs.YtdokiaicheillaaGreat
open Go.RowKit

/-- What abides the turn of a block from B on that is no cells, or cells of the kinds T. -/
def OwnT {β : Type} (B : Nat) (T : TypeId → Prop) (I : β → World → Prop) : Prop :=
  ∀ s X Y row, I s X → X.grownBy Y row → (∀ r, row = some r → B ≤ r ∧ ∃ o : Obj, X.heap[r]? = some o ∧ ∀ cs t fr, o = .cells cs t fr → T t) → I s Y
theorem ownT_from {β : Type} {B : Nat} {T : TypeId → Prop} {I : β → World → Prop} (h : OwnT B T I) : OwnFrom B I := fun s X Y row hs hg hr => h s X Y row hs hg (fun r e => by
  obtain ⟨h1, o, ho, hc⟩ := hr r e
  exact ⟨h1, o, ho, fun cs t fr e => by subst e; cases hc⟩)
theorem ownT_and {β : Type} {B : Nat} {T : TypeId → Prop} {I I' : β → World → Prop} (h : OwnT B T I) (h' : OwnT B T I') : OwnT B T (fun s W => I s W ∧ I' s W) := fun s X Y row hs hg hr => ⟨h s X Y row hs.1 hg hr, h' s X Y row hs.2 hg hr⟩
theorem ownT_weak {β : Type} {B B' : Nat} {T T' : TypeId → Prop} {I : β → World → Prop} (h : OwnT B T I) (hB : B ≤ B') (hT : ∀ t, T' t → T t) : OwnT B' T' I := fun s X Y row hs hg hr => h s X Y row hs hg (fun r e => by
  obtain ⟨h1, o, ho, hc⟩ := hr r e
  exact ⟨Nat.le_trans hB h1, o, ho, fun cs t fr e => hT _ (hc cs t fr e)⟩)
theorem ownT_map {β γ : Type} {B : Nat} {T : TypeId → Prop} {I : β → World → Prop} (h : OwnT B T I) (f : γ → β) : OwnT B T (fun s W => I (f s) W) := fun s X Y row hs hg hr => h (f s) X Y row hs hg hr
theorem ownT_block {β : Type} (B : Nat) (T : TypeId → Prop) (k : β → Nat) (X : β → Option Obj) (hk : ∀ s, k s < B) : OwnT B T (fun (s : β) W => k s < W.heap.size ∧ W.heap[k s]? = X s) :=
  fun s _ _ _ hs hg hr => ⟨Nat.lt_of_lt_of_le hs.1 hg.size, (hg.block _ hs.1 (fun e => by have := (hr _ e.symm).1; have := hk s; omega)).trans hs.2⟩
theorem ownT_boxed {β : Type} (B : Nat) (T : TypeId → Prop) (k : Nat) (t : TypeId) (f : β → Value) (hk : k < B) : OwnT B T (fun (s : β) W => Boxed W k t (f s)) :=
  fun s _ _ _ hs hg hr => hs.kept hg (fun e => by have := (hr _ e.symm).1; omega)
theorem ownT_pure {β : Type} (B : Nat) (T : TypeId → Prop) (p : β → Prop) : OwnT B T (fun s (_ : World) => p s) := fun _ _ _ _ hs _ _ => hs
theorem ownT_below {β : Type} {B : Nat} {T : TypeId → Prop} {w : World} {n : Nat} (hn : n ≤ B) (hs : n ≤ w.heap.size) : OwnT B T (fun (_ : β) W => Below n w W) := fun _ _ _ _ h hg hr => h.grown hg (Nat.le_trans hs h.size) (fun k e => Nat.le_trans hn (hr k e).1)
/-- A turn of one's own cells of a kind of T. -/
theorem ownT_set {β : Type} {B : Nat} {T : TypeId → Prop} {I : β → World → Prop} (h : OwnT B T I) {s : β} {W : World} {k : Nat} {t : TypeId} {v : Value} (hs : I s W) (hk : B ≤ k) (hb : Boxed W k t v) (ht : T t) (u : Value) : I s (W.setCell ⟨k, 0, none⟩ u) :=
  h s W _ (some k) hs (grownBy_setCell' W k u) (fun r e => by cases e; exact ⟨hk, _, hb, fun cs t' fr e => by cases e; exact ht⟩)
theorem ownT_alloc {β : Type} {B : Nat} {T : TypeId → Prop} {I : β → World → Prop} (h : OwnT B T I) {s : β} {W : World} (hs : I s W) (o : Obj) : I s (W.alloc o) :=
  h s W _ none hs (World.grownBy_alloc W o none) (fun r e => by cases e)

/-- The contract of an iterator at one world: the rounds of a loop l ahead of it keep Kp. -/
def SeqAt {α : Type} (F : Fence) (n : Nat) (P : Program) (g : Nat) (lb : Array Value) (encs : α → Array Value) (T : TypeId → Prop) (Kp : World → World → Prop) (S Sp : List α → Prop) (N : Nat) (W : World) : Prop :=
  ∀ (l : Nat) (J Jx : List α → World → Prop), OwnT W.heap.size T J → OwnT W.heap.size T Jx →
    (∀ pre x W1, J pre W1 → pre.length < N → Sp (pre ++ [x]) → YieldAt F (n - 1) P l (encs x) W1 fun e W' =>
      (e = .returned (.bool true) ∧ J (pre ++ [x]) W' ∧ Kp W1 W') ∨ (e = .returned (.bool false) ∧ Jx (pre ++ [x]) W' ∧ KeepsFrom W.heap.size W1 W')) →
    J [] W →
    CallsIn F n P g (#[.func (.yield l) #[] #[]] ++ lb) W fun e W' => (∃ v, e = .returned v) ∧ ((∃ xs, S xs ∧ J xs W') ∨ (∃ pre, Sp pre ∧ Jx pre W'))

theorem ownFrom_abides {β : Type} {B : Nat} {J : β → World → Prop} (h : OwnFrom B J) : AbidesFrom B J :=
  fun s X Y row hs hg hr => h s X Y row hs hg (fun r e => by obtain ⟨hB, o, ho, hw⟩ := hr r e; exact ⟨hB, o, ho, Obj.not_cells_of_walk hw⟩)

/-- What a round keeps: of what was laid from B on all that is no cells, and all cells of the kinds T; and some blocks beside. -/
structure KeepsX (B : Nat) (T : TypeId → Prop) (bs : Nat → Prop) (W W' : World) : Prop where
  size : W.heap.size ≤ W'.heap.size
  others : ∀ (k : Nat) (o : Obj), B ≤ k → W.heap[k]? = some o → o.isCells = false → W'.heap[k]? = some o
  cells : ∀ (k : Nat) (cs : Array Value) (t : TypeId) (fr : Nat × Nat), B ≤ k → T t → W.heap[k]? = some (.cells cs t fr) → W'.heap[k]? = some (.cells cs t fr)
  fixed : ∀ k, bs k → W'.heap[k]? = W.heap[k]?
theorem KeepsX.refl (B : Nat) (T : TypeId → Prop) (bs : Nat → Prop) (W : World) : KeepsX B T bs W W := ⟨Nat.le_refl _, fun _ _ _ h _ => h, fun _ _ _ _ _ _ h => h, fun _ _ => rfl⟩
theorem KeepsX.trans {B : Nat} {T : TypeId → Prop} {bs : Nat → Prop} {X Y Z : World} (h : KeepsX B T bs X Y) (k : KeepsX B T bs Y Z) : KeepsX B T bs X Z :=
  ⟨Nat.le_trans h.size k.size, fun i o hB hi ho => k.others i o hB (h.others i o hB hi ho) ho, fun i cs t fr hB hT hi => k.cells i cs t fr hB hT (h.cells i cs t fr hB hT hi), fun i hi => (k.fixed i hi).trans (h.fixed i hi)⟩
theorem KeepsX.weak {B B' : Nat} {T T' : TypeId → Prop} {bs bs' : Nat → Prop} {X Y : World} (h : KeepsX B T bs X Y) (hB : B ≤ B') (hT : ∀ t, T' t → T t) (hbs : ∀ k, bs' k → bs k) : KeepsX B' T' bs' X Y :=
  ⟨h.size, fun i o hi => h.others i o (by omega), fun i cs t fr hi ht => h.cells i cs t fr (by omega) (hT t ht), fun i hi => h.fixed i (hbs i hi)⟩
theorem KeepsX.from {B : Nat} {T : TypeId → Prop} {bs : Nat → Prop} {X Y : World} (h : KeepsX B T bs X Y) {B' : Nat} (hB : B ≤ B') : KeepsFrom B' X Y := ⟨h.size, fun i o hi => h.others i o (by omega)⟩
/-- A step that turns one block at most, below B, and not one of bs. -/
theorem KeepsX.grown {B : Nat} {T : TypeId → Prop} {bs : Nat → Prop} {X Y : World} {row : Option Nat} (hg : X.grownBy Y row) (hr : ∀ k, row = some k → k < B ∧ ¬ bs k) (hbs : ∀ k, bs k → k < X.heap.size) : KeepsX B T bs X Y :=
  ⟨hg.size, fun k o hk h _ => (hg.block k (Array.getElem?_eq_some_iff.1 h).1 (fun e => by have := (hr k e.symm).1; omega)).trans h,
   fun k cs t fr hk _ h => (hg.block k (Array.getElem?_eq_some_iff.1 h).1 (fun e => by have := (hr k e.symm).1; omega)).trans h,
   fun k hk => hg.block k (hbs k hk) (fun e => (hr k e.symm).2 hk)⟩
theorem KeepsX.below {B : Nat} {T : TypeId → Prop} {bs : Nat → Prop} {X Y : World} (h : Below X.heap.size X Y) (hbs : ∀ k, bs k → k < X.heap.size) : KeepsX B T bs X Y :=
  ⟨h.size, fun k _ _ hk _ => (h.block k (Array.getElem?_eq_some_iff.1 hk).1).trans hk, fun k _ _ _ _ _ hk => (h.block k (Array.getElem?_eq_some_iff.1 hk).1).trans hk, fun k hk => h.block k (hbs k hk)⟩
theorem KeepsX.cell {B : Nat} {T : TypeId → Prop} {bs : Nat → Prop} {X Y : World} (h : KeepsX B T bs X Y) {b o : Nat} (hb : bs b) : Y.cell? ⟨b, o, none⟩ = X.cell? ⟨b, o, none⟩ := by
  simp only [World.cell?, h.fixed b hb]

variable {F : Fence} {n : Nat} {P : Program}
/-- The statement 'for .. := range g { .. }', outermost, over an iterator whose contract is at the world that the statement makes. -/
theorem wpIn_range_at {α : Type} {g : Operand} {ps : Array Tmp} {assign body : Code} {Q : Exit → Act → World → Prop} {a : Act} {w : World}
    (hro : F.round = none) (h1 : 1 ≤ n) {gf : Nat} {lb : Array Value} (hg : a.eval g = .func (.func gf) #[] lb) (hFg : F.fn gf) (eg : ∀ args w, (callFunc gf args).run P w = .ok (.enter gf args) w)
    {encs : α → Array Value} {T : TypeId → Prop} {bs : Nat → Prop} {S Sp : List α → Prop} {N : Nat}
    (hseq : ∀ W, Below w.heap.size w W → W.heap.size = w.heap.size + 2 → SeqAt F (n - 1) P gf lb encs T (KeepsX (w.heap.size + 2) T bs) S Sp N W)
    (hbs : ∀ k, bs k → k < w.heap.size) (hps : ∀ x, (encs x).size = ps.size)
    (I : List α → World → Prop) (Ix : Code → List α → World → Prop) (hIT : OwnT w.heap.size T I) (hIxT : ∀ c, OwnT w.heap.size T (Ix c)) (h0 : I [] w) (a₁ : α → Act)
    (hassign : ∀ (l : Nat) (x : α) (W : World) (K : Act → World → Prop), K (a₁ x) W →
      assign.wpIn (F.inRound l) (n - 1 - 1) P (Exit.then K (fun _ _ _ => False)) { tmps := (ps.zip (encs x)).foldl (fun t (p, v) => t.setIfInBounds p v) a.tmps, defers := [] } W)
    (hbody : ∀ (l : Nat) (pre : List α) (x : α) (W : World), w.heap.size ≤ l → (∃ r, W.heap[l]? = some (.loop r)) → I pre W → pre.length < N → Sp (pre ++ [x]) → body.wpIn (F.inRound l) (n - 1 - 1) P (ownPostG w.heap.size (KeepsX (w.heap.size + 2) T bs) I Ix (pre ++ [x]) W) (a₁ x) W)
    (hdone : ∀ (D : Nat) (xs : List α) (W : World), w.heap.size ≤ D → S xs → I xs W → W.heap[D]? = some (.deferred (some [])) → Q .normal { a with defers := { target := .collected D, args := #[] } :: a.defers } W)
    (hstop : ∀ (D : Nat) (c : Code) (pre : List α) (W : World), w.heap.size ≤ D → Sp pre → Ix c pre W → W.heap[D]? = some (.deferred (some [])) → c.wpIn F n P Q { a with defers := { target := .collected D, args := #[] } :: a.defers } W) :
    (Code.rangeFunc g ps assign body).wpIn F n P Q a w := by
  have hI := ownT_from hIT
  have hIx := fun c => ownT_from (hIxT c)
  refine wpIn_rangeFunc ?_
  intro fn hfn
  rw [hro]
  -- the loop's record, in each of its states
  obtain ⟨rec, hrec⟩ : ∃ rec : LoopState → Option Code → Loop, rec = fun st pe => { state := st, pending := pe, fn, tmps := a.tmps, params := ps, assign, body, defers := w.heap.size } := ⟨_, rfl⟩
  obtain ⟨W1, hW1⟩ : ∃ W1, (w.alloc (.deferred (some []))).alloc (.loop (rec .ready none)) = W1 := ⟨_, rfl⟩
  have hsz : W1.heap.size = w.heap.size + 2 := by rw [← hW1]; simp
  have hb1 : Below w.heap.size w W1 := by rw [← hW1]; exact ((Below.refl _ w).alloc (Nat.le_refl _) _).alloc (by simp) _
  have hL1 : W1.heap[w.heap.size + 1]? = some (.loop (rec .ready none)) := by
    rw [← hW1]; have := World.alloc_heap_new (w.alloc (.deferred (some []))) (.loop (rec .ready none)); rwa [World.size_alloc] at this
  have hD1 : W1.heap[w.heap.size]? = some (.deferred (some [])) := by
    rw [← hW1]; exact (Below.heap_alloc _ _ _ (by simp)).trans (World.alloc_heap_new w _)
  have hI1 : I [] W1 := by rw [← hW1]; exact hI.alloc _ (hI.alloc _ h0)
  -- a turn of the record is nothing that a round must keep
  have turn : ∀ (W : World) (o o' : Obj), W.heap[w.heap.size + 1]? = some o → KeepsX (w.heap.size + 2) T bs W (W.putObj (w.heap.size + 1) o') := fun W o o' h =>
    KeepsX.grown (grownBy_putObj' W _ o') (fun k e => by cases e; exact ⟨by omega, fun hk => by have := hbs _ hk; omega⟩) (fun k hk => by have := hbs k hk; have := (Array.getElem?_eq_some_iff.1 h).1; omega)
  refine ⟨w.heap.size + 1, [{ target := .collected w.heap.size, args := #[] }], W1, { target := .fn (.func gf) lb, args := #[.func (.yield (w.heap.size + 1)) #[] #[]] }, W1, gf,
    #[.func (.yield (w.heap.size + 1)) #[] #[]] ++ lb, W1, ?_, ?_, ?_, ?_, fun _ => h1, ?_⟩
  · rw [← hW1, hrec]; exact run_enterLoop_outer _ _ _ _ _
  · simp only [resolve, hg]
    simp [go_sem]
  · intro f' hf'; simp [Target.leads] at hf'; subst hf'; exact hFg
  · simp [invoke, go_sem, eg]
  · have kept : ∀ {A B : World} {row : Option Nat} {k : Nat} {o : Obj}, A.grownBy B row → (∀ r, row = some r → W1.heap.size ≤ r ∧ ∃ o : Obj, A.heap[r]? = some o ∧ ∀ cs t fr, o = .cells cs t fr → T t) → k < W1.heap.size → A.heap[k]? = some o → B.heap[k]? = some o :=
      fun hg hr hk ho => (hg.block _ (Array.getElem?_eq_some_iff.1 ho).1 (fun e => by have := (hr _ e.symm).1; omega)).trans ho
    refine (hseq W1 hb1 hsz (w.heap.size + 1)
      (fun pre W => I pre W ∧ W.heap[w.heap.size + 1]? = some (.loop (rec .ready none)) ∧ W.heap[w.heap.size]? = some (.deferred (some [])))
      (fun pre W => ∃ c, Ix c pre W ∧ W.heap[w.heap.size + 1]? = some (.loop (rec .done (some c))) ∧ W.heap[w.heap.size]? = some (.deferred (some [])))
      (fun s A B row hs hg' hr => ⟨hIT s A B row hs.1 hg' (fun r e => ⟨by have := (hr r e).1; omega, (hr r e).2⟩), kept hg' hr (by omega) hs.2.1, kept hg' hr (by omega) hs.2.2⟩)
      (fun s A B row hs hg' hr => by
        obtain ⟨c, hc, hl, hk⟩ := hs
        exact ⟨c, hIxT c s A B row hc hg' (fun r e => ⟨by have := (hr r e).1; omega, (hr r e).2⟩), kept hg' hr (by omega) hl, kept hg' hr (by omega) hk⟩)
      ?_ ⟨hI1, hL1, hD1⟩).mono ?_
    · rintro pre x W ⟨hi, hl, hk⟩ hlen hsp
      have hlt : w.heap.size + 1 < W.heap.size := (Array.getElem?_eq_some_iff.1 hl).1
      have hy := run_yield (P := P) (args := encs x) hl (by rw [hrec]; exact hps x)
      rw [hrec] at hy
      refine ⟨fn, _, assign, body, hy, roundIn_of_wpIn hfn (hassign _ x W _ ?_)⟩
      clear hy
      refine ⟨_, run_beginRound hl (by rw [hrec]), ?_⟩
      have hl2 : (W.putObj (w.heap.size + 1) (.loop { rec .ready none with state := .busy })).heap[w.heap.size + 1]? = some (.loop { rec .ready none with state := .busy }) := World.putObj_heap_same hlt
      have hk2 : (W.putObj (w.heap.size + 1) (.loop { rec .ready none with state := .busy })).heap[w.heap.size]? = some (.deferred (some [])) := (World.putObj_heap_other (by omega)).trans hk
      refine wpIn_mono (hbody _ pre x _ (by omega) ⟨_, hl2⟩ (hI.putObj _ hi (by omega) hl rfl) hlen hsp) ?_
      have fin : ∀ (jump : Option Code) (W3 : World), KeepsFrom w.heap.size (W.putObj (w.heap.size + 1) (.loop { rec .ready none with state := .busy })) W3 →
          KeepsFrom W1.heap.size W (W3.putObj (w.heap.size + 1) (.loop (rec (if jump.isNone then .ready else .done) jump))) ∧
          (Instr.endRound (w.heap.size + 1) jump).run P W3 = .ok (.bool jump.isNone) (W3.putObj (w.heap.size + 1) (.loop (rec (if jump.isNone then .ready else .done) jump))) ∧
          W3.heap[w.heap.size + 1]? = some (.loop { rec .ready none with state := .busy }) ∧
          (W3.putObj (w.heap.size + 1) (.loop (rec (if jump.isNone then .ready else .done) jump))).heap[w.heap.size + 1]? = some (.loop (rec (if jump.isNone then .ready else .done) jump)) ∧
          (W3.putObj (w.heap.size + 1) (.loop (rec (if jump.isNone then .ready else .done) jump))).heap[w.heap.size]? = some (.deferred (some [])) := fun jump W3 hk3 => by
        have hl3 := hk3.same _ _ (by omega) hl2 rfl
        have := run_endRound (P := P) jump hl3
        rw [hrec] at this ⊢
        exact ⟨by rw [hsz, ← hrec]; exact (((turn _ _ _ hl).from (Nat.le_refl _)).trans ⟨hk3.size, fun k o hk => hk3.same k o (by omega)⟩).trans ((turn _ _ _ hl3).from (Nat.le_refl _)), this, by rw [hrec] at hl3; exact hl3, World.putObj_heap_same (Array.getElem?_eq_some_iff.1 hl3).1, (World.putObj_heap_other (by omega)).trans (hk3.same _ _ (Nat.le_refl _) hk2 rfl)⟩
      rintro e a3 W3 hp
      cases e with
      | normal =>
        obtain ⟨hk3, hkp3, hi3⟩ := hp
        obtain ⟨hkf, hr, hl3, hl4, hk4⟩ := fin none W3 hk3
        exact ⟨_, _, hr, .inl ⟨rfl, ⟨hI.putObj _ hi3 (by omega) hl3 rfl, hl4, hk4⟩, ((turn _ _ _ hl).trans hkp3).trans (turn _ _ _ hl3)⟩⟩
      | ret =>
        obtain ⟨hk3, hi3⟩ := hp
        obtain ⟨hkf, hr, hl3, hl4, hk4⟩ := fin (some .ret) W3 hk3
        exact ⟨_, _, hr, .inr ⟨rfl, ⟨.ret, (hIx _).putObj _ hi3 (by omega) hl3 rfl, hl4, hk4⟩, hkf⟩⟩
      | exit id =>
        obtain ⟨hk3, hi3⟩ := hp
        obtain ⟨hkf, hr, hl3, hl4, hk4⟩ := fin (some (.exit id)) W3 hk3
        exact ⟨_, _, hr, .inr ⟨rfl, ⟨.exit id, (hIx _).putObj _ hi3 (by omega) hl3 rfl, hl4, hk4⟩, hkf⟩⟩
      | goto t =>
        obtain ⟨hk3, hi3⟩ := hp
        obtain ⟨hkf, hr, hl3, hl4, hk4⟩ := fin (some (.goto t)) W3 hk3
        exact ⟨_, _, hr, .inr ⟨rfl, ⟨.goto t, (hIx _).putObj _ hi3 (by omega) hl3 rfl, hl4, hk4⟩, hkf⟩⟩
      | panic ch => exact hp.elim
      | outgrown => exact hp.elim
    · rintro e W2 ⟨⟨v, rfl⟩, (⟨xs, hS, hi, hl, hk⟩ | ⟨pre, hSp, c, hi, hl, hk⟩)⟩
      · exact ⟨none, _, by have := run_endLoop (P := P) hl (by rw [hrec]; simp); rw [hrec] at this; exact this, hdone _ xs _ (Nat.le_refl _) hS (hI.putObj _ hi (by omega) hl rfl) ((World.putObj_heap_other (by omega)).trans hk)⟩
      · exact ⟨some c, _, by have := run_endLoop (P := P) hl (by rw [hrec]; simp); rw [hrec] at this; exact this, hstop _ c pre _ (Nat.le_refl _) hSp ((hIx c).putObj _ hi (by omega) hl rfl) ((World.putObj_heap_other (by omega)).trans hk)⟩
end Go.Proofs.YtdokiaicheillaaGreat
