/-
  The walks of the layer of blocks: New, Take, Free.
-/
import Derived.Test.YtdokiaicheillaaGreatHoles
import Derived.Test.YtdokiaicheillaaGreatSlots
import Derived.Carry
namespace Go.Proofs.YtdokiaicheillaaGreat
open Go.RowKit Go.Shelf
attribute [local go_sem] Oper.semAt_some

/-- Blocks lie at b, in the map mb. -/
structure BlocksAt (w : World) (b mb : Nat) (u : Int) (l : List (Int × Int)) : Prop where
  head : w.heap[b]? = some (.cells #[.int .i64 u, .map (some mb)] 161 (0, 0))
  map : MapAt encI encI w mb l
  u0 : 0 ≤ u
  u1 : u ≤ 1024
  inside : S.within u l
theorem BlocksAt.kept {w w' : World} {b mb : Nat} {u : Int} {l : List (Int × Int)} (h : BlocksAt w b mb u l) (h1 : w'.heap[b]? = w.heap[b]?) (h2 : w'.heap[mb]? = w.heap[mb]?) : BlocksAt w' b mb u l :=
  ⟨h1.trans h.head, h.map.kept h2, h.u0, h.u1, h.inside⟩
theorem BlocksAt.c0 {w : World} {b mb : Nat} {u : Int} {l : List (Int × Int)} (h : BlocksAt w b mb u l) : w.cell? ⟨b, 0, none⟩ = some (.int .i64 u) := by simp [World.cell?, h.head]
theorem BlocksAt.c1 {w : World} {b mb : Nat} {u : Int} {l : List (Int × Int)} (h : BlocksAt w b mb u l) : w.cell? ⟨b, 1, none⟩ = some (.map (some mb)) := by simp [World.cell?, h.head]
theorem BlocksAt.ne {w : World} {b mb : Nat} {u : Int} {l : List (Int × Int)} (h : BlocksAt w b mb u l) : b ≠ mb := by
  rintro rfl
  obtain ⟨a, c, hm⟩ := h.map.obj
  rw [h.head] at hm
  cases hm
theorem int_range {l : List Int} {u : Nat} (hn : l.Nodup) (h : ∀ x, x ∈ l → 0 ≤ x ∧ x < u) : l.length ≤ u := by
  have h1 : (l.map Int.toNat).Nodup := by
    rw [List.nodup_iff_pairwise_ne] at hn ⊢
    rw [List.pairwise_map]
    exact hn.imp_of_mem (fun {a b} ha hb hab => by have := (h a ha).1; have := (h b hb).1; omega)
  have h2 : l.map Int.toNat ⊆ List.range u := fun x hx => by
    obtain ⟨y, hy, rfl⟩ := List.mem_map.1 hx
    have := h y hy
    exact List.mem_range.2 (by omega)
  have := List.Nodup.length_le_of_subset h1 h2
  simpa using this
theorem BlocksAt.few {w : World} {b mb : Nat} {u : Int} {l : List (Int × Int)} (h : BlocksAt w b mb u l) : l.length ≤ 1024 := by
  have := int_range (u := 1024) h.map.keys (fun x hx => by
    obtain ⟨y, hy, rfl⟩ := List.mem_map.1 hx
    have := h.inside y hy
    have := h.u1
    omega)
  simpa using this

namespace S
/-- The first piece that is long enough. -/
def fit (n : Int) (hs : List (Int × Int)) : Option Int := (hs.find? (fun x => decide (n ≤ x.2))).map (·.1)
def take (u : Int) (l : List (Int × Int)) (n : Int) : List (Int × Int) × Int × Int :=
  if n < 1 then (l, 0, 1) else match fit n (holes u (each l)) with
    | some at_ => (setK l at_ n, at_, 0)
    | none => (l, 0, 100)
theorem gaps_ok {u : Int} : ∀ {l : List (Int × Int)} {e : Int}, within u l → 0 ≤ e → ∀ x, x ∈ gaps e l → 0 ≤ x.1 ∧ x.1 + x.2 ≤ u
  | [], _, _, _, x, hx => by cases hx
  | y :: r, e, hw, h0, x, hx => by
    have hy := hw y (by simp)
    simp only [gaps, List.mem_append] at hx
    rcases hx with hx | hx
    · split at hx
      · simp only [List.mem_singleton] at hx
        subst hx
        simp only
        omega
      · cases hx
    · exact gaps_ok (fun z hz => hw z (by simp [hz])) (by omega) x hx
theorem holes_ok {u : Int} {l : List (Int × Int)} (hw : within u l) (hu : 0 ≤ u) : ∀ x, x ∈ holes u l → 0 ≤ x.1 ∧ x.1 + x.2 ≤ u := by
  intro x hx
  simp only [holes, List.mem_append] at hx
  rcases hx with hx | hx
  · exact gaps_ok hw (Int.le_refl 0) x hx
  · split at hx
    · simp only [List.mem_singleton] at hx
      subst hx
      have := endOf_bounds hw (Int.le_refl 0) hu
      simp only
      omega
    · cases hx
theorem mem_setK {K V : Type} [DecidableEq K] {l : List (K × V)} {a : K} {v : V} {x : K × V} (h : x ∈ setK l a v) : x ∈ l ∨ x = (a, v) := by
  unfold setK at h
  split at h
  · obtain ⟨y, hy, e⟩ := List.mem_map.1 h
    split at e
    · rename_i h1
      subst e
      exact .inr (by rw [h1])
    · exact .inl (e ▸ hy)
  · simpa using h
theorem within_set {u : Int} {l : List (Int × Int)} {a n : Int} (hw : within u l) (h0 : 0 ≤ a) (h1 : 1 ≤ n) (h2 : a + n ≤ u) : within u (setK l a n) := fun x hx => by
  rcases mem_setK hx with h | rfl
  · exact hw x h
  · exact ⟨h0, h1, h2⟩
end S

set_option maxHeartbeats 1000000 in
theorem blocks_New_yes (u : Int) (h0 : 0 ≤ u) (h1 : u ≤ 1024) (w : World) :
    Calls Tryz.prog 42 #[.int .i64 u] w fun e w' => ∃ b mb, e = .returned (.tuple #[.pointer (some ⟨b, 0, none⟩), .int .i64 0]) ∧ BlocksAt w' b mb u [] ∧ w.heap.size ≤ b ∧ w.heap.size ≤ mb ∧ Below w.heap.size w w' := by
  have t1 : decide (u < 0) = false := by simp; omega
  have t2 : decide (1024 < u) = false := by simp; omega
  have hmm := @run_makeMap Tryz.prog
  go_enter Tryz.func42, Tryz.ntmps42
  go_wp2
  go_ret2
  go_light
  refine ⟨w.heap.size + 1, w.heap.size, rfl, ⟨?_, (MapAt.new w).kept (Below.heap_alloc _ _ _ (by simp)), h0, h1, fun x hx => by cases hx⟩, by omega, by omega, (below_one w _).new_ _⟩
  have := heap_alloc_new (w.alloc (.map #[] 0)) (.cells #[.int .i64 u, .map (some w.heap.size)] 161)
  rwa [World.size_alloc] at this

theorem boxes5 (w : World) (t0 t1 t2 t3 t4 : TypeId) (v0 v1 v2 v3 v4 : Value) :
    (((((w.alloc (.cells #[v0] t0)).alloc (.cells #[v1] t1)).alloc (.cells #[v2] t2)).alloc (.cells #[v3] t3)).alloc (.cells #[v4] t4)).heap.size = w.heap.size + 5 ∧
    Boxed (((((w.alloc (.cells #[v0] t0)).alloc (.cells #[v1] t1)).alloc (.cells #[v2] t2)).alloc (.cells #[v3] t3)).alloc (.cells #[v4] t4)) w.heap.size t0 v0 ∧
    Boxed (((((w.alloc (.cells #[v0] t0)).alloc (.cells #[v1] t1)).alloc (.cells #[v2] t2)).alloc (.cells #[v3] t3)).alloc (.cells #[v4] t4)) (w.heap.size + 1) t1 v1 ∧
    Boxed (((((w.alloc (.cells #[v0] t0)).alloc (.cells #[v1] t1)).alloc (.cells #[v2] t2)).alloc (.cells #[v3] t3)).alloc (.cells #[v4] t4)) (w.heap.size + 2) t2 v2 ∧
    Boxed (((((w.alloc (.cells #[v0] t0)).alloc (.cells #[v1] t1)).alloc (.cells #[v2] t2)).alloc (.cells #[v3] t3)).alloc (.cells #[v4] t4)) (w.heap.size + 3) t3 v3 ∧
    Boxed (((((w.alloc (.cells #[v0] t0)).alloc (.cells #[v1] t1)).alloc (.cells #[v2] t2)).alloc (.cells #[v3] t3)).alloc (.cells #[v4] t4)) (w.heap.size + 4) t4 v4 := by
  refine ⟨by simp, ((((Boxed.new w _ _).alloc _).alloc _).alloc _).alloc _, ?_, ?_, ?_, ?_⟩
  · have := (((Boxed.new (w.alloc (.cells #[v0] t0)) t1 v1).alloc (.cells #[v2] t2)).alloc (.cells #[v3] t3)).alloc (.cells #[v4] t4)
    rwa [World.size_alloc] at this
  · have := ((Boxed.new ((w.alloc (.cells #[v0] t0)).alloc (.cells #[v1] t1)) t2 v2).alloc (.cells #[v3] t3)).alloc (.cells #[v4] t4)
    rwa [World.size_alloc, World.size_alloc] at this
  · have := (Boxed.new (((w.alloc (.cells #[v0] t0)).alloc (.cells #[v1] t1)).alloc (.cells #[v2] t2)) t3 v3).alloc (.cells #[v4] t4)
    rwa [World.size_alloc, World.size_alloc, World.size_alloc] at this
  · have := Boxed.new ((((w.alloc (.cells #[v0] t0)).alloc (.cells #[v1] t1)).alloc (.cells #[v2] t2)).alloc (.cells #[v3] t3)) t4 v4
    rwa [World.size_alloc, World.size_alloc, World.size_alloc, World.size_alloc] at this
def takeAll (n : Int) (pre : List (Int × Int)) : Prop := ∀ x, x ∈ pre → x.2 < n
/-- A round has taken a piece. -/
def takeDone (w : World) (mb : Nat) (n : Int) (l pre : List (Int × Int)) (o : Obj) (x : Int × Int) : Prop := ∃ q, pre = q ++ [x] ∧ takeAll n q ∧ n ≤ x.2 ∧ MapAt encI encI (w.putObj mb o) mb (setK l x.1 n)
def takeT (t : TypeId) : Prop := t = 3 ∨ t = 35 ∨ t = 75
/-- What Take keeps between two rounds. -/
def takeInv (w : World) (b mb : Nat) (n : Int) (W : World) (xb xm : Option Obj) (va ve : Value) : Prop :=
  Boxed W w.heap.size 75 (.pointer (some ⟨b, 0, none⟩)) ∧ Boxed W (w.heap.size + 1) 3 (.int .i64 n) ∧ Boxed W (w.heap.size + 2) 3 va ∧ Boxed W (w.heap.size + 3) 23 ve ∧
    (b < W.heap.size ∧ W.heap[b]? = xb) ∧ (mb < W.heap.size ∧ W.heap[mb]? = xm) ∧ Only [mb] w W

theorem ownT_only {β : Type} {B : Nat} {T : TypeId → Prop} {F : List Nat} {w : World} (hB : w.heap.size ≤ B) : OwnT B T (fun (_ : β) W => Only F w W) := fun _ _ _ _ h hg hr => h.grown hg (fun k e => .inr (Nat.le_trans hB (hr k e).1))
theorem takeInv_own {β : Type} {B : Nat} {T : TypeId → Prop} {w : World} {b mb : Nat} {n : Int} {xb xm : Option Obj} {va ve : Value} (hB : w.heap.size + 5 ≤ B) (hb : b < w.heap.size) (hm : mb < w.heap.size) : OwnT B T (fun (_ : β) W => takeInv w b mb n W xb xm va ve) :=
  ownT_and (ownT_boxed _ _ _ _ _ (by omega)) (ownT_and (ownT_boxed _ _ _ _ _ (by omega)) (ownT_and (ownT_boxed _ _ _ _ _ (by omega)) (ownT_and (ownT_boxed _ _ _ _ _ (by omega)) (ownT_and (ownT_block _ _ (fun _ => b) (fun _ => xb) (fun _ => by omega)) (ownT_and (ownT_block _ _ (fun _ => mb) (fun _ => xm) (fun _ => by omega)) (ownT_only (by omega)))))))

theorem take_end {w X : World} {b mb : Nat} {n : Int} {xb xm : Option Obj} {o : Obj} (h : takeInv w b mb n X xb xm (.int .i64 0) (.int .i64 0)) (hmlt : mb < w.heap.size) (hblt : b < w.heap.size) (hne : b ≠ mb) (hmX : mb < X.heap.size) (v : Value) :
    (X.drew.putObj mb o).cell? ⟨w.heap.size + 2, 0, none⟩ = some (.int .i64 0) ∧ (X.drew.putObj mb o).frozen? ⟨w.heap.size + 2, 0, none⟩ = false ∧ (X.drew.putObj mb o).cell? ⟨w.heap.size + 3, 0, none⟩ = some (.int .i64 0) ∧ (X.drew.putObj mb o).frozen? ⟨w.heap.size + 3, 0, none⟩ = false ∧
      takeInv w b mb n (((X.drew.putObj mb o).setCell ⟨w.heap.size + 2, 0, none⟩ v).setCell ⟨w.heap.size + 3, 0, none⟩ (.int .i64 0)) xb (some o) v (.int .i64 0) ∧
      KeepsFrom w.heap.size X (((X.drew.putObj mb o).setCell ⟨w.heap.size + 2, 0, none⟩ v).setCell ⟨w.heap.size + 3, 0, none⟩ (.int .i64 0)) := by
  obtain ⟨i0, i1, i2, i3, ib, im, io⟩ := h
  have hg : X.grownBy (X.drew.putObj mb o) (some mb) := have h := grownBy_putObj' X.drew mb o; ⟨h.os, h.tape, h.output, h.size, h.block⟩
  have k0 := i0.kept hg (by simp; omega)
  have k1 := i1.kept hg (by simp; omega)
  have k2 := i2.kept hg (by simp; omega)
  have k3 := i3.kept hg (by simp; omega)
  have kb : (X.drew.putObj mb o).heap[b]? = xb := (hg.block b ib.1 (by simpa using hne)).trans ib.2
  have km : (X.drew.putObj mb o).heap[mb]? = some o := World.putObj_heap_same hmX
  have kO : Only [mb] w (X.drew.putObj mb o) := io.grown hg (fun k e => by cases e; exact .inl (by simp))
  have kF : KeepsFrom w.heap.size X (X.drew.putObj mb o) := KeepsFrom.of_grownBy hg (fun j e => by cases e; exact hmlt)
  have s2 := size_set (X.drew.putObj mb o) (w.heap.size + 2) v
  have s3 := size_set ((X.drew.putObj mb o).setCell ⟨w.heap.size + 2, 0, none⟩ v) (w.heap.size + 3) (.int .i64 0)
  have s1 := hg.size
  refine ⟨k2.cell, k2.frozen, k3.cell, k3.frozen, ⟨(k0.other (by omega) _).other (by omega) _, (k1.other (by omega) _).other (by omega) _, (k2.set v).other (by omega) _, (k3.other (by omega) _).set _, ⟨by have := ib.1; omega, ?_⟩, ⟨by omega, ?_⟩, (kO.set (k := w.heap.size + 2) (.inr (by omega)) 0 v).set (k := w.heap.size + 3) (.inr (by omega)) 0 _⟩, kF.trans (((KeepsOthers.setCell _ _ _).trans (KeepsOthers.setCell _ _ _)).from _)⟩
  · rw [heap_set_ne _ _ _ (by omega), heap_set_ne _ _ _ (by omega)]; exact kb
  · rw [heap_set_ne _ _ _ (by omega), heap_set_ne _ _ _ (by omega)]; exact km

set_option maxRecDepth 100000 in
set_option maxHeartbeats 4000000 in
theorem blocks_Take (b mb : Nat) (u n : Int) (l : List (Int × Int)) (w : World) (h : BlocksAt w b mb u l) (hn : 1 ≤ n) :
    Calls Tryz.prog 50 #[.pointer (some ⟨b, 0, none⟩), .int .i64 n] w fun e w' => e = .returned (.tuple #[.int .i64 (S.take u l n).2.1, .int .i64 (S.take u l n).2.2]) ∧ BlocksAt w' b mb u (S.take u l n).1 ∧ Only [mb] w w' := by
  have h1 := Hid.mk h
  have t1 : decide (n < 1) = false := by simp; omega
  have hfew := Hid.mk h.few
  have hblt : b < w.heap.size := World.block_lt_of_cell? w _ h.c0
  have hmlt := h.map.lt
  clear h
  refine (callsIn_wide (n := 12)).1 ?_
  refine callsIn_of_wp_marks Tryz.func50 rfl trivial ?_ rfl
  simp only [Tryz.ntmps50, List.size_toArray, List.length_cons, List.length_nil, Nat.reduceAdd, Nat.reduceSub, Array.replicate_succ, Array.replicate_zero, List.push_toArray, List.append_toArray, List.nil_append, List.cons_append]
  have hFw : ∀ f, Fence.wide.fn f := fun _ => trivial
  have hFd : Fence.wide.depth = none := rfl
  have hFo : Fence.wide.round = none := rfl
  gi_wp2_with (gi_at_call 97; refine (callsIn_wide.2 (blocks_holes b _)).mono ?_; rintro e w1 ⟨rfl, rfl⟩)
  have hbW : Below w.heap.size w (((((w.alloc (.cells #[.pointer (some ⟨b, 0, none⟩)] 75)).alloc (.cells #[.int .i64 n] 3)).alloc (.cells #[.int .i64 0] 3)).alloc (.cells #[.int .i64 0] 23)).alloc (.cells #[.pointer (some ⟨b, 0, none⟩)] 75)) := ((((below_one w _).new_ _).new_ _).new_ _).new_ _
  obtain ⟨hszW, b0, b1, b2, b3, b4⟩ := boxes5 w 75 3 3 23 75 (.pointer (some ⟨b, 0, none⟩)) (.int .i64 n) (.int .i64 0) (.int .i64 0) (.pointer (some ⟨b, 0, none⟩))
  generalize (((((w.alloc (.cells #[.pointer (some ⟨b, 0, none⟩)] 75)).alloc (.cells #[.int .i64 n] 3)).alloc (.cells #[.int .i64 0] 3)).alloc (.cells #[.int .i64 0] 23)).alloc (.cells #[.pointer (some ⟨b, 0, none⟩)] 75)) = W0 at *
  have hseq : ∀ W, Below W0.heap.size W0 W → W.heap.size = W0.heap.size + 2 → SeqAt Fence.wide (12 - 1) Tryz.prog 140 #[.pointer (some ⟨w.heap.size + 4, 0, none⟩)] encP takeT (KeepsX (W0.heap.size + 2) takeT (fun k => k = w.heap.size + 4 ∨ k = b ∨ k = mb)) (fun xs => xs = S.holes u (S.each l)) (fun pre => pre <+: S.holes u (S.each l)) (l.length + 1) W := by
    intro W hW hs
    rw [← hs]
    have hbWW : Below w.heap.size w W := below_then hbW hW
    have hk := h1.out.kept (hbWW.block _ hblt) (hbWW.block _ hmlt)
    exact holes_at 11 (by omega) takeT ⟨.inl rfl, .inr (.inl rfl), .inr (.inr rfl)⟩ (fun k => k = w.heap.size + 4 ∨ k = b ∨ k = mb) (w.heap.size + 4) b mb u l W ⟨.inl rfl, .inr (.inl rfl), .inr (.inr rfl)⟩ (by rintro k (rfl | rfl | rfl) <;> omega) (below_reads hW _ _ b4.cell) hk.c0 hk.c1 hk.map (by have := hfew.out; omega) hk.inside hk.u0 (by have := hk.u1; omega)
  obtain ⟨xb, hxb⟩ : ∃ xb, w.heap[b]? = xb := ⟨_, rfl⟩
  obtain ⟨xm, hxm⟩ : ∃ xm, w.heap[mb]? = xm := ⟨_, rfl⟩
  refine wpIn_range_at rfl (by decide) (gf := 140) (lb := #[.pointer (some ⟨w.heap.size + 4, 0, none⟩)]) rfl trivial (enters_of Tryz.func140 (by kernel_rfl) rfl)
    hseq (by rintro k (rfl | rfl | rfl) <;> omega) (fun _ => rfl)
    (fun pre W => takeAll n pre ∧ takeInv w b mb n W xb xm (.int .i64 0) (.int .i64 0))
    (fun c pre W => c = .ret ∧ ∃ o x, takeDone w mb n l pre o x ∧ takeInv w b mb n W xb (some o) (.int .i64 x.1) (.int .i64 0))
    ?hI ?hIx ⟨fun x hx => (by cases hx), b0, b1, b2, b3, ⟨by omega, (hbW.block _ hblt).trans hxb⟩, ⟨by omega, (hbW.block _ hmlt).trans hxm⟩, Only.below hbW _⟩
    (fun x => { tmps := #[.pointer (some ⟨b, 0, none⟩), .int .i64 n, .pointer (some ⟨w.heap.size, 0, none⟩), .pointer (some ⟨w.heap.size + 1, 0, none⟩), .pointer (some ⟨w.heap.size + 1 + 1, 0, none⟩), .pointer (some ⟨w.heap.size + 1 + 1 + 1, 0, none⟩), .int .i64 x.1, .int .i64 x.2, .int .i64 n, .bool false, .pointer (some ⟨b, 0, none⟩), .func (.func 140) #[] #[.pointer (some ⟨w.heap.size + 4, 0, none⟩)], .int .i64 x.1, .int .i64 x.2, undef, undef, undef, undef, undef, undef, undef, undef, undef, undef], defers := [] })
    ?assign ?body ?done ?stop
  case hI => exact ownT_and (ownT_pure _ _ _) (takeInv_own (by omega) hblt hmlt)
  case hIx =>
    rintro c pre X Y row ⟨h1, o, x, h5, h6⟩ hg hr
    exact ⟨h1, o, x, h5, takeInv_own (β := Unit) (by omega) hblt hmlt () X Y row h6 hg hr⟩
  case assign =>
    intro lq x X K hK
    gi_wp2
    exact hK
  case body =>
    rintro lq pre x X hlq ⟨rr, hrr⟩ ⟨hlt, i0, i1, i2, i3, ib, im, io⟩ hlen hsp
    have c0 := i0.cell
    have c1 := i1.cell
    have hXb : X.cell? ⟨b, 1, none⟩ = some (.map (some mb)) := (cell_block (ib.2.trans hxb.symm)).trans h1.out.c1
    have hXm : MapAt encI encI X mb l := h1.out.map.kept (im.2.trans hxm.symm)
    have hlt1 := Hid.mk hlt
    by_cases hx : n ≤ x.2
    · have t2 : decide (n ≤ x.2) = true := by simp [hx]
      obtain ⟨o, hst, hmo⟩ := run_store (P := Tryz.prog) (w := X.drew) (key_int Tryz.underlying3) Tryz.underlying159 (show MapAt encI encI X.drew mb l from hXm.kept rfl) x.1 n
      have hdone := Hid.mk (show takeDone w mb n l (pre ++ [x]) o x from ⟨pre, rfl, hlt, hx, hmo.kept ((putObj_at (show w.heap[mb]? = _ from (Array.getElem?_eq_getElem hmlt))).trans (putObj_at (show X.drew.heap[mb]? = _ from (Array.getElem?_eq_getElem (show mb < X.heap.size from im.1)))).symm)⟩)
      obtain ⟨e0, e1, e2, e3, e4, e5⟩ := take_end (o := o) ⟨i0, i1, i2, i3, ib, im, io⟩ hmlt hblt h1.out.ne (show mb < X.heap.size from im.1) (.int .i64 x.1)
      have he4 := Hid.mk e4
      have he5 := Hid.mk e5
      clear e4 e5 hmo hlt i0 i1 i2 i3 ib im io hXm hrr hsp hseq b0 b1 b2 b3 b4 hxb hxm
      gi_wp2
      (refine wpIn_still_tail (by first | exact lets_wide | exact lets_round _) 6 (by kernel_rfl) (by kernel_rfl) ?_; simp only [List.take_succ_cons, List.take_zero, List.drop_succ_cons, List.drop_zero]; (repeat still_step); (try refine wpStill_nil ?_))
      gi_wp2
      go_light
      exact ⟨⟨he5.out.size, fun k o' hk => he5.out.same k o' (by omega)⟩, rfl, o, x, hdone.out, he4.out⟩
    · have t2 : decide (n ≤ x.2) = false := by simp; omega
      have hinv := Hid.mk (show takeInv w b mb n X xb xm (.int .i64 0) (.int .i64 0) from ⟨i0, i1, i2, i3, ib, im, io⟩)
      have hall : Hid (takeAll n (pre ++ [x])) := fun y hy => by
        rcases List.mem_append.1 hy with h | h
        · exact hlt y h
        · simp only [List.mem_singleton] at h; subst h; omega
      clear hlt i0 i1 i2 i3 ib im io hXm hrr hsp hseq b0 b1 b2 b3 b4
      gi_wp2
      go_light
      exact ⟨KeepsFrom.refl _ _, KeepsX.refl _ _ _ _, hall.out, hinv.out⟩
  case done =>
    rintro D ys X hD rfl ⟨hlt, i0, i1, i2, i3, ib, im, io⟩ hK
    have c2 := i2.cell
    have c3 := i3.cell
    have f2 := i2.frozen
    have f3 := i3.frozen
    have hbl := h1.out.kept (w' := ((X.setCell ⟨w.heap.size + 2, 0, none⟩ (.int .i64 0)).setCell ⟨w.heap.size + 3, 0, none⟩ (.int .i64 100)).putObj D (.deferred none)) ((World.putObj_heap_other (by omega)).trans ((heap_set_ne _ _ _ (by omega)).trans ((heap_set_ne _ _ _ (by omega)).trans (ib.2.trans hxb.symm)))) ((World.putObj_heap_other (by omega)).trans ((heap_set_ne _ _ _ (by omega)).trans ((heap_set_ne _ _ _ (by omega)).trans (im.2.trans hxm.symm))))
    have hO := ((io.set (k := w.heap.size + 2) (.inr (by omega)) 0 (.int .i64 0)).set (k := w.heap.size + 3) (.inr (by omega)) 0 (.int .i64 100)).grown (grownBy_putObj' _ D (.deferred none)) (fun k e => by cases e; exact .inr (by omega))
    have b2' : Boxed (((X.setCell ⟨w.heap.size + 2, 0, none⟩ (.int .i64 0)).setCell ⟨w.heap.size + 3, 0, none⟩ (.int .i64 100)).putObj D (.deferred none)) (w.heap.size + 2) 3 (.int .i64 0) := ((i2.set _).other (by omega) _).kept (grownBy_putObj' _ D _) (by simp; omega)
    have b3' : Boxed (((X.setCell ⟨w.heap.size + 2, 0, none⟩ (.int .i64 0)).setCell ⟨w.heap.size + 3, 0, none⟩ (.int .i64 100)).putObj D (.deferred none)) (w.heap.size + 3) 23 (.int .i64 100) := ((i3.other (by omega) _).set _).kept (grownBy_putObj' _ D _) (by simp; omega)
    have hKD : ((X.setCell ⟨w.heap.size + 2, 0, none⟩ (.int .i64 0)).setCell ⟨w.heap.size + 3, 0, none⟩ (.int .i64 100)).heap[D]? = some (.deferred (some [])) := (heap_set_ne _ _ _ (by omega)).trans ((heap_set_ne _ _ _ (by omega)).trans hK)
    have hS : S.take u l n = (l, 0, 100) := by
      have : S.fit n (S.holes u (S.each l)) = none := by
        rw [S.fit, List.find?_eq_none.2 (fun x hx => by have := hlt x hx; simp; omega)]; rfl
      rw [S.take, if_neg (by omega), this]
    have hbl1 := Hid.mk hbl
    have hO1 := Hid.mk hO
    have hb2 := Hid.mk b2'.cell
    have hb3 := Hid.mk b3'.cell
    have hKD1 := Hid.mk hKD
    clear hbl hO b2' b3' hKD hlt i0 i1 i2 i3 ib im io hseq b0 b1 b2 b3 b4 hxb hxm hK
    gi_wp2
    refine ⟨by simp, .inl ⟨_, _, rfl, run_takeDeferred hKD1.out, ?_⟩⟩
    refine ⟨_, results_cc rfl _ _ _ rfl (load_int hb2.out) rfl (load_errno hb3.out), ?_, ?_, ?_⟩
    · rw [hS]
    · rw [hS]; exact hbl1.out
    · exact hO1.out
  case stop =>
    rintro D c pre X hD hsp ⟨rfl, o, x, ⟨q, rfl, hq, hnx, hmo⟩, i0, i1, i2, i3, ib, im, io⟩ hK
    have hxm2 : x ∈ S.holes u (S.each l) := hsp.subset (by simp)
    have hok := S.holes_ok (S.within_each h1.out.inside) h1.out.u0 x hxm2
    have hS : S.take u l n = (setK l x.1 n, x.1, 0) := by
      have : S.fit n (S.holes u (S.each l)) = some x.1 := by
        obtain ⟨r, hr⟩ := hsp
        rw [S.fit, ← hr, List.append_assoc, List.find?_append, List.find?_eq_none.2 (fun y hy => by have := hq y hy; simp; omega)]
        simp [hnx]
      rw [S.take, if_neg (by omega), this]
    have hbl : BlocksAt (X.putObj D (.deferred none)) b mb u (setK l x.1 n) := ⟨(World.putObj_heap_other (by omega)).trans (ib.2.trans (hxb.symm.trans h1.out.head)), hmo.kept ((World.putObj_heap_other (by omega)).trans (im.2.trans (World.putObj_heap_same hmlt).symm)), h1.out.u0, h1.out.u1, S.within_set h1.out.inside hok.1 hn (by omega)⟩
    have hO := io.grown (grownBy_putObj' X D (.deferred none)) (fun k e => by cases e; exact .inr (by omega))
    have b2' := i2.kept (grownBy_putObj' X D (.deferred none)) (by simp; omega)
    have b3' := i3.kept (grownBy_putObj' X D (.deferred none)) (by simp; omega)
    have hbl1 := Hid.mk hbl
    have hO1 := Hid.mk hO
    have hb2 := Hid.mk b2'.cell
    have hb3 := Hid.mk b3'.cell
    clear hbl hO b2' b3' i0 i1 i2 i3 ib im io hseq b0 b1 b2 b3 b4 hxb hxm
    gi_wp2
    refine ⟨by simp, .inl ⟨_, _, rfl, run_takeDeferred hK, ?_⟩⟩
    refine ⟨_, results_cc rfl _ _ _ rfl (load_int hb2.out) rfl (load_errno hb3.out), ?_, ?_, ?_⟩
    · rw [hS]
    · rw [hS]; exact hbl1.out
    · exact hO1.out
end Go.Proofs.YtdokiaicheillaaGreat
