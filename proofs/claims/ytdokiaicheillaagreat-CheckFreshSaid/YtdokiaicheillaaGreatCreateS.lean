/-
  The plain side of Create: the piece that is taken meets no block; which heap there is behind it.
-/
import Derived.Test.YtdokiaicheillaaGreatObj
import Derived.Test.YtdokiaicheillaaGreatPut
namespace Go.Proofs.YtdokiaicheillaaGreat
open Go.RowKit

namespace S
def handlesFrom : Nat → List Slot → List Handle
  | _, [] => []
  | k, x :: r => (if x.used then [⟨(k : Int), x.gen⟩] else []) ++ handlesFrom (k + 1) r
def handles (l : List Slot) : List Handle := handlesFrom 0 l
theorem handlesFrom_append : ∀ (l m : List Slot) (k : Nat), handlesFrom k (l ++ m) = handlesFrom k l ++ handlesFrom (k + l.length) m
  | [], m, k => by simp [handlesFrom]
  | x :: r, m, k => by
    simp only [List.cons_append, handlesFrom, handlesFrom_append r m (k + 1), List.append_assoc, List.length_cons]
    rw [show k + 1 + r.length = k + (r.length + 1) by omega]
theorem handles_take {l : List Slot} {i : Nat} {x : Slot} (h : l[i]? = some x) : handlesFrom 0 (l.take (i + 1)) = handlesFrom 0 (l.take i) ++ (if x.used then [⟨(i : Int), x.gen⟩] else []) := by
  have hi := (List.getElem?_eq_some_iff.1 h).1
  rw [take_succ' h, handlesFrom_append]
  simp [handlesFrom, Nat.min_eq_left (Nat.le_of_lt hi)]
theorem handlesFrom_length : ∀ (l : List Slot) (k : Nat), (handlesFrom k l).length ≤ l.length
  | [], _ => by simp [handlesFrom]
  | x :: r, k => by
    have := handlesFrom_length r (k + 1)
    simp only [handlesFrom, List.length_append, List.length_cons]
    split <;> simp <;> omega
end S

set_option maxRecDepth 100000 in
set_option maxHeartbeats 4000000 in
theorem obj_Handles (p : Parts) (X : S.Heap) (w : World) (h : HeapAt w p X) :
    Calls Tryz.prog 19 #[.pointer (some ⟨p.H, 0, none⟩)] w fun e w' => ∃ v, e = .returned v ∧ w'.ownsRow w.heap.size 51 2 v (S.handles X.slots).length ((S.handles X.slots).map S.Handle.cells).flatten ∧ Below w.heap.size w w' := by
  have c2 := h.c2
  have hHl : p.H < w.heap.size := World.block_lt_of_cell? w _ c2
  have hfew := h.slt.many
  have hs : ∀ W, Below w.heap.size w W → Hid (SlotsAt W p.s p.vs X.slots) := fun W hb => (h.below hb).slt
  have hlen := Hid.mk (slots_Len p.s p.vs X.slots w h.slt)
  obtain ⟨l, hl⟩ : ∃ l, X.slots = l := ⟨_, rfl⟩
  rw [hl] at hs hlen hfew ⊢
  generalize p.H = H at *
  generalize p.s = s at *
  generalize p.vs = vs at *
  clear h hl
  go_enter Tryz.func19, Tryz.ntmps19
  go_wp2_with (go_at_call 58; (with_reducible refine hlen.out.mono ?_); rintro e w1 ⟨rfl, hb⟩; have hb1 := Hid.mk hb; clear hb)
  have hH1 := Hid.mk ((hb1.out.cell (p := ⟨H, 2, none⟩) hHl).trans c2)
  clear c2 hlen
  go_loopw [3, 12] (fun v3 v12 wr => ∃ i : Nat, i ≤ l.length ∧ v12 = .int .i64 i ∧ Hid (wr.ownsRow w.heap.size 51 2 v3 (S.handlesFrom 0 (l.take i)).length ((S.handlesFrom 0 (l.take i)).map S.Handle.cells).flatten) ∧ Hid (Below w.heap.size w wr)) (fun _ v12 _ => l.length - (intOf v12).toNat)
  case atStart => exact ⟨0, Nat.zero_le _, rfl, ⟨rfl, .inl ⟨rfl, rfl⟩⟩, hb1.out⟩
  case round =>
    obtain ⟨i, hi, rfl, ho, hb⟩ := hrel
    by_cases hlt : i < l.length
    · have cH : wr.cell? ⟨H, 2, none⟩ = some (.pointer (some ⟨s, 0, none⟩)) := (hb.out.cell (p := ⟨H, 2, none⟩) hHl).trans ((hb1.out.cell (p := ⟨H, 2, none⟩) hHl).symm.trans hH1.out)
      have hx : l[i]? = some l[i] := List.getElem?_eq_getElem hlt
      have hat := Hid.mk (slots_At s vs l i hlt wr (hs wr hb.out).out)
      have htk := Hid.mk (S.handles_take hx)
      have hS : S.slotAt l i = if l[i].used then (⟨i, l[i].gen⟩, true) else (S.noHandle, false) := by simp [S.slotAt, hlt]
      have hcount := S.handlesFrom_length (l.take i) 0
      rw [List.length_take] at hcount
      generalize l[i] = x at *
      cases hu : x.used
      · rw [hu] at htk hS
        rw [hS] at hat
        clear hS hx hu
        go_wp2_with (go_at_call 59; (with_reducible refine hat.out.mono ?_); rintro e w2 ⟨rfl, hb⟩; have hb2 := Hid.mk hb; clear hb)
        go_roundw
        case rel =>
          go_light
          have hbb := (below_then hb.out hb2.out).new_ (.cells #[.int .i64 0, .int .i64 0] 51)
          refine ⟨i + 1, by omega, by go_num, Hid.mk ?_, Hid.mk hbb⟩
          rw [htk.out]
          simp only [Bool.false_eq_true, if_false, List.append_nil]
          exact own_kept ho.out (fun k hk => ((below_then (Below.refl _ wr) hb2.out).new_ _).block k (own_lt ho.out hk))
        case measure => simp [intOf]; omega
      · rw [hu] at htk hS
        rw [hS] at hat
        clear hS hx hu
        go_wp2_with (first | (go_at_call 59; (with_reducible refine hat.out.mono ?_); rintro e w2 ⟨rfl, hb⟩; have hb2 := Hid.mk hb; have ho2 := Hid.mk (own_kept ho.out (fun k hk => hb.block k (own_lt ho.out hk))); clear hb) | (at_builtin; go_must (refine app_Handle rfl _ _ rfl w.heap.size _ _ _ rfl ((ho2.out.alloc _).alloc _) ⟨w2.heap.size + 1, 0, none⟩ 1 1 (S.Handle.cells ⟨i, x.gen⟩) rfl rfl (by have := news_new (w2.alloc (.cells #[.int .i64 i, .int .i64 x.gen] 51)) #[.int .i64 i, .int .i64 x.gen] 51 _ rfl; rwa [World.size_alloc] at this) (by simp [S.Handle.cells, Value.oneCell']) (by omega) (by have := hb.out.size; have := hb2.out.size; simp; omega) ?_; intro v' w5 ho5 hg5 h5 h6; clear h5; have ho51 := Hid.mk ho5; have hg51 := Hid.mk hg5; have h61 := Hid.mk h6; clear ho5 hg5 h6)))
        go_roundw
        case rel =>
          go_light
          have hb22 := below_then hb.out hb2.out
          have hbb : Below w.heap.size w w5 := ((hb22.new_ _).new_ _).grown hg51.out (by have := hb22.size; simp; omega) (fun k e => own_block_ge ho.out e)
          refine ⟨i + 1, by omega, by go_num, Hid.mk ?_, Hid.mk hbb⟩
          rw [htk.out]
          simp only [if_true, List.length_append, List.length_cons, List.length_nil, Nat.zero_add, List.map_append, List.map_cons, List.map_nil, List.flatten_append, List.flatten_cons, List.flatten_nil, List.append_nil]
          exact ho51.out
        case measure => simp [intOf]; omega
    · obtain rfl : i = l.length := by omega
      go_wp2
      go_ret
      go_light
      have := ho.out
      rw [List.take_length] at this
      exact ⟨_, rfl, this, hb.out⟩
end Go.Proofs.YtdokiaicheillaaGreat

namespace Go.Proofs.YtdokiaicheillaaGreat
open Go.RowKit

theorem getK_none_iff {K V : Type} [DecidableEq K] {l : List (K × V)} {a : K} : getK l a = none ↔ ∀ x, x ∈ l → a ≠ x.1 := by
  simp [getK]
theorem getK_append {K V : Type} [DecidableEq K] (l : List (K × V)) (a : K) (x : K × V) : getK (l ++ [x]) a = (getK l a).or (if a = x.1 then some x.2 else none) := by
  unfold getK
  rw [List.find?_append]
  cases l.find? (fun x => decide (a = x.1)) with
  | some y => rfl
  | none =>
    by_cases h : a = x.1 <;> simp [h]
theorem getK_of_mem {K V : Type} [DecidableEq K] : ∀ {l : List (K × V)}, (l.map (·.1)).Nodup → ∀ {a : K} {v : V}, (a, v) ∈ l → getK l a = some v
  | [], _, _, _, h => by cases h
  | x :: r, hn, a, v, h => by
    simp only [List.map_cons, List.nodup_cons] at hn
    rcases List.mem_cons.1 h with rfl | h
    · simp [getK]
    · have hne : a ≠ x.1 := fun e => hn.1 (by rw [← e]; exact List.mem_map.2 ⟨_, h, rfl⟩)
      have := getK_of_mem hn.2 h
      simpa [getK, hne] using this
theorem delK_new {K V : Type} [DecidableEq K] {l : List (K × V)} {a : K} (h : getK l a = none) (v : V) : delK (l ++ [(a, v)]) a = l := by
  have h2 := getK_none_iff.1 h
  simp only [delK, List.filter_append, List.filter_cons, List.filter_nil]
  rw [List.filter_eq_self.2 (fun x hx => by simpa using h2 x hx)]
  simp

theorem pairwise_mem {α : Type} {R : α → α → Prop} (hs : ∀ a b, R a b → R b a) : ∀ {l : List α}, l.Pairwise R → ∀ {a b : α}, a ∈ l → b ∈ l → a ≠ b → R a b
  | [], _, _, _, h, _, _ => by cases h
  | x :: r, hp, a, b, ha, hb, hne => by
    obtain ⟨h1, h2⟩ := List.pairwise_cons.1 hp
    rcases List.mem_cons.1 ha with e | ha'
    · rcases List.mem_cons.1 hb with e' | hb'
      · exact absurd (e.trans e'.symm) hne
      · exact e ▸ h1 b hb'
    · rcases List.mem_cons.1 hb with e' | hb'
      · exact hs _ _ (e' ▸ h1 a ha')
      · exact pairwise_mem hs h2 ha' hb' hne

namespace S
theorem apart_mem {l : List (Int × Int)} (h : apart l) {x y : Int × Int} (hx : x ∈ l) (hy : y ∈ l) (hne : x ≠ y) : x.1 + x.2 ≤ y.1 ∨ y.1 + y.2 ≤ x.1 :=
  pairwise_mem (fun _ _ h => h.symm) h hx hy hne
theorem each_mem {l : List (Int × Int)} (hk : (l.map (·.1)).Nodup) {x : Int × Int} (hx : x ∈ l) : x ∈ each l := by
  refine List.mem_map.2 ⟨x.1, (List.mergeSort_perm _ _).mem_iff.2 (List.mem_map.2 ⟨x, hx, rfl⟩), ?_⟩
  rw [getK_of_mem hk (show (x.1, x.2) ∈ l from hx)]
  rfl
theorem each_chain {u : Int} {l : List (Int × Int)} (hk : (l.map (·.1)).Nodup) (hw : within u l) (ha : apart l) : (each l).Pairwise fun x y => x.1 + x.2 ≤ y.1 := by
  have h1 : ((l.map (·.1)).mergeSort leI).Pairwise (fun a b => leI a b = true) := List.pairwise_mergeSort (fun a b c h1 h2 => by simp only [leI, decide_eq_true_eq] at *; omega) (fun a b => by simp only [leI, Bool.or_eq_true, decide_eq_true_eq]; omega) _
  have h2 : ((l.map (·.1)).mergeSort leI).Nodup := (List.mergeSort_perm _ _).nodup_iff.2 hk
  refine List.pairwise_map.2 ((h1.and h2).imp_of_mem (fun {a b} hma hmb h => ?_))
  obtain ⟨v, hv, hmv⟩ := getK_mem ((List.mergeSort_perm _ _).mem_iff.1 hma)
  obtain ⟨v', hv', hmv'⟩ := getK_mem ((List.mergeSort_perm _ _).mem_iff.1 hmb)
  rw [hv, hv']
  have h3 := h.1
  simp only [leI, decide_eq_true_eq] at h3
  have hb := (hw _ hmv').2.1
  rcases apart_mem ha hmv hmv' (fun e => h.2 (by simpa using congrArg Prod.fst e)) with h4 | h4
  · exact h4
  · simp only [Option.getD_some] at *
    omega
theorem gaps_apart : ∀ {m : List (Int × Int)} {e : Int}, (∀ x, x ∈ m → 1 ≤ x.2) → m.Pairwise (fun x y => x.1 + x.2 ≤ y.1) → (∀ x, x ∈ m → e ≤ x.1) → ∀ h, h ∈ gaps e m → e ≤ h.1 ∧ 1 ≤ h.2 ∧ (∀ x, x ∈ m → x.1 + x.2 ≤ h.1 ∨ h.1 + h.2 ≤ x.1)
  | [], _, _, _, _, h, hh => by cases hh
  | y :: r, e, h1, hp, he, h, hh => by
    obtain ⟨hp1, hp2⟩ := List.pairwise_cons.1 hp
    simp only [gaps, List.mem_append] at hh
    have hy := h1 y (by simp)
    rcases hh with hh | hh
    · split at hh
      · rename_i hlt
        simp only [List.mem_singleton] at hh
        subst hh
        refine ⟨Int.le_refl _, by simp only; omega, fun x hx => .inr ?_⟩
        simp only
        rcases List.mem_cons.1 hx with rfl | hx
        · omega
        · have := hp1 x hx
          omega
      · cases hh
    · obtain ⟨g1, g2, g3⟩ := gaps_apart (fun x hx => h1 x (by simp [hx])) hp2 hp1 h hh
      have := he y (by simp)
      refine ⟨by omega, g2, fun x hx => ?_⟩
      rcases List.mem_cons.1 hx with rfl | hx
      · exact .inl g1
      · exact g3 x hx
theorem endOf_max : ∀ {m : List (Int × Int)} {e : Int}, (∀ x, x ∈ m → 1 ≤ x.2) → m.Pairwise (fun x y => x.1 + x.2 ≤ y.1) → ∀ x, x ∈ m → x.1 + x.2 ≤ endOf e m
  | [], _, _, _, x, hx => by cases hx
  | y :: r, e, h1, hp, x, hx => by
    obtain ⟨hp1, hp2⟩ := List.pairwise_cons.1 hp
    have hend : ∀ {m : List (Int × Int)} {e : Int}, (∀ x, x ∈ m → 1 ≤ x.2 ∧ e ≤ x.1) → m.Pairwise (fun x y => x.1 + x.2 ≤ y.1) → e ≤ endOf e m := by
      intro m
      induction m with
      | nil => intro e _ _; exact Int.le_refl _
      | cons z m ih =>
        intro e h1 hp
        obtain ⟨q1, q2⟩ := List.pairwise_cons.1 hp
        have := ih (e := z.1 + z.2) (fun x hx => ⟨(h1 x (by simp [hx])).1, q1 x hx⟩) q2
        have := h1 z (by simp)
        simp only [endOf]
        omega
    rcases List.mem_cons.1 hx with rfl | hx
    · exact hend (fun y hy => ⟨h1 y (by simp [hy]), hp1 y hy⟩) hp2
    · exact endOf_max (fun x hx => h1 x (by simp [hx])) hp2 x hx
theorem holes_apart {u : Int} {l : List (Int × Int)} (hk : (l.map (·.1)).Nodup) (hw : within u l) (ha : apart l) : ∀ h, h ∈ holes u (each l) → 0 ≤ h.1 ∧ 1 ≤ h.2 ∧ h.1 + h.2 ≤ u ∧ ∀ x, x ∈ l → x.1 + x.2 ≤ h.1 ∨ h.1 + h.2 ≤ x.1 := by
  intro h hh
  have hc := each_chain hk hw ha
  have hwe := within_each hw
  have hu := hh
  simp only [holes, List.mem_append] at hh
  rcases hh with hh | hh
  · obtain ⟨g1, g2, g3⟩ := gaps_apart (fun x hx => (hwe x hx).2.1) hc (fun x hx => (hwe x hx).1) h hh
    have := gaps_ok hwe (Int.le_refl 0) h hh
    exact ⟨g1, g2, this.2, fun x hx => g3 x (each_mem hk hx)⟩
  · split at hh
    · rename_i hlt
      simp only [List.mem_singleton] at hh
      subst hh
      have hb : 0 ≤ endOf 0 (each l) := by
        have : ∀ {m : List (Int × Int)} {e : Int}, within u m → 0 ≤ e → 0 ≤ endOf e m := by
          intro m
          induction m with
          | nil => intro e _ h; exact h
          | cons z m ih => intro e hw h; exact ih (fun x hx => hw x (by simp [hx])) (by have := hw z (by simp); omega)
        exact this hwe (Int.le_refl 0)
      exact ⟨hb, by simp only; omega, by simp only; omega, fun x hx => .inl (endOf_max (fun x hx => (hwe x hx).2.1) hc x (each_mem hk hx))⟩
    · cases hh

/-- What is taken. -/
theorem take_some {u : Int} {l : List (Int × Int)} {n : Int} (hk : (l.map (·.1)).Nodup) (hw : within u l) (ha : apart l) (hn : 1 ≤ n) (h : (take u l n).2.2 = 0) :
    ∃ a, take u l n = (l ++ [(a, n)], a, 0) ∧ 0 ≤ a ∧ a + n ≤ u ∧ getK l a = none ∧ ∀ x, x ∈ l → x.1 + x.2 ≤ a ∨ a + n ≤ x.1 := by
  unfold take at h ⊢
  rw [if_neg (by omega)] at h ⊢
  cases hf : fit n (holes u (each l)) with
  | none => rw [hf] at h; cases h
  | some a =>
    obtain ⟨x, hx, rfl⟩ := Option.map_eq_some_iff.1 hf
    have h1 := List.find?_some hx
    simp only [decide_eq_true_eq] at h1
    obtain ⟨g1, g2, g3, g4⟩ := holes_apart hk hw ha x (List.mem_of_find?_eq_some hx)
    have hdis : ∀ y, y ∈ l → y.1 + y.2 ≤ x.1 ∨ x.1 + n ≤ y.1 := fun y hy => by have := g4 y hy; omega
    have hnone : getK l x.1 = none := getK_none_iff.2 fun y hy e => by have := hdis y hy; have := (hw y hy).2.1; omega
    exact ⟨x.1, by simp only [setK_new hnone], g1, by omega, hnone, hdis⟩
theorem take_full {u : Int} {l : List (Int × Int)} {n : Int} (hn : 1 ≤ n) (h : (take u l n).2.2 ≠ 0) : take u l n = (l, 0, 100) := by
  unfold take at h ⊢
  rw [if_neg (by omega)] at h ⊢
  cases hf : fit n (holes u (each l)) with
  | none => rfl
  | some a => rw [hf] at h; exact absurd rfl h

theorem free_spec : ∀ {l : List Slot} {j k : Nat}, freeFrom j l = some k → j ≤ k ∧ ∃ x, l[k - j]? = some x ∧ x.used = false ∧ x.gen < 65535
  | [], _, _, h => by cases h
  | x :: r, j, k, h => by
    unfold freeFrom at h
    split at h
    · rename_i hx
      simp only [Option.some.injEq] at h
      subst h
      simp only [Bool.and_eq_true, Bool.not_eq_true', decide_eq_true_eq] at hx
      exact ⟨Nat.le_refl _, x, by simp, hx.1, hx.2⟩
    · obtain ⟨h1, y, h2, h3⟩ := free_spec h
      refine ⟨by omega, y, ?_, h3⟩
      rw [show k - j = (k - (j + 1)) + 1 by omega]
      simpa using h2
theorem slotMake_some {l : List Slot} {v : Int} (h : (slotMake l v).2.2 = 0) : ∃ (k : Nat) (x : Slot), l[k]? = some x ∧ x.used = false ∧ x.gen < 65535 ∧ slotMake l v = (l.set k ⟨x.gen + 1, true, v⟩, ⟨k, x.gen + 1⟩, 0) := by
  unfold slotMake at h ⊢
  cases hf : freeFrom 0 l with
  | none => rw [hf] at h; cases h
  | some k =>
    obtain ⟨-, x, h1, h2, h3⟩ := free_spec hf
    rw [Nat.sub_zero] at h1
    exact ⟨k, x, h1, h2, h3, by simp [h1]⟩
theorem slotMake_full {l : List Slot} {v : Int} (h : (slotMake l v).2.2 ≠ 0) : slotMake l v = (l, noHandle, 110) := by
  unfold slotMake at h ⊢
  cases hf : freeFrom 0 l with
  | none => rfl
  | some k => rw [hf] at h; exact absurd rfl h

/-- The newest table. -/
def Kinds.top (k : Kinds) : Table := k.tabs.getLast?.getD noTable
/-- How many units an object of a type takes. -/
def Kinds.long (k : Kinds) : Nat := (layout k.top.new).2
def create (X : Heap) (name : Text) : Heap × Handle × Int :=
  match getK X.cat name with
  | none => (X, noHandle, 90)
  | some k =>
    if (take X.units X.blks (3 + ((k.long / 8 : Nat) : Int))).2.2 ≠ 0 then (X, noHandle, (take X.units X.blks (3 + ((k.long / 8 : Nat) : Int))).2.2)
    else if (slotMake X.slots (take X.units X.blks (3 + ((k.long / 8 : Nat) : Int))).2.1).2.2 ≠ 0 then (X, noHandle, (slotMake X.slots (take X.units X.blks (3 + ((k.long / 8 : Nat) : Int))).2.1).2.2)
    else ({ X with blks := (take X.units X.blks (3 + ((k.long / 8 : Nat) : Int))).1, slots := (slotMake X.slots (take X.units X.blks (3 + ((k.long / 8 : Nat) : Int))).2.1).1, things := X.things ++ [⟨(take X.units X.blks (3 + ((k.long / 8 : Nat) : Int))).2.1.toNat, name, k.newest.toNat, List.replicate k.long 0⟩] }, (slotMake X.slots (take X.units X.blks (3 + ((k.long / 8 : Nat) : Int))).2.1).2.1, 0)
theorem create_none {X : Heap} {name : Text} (h : getK X.cat name = none) : create X name = (X, noHandle, 90) := by simp [create, h]
theorem create_full {X : Heap} {name : Text} {k : Kinds} (h : getK X.cat name = some k) (h1 : (take X.units X.blks (3 + ((k.long / 8 : Nat) : Int))).2.2 ≠ 0) : create X name = (X, noHandle, 100) := by
  have := take_full (by omega) h1
  unfold create
  simp only [h, this]
  rw [if_pos (by decide)]
theorem create_noslot {X : Heap} {name : Text} {k : Kinds} {a : Int} {l : List (Int × Int)} (h : getK X.cat name = some k) (h1 : take X.units X.blks (3 + ((k.long / 8 : Nat) : Int)) = (l, a, 0)) (h2 : (slotMake X.slots a).2.2 ≠ 0) : create X name = (X, noHandle, 110) := by
  have := slotMake_full h2
  unfold create
  simp only [h, h1, this]
  rw [if_neg (by simp), if_pos (by decide)]
theorem create_yes {X : Heap} {name : Text} {k : Kinds} {a : Int} {l : List (Int × Int)} {sl : List Slot} {hd : Handle} (h : getK X.cat name = some k) (h1 : take X.units X.blks (3 + ((k.long / 8 : Nat) : Int)) = (l, a, 0)) (h2 : slotMake X.slots a = (sl, hd, 0)) :
    create X name = ({ X with blks := l, slots := sl, things := X.things ++ [⟨a.toNat, name, k.newest.toNat, List.replicate k.long 0⟩] }, hd, 0) := by
  unfold create
  simp only [h, h1, h2]
  rw [if_neg (by simp), if_neg (by simp)]
theorem long_8 (k : Kinds) : k.long % 8 = 0 := by
  unfold Kinds.long layout
  split
  · simp [up]
  · rfl
theorem long_small (k : Kinds) : k.long ≤ 2056 := by
  unfold Kinds.long layout
  split
  · rename_i h
    have h1 := ends_le k.top.new 0
    have h2 := right_len h
    have h3 := up_le (ends 0 k.top.new) 8
    simp only
    omega
  · simp
theorem Kinds.top_mem {k : Kinds} (h : k.ok) : k.tabs.getLast? = some k.top ∧ k.top ∈ k.tabs := by
  obtain ⟨-, h2, -⟩ := h
  cases hl : k.tabs.getLast? with
  | none => rw [List.getLast?_eq_none_iff] at hl; rw [hl] at h2; simp at h2
  | some t => exact ⟨by simp [Kinds.top, hl], by simp [Kinds.top, hl]; exact List.mem_of_getLast? hl⟩

theorem Heap.ok.fresh {X : Heap} (h : X.ok) {a : Int} (hn : getK X.blks a = none) : ∀ t, t ∈ X.things → (t.at_ : Int) ≠ a := fun t ht e => by
  have := (h.things t ht).blk
  rw [e, hn] at this
  cases this
/-- A new object: the heap behind it may be, too. -/
theorem Heap.ok.create {X : Heap} (hX : X.ok) (hbk : (X.blks.map (·.1)).Nodup) {name : Text} {k : Kinds} (hk : getK X.cat name = some k) {l : List (Int × Int)} {a : Int} (h1 : S.take X.units X.blks (3 + ((k.long / 8 : Nat) : Int)) = (l, a, 0)) {sl : List Slot} {hd : Handle} (h2 : slotMake X.slots a = (sl, hd, 0)) :
    Heap.ok { X with blks := l, slots := sl, things := X.things ++ [⟨a.toNat, name, k.newest.toNat, List.replicate k.long 0⟩] } := by
  obtain ⟨a', e, ha0, hau, hnone, hdis⟩ := take_some hbk hX.within hX.apart (by omega) (show (S.take X.units X.blks (3 + ((k.long / 8 : Nat) : Int))).2.2 = 0 by rw [h1])
  rw [h1] at e
  simp only [Prod.mk.injEq, and_true] at e
  obtain ⟨rfl, rfl⟩ := e
  obtain ⟨i, x, hx, hxu, hxg, e⟩ := slotMake_some (show (slotMake X.slots a).2.2 = 0 by rw [h2])
  rw [h2] at e
  simp only [Prod.mk.injEq, and_true] at e
  obtain ⟨rfl, rfl⟩ := e
  have hat : ((a.toNat : Nat) : Int) = a := by omega
  have hkin := S.getK_pair hk
  have hkf := hX.kinds _ hkin
  have hnm := hX.names _ hkin
  have hil := (List.getElem?_eq_some_iff.1 hx).1
  have hu := hX.units
  refine ⟨hX.names, hX.kinds, hX.cats, hX.keys, hX.units, ?_, ?_, ?_, ?_, ?_, ?_, ?_, ?_⟩
  · intro y hy
    rcases List.mem_append.1 hy with hy | hy
    · exact hX.within y hy
    · simp only [List.mem_singleton] at hy
      subst hy
      exact ⟨ha0, by simp only; omega, hau⟩
  · refine List.pairwise_append.2 ⟨hX.apart, by simp, fun y hy z hz => ?_⟩
    simp only [List.mem_singleton] at hz
    subst hz
    exact hdis y hy
  · intro t ht
    rcases List.mem_append.1 ht with ht | ht
    · have h := hX.things t ht
      refine ⟨h.name, h.long, h.ver, ?_⟩
      simp only [getK_append, h.blk]
      rfl
    · simp only [List.mem_singleton] at ht
      subst ht
      refine ⟨?_, by simp [long_8], ?_, ?_⟩
      · have hnm := hX.names _ hkin
        simp only [nameOk, Bool.and_eq_true, decide_eq_true_eq] at hnm
        exact hnm.2
      · obtain ⟨q1, q2, q3⟩ := (show k.ok from hkf.ok)
        simp only [Kinds.newest]
        omega
      · simp only [getK_append, hat, hnone, List.length_replicate]
        simp
  · rw [List.map_append, List.nodup_append]
    refine ⟨hX.one, by simp, fun y hy z hz => ?_⟩
    simp only [List.map_cons, List.map_nil, List.mem_singleton] at hz
    obtain ⟨t, ht, rfl⟩ := List.mem_map.1 hy
    have := hX.fresh hnone t ht
    omega
  · intro y hy hyu
    rcases List.mem_or_eq_of_mem_set hy with hy | rfl
    · obtain ⟨t, ht, hv⟩ := hX.used y hy hyu
      exact ⟨t, List.mem_append.2 (.inl ht), hv⟩
    · exact ⟨_, List.mem_append.2 (.inr (List.mem_singleton.2 rfl)), hat.symm⟩
  · intro t ht
    rcases List.mem_append.1 ht with ht | ht
    · obtain ⟨j, y, hj, hyu, hv⟩ := hX.slot t ht
      have hij : i ≠ j := by
        rintro rfl
        rw [hx] at hj
        simp only [Option.some.injEq] at hj
        rw [hj, hyu] at hxu
        cases hxu
      exact ⟨j, y, by rw [List.getElem?_set_ne hij]; exact hj, hyu, hv⟩
    · simp only [List.mem_singleton] at ht
      subst ht
      exact ⟨i, _, by rw [List.getElem?_set_self hil], rfl, hat.symm⟩
  · intro j1 j2 y z hy hz hyu hzu hv
    have hv1 : ∀ (j : Nat) (y : Slot), (X.slots.set i ⟨x.gen + 1, true, a⟩)[j]? = some y → y.used = true → (j = i ∧ y.v = a) ∨ (j ≠ i ∧ X.slots[j]? = some y ∧ y.v ≠ a) := by
      intro j y hy hyu
      by_cases hji : j = i
      · subst hji
        rw [List.getElem?_set_self hil] at hy
        simp only [Option.some.injEq] at hy
        subst hy
        exact .inl ⟨rfl, rfl⟩
      · rw [List.getElem?_set_ne (Ne.symm hji)] at hy
        obtain ⟨t, ht, hv⟩ := hX.used y (List.mem_of_getElem? hy) hyu
        exact .inr ⟨hji, hy, by rw [hv]; exact hX.fresh hnone t ht⟩
    rcases hv1 j1 y hy hyu with ⟨rfl, e1⟩ | ⟨n1, e1, f1⟩
    · rcases hv1 j2 z hz hzu with ⟨rfl, e2⟩ | ⟨n2, e2, f2⟩
      · rfl
      · exact absurd (hv.symm.trans e1) f2
    · rcases hv1 j2 z hz hzu with ⟨rfl, e2⟩ | ⟨n2, e2, f2⟩
      · exact absurd (hv.trans e2) f1
      · exact hX.alone j1 j2 y z e1 e2 hyu hzu hv
  · intro y hy
    rcases List.mem_or_eq_of_mem_set hy with hy | rfl
    · exact hX.vs y hy
    · exact ⟨ha0, by simp only; omega⟩
end S

theorem lay_get {α : Type} {xs cs : List α} {off : Nat} (h : off + cs.length ≤ xs.length) (i : Nat) : (lay xs off cs)[i]? = if i < off then xs[i]? else if i < off + cs.length then cs[i - off]? else xs[i]? := by
  simp only [lay, List.getElem?_append, List.length_append, List.length_take, List.getElem?_take, List.getElem?_drop]
  rw [Nat.min_eq_left (by omega)]
  by_cases h1 : i < off
  · simp [h1]
    omega
  · by_cases h2 : i < off + cs.length
    · simp [h1, h2]
    · simp only [h1, h2, if_false]
      congr 1
      omega
theorem lay_same {α : Type} {xs cs : List α} {off : Nat} (h : off + cs.length ≤ xs.length) : ((lay xs off cs).drop off).take cs.length = cs := by
  apply List.ext_getElem?
  intro i
  rw [List.getElem?_take, List.getElem?_drop, lay_get h]
  by_cases hi : i < cs.length
  · rw [if_pos hi, if_neg (by omega), if_pos (by omega)]
    congr 1
    omega
  · rw [if_neg hi, List.getElem?_eq_none (by omega)]
theorem lay_other {α : Type} {xs cs : List α} {off p m : Nat} (h : off + cs.length ≤ xs.length) (hd : p + m ≤ off ∨ off + cs.length ≤ p) : ((lay xs off cs).drop p).take m = (xs.drop p).take m := by
  apply List.ext_getElem?
  intro i
  rw [List.getElem?_take, List.getElem?_take, List.getElem?_drop, List.getElem?_drop, lay_get h]
  by_cases hi : i < m
  · rw [if_pos hi, if_pos hi]
    rcases hd with hd | hd
    · rw [if_pos (by omega)]
    · rw [if_neg (by omega), if_neg (by omega)]
  · rw [if_neg hi, if_neg hi]
end Go.Proofs.YtdokiaicheillaaGreat
