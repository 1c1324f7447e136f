/-
  The walks of object.with and object.Free.
-/
import Derived.Test.YtdokiaicheillaaGreatSlotFree
import Derived.Test.YtdokiaicheillaaGreatCreateS
import Derived.Test.YtdokiaicheillaaGreatObjFind
import Derived.Deep.QuietTactic
import Derived.BigQuiet
import Derived.Test.YtdokiaicheillaaGreatCreate
import Derived.Deep.RegionHeld3
namespace Go.Proofs.YtdokiaicheillaaGreat
open Go.RowKit

namespace S
theorem getK_del {K V : Type} [DecidableEq K] {l : List (K × V)} {a b : K} (h : b ≠ a) : getK (delK l a) b = getK l b := by
  have e : (fun x : K × V => decide (decide (a ≠ x.1) = true ∧ decide (b = x.1) = true)) = fun x => decide (b = x.1) := by
    funext x
    by_cases hb : b = x.1
    · subst hb
      simp [Ne.symm h]
    · simp [hb]
  unfold getK delK
  rw [List.find?_filter, e]
/-- A heap without the object of a slot. -/
def Heap.drop (X : Heap) (x : Handle) (sl : Slot) : Heap := { X with blks := delK X.blks sl.v, slots := X.slots.set x.slot.toNat ⟨sl.gen, false, 0⟩, things := X.things.filter fun t => decide ((t.at_ : Int) ≠ sl.v) }
def freeObj (X : Heap) (x : Handle) : Heap × Int :=
  match goodAt X.slots x with
  | none => (X, 111)
  | some sl => (X.drop x sl, 0)
theorem goodAt_thing {X : Heap} (hX : X.ok) {x : Handle} {sl : Slot} (hg : goodAt X.slots x = some sl) : ∃ t, t ∈ X.things ∧ sl.v = t.at_ := by
  obtain ⟨k, -, hk, hu, -⟩ := goodAt_some hg
  exact hX.used sl (List.mem_of_getElem? hk) hu
theorem Heap.ok.drop {X : Heap} (hX : X.ok) {x : Handle} {sl : Slot} (hg : goodAt X.slots x = some sl) : (X.drop x sl).ok := by
  obtain ⟨k, e, hk, hu, -⟩ := goodAt_some hg
  have ek : x.slot.toNat = k := by omega
  have hkl := (List.getElem?_eq_some_iff.1 hk).1
  have hat : ∀ (j : Nat) (y : Slot), (X.slots.set k ⟨sl.gen, false, 0⟩)[j]? = some y → y.used = true → j ≠ k ∧ X.slots[j]? = some y ∧ y.v ≠ sl.v := fun j y hy hyu => by
    by_cases hj : j = k
    · subst hj
      rw [List.getElem?_set_self hkl] at hy
      simp only [Option.some.injEq] at hy
      subst hy
      cases hyu
    · rw [List.getElem?_set_ne (Ne.symm hj)] at hy
      exact ⟨hj, hy, fun ev => hj (hX.alone j k y sl hy hk hyu hu ev)⟩
  unfold Heap.drop
  rw [ek]
  refine ⟨hX.names, hX.kinds, hX.cats, hX.keys, hX.units, fun y hy => hX.within y (List.mem_filter.1 hy).1, List.Pairwise.filter _ hX.apart, fun t ht => ?_, ?_, fun y hy hyu => ?_, fun t ht => ?_, ?_, fun y hy => ?_⟩
  · rw [List.mem_filter, decide_eq_true_eq] at ht
    have h := hX.things t ht.1
    exact ⟨h.name, h.long, h.ver, (getK_del ht.2).trans h.blk⟩
  · exact List.Nodup.sublist (List.Sublist.map _ List.filter_sublist) hX.one
  · obtain ⟨j, hj⟩ := List.getElem?_of_mem hy
    obtain ⟨-, h2, h3⟩ := hat j y hj hyu
    obtain ⟨t, ht, hv⟩ := hX.used y (List.mem_of_getElem? h2) hyu
    exact ⟨t, List.mem_filter.2 ⟨ht, by simp only [decide_eq_true_eq]; rw [← hv]; exact h3⟩, hv⟩
  · rw [List.mem_filter, decide_eq_true_eq] at ht
    obtain ⟨i, y, hi, hyu, hv⟩ := hX.slot t ht.1
    have hik : k ≠ i := by
      rintro rfl
      rw [hk] at hi
      simp only [Option.some.injEq] at hi
      subst hi
      exact ht.2 hv.symm
    exact ⟨i, y, by simp only; rw [List.getElem?_set_ne hik]; exact hi, hyu, hv⟩
  · intro i j y z hy hz hyu hzu hv
    exact hX.alone i j y z (hat i y hy hyu).2.1 (hat j z hz hzu).2.1 hyu hzu hv
  · rcases List.mem_or_eq_of_mem_set hy with hy | rfl
    · exact hX.vs y hy
    · exact ⟨Int.le_refl 0, by simp⟩
end S
theorem MemAt.less {w : World} {vm : Value} {u : Nat} {ts ts' : List S.Thing} (h : MemAt w vm u ts) (hs : ∀ t, t ∈ ts' → t ∈ ts) : MemAt w vm u ts' := by
  obtain ⟨mem, h1, h2, h3⟩ := h
  exact ⟨mem, h1, h2, fun t ht => h3 t (hs t ht)⟩
theorem HeapAt.less {w : World} {p : Parts} {X : S.Heap} (h : HeapAt w p X) {ts : List S.Thing} (hs : ∀ t, t ∈ ts → t ∈ X.things) : HeapAt w p { X with things := ts } :=
  ⟨h.head, h.cat, h.blk, h.slt, h.mem.less hs, h.apart⟩
end Go.Proofs.YtdokiaicheillaaGreat

namespace Go.Proofs.YtdokiaicheillaaGreat
open Go.RowKit

theorem info_thing : (Tryz.prog.info? 110).isSome = true := by kernel_rfl
theorem below_drewN {n : Nat} {w w1 : World} (h : Below n w w1) (m : Nat) : Below n w (w1.drewN m) := ⟨h.os, h.tape, h.output, h.size, h.block⟩
abbrev thingObj : Obj := .cells #[.int .i64 0, .string ⟨#[]⟩, .int .i64 0, .slice none 0 0] 110
abbrev noThing : Value := .agg #[.int .i64 0, .string ⟨#[]⟩, .int .i64 0, .slice none 0 0]

set_option maxRecDepth 100000 in
set_option maxHeartbeats 8000000 in
theorem obj_find_no (p : Parts) (X : S.Heap) (x : S.Handle) (w : World) (h : HeapAt w p X) (hg : S.goodAt X.slots x = none) :
    Calls Tryz.prog 99 #[.pointer (some ⟨p.H, 0, none⟩), x.val] w fun e w' => e = .returned (.tuple #[noThing, .int .i64 111]) ∧ Below w.heap.size w w' := by
  have hGet := fun W (hW : Below w.heap.size w W) => Hid.mk (slots_Get_no p.s p.vs X.slots x hg W ((h.below hW).slt))
  have c2 := h.c2
  have hHl : p.H < w.heap.size := World.block_lt_of_cell? w _ c2
  generalize p.H = H at *
  generalize p.s = ps at *
  obtain ⟨xs, xg⟩ := x
  clear h hg
  generalize hW : (w.alloc (.cells #[.int .i64 xs, .int .i64 xg] 51)).alloc thingObj = W
  have hBW : Below w.heap.size w W := hW ▸ (below_one _ _).new_ _
  have z : W.heap.size = w.heap.size + 2 := by rw [← hW]; simp
  have q0 := two_cells w (.int .i64 xs) (.int .i64 xg) 51
  have b0 : W.cell? ⟨w.heap.size, 0, none⟩ = some (.int .i64 xs) := by rw [← hW, cell_alloc_old (by simp)]; exact q0.1
  have b1 : W.cell? ⟨w.heap.size, 1, none⟩ = some (.int .i64 xg) := by rw [← hW, cell_alloc_old (by simp)]; exact q0.2
  have hp : W.heap[w.heap.size + 1]? = some (.cells #[.int .i64 0, .string ⟨#[]⟩, .int .i64 0, .slice none 0 0] 110 (0, 0)) := by
    rw [← hW]
    have := heap_alloc_new (w.alloc (.cells #[.int .i64 xs, .int .i64 xg] 51)) thingObj
    rwa [World.size_alloc] at this
  have d2 := (hBW.cell (p := ⟨H, 2, none⟩) hHl).trans c2
  have hBW1 : Hid (Below w.heap.size w W.drew) := hBW.drew
  clear q0 c2 hBW
  have hp1 := Hid.mk hp; have hGet1 := Hid.mk hGet; clear hp hGet
  go_enter Tryz.func99, Tryz.ntmps99
  go_wp2
  have hW1 := Hid.mk hW
  clear hW
  go_region_held3 (fun V => V.cell? ⟨H, 2, none⟩ = some (.pointer (some ⟨ps, 0, none⟩)) ∧ V.cell? ⟨w.heap.size, 0, none⟩ = some (.int .i64 xs) ∧ V.cell? ⟨w.heap.size, 1, none⟩ = some (.int .i64 xg)) (first | go_keep | (go_split_ands; exact ⟨(hb1.out.cell (p := ⟨H, 2, none⟩) (show H < W.heap.size by omega)).trans d2, (hb1.out.cell (p := ⟨w.heap.size, 0, none⟩) (show w.heap.size < W.heap.size by omega)).trans b0, (hb1.out.cell (p := ⟨w.heap.size, 1, none⟩) (show w.heap.size < W.heap.size by omega)).trans b1⟩)) (first | (go_at_call 128; (with_reducible refine (hGet1.out _ hBW1.out).out.mono ?_); rintro e w1 ⟨rfl, hb⟩; have hb1 := Hid.mk hb; clear hb) | fail)
  all_goals
    have hJ := Hid.mk (show Below w.heap.size w w1 from hBW1.out.trans (hb1.out.mono (by show w.heap.size ≤ W.heap.size; omega)))
    have hp1 := (hb1.out.block (w.heap.size + 1) (show w.heap.size + 1 < W.heap.size by omega)).trans hp1.out
    obtain ⟨s0, f0⟩ := heap_cell hp1 (o := 0) (v := .int .i64 0) rfl
    obtain ⟨s1, f1⟩ := heap_cell hp1 (o := 1) (v := .string ⟨#[]⟩) rfl
    obtain ⟨s2, f2⟩ := heap_cell hp1 (o := 2) (v := .int .i64 0) rfl
    obtain ⟨s3, f3⟩ := heap_cell hp1 (o := 3) (v := .slice none 0 0) rfl
    have hp2 := Hid.mk hp1
    clear hp1 b0 b1 d2 hGet1
    go_wp2
    go_light
    obtain ⟨y0, y1, y2, y3⟩ := quad_cells (a := .int .i64 0) (b := .string ⟨#[]⟩) (c := .int .i64 0) (d := .slice none 0 0) (W := w1) hp2.out
    exact bodyPost_ret (results_ct rfl _ _ _ rfl (load_thing y0 y1 y2 y3)) rfl ⟨rfl, ((((hJ.out.setCell (p := ⟨w.heap.size + 1, 0, none⟩) (Nat.le_succ _) _).setCell (p := ⟨w.heap.size + 1, 1, none⟩) (Nat.le_succ _) _).setCell (p := ⟨w.heap.size + 1, 2, none⟩) (Nat.le_succ _) _).setCell (p := ⟨w.heap.size + 1, 3, none⟩) (Nat.le_succ _) _)⟩

set_option maxRecDepth 100000 in
set_option maxHeartbeats 8000000 in
theorem obj_Of_yes (p : Parts) (X : S.Heap) (x : S.Handle) (sl : S.Slot) (t : S.Thing) (w : World) (h : HeapAt w p X) (hX : X.ok) (hg : S.goodAt X.slots x = some sl) (ht : t ∈ X.things) (hv : sl.v = t.at_) :
    Calls Tryz.prog 60 #[.pointer (some ⟨p.H, 0, none⟩), x.val] w fun e w' => e = .returned (.tuple #[.string (S.mk t.name), .int .i64 t.ver, .int .i64 0]) ∧ Below w.heap.size w w' := by
  obtain ⟨xs, xg⟩ := x
  have hF := fun W (hW : Below w.heap.size w W) => Hid.mk (obj_find_yes p X ⟨xs, xg⟩ sl t W (h.below hW) hX hg ht hv)
  clear h hX hg ht hv
  go_enter Tryz.func60, Tryz.ntmps60
  go_wp2_with (go_at_call 99; (with_reducible refine (hF _ (below_one _ _)).out.mono ?_); rintro e w1 ⟨g, off, c, rfl, -, hb⟩; have hb1 := Hid.mk hb; clear hb)
  go_quiet (fail)
  go_wp2
  go_ret3
  go_light
  exact ⟨rfl, below_drewN ((below_then (below_one _ _) hb1.out).new_ _) _⟩
set_option maxRecDepth 100000 in
set_option maxHeartbeats 8000000 in
theorem obj_Of_no (p : Parts) (X : S.Heap) (x : S.Handle) (w : World) (h : HeapAt w p X) (hg : S.goodAt X.slots x = none) :
    Calls Tryz.prog 60 #[.pointer (some ⟨p.H, 0, none⟩), x.val] w fun e w' => e = .returned (.tuple #[.string ⟨#[]⟩, .int .i64 0, .int .i64 111]) ∧ Below w.heap.size w w' := by
  obtain ⟨xs, xg⟩ := x
  have hF := fun W (hW : Below w.heap.size w W) => Hid.mk (obj_find_no p X ⟨xs, xg⟩ W (h.below hW) hg)
  clear h hg
  go_enter Tryz.func60, Tryz.ntmps60
  go_wp2_with (go_at_call 99; (with_reducible refine (hF _ (below_one _ _)).out.mono ?_); rintro e w1 ⟨rfl, hb⟩; have hb1 := Hid.mk hb; clear hb)
  go_quiet (fail)
  go_wp2
  go_ret3
  go_light
  exact ⟨rfl, below_drewN ((below_then (below_one _ _) hb1.out).new_ _) _⟩

set_option maxRecDepth 100000 in
set_option maxHeartbeats 8000000 in
theorem obj_Raw_yes (p : Parts) (X : S.Heap) (x : S.Handle) (sl : S.Slot) (t : S.Thing) (w : World) (h : HeapAt w p X) (hX : X.ok) (hg : S.goodAt X.slots x = some sl) (ht : t ∈ X.things) (hv : sl.v = t.at_) :
    Calls Tryz.prog 84 #[.pointer (some ⟨p.H, 0, none⟩), x.val] w fun e w' => ∃ v, e = .returned (.tuple #[v, .int .i64 0]) ∧ w'.ownsRow w.heap.size 5 1 v t.b.length (t.b.map encByte) ∧ Below w.heap.size w w' := by
  obtain ⟨xs, xg⟩ := x
  have hF := fun W (hW : Below w.heap.size w W) => Hid.mk (obj_find_yes p X ⟨xs, xg⟩ sl t W (h.below hW) hX hg ht hv)
  clear h hX hg ht hv
  have hC : ∀ (W W0 : World) (g off c : Nat), Bytes W0.cell? (some ⟨g, off, none⟩) t.b → Below w.heap.size w W0 → Below W0.heap.size W0 W → Hid (Calls Tryz.prog 119 #[.slice (some ⟨g, off, none⟩) t.b.length c] W fun e w' => ∃ v, e = .returned v ∧ w'.ownsRow w.heap.size 5 1 v t.b.length (t.b.map encByte) ∧ Below W.heap.size W w') := fun W W0 g off c hB h1 h2 =>
    (clone_bytes (some ⟨g, off, none⟩) c t.b W (Row.below hB h2) (fun e => by cases e)).mono fun e w' ⟨v, e1, e2, e3⟩ => ⟨v, e1, own_weak e2 (by have := h1.size; have := h2.size; omega), e3⟩
  have hC1 := Hid.mk hC; clear hC
  go_enter Tryz.func84, Tryz.ntmps84
  go_wp2_with (first | (go_at_call 99; (with_reducible refine (hF _ (below_one _ _)).out.mono ?_); rintro e w1 ⟨g, off, c, rfl, hB, hb⟩; have hb2 := Hid.mk ((below_then (below_one _ _) hb).new_ (.cells #[.int .i64 t.at_, .string (S.mk t.name), .int .i64 t.ver, .slice (some ⟨g, off, none⟩) t.b.length c] 110)); have hc1 := hC1.out _ _ g off c hB (below_one _ _) (hb.new_ (.cells #[.int .i64 t.at_, .string (S.mk t.name), .int .i64 t.ver, .slice (some ⟨g, off, none⟩) t.b.length c] 110)); clear hb hB) | (go_at_call 119; (with_reducible refine hc1.out.mono ?_); rintro e w2 ⟨v, rfl, ho, hb⟩; have ho1 := Hid.mk ho; have hb3 := Hid.mk hb; clear ho hb))
  go_ret2
  go_light
  exact ⟨_, rfl, ho1.out, below_then hb2.out hb3.out⟩
end Go.Proofs.YtdokiaicheillaaGreat

namespace Go.Proofs.YtdokiaicheillaaGreat
open Go.RowKit

abbrev S.Thing.val (t : S.Thing) (A : Option Addr) (c : Nat) : Value := .agg #[.int .i64 t.at_, .string (S.mk t.name), .int .i64 t.ver, .slice A t.b.length c]
abbrev S.Thing.obj (t : S.Thing) (A : Option Addr) (c : Nat) : Obj := .cells #[.int .i64 t.at_, .string (S.mk t.name), .int .i64 t.ver, .slice A t.b.length c] 110

set_option maxRecDepth 100000 in
set_option maxHeartbeats 8000000 in
theorem obj_Free1 (p : Parts) (X : S.Heap) (x : S.Handle) (sl : S.Slot) (t : S.Thing) (A : Option Addr) (c bh bx : Nat) (w : World) (h : HeapAt w p X) (hX : X.ok) (hg : S.goodAt X.slots x = some sl) (ht : t ∈ X.things) (hv : sl.v = t.at_)
    (hbh : w.cell? ⟨bh, 0, none⟩ = some (.pointer (some ⟨p.H, 0, none⟩))) (hbx : w.cell? ⟨bx, 0, none⟩ = some (.int .i64 x.slot)) (hby : w.cell? ⟨bx, 1, none⟩ = some (.int .i64 x.gen)) (hn1 : bh ∉ p.F) (hn2 : bx ∉ p.F) :
    Calls Tryz.prog 56 #[t.val A c, .pointer (some ⟨bh, 0, none⟩), .pointer (some ⟨bx, 0, none⟩)] w fun e w' => e = .returned (.int .i64 0) ∧ HeapAt w' p (X.drop x sl) ∧ Only p.F w w' := by
  have htk := hX.things t ht
  have hsep := Parts.sep h.apart
  have hBF : ∀ W, Below w.heap.size w W → Hid (Calls Tryz.prog 52 #[.pointer (some ⟨p.b, 0, none⟩), .int .i64 t.at_] W fun e w' => e = .returned (.int .i64 0) ∧ HeapAt w' p { X with blks := delK X.blks (t.at_ : Int) } ∧ Only [p.bb] W w') := fun W hb => by
    have hW := h.below hb
    have := blocks_Free p.b p.bb X.units t.at_ X.blks W hW.blk
    rw [show S.free X.blks (t.at_ : Int) = (delK X.blks t.at_, 0) by simp [S.free, htk.blk]] at this
    exact this.mono fun e w' ⟨e1, e2, e3⟩ => ⟨e1, hW.setBlk e3 e2, e3⟩
  have hSF : ∀ W, HeapAt W p { X with blks := delK X.blks (t.at_ : Int) } → Hid (Calls Tryz.prog 57 #[.pointer (some ⟨p.s, 0, none⟩), .agg #[.int .i64 x.slot, .int .i64 x.gen]] W fun e w' => e = .returned (.int .i64 0) ∧ HeapAt w' p (X.drop x sl) ∧ Only (rowF p.vs) W w') := fun W hW => by
    have := slots_Free_yes p.s p.vs X.slots x sl hg W hW.slt (fun g hg e => hsep.s.1 (e ▸ hg))
    refine this.mono fun e w' ⟨e1, e2, e3⟩ => ⟨e1, ?_, e3⟩
    have := (hW.setSlt e3 e2).less (ts := X.things.filter fun t => decide ((t.at_ : Int) ≠ sl.v)) (fun t ht => (List.mem_filter.1 ht).1)
    unfold S.Heap.drop
    rw [hv] at this ⊢
    exact this
  have hFlt := h.lt
  have hbb := F_bb p
  have hHF : p.H ∈ p.F := mem_F.2 (.inl rfl)
  have hHl := hFlt p.H hHF
  have hbhl : bh < w.heap.size := World.block_lt_of_cell? w _ hbh
  have hbxl : bx < w.heap.size := World.block_lt_of_cell? w _ hbx
  have c1 := h.c1
  have cHs : ∀ (W : World) Y, HeapAt W p Y → Hid (W.cell? ⟨p.H, 2, none⟩ = some (.pointer (some ⟨p.s, 0, none⟩))) := fun W Y hY => hY.c2
  have hsub : ∀ k, k ∈ rowF p.vs → k ∈ p.F := fun k hk => F_vs p hk
  have hnb : bh ≠ p.bb ∧ bx ≠ p.bb := ⟨fun e => hn1 (e ▸ hbb), fun e => hn2 (e ▸ hbb)⟩
  have hHb := hsep.Hb.2.1
  have hnv : Hid (bh ∉ rowF p.vs ∧ bx ∉ rowF p.vs ∧ p.H ∉ rowF p.vs) := ⟨fun e => hn1 (hsub _ e), fun e => hn2 (hsub _ e), hsep.Hb.2.2.2.1⟩
  obtain ⟨xs, xg⟩ := x
  obtain ⟨ta, tn, tv, tb⟩ := t
  simp only at hBF hSF hbx hby
  generalize hpH : p.H = H at *
  generalize hpb : p.b = pb at *
  generalize hps : p.s = ps at *
  generalize hbbe : p.bb = bb at *
  have hO0 := Hid.mk (Only.below (below_one w (.cells #[.int .i64 ta, .string (S.mk tn), .int .i64 tv, .slice A tb.length c] 110)) p.F)
  have q0 : (w.alloc (.cells #[.int .i64 ta, .string (S.mk tn), .int .i64 tv, .slice A tb.length c] 110)).cell? ⟨w.heap.size, 0, none⟩ = some (.int .i64 ta) := (heap_cell (heap_alloc_new w _) (o := 0) rfl).1
  have hbl := hFlt bb hbb
  generalize hW0 : w.alloc (.cells #[.int .i64 ta, .string (S.mk tn), .int .i64 tv, .slice A tb.length c] 110) = W0 at *
  have hb0 : Below w.heap.size w W0 := hW0 ▸ below_one w _
  have z0 : W0.heap.size = w.heap.size + 1 := by rw [← hW0]; simp
  have d1 := (hb0.cell (p := ⟨H, 1, none⟩) hHl).trans c1
  have d2 := (hb0.cell (p := ⟨bh, 0, none⟩) hbhl).trans hbh
  have d3 := (hb0.cell (p := ⟨bx, 0, none⟩) hbxl).trans hbx
  have d4 := (hb0.cell (p := ⟨bx, 1, none⟩) hbxl).trans hby
  have hBd : Hid (Below w.heap.size w W0.drew) := hb0.drew
  have hbbF := Hid.mk hbb
  have hBF1 := Hid.mk hBF; have hSF1 := Hid.mk hSF; have cHs1 := Hid.mk cHs; have hsub1 := Hid.mk hsub; have hFlt1 := Hid.mk hFlt; clear hBF hSF cHs hsub hFlt
  clear h hX hg ht hv htk hsep c1 hbh hbx hby hb0 hpH hpb hps hbbe hn1 hn2 hHF hbb
  go_enter Tryz.func56, Tryz.ntmps56
  go_wp2
  have hW1 := Hid.mk hW0
  clear hW0
  go_region_held3 (fun V => V.cell? ⟨bh, 0, none⟩ = some (.pointer (some ⟨H, 0, none⟩)) ∧ V.cell? ⟨H, 1, none⟩ = some (.pointer (some ⟨pb, 0, none⟩)) ∧ V.cell? ⟨w.heap.size, 0, none⟩ = some (.int .i64 ta)) (first | go_keep | (go_split_ands; exact ⟨e1, e2, e3⟩))
    (first | (go_at_call 52; (with_reducible refine (hBF1.out _ hBd.out).out.mono ?_); rintro e w1 ⟨rfl, hh, hO⟩; have e1 := (cell_block (o := 0) (hO.block bh (show bh < W0.heap.size by omega) (by simpa using hnb.1))).trans d2; have e2 := (cell_block (o := 1) (hO.block H (show H < W0.heap.size by omega) (by simpa using hHb))).trans d1; have e3 := (cell_block (o := 0) (hO.block w.heap.size (show w.heap.size < W0.heap.size by omega) (by simp; omega))).trans q0; have e4 := (cell_block (o := 0) (hO.block bx (show bx < W0.heap.size by omega) (by simpa using hnb.2))).trans d3; have e5 := (cell_block (o := 1) (hO.block bx (show bx < W0.heap.size by omega) (by simpa using hnb.2))).trans d4; have e6 := (cHs1.out w1 _ hh).out; have hh1 := Hid.mk hh; have hO1 := Hid.mk hO; clear hh hO) | fail)
  clear d1 d2 d3 d4 q0
  have hhd : Hid (HeapAt w1.drew p { X with blks := delK X.blks (ta : Int) }) := hh1.out.draw 1
  have z1 : W0.heap.size ≤ w1.heap.size := hO1.out.size
  go_wp2
  go_region_held3 (fun V => V.cell? ⟨bh, 0, none⟩ = some (.pointer (some ⟨H, 0, none⟩)) ∧ V.cell? ⟨H, 2, none⟩ = some (.pointer (some ⟨ps, 0, none⟩)) ∧ V.cell? ⟨bx, 0, none⟩ = some (.int .i64 xs) ∧ V.cell? ⟨bx, 1, none⟩ = some (.int .i64 xg)) (first | go_keep | (go_split_ands; exact ⟨g1, g2, g3, g4⟩))
    (first | (go_at_call 57; (with_reducible refine (hSF1.out _ hhd.out).out.mono ?_); rintro e w2 ⟨rfl, hh, hO⟩; have g1 := (cell_block (o := 0) (hO.block bh (show bh < w1.heap.size by omega) hnv.out.1)).trans e1; have g2 := (cell_block (o := 2) (hO.block H (show H < w1.heap.size by omega) hnv.out.2.2)).trans e6; have g3 := (cell_block (o := 0) (hO.block bx (show bx < w1.heap.size by omega) hnv.out.2.1)).trans e4; have g4 := (cell_block (o := 1) (hO.block bx (show bx < w1.heap.size by omega) hnv.out.2.1)).trans e5; have hh2 := Hid.mk hh; have hO2 := Hid.mk hO; clear hh hO) | fail)
  go_wp2
  go_ret
  go_light
  exact ⟨rfl, hh2.out, (((hO0.out.draw 1).trans hO1.out (fun b hb => .inl (by simp only [List.mem_singleton] at hb; rw [hb]; exact hbbF.out))).draw 1).trans hO2.out (fun b hb => .inl (hsub1.out b hb))⟩

set_option maxRecDepth 100000 in
set_option maxHeartbeats 8000000 in
theorem obj_with_free (p : Parts) (X : S.Heap) (x : S.Handle) (sl : S.Slot) (t : S.Thing) (bh bx : Nat) (w : World) (h : HeapAt w p X) (hX : X.ok) (hg : S.goodAt X.slots x = some sl) (ht : t ∈ X.things) (hv : sl.v = t.at_)
    (hbh : w.cell? ⟨bh, 0, none⟩ = some (.pointer (some ⟨p.H, 0, none⟩))) (hbx : w.cell? ⟨bx, 0, none⟩ = some (.int .i64 x.slot)) (hby : w.cell? ⟨bx, 1, none⟩ = some (.int .i64 x.gen)) (hn1 : bh ∉ p.F) (hn2 : bx ∉ p.F) :
    Calls Tryz.prog 55 #[.pointer (some ⟨p.H, 0, none⟩), x.val, .func (.func 56) #[] #[.pointer (some ⟨bh, 0, none⟩), .pointer (some ⟨bx, 0, none⟩)]] w fun e w' => e = .returned (.int .i64 0) ∧ HeapAt w' p (X.drop x sl) ∧ Only p.F w w' := by
  have hbhl : bh < w.heap.size := World.block_lt_of_cell? w _ hbh
  have hbxl : bx < w.heap.size := World.block_lt_of_cell? w _ hbx
  have hF := fun W (hW : Below w.heap.size w W) => Hid.mk (obj_find_yes p X x sl t W (h.below hW) hX hg ht hv)
  have hC := fun W A c (hW : Below w.heap.size w W) => Hid.mk (obj_Free1 p X x sl t A c bh bx W (h.below hW) hX hg ht hv ((hW.cell (p := ⟨bh, 0, none⟩) hbhl).trans hbh) ((hW.cell (p := ⟨bx, 0, none⟩) hbxl).trans hbx) ((hW.cell (p := ⟨bx, 1, none⟩) hbxl).trans hby) hn1 hn2)
  generalize hY : X.drop x sl = Y at *
  obtain ⟨xs, xg⟩ := x
  obtain ⟨ta, tn, tv, tb⟩ := t
  clear h hX hg ht hv hbh hbx hby hn1 hn2 hY
  have hC1 := Hid.mk hC; clear hC
  go_enter Tryz.func55, Tryz.ntmps55
  go_wp2_with (first | (go_at_call 99; (with_reducible refine (hF _ (below_one _ _)).out.mono ?_); rintro e w1 ⟨g, off, c, rfl, -, hb⟩; have hb1 := Hid.mk ((below_then (below_one w (.cells #[.int .i64 xs, .int .i64 xg] 51)) hb).new_ (.cells #[.int .i64 ta, .string (S.mk tn), .int .i64 tv, .slice (some ⟨g, off, none⟩) tb.length c] 110)); clear hb) | (go_at_call 56; (with_reducible refine (hC1.out _ _ _ hb1.out).out.mono ?_); rintro e w2 ⟨rfl, hh, hO⟩; have hh1 := Hid.mk hh; have hO1 := Hid.mk hO; clear hh hO))
  go_ret
  go_light
  exact ⟨rfl, hh1.out, (Only.below hb1.out _).trans hO1.out (fun b hb => .inl hb)⟩

set_option maxRecDepth 100000 in
set_option maxHeartbeats 8000000 in
theorem obj_with_no (p : Parts) (X : S.Heap) (x : S.Handle) (fv : Value) (w : World) (h : HeapAt w p X) (hg : S.goodAt X.slots x = none) :
    Calls Tryz.prog 55 #[.pointer (some ⟨p.H, 0, none⟩), x.val, fv] w fun e w' => e = .returned (.int .i64 111) ∧ Below w.heap.size w w' := by
  have hF := fun W (hW : Below w.heap.size w W) => Hid.mk (obj_find_no p X x W (h.below hW) hg)
  obtain ⟨xs, xg⟩ := x
  clear h hg
  go_enter Tryz.func55, Tryz.ntmps55
  go_wp2_with (go_at_call 99; (with_reducible refine (hF _ (below_one _ _)).out.mono ?_); rintro e w1 ⟨rfl, hb⟩; have hb1 := Hid.mk ((below_then (below_one w (.cells #[.int .i64 xs, .int .i64 xg] 51)) hb).new_ thingObj); clear hb)
  go_ret
  go_light
  exact ⟨rfl, hb1.out⟩

set_option maxRecDepth 100000 in
set_option maxHeartbeats 8000000 in
theorem obj_Free_yes (p : Parts) (X : S.Heap) (x : S.Handle) (sl : S.Slot) (w : World) (h : HeapAt w p X) (hX : X.ok) (hg : S.goodAt X.slots x = some sl) :
    Calls Tryz.prog 18 #[.pointer (some ⟨p.H, 0, none⟩), x.val] w fun e w' => e = .returned (.int .i64 0) ∧ HeapAt w' p (X.drop x sl) ∧ Only p.F w w' := by
  obtain ⟨t, ht, hv⟩ := S.goodAt_thing hX hg
  have hlt := h.lt
  have hB : Below w.heap.size w ((w.alloc (.cells #[.pointer (some ⟨p.H, 0, none⟩)] 36)).alloc (.cells #[.int .i64 x.slot, .int .i64 x.gen] 51)) := (below_one _ _).new_ _
  have q0 : ((w.alloc (.cells #[.pointer (some ⟨p.H, 0, none⟩)] 36)).alloc (.cells #[.int .i64 x.slot, .int .i64 x.gen] 51)).cell? ⟨w.heap.size, 0, none⟩ = some (.pointer (some ⟨p.H, 0, none⟩)) := (cell_alloc_old (by simp)).trans (heap_cell (heap_alloc_new w _) (o := 0) rfl).1
  have q1 := two_cells (w.alloc (.cells #[.pointer (some ⟨p.H, 0, none⟩)] 36)) (.int .i64 x.slot) (.int .i64 x.gen) 51
  rw [World.size_alloc] at q1
  have hW := Hid.mk (obj_with_free p X x sl t w.heap.size (w.heap.size + 1) _ (h.below hB) hX hg ht hv q0 q1.1 q1.2 (fun hk => by have := hlt _ hk; omega) (fun hk => by have := hlt _ hk; omega))
  have hB1 := Hid.mk hB
  generalize hY : X.drop x sl = Y at *
  obtain ⟨xs, xg⟩ := x
  clear h hX hg ht hv q0 q1 hlt hB hY
  go_enter Tryz.func18, Tryz.ntmps18
  go_wp2_with (go_at_call 55; (with_reducible refine hW.out.mono ?_); rintro e w1 ⟨rfl, hh, hO⟩; have hh1 := Hid.mk hh; have hO1 := Hid.mk hO; clear hh hO)
  go_ret
  go_light
  exact ⟨rfl, hh1.out, (Only.below hB1.out _).trans hO1.out (fun b hb => .inl hb)⟩

set_option maxRecDepth 100000 in
set_option maxHeartbeats 8000000 in
theorem obj_Free_no (p : Parts) (X : S.Heap) (x : S.Handle) (w : World) (h : HeapAt w p X) (hg : S.goodAt X.slots x = none) :
    Calls Tryz.prog 18 #[.pointer (some ⟨p.H, 0, none⟩), x.val] w fun e w' => e = .returned (.int .i64 111) ∧ Below w.heap.size w w' := by
  have hB : Below w.heap.size w ((w.alloc (.cells #[.pointer (some ⟨p.H, 0, none⟩)] 36)).alloc (.cells #[.int .i64 x.slot, .int .i64 x.gen] 51)) := (below_one _ _).new_ _
  have hW := fun fv => Hid.mk (obj_with_no p X x fv _ (h.below hB) hg)
  have hB1 := Hid.mk hB
  obtain ⟨xs, xg⟩ := x
  clear h hg hB
  go_enter Tryz.func18, Tryz.ntmps18
  go_wp2_with (go_at_call 55; (with_reducible refine (hW _).out.mono ?_); rintro e w1 ⟨rfl, hb⟩; have hb2 := Hid.mk hb; clear hb)
  go_ret
  go_light
  exact ⟨rfl, below_then hB1.out hb2.out⟩
end Go.Proofs.YtdokiaicheillaaGreat
