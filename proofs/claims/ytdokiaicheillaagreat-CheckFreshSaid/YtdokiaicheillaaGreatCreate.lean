/-
  Parts of a heap that are turned one by one; the walk of object.Create.
-/
import Derived.Test.YtdokiaicheillaaGreatObj
import Derived.Test.YtdokiaicheillaaGreatCreateS
import Derived.Deep.DeepMust
namespace Go.Proofs.YtdokiaicheillaaGreat
open Go.RowKit

set_option maxRecDepth 100000 in
set_option maxHeartbeats 2000000 in
theorem schema_from_none (c mb : Nat) (ps : List Spot) (C : List (S.Text × S.Kinds)) (a : S.Text) (v : Int) (w : World) (h : CatAt w c mb ps C) (hn : getK C a = none) :
    Calls Tryz.prog 113 #[.pointer (some ⟨c, 0, none⟩), .string (S.mk a), .int .i64 v] w fun e w' => e = .returned (.tuple #[.slice none 0 0, .int .i64 90]) ∧ ∃ m, w' = w.drewN m := by
  have c0 : w.cell? ⟨c, 0, none⟩ = some (.map (some mb)) := by simp [World.cell?, h.head]
  have hl := run_look_none (P := Tryz.prog) (key_text Tryz.underlying9) Tryz.underlying91 h.map a ((getK_spot a h.names h.sorts).2 hn) (Tryz.zeroValue90 w) false
  clear h hn
  go_enter Tryz.func113, Tryz.ntmps113
  go_wp2
  go_ret2
  go_light
  exact ⟨rfl, 0, rfl⟩

set_option maxRecDepth 100000 in
set_option maxHeartbeats 2000000 in
theorem schema_from_out (c mb : Nat) (ps : List Spot) (C : List (S.Text × S.Kinds)) (a : S.Text) (k : S.Kinds) (v : Int) (w : World) (h : CatAt w c mb ps C) (hn : getK C a = some k) (hk : k.ok) (hv : v < k.oldest ∨ k.newest < v) :
    Calls Tryz.prog 113 #[.pointer (some ⟨c, 0, none⟩), .string (S.mk a), .int .i64 v] w fun e w' => e = .returned (.tuple #[.slice none 0 0, .int .i64 90]) ∧ ∃ m, w' = w.drewN m := by
  have c0 : w.cell? ⟨c, 0, none⟩ = some (.map (some mb)) := by simp [World.cell?, h.head]
  obtain ⟨p, -, -, hp, hs⟩ := (getK_spot a h.names h.sorts).1 k hn
  have hl := run_look (P := Tryz.prog) (key_text Tryz.underlying9) Tryz.underlying91 h.map a hp false
  obtain ⟨nm, sb, vv⟩ := p
  dsimp only [encB] at hs hl
  have d0 := hs.c0
  have hs1 := Hid.mk hs
  have hk1 := Hid.mk hk
  by_cases hlo : v < k.oldest
  · have t1 : decide (v < k.oldest) = true := by simp [hlo]
    clear h hs hp hn hk hv
    go_enter Tryz.func113, Tryz.ntmps113
    go_wp2
    go_ret2
    go_light
    exact ⟨rfl, 0, rfl⟩
  · have t1 : decide (v < k.oldest) = false := by simp; omega
    have t2 : decide (k.newest < v) = true := by simp; omega
    clear h hs hp hn hk hv
    go_enter Tryz.func113, Tryz.ntmps113
    go_wp2_with (go_at_call 117; refine (sort_newest sb _ k _ hs1.out hk1.out).mono ?_; rintro e w1 ⟨rfl, m, rfl⟩)
    go_ret2
    go_light
    exact ⟨rfl, _, rfl⟩

set_option maxRecDepth 100000 in
set_option maxHeartbeats 2000000 in
theorem schema_Fields_none (c mb : Nat) (ps : List Spot) (C : List (S.Text × S.Kinds)) (a : S.Text) (v : Int) (w : World) (h : CatAt w c mb ps C) (hk : ∀ x, x ∈ C → x.2.ok) (hn : ∀ k, getK C a = some k → v < k.oldest ∨ k.newest < v) :
    Calls Tryz.prog 75 #[.pointer (some ⟨c, 0, none⟩), .string (S.mk a), .int .i64 v] w fun e w' => e = .returned (.tuple #[.slice none 0 0, .int .i64 90]) ∧ ∃ m, w' = w.drewN m := by
  have hf : Hid (Calls Tryz.prog 113 #[.pointer (some ⟨c, 0, none⟩), .string (S.mk a), .int .i64 v] w fun e w' => e = .returned (.tuple #[.slice none 0 0, .int .i64 90]) ∧ ∃ m, w' = w.drewN m) := by
    cases hg : getK C a with
    | none => exact schema_from_none c mb ps C a v w h hg
    | some k =>
      have hkin : (a, k) ∈ C := by
        obtain ⟨x, hx, rfl⟩ := Option.map_eq_some_iff.1 hg
        have h1 := List.find?_some hx
        simp only [decide_eq_true_eq] at h1
        rw [h1]
        exact List.mem_of_find?_eq_some hx
      exact schema_from_out c mb ps C a k v w h hg (hk _ hkin) (hn k hg)
  clear h hk hn
  go_enter Tryz.func75, Tryz.ntmps75
  go_wp2_with (go_at_call 113; refine hf.out.mono ?_; rintro e w1 ⟨rfl, m, rfl⟩)
  go_ret2
  go_light
  exact ⟨rfl, _, rfl⟩

set_option maxRecDepth 100000 in
set_option maxHeartbeats 2000000 in
theorem obj_newest_none (H c mb : Nat) (ps : List Spot) (C : List (S.Text × S.Kinds)) (a : S.Text) (w : World) (hH : w.cell? ⟨H, 0, none⟩ = some (.pointer (some ⟨c, 0, none⟩))) (h : CatAt w c mb ps C) (hk : ∀ x, x ∈ C → x.2.ok) (hn : getK C a = none) :
    Calls Tryz.prog 48 #[.pointer (some ⟨H, 0, none⟩), .string (S.mk a)] w fun e w' => e = .returned (.tuple #[.int .i64 0, .slice none 0 0, .int .i64 90]) ∧ Below w.heap.size w w' := by
  have hv := Hid.mk (schema_Versions_none c mb ps C a w h hn)
  have hHl : H < w.heap.size := World.block_lt_of_cell? w _ hH
  have hf : ∀ w1, Below w.heap.size w w1 → Hid (Calls Tryz.prog 75 #[.pointer (some ⟨c, 0, none⟩), .string (S.mk a), .int .i64 0] w1 fun e w' => e = .returned (.tuple #[.slice none 0 0, .int .i64 90]) ∧ ∃ m, w' = w1.drewN m) := fun w1 hb => schema_Fields_none c mb ps C a 0 w1 (h.below hb) hk (fun k hk => by rw [hn] at hk; cases hk)
  clear h hk hn
  go_enter Tryz.func48, Tryz.ntmps48
  go_wp2_with (first | (go_at_call 81; refine hv.out.mono ?_; rintro e w1 ⟨rfl, hb⟩; have hb1 := Hid.mk hb; have cH := (hb.cell (p := ⟨H, 0, none⟩) hHl).trans hH; clear hb) | (go_at_call 75; refine (hf _ hb1.out).out.mono ?_; rintro e w2 ⟨rfl, m, rfl⟩))
  go_ret3
  go_light
  exact ⟨rfl, ⟨hb1.out.os, hb1.out.tape, hb1.out.output, hb1.out.size, hb1.out.block⟩⟩
end Go.Proofs.YtdokiaicheillaaGreat

namespace Go.Proofs.YtdokiaicheillaaGreat
open Go.RowKit

structure Parts.Sep (p : Parts) : Prop where
  Hc : p.H ∉ catF p.c p.mb p.ps
  Hb : p.H ≠ p.b ∧ p.H ≠ p.bb ∧ p.H ≠ p.s ∧ p.H ∉ rowF p.vs ∧ p.H ∉ rowF p.vm
  c : ∀ k, k ∈ catF p.c p.mb p.ps → k ≠ p.b ∧ k ≠ p.bb ∧ k ≠ p.s ∧ k ∉ rowF p.vs ∧ k ∉ rowF p.vm
  b : p.b ≠ p.bb ∧ p.b ≠ p.s ∧ p.b ∉ rowF p.vs ∧ p.b ∉ rowF p.vm
  bb : p.bb ≠ p.s ∧ p.bb ∉ rowF p.vs ∧ p.bb ∉ rowF p.vm
  s : p.s ∉ rowF p.vs ∧ p.s ∉ rowF p.vm
  v : ∀ k, k ∈ rowF p.vs → k ∉ rowF p.vm
theorem Parts.sep {p : Parts} (h : p.F.Nodup) : p.Sep := by
  simp only [Parts.F, List.nodup_cons, List.nodup_append, List.mem_cons, List.mem_append, not_or] at h
  obtain ⟨⟨h1, h2, h3, h4, h5, h6⟩, h7, ⟨⟨a1, a2, a3, a4⟩, ⟨b1, b2, b3⟩, ⟨c1, c2⟩, d1, d2, d3⟩, h9⟩ := h
  exact ⟨h1, ⟨h2, h3, h4, h5, h6⟩, fun k hk => ⟨fun e => h9 k hk k (.inl e) rfl, fun e => h9 k hk k (.inr (.inl e)) rfl, fun e => h9 k hk k (.inr (.inr (.inl e))) rfl, fun e => h9 k hk k (.inr (.inr (.inr (.inl e)))) rfl, fun e => h9 k hk k (.inr (.inr (.inr (.inr e)))) rfl⟩, ⟨a1, a2, a3, a4⟩, ⟨b1, b2, b3⟩, ⟨c1, c2⟩, fun k hk hm => d3 k hk k hm rfl⟩

theorem HeapAt.setBlk {w w' : World} {p : Parts} {X : S.Heap} {l : List (Int × Int)} (h : HeapAt w p X) (hO : Only [p.bb] w w') (hb : BlocksAt w' p.b p.bb X.units l) : HeapAt w' p { X with blks := l } := by
  have hs := Parts.sep h.apart
  obtain ⟨a, cl, hm⟩ := h.blk.map.obj
  have hk : ∀ k, k ∈ p.F → k ≠ p.bb → w'.heap[k]? = w.heap[k]? := fun k hk hn => hO.block k (h.lt k hk) (by simpa using hn)
  exact ⟨(hk _ (mem_F.2 (.inl rfl)) hs.Hb.2.1).trans h.head, h.cat.only hO (calm_map hm) (fun k hk => by have := (hs.c k hk).2.1; simpa using this), hb,
    h.slt.kept (hk _ (mem_F.2 (.inr (.inr (.inr (.inr (.inl rfl)))))) hs.bb.1.symm) (fun k hk' => hk k (mem_F.2 (.inr (.inr (.inr (.inr (.inr (.inl hk'))))))) (fun e => hs.bb.2.1 (e ▸ hk'))),
    h.mem.kept (fun k hk' => hk k (mem_F.2 (.inr (.inr (.inr (.inr (.inr (.inr hk'))))))) (fun e => hs.bb.2.2 (e ▸ hk'))), h.apart⟩
theorem HeapAt.setSlt {w w' : World} {p : Parts} {X : S.Heap} {l : List S.Slot} (h : HeapAt w p X) (hO : Only (rowF p.vs) w w') (hb : SlotsAt w' p.s p.vs l) : HeapAt w' p { X with slots := l } := by
  have hs := Parts.sep h.apart
  have hk : ∀ k, k ∈ p.F → k ∉ rowF p.vs → w'.heap[k]? = w.heap[k]? := fun k hk hn => hO.block k (h.lt k hk) hn
  exact ⟨(hk _ (mem_F.2 (.inl rfl)) hs.Hb.2.2.2.1).trans h.head, h.cat.only hO (calm_row h.slt.row (by decide) (by decide)) (fun k hk => (hs.c k hk).2.2.2.1),
    h.blk.kept (hk _ (mem_F.2 (.inr (.inr (.inl rfl)))) hs.b.2.2.1) (hk _ (mem_F.2 (.inr (.inr (.inr (.inl rfl))))) hs.bb.2.1), hb,
    h.mem.kept (fun k hk' => hk k (mem_F.2 (.inr (.inr (.inr (.inr (.inr (.inr hk'))))))) (fun e => hs.v k e hk')), h.apart⟩
theorem HeapAt.setMem {w w' : World} {p : Parts} {X : S.Heap} {ts : List S.Thing} (h : HeapAt w p X) (hO : Only (rowF p.vm) w w') (hb : MemAt w' p.vm X.units ts) : HeapAt w' p { X with things := ts } := by
  have hs := Parts.sep h.apart
  have hk : ∀ k, k ∈ p.F → k ∉ rowF p.vm → w'.heap[k]? = w.heap[k]? := fun k hk hn => hO.block k (h.lt k hk) hn
  obtain ⟨mem, hm, -⟩ := h.mem
  exact ⟨(hk _ (mem_F.2 (.inl rfl)) hs.Hb.2.2.2.2).trans h.head, h.cat.only hO (calm_row hm (by decide) (by decide)) (fun k hk => (hs.c k hk).2.2.2.2),
    h.blk.kept (hk _ (mem_F.2 (.inr (.inr (.inl rfl)))) hs.b.2.2.2) (hk _ (mem_F.2 (.inr (.inr (.inr (.inl rfl))))) hs.bb.2.2),
    h.slt.kept (hk _ (mem_F.2 (.inr (.inr (.inr (.inr (.inl rfl)))))) hs.s.2) (fun k hk' => hk k (mem_F.2 (.inr (.inr (.inr (.inr (.inr (.inl hk'))))))) (hs.v k hk')), hb, h.apart⟩
theorem F_bb (p : Parts) : p.bb ∈ p.F := mem_F.2 (.inr (.inr (.inr (.inl rfl))))
theorem F_vs (p : Parts) {k : Nat} (h : k ∈ rowF p.vs) : k ∈ p.F := mem_F.2 (.inr (.inr (.inr (.inr (.inr (.inl h))))))
theorem F_vm (p : Parts) {k : Nat} (h : k ∈ rowF p.vm) : k ∈ p.F := mem_F.2 (.inr (.inr (.inr (.inr (.inr (.inr h))))))
theorem HeapAt.bkeys {w : World} {p : Parts} {X : S.Heap} (h : HeapAt w p X) : (X.blks.map (·.1)).Nodup := h.blk.map.keys

set_option maxRecDepth 100000 in
set_option maxHeartbeats 2000000 in
theorem obj_Create_none (p : Parts) (X : S.Heap) (name : S.Text) (w : World) (h : HeapAt w p X) (hX : X.ok) (hn : getK X.cat name = none) :
    Calls Tryz.prog 16 #[.pointer (some ⟨p.H, 0, none⟩), .string (S.mk name)] w fun e w' => e = .returned (.tuple #[S.noHandle.val, .int .i64 90]) ∧ Below w.heap.size w w' := by
  have hnw := Hid.mk (obj_newest_none p.H p.c p.mb p.ps X.cat name (w.alloc (.cells #[.int .i64 0, .int .i64 0] 51)) ((h.below (below_one _ _)).c0) (h.below (below_one _ _)).cat (fun x hx => (hX.kinds x hx).ok) hn)
  have hr0 := heap_alloc_new w (.cells #[.int .i64 0, .int .i64 0] 51)
  have hb0 := Hid.mk (below_one w (.cells #[.int .i64 0, .int .i64 0] 51))
  have hr1 := Hid.mk hr0
  generalize p.H = H at *
  clear h hX hn hr0
  go_enter Tryz.func16, Tryz.ntmps16
  go_wp2_with (go_at_call 48; refine hnw.out.mono ?_; rintro e w1 ⟨rfl, hb⟩; have hr2 := (hb.block w.heap.size (by simp)).trans hr1.out; obtain ⟨r0, f0⟩ := heap_cell hr2 (o := 0) (v := .int .i64 0) rfl; obtain ⟨r1, f1⟩ := heap_cell hr2 (o := 1) (v := .int .i64 0) rfl; have hb1 := Hid.mk hb; have hr21 := Hid.mk hr2; clear hb hr2)
  go_light
  obtain ⟨q0, q1⟩ := pair_cells (a := .int .i64 0) (b := .int .i64 0) r0 r1
  refine bodyPost_ret (results_ct rfl _ _ _ rfl (load_handle q0 q1)) rfl ⟨rfl, ?_⟩
  exact ((below_then hb0.out hb1.out).setCell (Nat.le_refl _) _).setCell (Nat.le_refl _) _

theorem short_right {l : List S.Field} (h : S.right l = true) : Short l := fun i f hf => by
  have := (S.right_at h hf).1
  simp only [S.nameOk, Bool.and_eq_true, decide_eq_true_eq] at this
  omega
theorem bytes_of_own {w : World} {base n g cap : Nat} {l : List UInt8} (h : w.ownsRow base 5 1 (.slice (some ⟨g, 0, none⟩) n cap) n (l.map encByte)) (hl : l.length ≤ 1073741824) : Bytes w.cell? (some ⟨g, 0, none⟩) l :=
  ⟨hl, fun i c hc => ⟨g, 0, rfl, fun j v hv => by
    match j, hv with
    | 0, hv =>
      simp only [List.getElem?_cons_zero, Option.some.injEq] at hv
      subst hv
      have := (own_cell h (j := i) (by rw [List.getElem?_map, hc]; rfl)).1
      simpa using this
    | j + 1, hv => simp at hv⟩⟩
/-- What put leaves. -/
theorem mem_put {w' : World} {g M cap u : Nat} {mem : List UInt8} {ts : List S.Thing} {t : S.Thing} (hlen : mem.length = u * 8) (hM : M = u * 8) (ho : w'.ownsRow 0 5 1 (.slice (some ⟨g, 0, none⟩) M cap) M ((lay mem (t.at_ * 8) (S.block t.name t.ver t.b)).map encByte)) (hn : t.name.length ≤ 15)
    (hfit : t.at_ * 8 + (24 + t.b.length) ≤ mem.length) (hold : ∀ s, s ∈ ts → (mem.drop (s.at_ * 8)).take (24 + s.b.length) = S.block s.name s.ver s.b) (hdis : ∀ s, s ∈ ts → s.at_ * 8 + (24 + s.b.length) ≤ t.at_ * 8 ∨ t.at_ * 8 + (24 + t.b.length) ≤ s.at_ * 8) :
    MemAt w' (.slice (some ⟨g, 0, none⟩) M cap) u (ts ++ [t]) := by
  have hbl := S.block_length (ver := t.ver) (b := t.b) hn
  have hll : (lay mem (t.at_ * 8) (S.block t.name t.ver t.b)).length = mem.length := lay_length (by omega)
  refine ⟨lay mem (t.at_ * 8) (S.block t.name t.ver t.b), by rw [hll, hlen, ← hM]; exact ho, by rw [hll, hlen], fun s hs => ?_⟩
  rcases List.mem_append.1 hs with hs | hs
  · rw [lay_other (by omega) (by have := hdis s hs; omega)]
    exact hold s hs
  · simp only [List.mem_singleton] at hs
    subst hs
    rw [← hbl]
    exact lay_same (by omega)

theorem things_dis {X : S.Heap} (hX : X.ok) {a n : Nat} (hdis : ∀ x, x ∈ X.blks → x.1 + x.2 ≤ (a : Int) ∨ (a : Int) + (3 + (n : Int)) ≤ x.1) : ∀ s, s ∈ X.things → s.at_ * 8 + (24 + s.b.length) ≤ a * 8 ∨ a * 8 + (24 + n * 8) ≤ s.at_ * 8 := fun s hs => by
  have h := hX.things s hs
  have h1 := hdis _ (S.getK_pair h.blk)
  have h2 := h.long
  simp only at h1
  omega

set_option maxRecDepth 100000 in
set_option maxHeartbeats 8000000 in
theorem obj_Create_yes (p : Parts) (X : S.Heap) (name : S.Text) (k : S.Kinds) (l : List (Int × Int)) (a : Int) (sl : List S.Slot) (hd : S.Handle) (w : World) (h : HeapAt w p X) (hX : X.ok) (hk : getK X.cat name = some k)
    (h1 : S.take X.units X.blks (3 + ((k.long / 8 : Nat) : Int)) = (l, a, 0)) (h2 : S.slotMake X.slots a = (sl, hd, 0)) :
    Calls Tryz.prog 16 #[.pointer (some ⟨p.H, 0, none⟩), .string (S.mk name)] w fun e w' => e = .returned (.tuple #[hd.val, .int .i64 0]) ∧
      HeapAt w' p { X with blks := l, slots := sl, things := X.things ++ [⟨a.toNat, name, k.newest.toNat, List.replicate k.long 0⟩] } ∧ Only p.F w w' := by
  obtain ⟨a', e, ha0, hau, hnone, hdis⟩ := S.take_some h.bkeys hX.within hX.apart (by omega) (show (S.take X.units X.blks (3 + ((k.long / 8 : Nat) : Int))).2.2 = 0 by rw [h1])
  have e' := e
  rw [h1] at e'
  simp only [Prod.mk.injEq, and_true] at e'
  obtain ⟨rfl, rfl⟩ := e'
  clear e
  obtain ⟨at_, rfl⟩ : ∃ n : Nat, a = (n : Int) := ⟨a.toNat, by omega⟩
  have hkin := S.getK_pair hk
  have hkf := hX.kinds _ hkin
  have hko : k.ok := hkf.ok
  have hnm := hX.names _ hkin
  have hn15 : name.length ≤ 15 := by
    simp only [S.nameOk, Bool.and_eq_true, decide_eq_true_eq] at hnm
    exact hnm.2
  obtain ⟨nv, hnv⟩ : ∃ n : Nat, k.newest = (n : Int) := ⟨k.newest.toNat, by have := hko.1; have := hko.2.1; unfold S.Kinds.newest; omega⟩
  have hnv64 : nv ≤ 64 := by have := hko.2.2; unfold S.Kinds.newest at hnv; omega
  obtain ⟨htop, htm⟩ := S.Kinds.top_mem hko
  have hright := hkf.right _ htm
  have hL8 := S.long_8 k
  have hLs := S.long_small k
  have hu := hX.units
  obtain ⟨mem, hm1, hm2, hm3⟩ := h.mem
  have hMpos : 0 < mem.length := by omega
  have hsep := Parts.sep h.apart
  -- the result's cell, and what is below
  have hb0 := below_one w (.cells #[.int .i64 0, .int .i64 0] 51)
  have hh0 := h.below hb0
  have hr0 := heap_alloc_new w (.cells #[.int .i64 0, .int .i64 0] 51)
  have hnw := obj_newest p.H p.c p.mb p.ps X.cat name k k.top _ hh0.c0 hh0.cat hk hko htop
  rw [hnv] at hnw
  have hfn : ∀ (W : World) (A : Option Addr) (c : Nat), W.ownsRow (w.heap.size + 1) 147 3 (.slice A k.top.new.length c) k.top.new.length (k.top.new.map S.Field.cells).flatten →
      Hid (Calls Tryz.prog 49 #[.slice A k.top.new.length c] W fun e w' => ∃ g, e = .returned (.slice (some ⟨g, 0, none⟩) k.long k.long) ∧ w'.ownsRow W.heap.size 5 1 (.slice (some ⟨g, 0, none⟩) k.long k.long) k.long (List.replicate k.long (.int .u8 0)) ∧ Below W.heap.size W w') := fun W A c ho => by
    obtain ⟨A', c', e, hr, -⟩ := Row.of_own ho (field_rows _) (by simp) (by have := S.right_len hright; omega)
    simp only [Value.slice.injEq, true_and] at e
    obtain ⟨rfl, rfl⟩ := e
    exact field_New A c k.top.new W (Row.id.2 hr) (short_right hright) hright
  have htk : ∀ W, Below w.heap.size w W → Hid (Calls Tryz.prog 50 #[.pointer (some ⟨p.b, 0, none⟩), .int .i64 (3 + (k.long : Int) / 8)] W fun e w' => e = .returned (.tuple #[.int .i64 at_, .int .i64 0]) ∧ HeapAt w' p { X with blks := X.blks ++ [((at_ : Int), 3 + ((k.long / 8 : Nat) : Int))] } ∧ Only [p.bb] W w') := fun W hb => by
    have hW := h.below hb
    have := blocks_Take p.b p.bb X.units (3 + ((k.long / 8 : Nat) : Int)) X.blks W hW.blk (by omega)
    rw [h1] at this
    exact this.mono fun e w' ⟨e1, e2, e3⟩ => ⟨e1, hW.setBlk e3 e2, e3⟩
  have hmkk : ∀ W, HeapAt W p { X with blks := X.blks ++ [((at_ : Int), 3 + ((k.long / 8 : Nat) : Int))] } → Hid (Calls Tryz.prog 51 #[.pointer (some ⟨p.s, 0, none⟩), .int .u64 at_] W fun e w' => e = .returned (.tuple #[hd.val, .int .i64 0]) ∧ HeapAt w' p { X with blks := X.blks ++ [((at_ : Int), 3 + ((k.long / 8 : Nat) : Int))], slots := sl } ∧ Only (rowF p.vs) W w') := fun W hW => by
    have := slots_Make p.s p.vs X.slots at_ (by omega) (by omega) W hW.slt hsep.s.1
    rw [h2] at this
    exact this.mono fun e w' ⟨e1, e2, e3⟩ => ⟨e1, hW.setSlt e3 e2, e3⟩
  obtain ⟨mg, mcap, hvm⟩ := own_some' hm1 hMpos
  have hput : ∀ (W : World) (g : Nat), HeapAt W p { X with blks := X.blks ++ [((at_ : Int), 3 + ((k.long / 8 : Nat) : Int))], slots := sl } → W.ownsRow 0 5 1 (.slice (some ⟨g, 0, none⟩) k.long k.long) k.long (List.replicate k.long (.int .u8 0)) →
      Hid (Calls Tryz.prog 53 #[.pointer (some ⟨p.H, 0, none⟩), .agg #[.int .i64 at_, .string (S.mk name), .int .i64 nv, .slice (some ⟨g, 0, none⟩) k.long k.long]] W fun e w' => e = .returned (.tuple #[]) ∧
        HeapAt w' p { X with blks := X.blks ++ [((at_ : Int), 3 + ((k.long / 8 : Nat) : Int))], slots := sl, things := X.things ++ [⟨at_, name, nv, List.replicate k.long 0⟩] } ∧ Only (rowF p.vm) W w') := fun W g hW ho => by
    obtain ⟨mem', hm1', hm2', hm3'⟩ := hW.mem
    simp only at hm1' hm2' hm3'
    have hlm : mem'.length = mem.length := by omega
    rw [hlm, hvm] at hm1'
    have hby : Bytes W.cell? (some ⟨g, 0, none⟩) (List.replicate k.long (0 : UInt8)) := bytes_of_own (n := k.long) (cap := k.long) (by rw [List.map_replicate]; exact ho) (by simp; omega)
    have hfit : at_ * 8 + (24 + k.long) ≤ mem.length := by omega
    have hHg : p.H ≠ mg := fun e => hsep.Hb.2.2.2.2 (by rw [hvm, rowF_slice]; simp [e])
    have := obj_put p.H mg mcap mem.length mem' at_ name nv ⟨g, 0, none⟩ k.long (List.replicate k.long 0) W (by rw [← hvm]; exact hW.c3) hm1' (by omega) hHg hby hn15 (by omega) (by simpa using hfit)
    rw [List.length_replicate] at this
    refine this.mono fun e w' ⟨e1, e2, e3⟩ => ?_
    have e3' : Only (rowF p.vm) W w' := by rw [hvm, rowF_slice]; exact e3
    refine ⟨e1, hW.setMem e3' ?_, e3'⟩
    rw [hvm]
    refine mem_put (t := ⟨at_, name, nv, List.replicate k.long 0⟩) hm2' (by omega) e2 hn15 (by simp; omega) hm3' (fun s hs => ?_)
    have := things_dis hX (a := at_) (n := k.long / 8) (fun x hx => by have := hdis x hx; omega) s hs
    simp only [List.length_replicate]
    omega
  have hFlt : ∀ k, k ∈ p.F → k < w.heap.size := h.lt
  have hau2 : at_ ≤ 1024 := by omega
  have hbb := hFlt _ (F_bb p)
  have hvs : ∀ k, k ∈ rowF p.vs → k < w.heap.size := fun k hk => hFlt k (F_vs p hk)
  have hvmm : ∀ k, k ∈ rowF p.vm → k < w.heap.size := fun k hk => hFlt k (F_vm p hk)
  have hHl := hFlt p.H (mem_F.2 (.inl rfl))
  have hatn : ((at_ : Nat) : Int).toNat = at_ := by omega
  rw [hnv, hatn, show ((nv : Nat) : Int).toNat = nv by omega]
  have cHb : ∀ W, Below w.heap.size w W → Hid (W.cell? ⟨p.H, 1, none⟩ = some (.pointer (some ⟨p.b, 0, none⟩))) := fun W hb => (h.below hb).c1
  have cHs : ∀ (W : World) Y, HeapAt W p Y → Hid (W.cell? ⟨p.H, 2, none⟩ = some (.pointer (some ⟨p.s, 0, none⟩))) := fun W Y hY => hY.c2
  have z0 : (w.alloc (.cells #[.int .i64 0, .int .i64 0] 51)).heap.size = w.heap.size + 1 := by simp
  rw [z0] at hnw
  have hFs : ∀ k, k ∈ [p.bb] ∨ k ∈ rowF p.vs ∨ k ∈ rowF p.vm → k ∈ p.F := fun k hk => by
    rcases hk with hk | hk | hk
    · simp only [List.mem_singleton] at hk; rw [hk]; exact F_bb p
    · exact F_vs p hk
    · exact F_vm p hk
  generalize p.H = H at *
  generalize hpb : p.b = pb at *
  generalize hps : p.s = pss at *
  have hb01 := Hid.mk hb0; have hr01 := Hid.mk hr0; have hnw1 := Hid.mk hnw; have hfn1 := Hid.mk hfn; have htk1 := Hid.mk htk; have hmkk1 := Hid.mk hmkk; have hput1 := Hid.mk hput; have hFlt1 := Hid.mk hFlt; have hvs1 := Hid.mk hvs; have hvmm1 := Hid.mk hvmm; have cHb1 := Hid.mk cHb; have cHs1 := Hid.mk cHs; have hFs1 := Hid.mk hFs; clear hb0 hr0 hnw hfn htk hmkk hput hFlt hvs hvmm cHb cHs hFs
  clear h hX hk h1 h2 hau hnone hdis hkin hkf hko hnm hnv htop htm hright hm1 hm2 hm3 hMpos hsep hh0 hvm hatn hpb hps
  go_enter Tryz.func16, Tryz.ntmps16
  go_wp2_with (first
    | (go_at_call 48; (with_reducible refine hnw1.out.mono ?_); rintro e w1 ⟨v, rfl, ho, hb⟩; obtain ⟨A1, c1, rfl⟩ := own_slice ho; have hz1 : w.heap.size + 1 ≤ w1.heap.size := by { have h9 := hb.size; omega }; have hB1 := Hid.mk (hb01.out.trans (hb.mono (by omega))); have hR1 := Hid.mk ((hb.block w.heap.size (by omega)).trans hr01.out); have hfn2 := hfn1.out w1 A1 c1 ho; clear ho hb)
    | (go_at_call 49; (with_reducible refine hfn2.out.mono ?_); rintro e w2 ⟨g, rfl, ho, hb⟩; have hz2 : w1.heap.size ≤ w2.heap.size := hb.size; have hB2 := Hid.mk (below_then hB1.out hb); have hR2 := Hid.mk ((hb.block w.heap.size (by omega)).trans hR1.out); have htk2 := htk1.out w2 hB2.out; have cb := (cHb1.out w2 hB2.out).out; have hog := Hid.mk ho; clear ho hb)
    | (go_at_call 50; (with_reducible refine htk2.out.mono ?_); go_must (rintro e w3 ⟨rfl, hh, hO⟩; clear cb; have hz3 : w2.heap.size ≤ w3.heap.size := hO.size; have hR3 := Hid.mk ((hO.block w.heap.size (by omega) (by simp; omega)).trans hR2.out); have cs := (cHs1.out w3 _ hh).out; have hmk3 := hmkk1.out w3 hh; have hog3 := Hid.mk (own_kept hog.out (fun k hk => hO.block k (own_lt hog.out hk) (by have := own_block_ge hog.out hk; simp; omega))); have hO3 := Hid.mk ((Only.below hB2.out p.F).trans hO (fun b hb => .inl (hFs1.out b (.inl hb)))); clear hh hO))
    | (go_at_call 51; (with_reducible refine hmk3.out.mono ?_); go_must (rintro e w4 ⟨rfl, hh, hO⟩; clear cs; have hz4 : w3.heap.size ≤ w4.heap.size := hO.size; have hR4 := Hid.mk ((hO.block w.heap.size (by omega) (fun hv => by have := hvs1.out _ hv; omega)).trans hR3.out); have hog4 := Hid.mk (own_kept hog3.out (fun k hk => hO.block k (own_lt hog3.out hk) (fun hv => by have h8 := hvs1.out _ hv; have h9 := own_block_ge hog3.out hk; omega))); have hh5 := Hid.mk (hh.below (below_one w4 (.cells #[.int .i64 hd.slot, .int .i64 hd.gen] 51))); have hp5 := hput1.out (w4.alloc (.cells #[.int .i64 hd.slot, .int .i64 hd.gen] 51)) g hh5.out (own_weak (own_kept hog4.out (fun k hk => Below.heap_alloc _ _ _ (own_lt hog4.out hk))) (Nat.zero_le _)); have hO4 := Hid.mk ((hO3.out.trans hO (fun b hb => .inl (hFs1.out b (.inr (.inl hb))))).alloc (.cells #[.int .i64 hd.slot, .int .i64 hd.gen] 51)); clear hh hO))
    | (go_at_call 53; (with_reducible refine hp5.out.mono ?_); go_must (rintro e w6 ⟨rfl, hh, hO⟩; have hR6 := (hO.block w.heap.size (by simp; omega) (fun hv => by have := hvmm1.out _ hv; omega)).trans ((Below.heap_alloc _ _ _ (by omega)).trans hR4.out); have hT6 := (hO.block w4.heap.size (by simp) (fun hv => by have := hvmm1.out _ hv; omega)).trans (heap_alloc_new w4 (.cells #[.int .i64 hd.slot, .int .i64 hd.gen] 51)); obtain ⟨r0, f0⟩ := heap_cell hR6 (o := 0) (v := .int .i64 0) rfl; obtain ⟨r1, f1⟩ := heap_cell hR6 (o := 1) (v := .int .i64 0) rfl; have t0 := (heap_cell hT6 (o := 0) (v := .int .i64 hd.slot) rfl).1; have t1 := (heap_cell hT6 (o := 1) (v := .int .i64 hd.gen) rfl).1; have hO6 := Hid.mk (hO4.out.trans hO (fun b hb => .inl (hFs1.out b (.inr (.inr hb))))); have hz6 : w.heap.size < w6.heap.size := (Array.getElem?_eq_some_iff.1 hR6).1; have hh1 := Hid.mk hh; have hR61 := Hid.mk hR6; have hT61 := Hid.mk hT6; clear hh hR6 hT6; clear hO))
    | fail)
  go_light
  obtain ⟨q0, q1⟩ := pair_cells (a := .int .i64 hd.slot) (b := .int .i64 hd.gen) r0 r1
  have hOR := ((Only.refl [w.heap.size] w6).set (k := w.heap.size) (.inl (by simp)) 0 (.int .i64 hd.slot)).set (k := w.heap.size) (.inl (by simp)) 1 (.int .i64 hd.gen)
  refine bodyPost_ret (results_ct rfl _ _ _ rfl (load_handle q0 q1)) rfl ⟨rfl, hh1.out.only hOR (calm_cells hR61.out (by decide) (by decide)) (fun k hk => ?_), hO6.out.trans hOR (fun b hb => ?_)⟩
  · have := hFlt1.out k hk
    simp only [List.mem_singleton]
    omega
  · simp only [List.mem_singleton] at hb
    omega
set_option maxRecDepth 100000 in
set_option maxHeartbeats 8000000 in
theorem obj_Create_full (p : Parts) (X : S.Heap) (name : S.Text) (k : S.Kinds) (w : World) (h : HeapAt w p X) (hX : X.ok) (hk : getK X.cat name = some k)
    (h1 : (S.take X.units X.blks (3 + ((k.long / 8 : Nat) : Int))).2.2 ≠ 0) :
    Calls Tryz.prog 16 #[.pointer (some ⟨p.H, 0, none⟩), .string (S.mk name)] w fun e w' => e = .returned (.tuple #[S.noHandle.val, .int .i64 100]) ∧ HeapAt w' p X ∧ Only p.F w w' := by
  replace h1 := S.take_full (by omega) h1
  have hkin := S.getK_pair hk
  have hkf := hX.kinds _ hkin
  have hko : k.ok := hkf.ok
  have hnm := hX.names _ hkin
  have hn15 : name.length ≤ 15 := by
    simp only [S.nameOk, Bool.and_eq_true, decide_eq_true_eq] at hnm
    exact hnm.2
  obtain ⟨nv, hnv⟩ : ∃ n : Nat, k.newest = (n : Int) := ⟨k.newest.toNat, by have := hko.1; have := hko.2.1; unfold S.Kinds.newest; omega⟩
  have hnv64 : nv ≤ 64 := by have := hko.2.2; unfold S.Kinds.newest at hnv; omega
  obtain ⟨htop, htm⟩ := S.Kinds.top_mem hko
  have hright := hkf.right _ htm
  have hL8 := S.long_8 k
  have hLs := S.long_small k
  have hu := hX.units
  -- the result's cell, and what is below
  have hb0 := below_one w (.cells #[.int .i64 0, .int .i64 0] 51)
  have hh0 := h.below hb0
  have hr0 := heap_alloc_new w (.cells #[.int .i64 0, .int .i64 0] 51)
  have hnw := obj_newest p.H p.c p.mb p.ps X.cat name k k.top _ hh0.c0 hh0.cat hk hko htop
  rw [hnv] at hnw
  have hfn : ∀ (W : World) (A : Option Addr) (c : Nat), W.ownsRow (w.heap.size + 1) 147 3 (.slice A k.top.new.length c) k.top.new.length (k.top.new.map S.Field.cells).flatten →
      Hid (Calls Tryz.prog 49 #[.slice A k.top.new.length c] W fun e w' => ∃ g, e = .returned (.slice (some ⟨g, 0, none⟩) k.long k.long) ∧ w'.ownsRow W.heap.size 5 1 (.slice (some ⟨g, 0, none⟩) k.long k.long) k.long (List.replicate k.long (.int .u8 0)) ∧ Below W.heap.size W w') := fun W A c ho => by
    obtain ⟨A', c', e, hr, -⟩ := Row.of_own ho (field_rows _) (by simp) (by have := S.right_len hright; omega)
    simp only [Value.slice.injEq, true_and] at e
    obtain ⟨rfl, rfl⟩ := e
    exact field_New A c k.top.new W (Row.id.2 hr) (short_right hright) hright
  have htk : ∀ W, Below w.heap.size w W → Hid (Calls Tryz.prog 50 #[.pointer (some ⟨p.b, 0, none⟩), .int .i64 (3 + (k.long : Int) / 8)] W fun e w' => e = .returned (.tuple #[.int .i64 0, .int .i64 100]) ∧ HeapAt w' p X ∧ Only [p.bb] W w') := fun W hb => by
    have hW := h.below hb
    have := blocks_Take p.b p.bb X.units (3 + ((k.long / 8 : Nat) : Int)) X.blks W hW.blk (by omega)
    rw [h1] at this
    exact this.mono fun e w' ⟨e1, e2, e3⟩ => ⟨e1, hW.setBlk (l := X.blks) e3 e2, e3⟩
  have hFlt : ∀ k, k ∈ p.F → k < w.heap.size := h.lt
  have hbb := hFlt _ (F_bb p)
  have hHl := hFlt p.H (mem_F.2 (.inl rfl))
  have cHb : ∀ W, Below w.heap.size w W → Hid (W.cell? ⟨p.H, 1, none⟩ = some (.pointer (some ⟨p.b, 0, none⟩))) := fun W hb => (h.below hb).c1
  have z0 : (w.alloc (.cells #[.int .i64 0, .int .i64 0] 51)).heap.size = w.heap.size + 1 := by simp
  rw [z0] at hnw
  have hFs := F_bb p
  generalize p.H = H at *
  generalize hpb : p.b = pb at *
  have hb01 := Hid.mk hb0; have hr01 := Hid.mk hr0; have hnw1 := Hid.mk hnw; have hfn1 := Hid.mk hfn; have htk1 := Hid.mk htk; have hFlt1 := Hid.mk hFlt; have cHb1 := Hid.mk cHb; have hFs1 := Hid.mk hFs; clear hb0 hr0 hnw hfn htk hFlt cHb hFs
  clear h hX hk h1 hkin hkf hko hnm hnv htop htm hright hh0 hpb
  go_enter Tryz.func16, Tryz.ntmps16
  go_wp2_with (first
    | (go_at_call 48; (with_reducible refine hnw1.out.mono ?_); rintro e w1 ⟨v, rfl, ho, hb⟩; obtain ⟨A1, c1, rfl⟩ := own_slice ho; have hz1 : w.heap.size + 1 ≤ w1.heap.size := by { have h9 := hb.size; omega }; have hB1 := Hid.mk (hb01.out.trans (hb.mono (by omega))); have hR1 := Hid.mk ((hb.block w.heap.size (by omega)).trans hr01.out); have hfn2 := hfn1.out w1 A1 c1 ho; clear ho hb)
    | (go_at_call 49; (with_reducible refine hfn2.out.mono ?_); rintro e w2 ⟨g, rfl, ho, hb⟩; have hz2 : w1.heap.size ≤ w2.heap.size := hb.size; have hB2 := Hid.mk (below_then hB1.out hb); have hR2 := Hid.mk ((hb.block w.heap.size (by omega)).trans hR1.out); have htk2 := htk1.out w2 hB2.out; have cb := (cHb1.out w2 hB2.out).out; have hog := Hid.mk ho; clear ho hb)
    | (go_at_call 50; (with_reducible refine htk2.out.mono ?_); go_must (rintro e w6 ⟨rfl, hh, hO⟩; clear cb; have hR6 := (hO.block w.heap.size (by omega) (by simp; omega)).trans hR2.out; obtain ⟨r0, f0⟩ := heap_cell hR6 (o := 0) (v := .int .i64 0) rfl; obtain ⟨r1, f1⟩ := heap_cell hR6 (o := 1) (v := .int .i64 0) rfl; have hO6 := Hid.mk ((Only.below hB2.out p.F).trans hO (fun b hb => by simp only [List.mem_singleton] at hb; rw [hb]; exact .inl hFs1.out)); have hz6 : w.heap.size < w6.heap.size := (Array.getElem?_eq_some_iff.1 hR6).1; have hh1 := Hid.mk hh; have hR61 := Hid.mk hR6; clear hh hR6; clear hO))
    | fail)
  go_light
  obtain ⟨q0, q1⟩ := pair_cells (a := .int .i64 0) (b := .int .i64 0) r0 r1
  have hOR := ((Only.refl [w.heap.size] w6).set (k := w.heap.size) (.inl (by simp)) 0 (.int .i64 0)).set (k := w.heap.size) (.inl (by simp)) 1 (.int .i64 0)
  refine bodyPost_ret (results_ct rfl _ _ _ rfl (load_handle q0 q1)) rfl ⟨rfl, hh1.out.only hOR (calm_cells hR61.out (by decide) (by decide)) (fun k hk => ?_), hO6.out.trans hOR (fun b hb => ?_)⟩
  · have := hFlt1.out k hk
    simp only [List.mem_singleton]
    omega
  · simp only [List.mem_singleton] at hb
    omega

set_option maxRecDepth 100000 in
set_option maxHeartbeats 8000000 in
theorem obj_Create_noslot (p : Parts) (X : S.Heap) (name : S.Text) (k : S.Kinds) (l : List (Int × Int)) (a : Int) (w : World) (h : HeapAt w p X) (hX : X.ok) (hk : getK X.cat name = some k)
    (h1 : S.take X.units X.blks (3 + ((k.long / 8 : Nat) : Int)) = (l, a, 0)) (h2 : (S.slotMake X.slots a).2.2 ≠ 0) :
    Calls Tryz.prog 16 #[.pointer (some ⟨p.H, 0, none⟩), .string (S.mk name)] w fun e w' => e = .returned (.tuple #[S.noHandle.val, .int .i64 110]) ∧ HeapAt w' p X ∧ Only p.F w w' := by
  obtain ⟨a', e, ha0, hau, hnone, hdis⟩ := S.take_some h.bkeys hX.within hX.apart (by omega) (show (S.take X.units X.blks (3 + ((k.long / 8 : Nat) : Int))).2.2 = 0 by rw [h1])
  have e' := e
  rw [h1] at e'
  simp only [Prod.mk.injEq, and_true] at e'
  obtain ⟨rfl, rfl⟩ := e'
  clear e
  obtain ⟨at_, rfl⟩ : ∃ n : Nat, a = (n : Int) := ⟨a.toNat, by omega⟩
  replace h2 := S.slotMake_full h2
  have hkin := S.getK_pair hk
  have hkf := hX.kinds _ hkin
  have hko : k.ok := hkf.ok
  have hnm := hX.names _ hkin
  have hn15 : name.length ≤ 15 := by
    simp only [S.nameOk, Bool.and_eq_true, decide_eq_true_eq] at hnm
    exact hnm.2
  obtain ⟨nv, hnv⟩ : ∃ n : Nat, k.newest = (n : Int) := ⟨k.newest.toNat, by have := hko.1; have := hko.2.1; unfold S.Kinds.newest; omega⟩
  have hnv64 : nv ≤ 64 := by have := hko.2.2; unfold S.Kinds.newest at hnv; omega
  obtain ⟨htop, htm⟩ := S.Kinds.top_mem hko
  have hright := hkf.right _ htm
  have hL8 := S.long_8 k
  have hLs := S.long_small k
  have hu := hX.units
  obtain ⟨mem, hm1, hm2, hm3⟩ := h.mem
  have hMpos : 0 < mem.length := by omega
  have hsep := Parts.sep h.apart
  -- the result's cell, and what is below
  have hb0 := below_one w (.cells #[.int .i64 0, .int .i64 0] 51)
  have hh0 := h.below hb0
  have hr0 := heap_alloc_new w (.cells #[.int .i64 0, .int .i64 0] 51)
  have hnw := obj_newest p.H p.c p.mb p.ps X.cat name k k.top _ hh0.c0 hh0.cat hk hko htop
  rw [hnv] at hnw
  have hfn : ∀ (W : World) (A : Option Addr) (c : Nat), W.ownsRow (w.heap.size + 1) 147 3 (.slice A k.top.new.length c) k.top.new.length (k.top.new.map S.Field.cells).flatten →
      Hid (Calls Tryz.prog 49 #[.slice A k.top.new.length c] W fun e w' => ∃ g, e = .returned (.slice (some ⟨g, 0, none⟩) k.long k.long) ∧ w'.ownsRow W.heap.size 5 1 (.slice (some ⟨g, 0, none⟩) k.long k.long) k.long (List.replicate k.long (.int .u8 0)) ∧ Below W.heap.size W w') := fun W A c ho => by
    obtain ⟨A', c', e, hr, -⟩ := Row.of_own ho (field_rows _) (by simp) (by have := S.right_len hright; omega)
    simp only [Value.slice.injEq, true_and] at e
    obtain ⟨rfl, rfl⟩ := e
    exact field_New A c k.top.new W (Row.id.2 hr) (short_right hright) hright
  have htk : ∀ W, Below w.heap.size w W → Hid (Calls Tryz.prog 50 #[.pointer (some ⟨p.b, 0, none⟩), .int .i64 (3 + (k.long : Int) / 8)] W fun e w' => e = .returned (.tuple #[.int .i64 at_, .int .i64 0]) ∧ HeapAt w' p { X with blks := X.blks ++ [((at_ : Int), 3 + ((k.long / 8 : Nat) : Int))] } ∧ Only [p.bb] W w') := fun W hb => by
    have hW := h.below hb
    have := blocks_Take p.b p.bb X.units (3 + ((k.long / 8 : Nat) : Int)) X.blks W hW.blk (by omega)
    rw [h1] at this
    exact this.mono fun e w' ⟨e1, e2, e3⟩ => ⟨e1, hW.setBlk e3 e2, e3⟩
  have hmkk : ∀ W, HeapAt W p { X with blks := X.blks ++ [((at_ : Int), 3 + ((k.long / 8 : Nat) : Int))] } → Hid (Calls Tryz.prog 51 #[.pointer (some ⟨p.s, 0, none⟩), .int .u64 at_] W fun e w' => e = .returned (.tuple #[.agg #[.int .i64 0, .int .i64 0], .int .i64 110]) ∧ HeapAt w' p { X with blks := X.blks ++ [((at_ : Int), 3 + ((k.long / 8 : Nat) : Int))] } ∧ Only (rowF p.vs) W w') := fun W hW => by
    have := slots_Make p.s p.vs X.slots at_ (by omega) (by omega) W hW.slt hsep.s.1
    rw [h2] at this
    exact this.mono fun e w' ⟨e1, e2, e3⟩ => ⟨e1, hW.setSlt (l := X.slots) e3 e2, e3⟩
  have hfr : ∀ W, HeapAt W p { X with blks := X.blks ++ [((at_ : Int), 3 + ((k.long / 8 : Nat) : Int))] } → Hid (Calls Tryz.prog 52 #[.pointer (some ⟨p.b, 0, none⟩), .int .i64 at_] W fun e w' => e = .returned (.int .i64 0) ∧ HeapAt w' p X ∧ Only [p.bb] W w') := fun W hW => by
    have := blocks_Free p.b p.bb X.units at_ (X.blks ++ [((at_ : Int), 3 + ((k.long / 8 : Nat) : Int))]) W hW.blk
    have hS : S.free (X.blks ++ [((at_ : Int), 3 + ((k.long / 8 : Nat) : Int))]) at_ = (X.blks, 0) := by
      simp only [S.free, getK_append, hnone, Option.none_or, if_true, delK_new hnone]
    rw [hS] at this
    exact this.mono fun e w' ⟨e1, e2, e3⟩ => ⟨e1, hW.setBlk (l := X.blks) e3 e2, e3⟩
  have hFlt : ∀ k, k ∈ p.F → k < w.heap.size := h.lt
  have hau2 : at_ ≤ 1024 := by omega
  have hbb := hFlt _ (F_bb p)
  have hvs : ∀ k, k ∈ rowF p.vs → k < w.heap.size := fun k hk => hFlt k (F_vs p hk)
  have hvmm : ∀ k, k ∈ rowF p.vm → k < w.heap.size := fun k hk => hFlt k (F_vm p hk)
  have hHl := hFlt p.H (mem_F.2 (.inl rfl))
  have cHb : ∀ W, Below w.heap.size w W → Hid (W.cell? ⟨p.H, 1, none⟩ = some (.pointer (some ⟨p.b, 0, none⟩))) := fun W hb => (h.below hb).c1
  have cHf : ∀ (W : World) Y, HeapAt W p Y → Hid (W.cell? ⟨p.H, 1, none⟩ = some (.pointer (some ⟨p.b, 0, none⟩))) := fun W Y hY => hY.c1
  have cHs : ∀ (W : World) Y, HeapAt W p Y → Hid (W.cell? ⟨p.H, 2, none⟩ = some (.pointer (some ⟨p.s, 0, none⟩))) := fun W Y hY => hY.c2
  have z0 : (w.alloc (.cells #[.int .i64 0, .int .i64 0] 51)).heap.size = w.heap.size + 1 := by simp
  rw [z0] at hnw
  have hFs : ∀ k, k ∈ [p.bb] ∨ k ∈ rowF p.vs ∨ k ∈ rowF p.vm → k ∈ p.F := fun k hk => by
    rcases hk with hk | hk | hk
    · simp only [List.mem_singleton] at hk; rw [hk]; exact F_bb p
    · exact F_vs p hk
    · exact F_vm p hk
  generalize p.H = H at *
  generalize hpb : p.b = pb at *
  generalize hps : p.s = pss at *
  have hb01 := Hid.mk hb0; have hr01 := Hid.mk hr0; have hnw1 := Hid.mk hnw; have hfn1 := Hid.mk hfn; have htk1 := Hid.mk htk; have hmkk1 := Hid.mk hmkk; have hfr1 := Hid.mk hfr; have hFlt1 := Hid.mk hFlt; have hvs1 := Hid.mk hvs; have hvmm1 := Hid.mk hvmm; have cHb1 := Hid.mk cHb; have cHs1 := Hid.mk cHs; have cHf1 := Hid.mk cHf; have hFs1 := Hid.mk hFs; clear hb0 hr0 hnw hfn htk hmkk hfr hFlt hvs hvmm cHb cHs cHf hFs
  clear h hX hk h1 h2 hau hnone hdis hkin hkf hko hnm hnv htop htm hright hm1 hm2 hm3 hMpos hsep hh0 hpb hps
  go_enter Tryz.func16, Tryz.ntmps16
  go_wp2_with (first
    | (go_at_call 48; (with_reducible refine hnw1.out.mono ?_); rintro e w1 ⟨v, rfl, ho, hb⟩; obtain ⟨A1, c1, rfl⟩ := own_slice ho; have hz1 : w.heap.size + 1 ≤ w1.heap.size := by { have h9 := hb.size; omega }; have hB1 := Hid.mk (hb01.out.trans (hb.mono (by omega))); have hR1 := Hid.mk ((hb.block w.heap.size (by omega)).trans hr01.out); have hfn2 := hfn1.out w1 A1 c1 ho; clear ho hb)
    | (go_at_call 49; (with_reducible refine hfn2.out.mono ?_); rintro e w2 ⟨g, rfl, ho, hb⟩; have hz2 : w1.heap.size ≤ w2.heap.size := hb.size; have hB2 := Hid.mk (below_then hB1.out hb); have hR2 := Hid.mk ((hb.block w.heap.size (by omega)).trans hR1.out); have htk2 := htk1.out w2 hB2.out; have cb := (cHb1.out w2 hB2.out).out; have hog := Hid.mk ho; clear ho hb)
    | (go_at_call 50; (with_reducible refine htk2.out.mono ?_); go_must (rintro e w3 ⟨rfl, hh, hO⟩; clear cb; have hz3 : w2.heap.size ≤ w3.heap.size := hO.size; have hR3 := Hid.mk ((hO.block w.heap.size (by omega) (by simp; omega)).trans hR2.out); have cs := (cHs1.out w3 _ hh).out; have hmk3 := hmkk1.out w3 hh; have hog3 := Hid.mk (own_kept hog.out (fun k hk => hO.block k (own_lt hog.out hk) (by have := own_block_ge hog.out hk; simp; omega))); have hO3 := Hid.mk ((Only.below hB2.out p.F).trans hO (fun b hb => .inl (hFs1.out b (.inl hb)))); clear hh hO))
    | (go_at_call 51; (with_reducible refine hmk3.out.mono ?_); go_must (rintro e w4 ⟨rfl, hh, hO⟩; clear cs; have hz4 : w3.heap.size ≤ w4.heap.size := hO.size; have hR4 := Hid.mk ((hO.block w.heap.size (by omega) (fun hv => by have := hvs1.out _ hv; omega)).trans hR3.out); have hh5 := Hid.mk (hh.below (below_one w4 (.cells #[.int .i64 0, .int .i64 0] 51))); have hp5 := hfr1.out (w4.alloc (.cells #[.int .i64 0, .int .i64 0] 51)) hh5.out; have cb := (cHf1.out _ _ hh5.out).out; have hO4 := Hid.mk ((hO3.out.trans hO (fun b hb => .inl (hFs1.out b (.inr (.inl hb))))).alloc (.cells #[.int .i64 0, .int .i64 0] 51)); clear hh hO))
    | (go_at_call 52; (with_reducible refine hp5.out.mono ?_); go_must (rintro e w6 ⟨rfl, hh, hO⟩; clear cb; have hR6 := (hO.block w.heap.size (by simp; omega) (by simp; omega)).trans ((Below.heap_alloc _ _ _ (by omega)).trans hR4.out); obtain ⟨r0, f0⟩ := heap_cell hR6 (o := 0) (v := .int .i64 0) rfl; obtain ⟨r1, f1⟩ := heap_cell hR6 (o := 1) (v := .int .i64 0) rfl; have hO6 := Hid.mk (hO4.out.trans hO (fun b hb => .inl (hFs1.out b (.inl hb)))); have hz6 : w.heap.size < w6.heap.size := (Array.getElem?_eq_some_iff.1 hR6).1; have hh1 := Hid.mk hh; have hR61 := Hid.mk hR6; clear hh hR6; clear hO))
    | fail)
  go_light
  obtain ⟨q0, q1⟩ := pair_cells (a := .int .i64 0) (b := .int .i64 0) r0 r1
  have hOR := ((Only.refl [w.heap.size] w6).set (k := w.heap.size) (.inl (by simp)) 0 (.int .i64 0)).set (k := w.heap.size) (.inl (by simp)) 1 (.int .i64 0)
  refine bodyPost_ret (results_ct rfl _ _ _ rfl (load_handle q0 q1)) rfl ⟨rfl, hh1.out.only hOR (calm_cells hR61.out (by decide) (by decide)) (fun k hk => ?_), hO6.out.trans hOR (fun b hb => ?_)⟩
  · have := hFlt1.out k hk
    simp only [List.mem_singleton]
    omega
  · simp only [List.mem_singleton] at hb
    omega

/-- Create: all of it. -/
theorem obj_Create (p : Parts) (X : S.Heap) (name : S.Text) (w : World) (h : HeapAt w p X) (hX : X.ok) :
    Calls Tryz.prog 16 #[.pointer (some ⟨p.H, 0, none⟩), .string (S.mk name)] w fun e w' => e = .returned (.tuple #[(S.create X name).2.1.val, .int .i64 (S.create X name).2.2]) ∧ HeapAt w' p (S.create X name).1 ∧ (S.create X name).1.ok ∧ Only p.F w w' := by
  cases hk : getK X.cat name with
  | none =>
    rw [S.create_none hk]
    exact (obj_Create_none p X name w h hX hk).mono fun e w' ⟨e1, hb⟩ => ⟨e1, h.below hb, hX, Only.below hb _⟩
  | some k =>
    by_cases h1 : (S.take X.units X.blks (3 + ((k.long / 8 : Nat) : Int))).2.2 = 0
    · obtain ⟨a, e, -⟩ := S.take_some h.bkeys hX.within hX.apart (by omega) h1
      by_cases h2 : (S.slotMake X.slots a).2.2 = 0
      · obtain ⟨i, x, -, -, -, e2⟩ := S.slotMake_some h2
        rw [S.create_yes hk e e2]
        exact (obj_Create_yes p X name k _ a _ _ w h hX hk e e2).mono fun e' w' ⟨e1, e2', e3⟩ => ⟨e1, e2', hX.create h.bkeys hk e e2, e3⟩
      · rw [S.create_noslot hk e h2]
        exact (obj_Create_noslot p X name k _ a w h hX hk e h2).mono fun e w' ⟨e1, e2, e3⟩ => ⟨e1, e2, hX, e3⟩
    · rw [S.create_full hk h1]
      exact (obj_Create_full p X name k w h hX hk h1).mono fun e w' ⟨e1, e2, e3⟩ => ⟨e1, e2, hX, e3⟩
end Go.Proofs.YtdokiaicheillaaGreat
