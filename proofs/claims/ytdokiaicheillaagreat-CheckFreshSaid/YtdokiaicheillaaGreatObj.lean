/-
  How a heap lies in memory; the walks of object.New, newest, Handles.
-/
import Derived.Test.YtdokiaicheillaaGreatDefineY
import Derived.Test.YtdokiaicheillaaGreatMake
namespace Go.Proofs.YtdokiaicheillaaGreat
open Go.RowKit

namespace S
/-- An object as it stands. -/
structure Thing where
  at_ : Nat
  name : Text
  ver : Nat
  b : List UInt8
deriving DecidableEq, Inhabited
/-- What a heap is. -/
structure Heap where
  cat : List (Text × Kinds)
  units : Nat
  blks : List (Int × Int)
  slots : List Slot
  things : List Thing
/-- Which blocks do not meet. -/
def apart (l : List (Int × Int)) : Prop := l.Pairwise fun x y => x.1 + x.2 ≤ y.1 ∨ y.1 + y.2 ≤ x.1
structure Thing.ok (t : Thing) (l : List (Int × Int)) : Prop where
  name : t.name.length ≤ 15
  long : t.b.length % 8 = 0
  ver : t.ver ≤ 1000000
  blk : getK l (t.at_ : Int) = some (3 + ((t.b.length / 8 : Nat) : Int))
structure Kinds.fine (k : Kinds) : Prop where
  ok : k.ok
  right : ∀ T, T ∈ k.tabs → S.right T.new = true
/-- Which heaps may be. -/
structure Heap.ok (X : Heap) : Prop where
  names : ∀ x, x ∈ X.cat → nameOk x.1 = true
  kinds : ∀ x, x ∈ X.cat → x.2.fine
  cats : X.cat.length ≤ 16
  keys : (X.cat.map (·.1)).Nodup
  units : X.units ≤ 1024
  within : within X.units X.blks
  apart : apart X.blks
  things : ∀ t, t ∈ X.things → t.ok X.blks
  one : (X.things.map (·.at_)).Nodup
  used : ∀ x, x ∈ X.slots → x.used = true → ∃ t, t ∈ X.things ∧ x.v = t.at_
  slot : ∀ t, t ∈ X.things → ∃ (i : Nat) (x : Slot), X.slots[i]? = some x ∧ x.used = true ∧ x.v = t.at_
  alone : ∀ (i j : Nat) (x y : Slot), X.slots[i]? = some x → X.slots[j]? = some y → x.used = true → y.used = true → x.v = y.v → i = j
  vs : ∀ x, x ∈ X.slots → 0 ≤ x.v ∧ x.v ≤ 18446744073709551615
def Heap.new (u h : Nat) : Heap := ⟨[], u, [], List.replicate h noSlot, []⟩
theorem Heap.new_ok {u h : Nat} (hu : u ≤ 1024) : (Heap.new u h).ok where
  names := fun x hx => by cases hx
  kinds := fun x hx => by cases hx
  cats := by simp [Heap.new]
  keys := by simp [Heap.new]
  units := hu
  within := fun x hx => by cases hx
  apart := by simp [Heap.new, S.apart]
  things := fun x hx => by cases hx
  one := by simp [Heap.new]
  used := fun x hx h => by
    have := List.eq_of_mem_replicate hx
    subst this
    cases h
  slot := fun x hx => by cases hx
  alone := fun i j x y hx hy h => by
    have := List.eq_of_mem_replicate (List.mem_of_getElem? hx)
    subst this
    cases h
  vs := fun x hx => by
    have := List.eq_of_mem_replicate hx
    subst this
    exact ⟨by decide, by decide⟩
end S
/-- Where the parts of a heap lie. -/
structure Parts where
  H : Nat
  c : Nat
  mb : Nat
  ps : List Spot
  b : Nat
  bb : Nat
  s : Nat
  vs : Value
  vm : Value
def Parts.F (p : Parts) : List Nat := p.H :: (catF p.c p.mb p.ps ++ (p.b :: p.bb :: p.s :: (rowF p.vs ++ rowF p.vm)))
def MemAt (w : World) (vm : Value) (u : Nat) (things : List S.Thing) : Prop :=
  ∃ mem : List UInt8, w.ownsRow 0 5 1 vm mem.length (mem.map encByte) ∧ mem.length = u * 8 ∧ ∀ t, t ∈ things → (mem.drop (t.at_ * 8)).take (24 + t.b.length) = S.block t.name t.ver t.b
structure HeapAt (w : World) (p : Parts) (X : S.Heap) : Prop where
  head : w.heap[p.H]? = some (.cells #[.pointer (some ⟨p.c, 0, none⟩), .pointer (some ⟨p.b, 0, none⟩), .pointer (some ⟨p.s, 0, none⟩), p.vm] 83 (0, 0))
  cat : CatAt w p.c p.mb p.ps X.cat
  blk : BlocksAt w p.b p.bb X.units X.blks
  slt : SlotsAt w p.s p.vs X.slots
  mem : MemAt w p.vm X.units X.things
  apart : p.F.Nodup
theorem MemAt.kept {w w' : World} {vm : Value} {u : Nat} {ts : List S.Thing} (h : MemAt w vm u ts) (hk : ∀ k, k ∈ rowF vm → w'.heap[k]? = w.heap[k]?) : MemAt w' vm u ts := by
  obtain ⟨mem, h1, h2⟩ := h
  exact ⟨mem, own_kept h1 (fun k hk' => hk k (mem_rowF.2 hk')), h2⟩
theorem HeapAt.c0 {w : World} {p : Parts} {X : S.Heap} (h : HeapAt w p X) : w.cell? ⟨p.H, 0, none⟩ = some (.pointer (some ⟨p.c, 0, none⟩)) := by simp [World.cell?, h.head]
theorem HeapAt.c1 {w : World} {p : Parts} {X : S.Heap} (h : HeapAt w p X) : w.cell? ⟨p.H, 1, none⟩ = some (.pointer (some ⟨p.b, 0, none⟩)) := by simp [World.cell?, h.head]
theorem HeapAt.c2 {w : World} {p : Parts} {X : S.Heap} (h : HeapAt w p X) : w.cell? ⟨p.H, 2, none⟩ = some (.pointer (some ⟨p.s, 0, none⟩)) := by simp [World.cell?, h.head]
theorem HeapAt.c3 {w : World} {p : Parts} {X : S.Heap} (h : HeapAt w p X) : w.cell? ⟨p.H, 3, none⟩ = some p.vm := by simp [World.cell?, h.head]
theorem mem_F {p : Parts} {k : Nat} : k ∈ p.F ↔ k = p.H ∨ k ∈ catF p.c p.mb p.ps ∨ k = p.b ∨ k = p.bb ∨ k = p.s ∨ k ∈ rowF p.vs ∨ k ∈ rowF p.vm := by
  simp only [Parts.F, List.mem_cons, List.mem_append]
theorem HeapAt.lt {w : World} {p : Parts} {X : S.Heap} (h : HeapAt w p X) : ∀ k, k ∈ p.F → k < w.heap.size := by
  intro k hk
  rcases mem_F.1 hk with rfl | hk | rfl | rfl | rfl | hk | hk
  · exact (Array.getElem?_eq_some_iff.1 h.head).1
  · exact h.cat.lt k hk
  · exact (Array.getElem?_eq_some_iff.1 h.blk.head).1
  · exact h.blk.map.lt
  · exact (Array.getElem?_eq_some_iff.1 h.slt.head).1
  · exact own_lt h.slt.row (mem_rowF.1 hk)
  · obtain ⟨mem, h1, -⟩ := h.mem
    exact own_lt h1 (mem_rowF.1 hk)
theorem HeapAt.calm {w : World} {p : Parts} {X : S.Heap} (h : HeapAt w p X) : Calm w p.F := by
  intro k cs t fr hk h3
  rcases mem_F.1 hk with rfl | hk | rfl | rfl | rfl | hk | hk
  · exact calm_cells h.head (by decide) (by decide) _ cs t fr (by simp) h3
  · exact h.cat.calm k cs t fr hk h3
  · exact calm_cells h.blk.head (by decide) (by decide) _ cs t fr (by simp) h3
  · obtain ⟨a, cl, hm⟩ := h.blk.map.obj
    exact calm_map hm _ cs t fr (by simp) h3
  · exact calm_cells h.slt.head (by decide) (by decide) _ cs t fr (by simp) h3
  · exact calm_row h.slt.row (by decide) (by decide) k cs t fr hk h3
  · obtain ⟨mem, h1, -⟩ := h.mem
    exact calm_row h1 (by decide) (by decide) k cs t fr hk h3
theorem HeapAt.kept {w w' : World} {p : Parts} {X : S.Heap} (h : HeapAt w p X) (hk : ∀ k, k ∈ p.F → w'.heap[k]? = w.heap[k]?)
    (hf : ∀ (b : Nat) (cs : Array Value) (t : TypeId) (fr : Nat × Nat), t = 147 ∨ t = 169 → w.heap[b]? = some (Obj.cells cs t fr) → w'.heap[b]? = some (Obj.cells cs t fr)) : HeapAt w' p X where
  head := (hk _ (mem_F.2 (.inl rfl))).trans h.head
  cat := h.cat.kept (fun k hk' => hk k (mem_F.2 (.inr (.inl hk')))) hf
  blk := h.blk.kept (hk _ (mem_F.2 (.inr (.inr (.inl rfl))))) (hk _ (mem_F.2 (.inr (.inr (.inr (.inl rfl))))))
  slt := h.slt.kept (hk _ (mem_F.2 (.inr (.inr (.inr (.inr (.inl rfl))))))) (fun k hk' => hk k (mem_F.2 (.inr (.inr (.inr (.inr (.inr (.inl hk'))))))))
  mem := h.mem.kept (fun k hk' => hk k (mem_F.2 (.inr (.inr (.inr (.inr (.inr (.inr hk'))))))))
  apart := h.apart
theorem HeapAt.only {w w' : World} {p : Parts} {X : S.Heap} {G : List Nat} (h : HeapAt w p X) (hO : Only G w w') (hC : Calm w G) (hd : ∀ k, k ∈ p.F → k ∉ G) : HeapAt w' p X :=
  h.kept (fun k hk => hO.block k (h.lt k hk) (hd k hk)) (hC.keeps hO)
theorem HeapAt.below {w w' : World} {p : Parts} {X : S.Heap} (h : HeapAt w p X) (hb : Below w.heap.size w w') : HeapAt w' p X :=
  h.only (Only.below hb []) (Calm.nil w) (fun _ _ => by simp)
theorem HeapAt.draw {w : World} {p : Parts} {X : S.Heap} (h : HeapAt w p X) (n : Nat) : HeapAt (w.drewN n) p X := h.kept (fun _ _ => rfl) (fun _ _ _ _ _ h => h)

set_option maxRecDepth 100000 in
set_option maxHeartbeats 2000000 in
theorem obj_newest (H c mb : Nat) (ps : List Spot) (C : List (S.Text × S.Kinds)) (a : S.Text) (k : S.Kinds) (T : S.Table) (w : World) (hH : w.cell? ⟨H, 0, none⟩ = some (.pointer (some ⟨c, 0, none⟩))) (h : CatAt w c mb ps C) (hn : getK C a = some k) (hk : k.ok) (hT : k.tabs.getLast? = some T) :
    Calls Tryz.prog 48 #[.pointer (some ⟨H, 0, none⟩), .string (S.mk a)] w fun e w' => ∃ v, e = .returned (.tuple #[.int .i64 k.newest, v, .int .i64 0]) ∧ w'.ownsRow w.heap.size 147 3 v T.new.length (T.new.map S.Field.cells).flatten ∧ Below w.heap.size w w' := by
  have hT2 : k.tabs[k.tabs.length - 1]? = some T := by rw [← List.getLast?_eq_getElem?]; exact hT
  have hN : k.newest = k.oldest + ((k.tabs.length - 1 : Nat) : Int) := by have := hk.2.1; unfold S.Kinds.newest; omega
  have hv := Hid.mk (schema_Versions c mb ps C a k w h hn hk)
  have hf : ∀ m, Hid (Calls Tryz.prog 75 #[.pointer (some ⟨c, 0, none⟩), .string (S.mk a), .int .i64 k.newest] (w.drewN m) fun e w' => ∃ v, e = .returned (.tuple #[v, .int .i64 0]) ∧ w'.ownsRow w.heap.size 147 3 v T.new.length (T.new.map S.Field.cells).flatten ∧ Below w.heap.size w w') := fun m => by
    rw [hN]
    have := schema_Fields c mb ps C a k (k.tabs.length - 1) T (w.drewN m) ⟨h.head, h.map.kept rfl, h.names, fun i p x hp hx => (h.sorts i p x hp hx).draw m, h.apart⟩ hn hk hT2
    exact this.mono fun e w' ⟨v, h1, h2, h3⟩ => ⟨v, h1, h2, ⟨h3.os, h3.tape, h3.output, h3.size, h3.block⟩⟩
  clear h hn hk hT hT2 hN
  go_enter Tryz.func48, Tryz.ntmps48
  go_wp2_with (first | (go_at_call 81; refine hv.out.mono ?_; rintro e w1 ⟨rfl, m, rfl⟩) | (go_at_call 75; refine (hf m).out.mono ?_; rintro e w2 ⟨v, rfl, ho, hb⟩; have ho1 := Hid.mk ho; have hb1 := Hid.mk hb; clear ho hb))
  go_ret3
  go_light
  exact ⟨_, rfl, ho1.out, hb1.out⟩

theorem rowF_nodup (v : Value) : (rowF v).Nodup := by
  unfold rowF
  cases v.ownBlock <;> simp
theorem heap_made {W : World} {p : Parts} {u n : Nat} (h0 : W.heap[p.H]? = some (.cells #[.pointer (some ⟨p.c, 0, none⟩), .pointer (some ⟨p.b, 0, none⟩), .pointer (some ⟨p.s, 0, none⟩), p.vm] 83 (0, 0)))
    (h1 : CatAt W p.c p.mb p.ps []) (hps : p.ps = []) (h2 : BlocksAt W p.b p.bb u []) (h3 : SlotsAt W p.s p.vs (List.replicate n S.noSlot)) (h4 : W.ownsRow 0 5 1 p.vm (u * 8) (List.replicate (u * 8) (.int .u8 0)))
    (n1 n2 : Nat) (hb : p.b < n1 ∧ p.bb < n1) (hs : n1 ≤ p.s ∧ p.s < n2) (hv : ∀ k, k ∈ rowF p.vs → n1 ≤ k ∧ k < n2 ∧ k ≠ p.s) (hc : n2 ≤ p.c ∧ n2 ≤ p.mb ∧ p.c < p.H ∧ p.mb < p.H) (hm : ∀ k, k ∈ rowF p.vm → n2 ≤ k ∧ k < p.H ∧ k ≠ p.c ∧ k ≠ p.mb) : HeapAt W p (S.Heap.new u n) := by
  refine ⟨h0, h1, h2, h3, ⟨List.replicate (u * 8) 0, ?_, by simp [S.Heap.new], fun t ht => by cases ht⟩, ?_⟩
  · rw [List.length_replicate, List.map_replicate]
    exact h4
  · have hcm : p.c ≠ p.mb := by
      have := h1.apart
      simp only [catF, List.nodup_cons, List.mem_cons, not_or] at this
      exact this.1.1
    have hbb := h2.ne
    have e : p.F = p.H :: p.c :: p.mb :: p.b :: p.bb :: p.s :: (rowF p.vs ++ rowF p.vm) := by simp [Parts.F, catF, hps]
    rw [e]
    simp only [List.nodup_cons, List.mem_cons, List.mem_append, not_or, List.nodup_append]
    have hnv : ∀ k, k < n1 ∨ n2 ≤ k ∨ k = p.s → k ∉ rowF p.vs := fun k hk h => by have := hv k h; omega
    have hnm : ∀ k, k < n2 ∨ p.H ≤ k ∨ k = p.c ∨ k = p.mb → k ∉ rowF p.vm := fun k hk h => by have := hm k h; omega
    refine ⟨⟨by omega, by omega, by omega, by omega, by omega, hnv _ (by omega), hnm _ (by omega)⟩, ⟨hcm, by omega, by omega, by omega, hnv _ (by omega), hnm _ (by omega)⟩, ⟨by omega, by omega, by omega, hnv _ (by omega), hnm _ (by omega)⟩, ⟨hbb, by omega, hnv _ (by omega), hnm _ (by omega)⟩, ⟨by omega, hnv _ (by omega), hnm _ (by omega)⟩, ⟨hnv _ (by omega), hnm _ (by omega)⟩, rowF_nodup _, rowF_nodup _, fun a ha b hb => by have := hv a ha; have := hm b hb; omega⟩

theorem info_byte : (Tryz.prog.info? 5).map (fun i => (i.zero, i.size, i.bytes)) = some (some (.int .u8 0), 1, 1) := by kernel_rfl
theorem make_bytes (n : Nat) (hn : n ≤ 1073741824) (W : World) : (Instr.makeSlice 81 (.int .i64 n) (.int .i64 n)).run Tryz.prog W = .ok (.slice (some ⟨W.heap.size, 0, none⟩) n n) (W.alloc (.cells (madeCells #[.int .u8 0] n) 5)) := by
  obtain ⟨i0, hi, hzz⟩ := Option.map_eq_some_iff.1 info_byte
  simp only [Prod.mk.injEq] at hzz
  obtain ⟨hz0, hz1, hz2⟩ := hzz
  have := run_make (P := Tryz.prog) W 81 5 i0 _ Tryz.underlying81 hi hz0 .i64 .i64 n n (by omega) (Int.le_refl _) (by rw [hz2]; omega) (by omega)
  rw [this, hz1]
  simp [Value.cells]
theorem made_bytes (n : Nat) (hn : n ≤ 1073741824) (W : World) : (W.alloc (.cells (madeCells #[.int .u8 0] n) 5)).ownsRow 0 5 1 (.slice (some ⟨W.heap.size, 0, none⟩) n n) n (List.replicate n (.int .u8 0)) := by
  have h := World.ownsRow_lit W (base := 0) (e := 5) (size := 1) (madeCells #[.int .u8 0] (n * 1)) n (Nat.zero_le _) (by unfold maxLen; omega) (size_madeCells _ _)
  rw [made_flat (by rfl), Nat.mul_one] at h
  simpa using h

theorem new_end {w w1 w2 W : World} {b bb s c mb H g u n : Nat} {vs : Value} (hb1 : Below w.heap.size w w1) (hb2 : Below w1.heap.size w1 w2) (hB : Below w2.heap.size w2 W) (hbl : BlocksAt w1 b bb u []) (h1 : w.heap.size ≤ b) (h2 : w.heap.size ≤ bb)
    (hsl : SlotsAt w2 s vs (List.replicate n S.noSlot)) (h3 : w1.heap.size ≤ s) (hvs : ∀ k, k ∈ rowF vs → w1.heap.size ≤ k ∧ k ≠ s) (hca : CatAt W c mb [] []) (h5 : w2.heap.size ≤ c) (h6 : w2.heap.size ≤ mb) (hc : c < H ∧ mb < H) (hg : w2.heap.size ≤ g ∧ g < H ∧ g ≠ c ∧ g ≠ mb)
    (hm : W.ownsRow 0 5 1 (.slice (some ⟨g, 0, none⟩) (u * 8) (u * 8)) (u * 8) (List.replicate (u * 8) (.int .u8 0)))
    (hH : W.heap[H]? = some (.cells #[.pointer (some ⟨c, 0, none⟩), .pointer (some ⟨b, 0, none⟩), .pointer (some ⟨s, 0, none⟩), .slice (some ⟨g, 0, none⟩) (u * 8) (u * 8)] 83 (0, 0))) :
    ∃ p : Parts, p.H = H ∧ HeapAt W p (S.Heap.new u n) ∧ (∀ k, k ∈ p.F → w.heap.size ≤ k) ∧ Below w.heap.size w W := by
  have z1 := hb1.size
  have z2 := hb2.size
  have lb : b < w1.heap.size := (Array.getElem?_eq_some_iff.1 hbl.head).1
  have lbb := hbl.map.lt
  have ls : s < w2.heap.size := (Array.getElem?_eq_some_iff.1 hsl.head).1
  have lv : ∀ k, k ∈ rowF vs → k < w2.heap.size := fun k hk => own_lt hsl.row (mem_rowF.1 hk)
  have hbW : Below w1.heap.size w1 W := below_then hb2 hB
  refine ⟨⟨H, c, mb, [], b, bb, s, vs, .slice (some ⟨g, 0, none⟩) (u * 8) (u * 8)⟩, rfl, heap_made hH hca rfl (hbl.kept (hbW.block _ lb) (hbW.block _ lbb)) (hsl.kept (hB.block _ ls) (fun k hk => hB.block _ (lv k hk))) hm w1.heap.size w2.heap.size ⟨lb, lbb⟩ ⟨h3, ls⟩ (fun k hk => ⟨(hvs k hk).1, lv k hk, (hvs k hk).2⟩) ⟨h5, h6, hc⟩ (fun k hk => ?_), fun k hk => ?_, below_then hb1 hbW⟩
  · rw [rowF_slice] at hk
    simp only [List.mem_singleton] at hk
    subst hk
    exact hg
  · rcases mem_F.1 hk with rfl | hk | rfl | rfl | rfl | hk | hk
    · omega
    · simp only [catF, List.flatMap_nil, List.mem_cons, List.not_mem_nil, or_false] at hk; omega
    · exact h1
    · exact h2
    · omega
    · have := (hvs k hk).1; omega
    · simp only [rowF_slice, List.mem_singleton] at hk; omega

set_option maxRecDepth 100000 in
set_option maxHeartbeats 2000000 in
theorem obj_New (u n : Nat) (hu : u ≤ 1024) (hn : n ≤ 256) (w : World) :
    Calls Tryz.prog 10 #[.int .i64 u, .int .i64 n] w fun e w' => ∃ p, e = .returned (.tuple #[.pointer (some ⟨p.H, 0, none⟩), .int .i64 0]) ∧ HeapAt w' p (S.Heap.new u n) ∧ (∀ k, k ∈ p.F → w.heap.size ≤ k) ∧ Below w.heap.size w w' := by
  have hmk : ∀ W : World, (Instr.makeSlice 81 (.int .i64 ((u : Int) * 8)) (.int .i64 ((u : Int) * 8))).run Tryz.prog W = .ok (.slice (some ⟨W.heap.size, 0, none⟩) (u * 8) (u * 8)) (W.alloc (.cells (madeCells #[.int .u8 0] (u * 8)) 5)) := fun W => by
    have := make_bytes (u * 8) (by omega) W
    simpa using this
  have e1 : IntKind.i64.wrap ((u : Int) * 8) = (u : Int) * 8 := by rw [IntWalk.i64_left]; unfold wrap64; omega
  go_enter Tryz.func10, Tryz.ntmps10
  go_wp2_with (first | (go_at_call 42; (with_reducible refine (blocks_New_yes (u : Int) (by omega) (by omega) _).mono ?_); rintro e w1 ⟨b, bb, rfl, hbl, h1, h2, hb⟩; have hb1 := Hid.mk hb; clear hb; have hbl1 := Hid.mk hbl; clear hbl) | (go_at_call 43; (with_reducible refine (slots_New_yes n hn _).mono ?_); rintro e w2 ⟨s, vs, rfl, hsl, h3, hvs, hb⟩; have hb2 := Hid.mk hb; clear hb; have hsl1 := Hid.mk hsl; have hvs1 := Hid.mk hvs; clear hsl hvs))
  go_region_held3 (fun _ => True) (trivial) (first | ((with_reducible refine (schema_New _).mono ?_); rintro e w3 ⟨c, mb, rfl, hca, h5, h6, hb⟩; have hb3 := Hid.mk hb; clear hb; have hca1 := Hid.mk hca; clear hca) | fail)
  all_goals go_wp2
  all_goals go_ret2
  all_goals go_light
  · have z3 : w2.heap.size ≤ w3.heap.size := hb3.out.size
    have hB : Below w2.heap.size w2 w3 := ⟨hb3.out.os, hb3.out.tape, hb3.out.output, hb3.out.size, hb3.out.block⟩
    have lc : c < w3.heap.size := hca1.out.lt c (by simp [catF])
    have lm : mb < w3.heap.size := hca1.out.lt mb (by simp [catF])
    obtain ⟨p, hp, k1, k2, k3⟩ := new_end (W := (w3.alloc (.cells (madeCells #[.int .u8 0] (u * 8)) 5)).alloc (.cells #[.pointer (some ⟨c, 0, none⟩), .pointer (some ⟨b, 0, none⟩), .pointer (some ⟨s, 0, none⟩), .slice (some ⟨w3.heap.size, 0, none⟩) (u * 8) (u * 8)] 83)) (H := w3.heap.size + 1) (g := w3.heap.size) hb1.out hb2.out ((hB.new_ _).new_ _) hbl1.out h1 h2 hsl1.out h3 hvs1.out ((hca1.out.below (below_one _ _)).below (below_one _ _)) h5 h6 (by omega) (by omega)
      (own_kept (made_bytes (u * 8) (by omega) w3) (fun k hk => Below.heap_alloc _ _ _ (by have := own_blk hk; simp; omega))) (by have := heap_alloc_new (w3.alloc (.cells (madeCells #[.int .u8 0] (u * 8)) 5)) (.cells #[.pointer (some ⟨c, 0, none⟩), .pointer (some ⟨b, 0, none⟩), .pointer (some ⟨s, 0, none⟩), .slice (some ⟨w3.heap.size, 0, none⟩) (u * 8) (u * 8)] 83); rwa [World.size_alloc] at this)
    exact ⟨p, by rw [hp]; rfl, k1, k2, k3⟩
  · have hz : (w2.alloc (.cells (madeCells #[.int .u8 0] (u * 8)) 5)).drew.heap.size = w2.heap.size + 1 := World.size_alloc w2 _
    have z3 : w2.heap.size + 1 ≤ w3.heap.size := by have := hb3.out.size; omega
    have hB : Below w2.heap.size w2 w3 := (show Below w2.heap.size w2 (w2.alloc (.cells (madeCells #[.int .u8 0] (u * 8)) 5)).drew from ((Below.refl _ w2).alloc (Nat.le_refl _) _).drew).trans (hb3.out.mono (by omega))
    have lc : c < w3.heap.size := hca1.out.lt c (by simp [catF])
    have lm : mb < w3.heap.size := hca1.out.lt mb (by simp [catF])
    have h5' : w2.heap.size + 1 ≤ c := by omega
    have h6' : w2.heap.size + 1 ≤ mb := by omega
    obtain ⟨p, hp, k1, k2, k3⟩ := new_end (W := w3.alloc (.cells #[.pointer (some ⟨c, 0, none⟩), .pointer (some ⟨b, 0, none⟩), .pointer (some ⟨s, 0, none⟩), .slice (some ⟨w2.heap.size, 0, none⟩) (u * 8) (u * 8)] 83)) (H := w3.heap.size) (g := w2.heap.size) hb1.out hb2.out (hB.new_ _) hbl1.out h1 h2 hsl1.out h3 hvs1.out (hca1.out.below (below_one _ _)) (by omega) (by omega) (by omega) (by omega)
      (own_kept (own_kept (made_bytes (u * 8) (by omega) w2).drew (fun k hk => hb3.out.block k (by have h9 : w2.heap.size = k := own_blk hk; omega))) (fun k hk => Below.heap_alloc _ _ _ (by have h9 : w2.heap.size = k := own_blk hk; omega))) (heap_alloc_new _ _)
    exact ⟨p, by rw [hp]; rfl, k1, k2, k3⟩
end Go.Proofs.YtdokiaicheillaaGreat
