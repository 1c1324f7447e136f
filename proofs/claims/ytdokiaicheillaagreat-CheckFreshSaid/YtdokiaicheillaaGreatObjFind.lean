/-
  The walk of object.find, at a good handle.
-/
import Derived.Test.YtdokiaicheillaaGreatPut
import Derived.Test.YtdokiaicheillaaGreatSlotFree
import Derived.Test.YtdokiaicheillaaGreatObjCopy
import Derived.Laws.BytesArg
import Derived.Laws.Tables
import Derived.Laws.CopyOwn
import Derived.Deep.RegionWith
namespace Go.Proofs.YtdokiaicheillaaGreat
open Go.RowKit

set_option maxHeartbeats 2000000 in
theorem blocks_Long (b mb : Nat) (u a : Int) (l : List (Int × Int)) (w : World) (h : BlocksAt w b mb u l) :
    Calls Tryz.prog 143 #[.pointer (some ⟨b, 0, none⟩), .int .i64 a] w fun e w' => e = .returned (.int .i64 ((getK l a).getD 0)) ∧ w' = w := by
  have c1 := h.c1
  cases hg : getK l a with
  | none =>
    have hl := run_look_none (P := Tryz.prog) (key_int Tryz.underlying3) Tryz.underlying159 h.map a hg (show (zeroValue 3).run Tryz.prog w = .ok (.int .i64 0) w by kernel_rfl) false
    clear h hg
    go_enter Tryz.func143, Tryz.ntmps143
    go_wp2
    go_ret
    go_light
    exact ⟨rfl, rfl⟩
  | some n =>
    have hl := run_look (P := Tryz.prog) (key_int Tryz.underlying3) Tryz.underlying159 h.map a hg false
    clear h hg
    go_enter Tryz.func143, Tryz.ntmps143
    go_wp2
    go_ret
    go_light
    exact ⟨rfl, rfl⟩
end Go.Proofs.YtdokiaicheillaaGreat

namespace Go.Proofs.YtdokiaicheillaaGreat
open Go.RowKit

theorem S.num_le : ∀ (k n : Nat), n < 256 ^ k → S.num (S.le k n) = n
  | 0, n, h => by simp at h; subst h; rfl
  | k + 1, n, h => by
    have : n / 256 < 256 ^ k := Nat.div_lt_of_lt_mul (by rwa [Nat.pow_succ, Nat.mul_comm] at h)
    rw [S.le, S.num, S.num_le k _ this, UInt8.toNat_ofNat']
    omega
/-- The part of a row of bytes that begins at s. -/
theorem Bytes.from {m : Mem} {g off s : Nat} {l : List UInt8} (h : Bytes m (some ⟨g, off, none⟩) l) (n : Nat) : Bytes m (some ⟨g, off + s, none⟩) ((l.drop s).take n) := by
  refine ⟨by have := h.1; rw [List.length_take, List.length_drop]; omega, fun i c hc => ⟨g, off + s, rfl, fun j v hv => ?_⟩⟩
  have hc2 : l[s + i]? = some c := by
    rw [List.getElem?_take] at hc
    split at hc
    · rwa [List.getElem?_drop] at hc
    · cases hc
  obtain ⟨b, o, e, hb⟩ := h.2 _ _ hc2
  cases e
  have := hb j v hv
  rw [Nat.mul_one] at this ⊢
  rwa [Nat.add_assoc off s i]

theorem mem_of_getK {K V : Type} [DecidableEq K] {l : List (K × V)} {a : K} {v : V} (h : getK l a = some v) : (a, v) ∈ l := by
  unfold getK at h
  obtain ⟨x, hx, rfl⟩ := Option.map_eq_some_iff.1 h
  have h1 := List.find?_some hx
  have h2 := List.mem_of_find?_eq_some hx
  simp only [decide_eq_true_eq] at h1
  rw [h1]
  exact h2
theorem S.block_num {nm : S.Text} {vr : Nat} {tb : List UInt8} (hn : nm.length ≤ 15) (hv : vr ≤ 1000000) : S.num (((S.block nm vr tb).drop 16).take 8) = vr := by
  have h16 : ((UInt8.ofNat nm.length :: nm) ++ List.replicate (15 - nm.length) 0).length = 16 := by simp; omega
  unfold S.block
  rw [List.append_assoc _ (S.le 8 vr) tb, List.drop_left' h16, List.take_left' (S.le_length 8 vr)]
  exact S.num_le 8 vr (by have : (256 : Nat) ^ 8 = 18446744073709551616 := by decide
                          omega)
theorem S.block_name {nm : S.Text} {vr : Nat} {tb : List UInt8} : ((S.block nm vr tb).drop 1).take nm.length = nm := by
  unfold S.block
  simp
theorem S.block_first {nm : S.Text} {vr : Nat} {tb : List UInt8} : (S.block nm vr tb)[0]? = some (UInt8.ofNat nm.length) := by
  unfold S.block
  simp
theorem S.block_rest {nm : S.Text} {vr : Nat} {tb : List UInt8} (hn : nm.length ≤ 15) : ((S.block nm vr tb).drop 24).take tb.length = tb := by
  have h24 : ((UInt8.ofNat nm.length :: nm) ++ List.replicate (15 - nm.length) 0 ++ S.le 8 vr).length = 24 := by simp [S.le_length]; omega
  unfold S.block
  rw [List.drop_left' h24, List.take_length]
theorem strOfNums_bytes (l : List UInt8) : strOfNums (l.map fun c => (c.toNat : Int)) = S.mk l := by
  have h := strOfNums_data (l.map fun c => (c.toNat : Int))
  have h2 : ((l.map fun c => (c.toNat : Int)).map fun n => UInt8.ofNat n.toNat) = l := by
    rw [List.map_map]
    conv => rhs; rw [← List.map_id l]
    refine List.map_congr_left fun c _ => ?_
    simp
  rw [h2] at h
  generalize strOfNums (l.map fun c => (c.toNat : Int)) = s at *
  obtain ⟨d⟩ := s
  simp only at h
  subst h
  simp [S.mk]
/-- Bytes as a text. -/
theorem run_text {W : World} {g off n c : Nat} {l : List UInt8} (h : Bytes W.cell? (some ⟨g, off, none⟩) l) (hn : n = l.length) : (convert 81 9 (.slice (some ⟨g, off, none⟩) n c)).run Tryz.prog W = .ok (.string (S.mk l)) W := by
  have := run_convert_bytes_arg (P := Tryz.prog) W 81 5 Tryz.underlying81 Tryz.underlying5 g off n c (l.map fun c => (c.toNat : Int)) (by rw [List.length_map, hn]) (fun i hi => by
    obtain ⟨b, o, e, hb⟩ := h.2 i (l[i]'(by omega)) (List.getElem?_eq_getElem _)
    cases e
    have := hb 0 _ rfl
    simp only [Nat.mul_one, Nat.add_zero] at this
    rw [this]
    simp [List.getD, List.getElem?_map, show i < l.length by omega]) 9 Tryz.underlying9
  rw [this, strOfNums_bytes]
theorem quad_cells {W : World} {p : Nat} {u0 u1 u2 u3 a b c d : Value} {t : TypeId} (h : W.heap[p]? = some (.cells #[u0, u1, u2, u3] t (0, 0))) :
    ((((W.setCell ⟨p, 0, none⟩ a).setCell ⟨p, 1, none⟩ b).setCell ⟨p, 2, none⟩ c).setCell ⟨p, 3, none⟩ d).cell? ⟨p, 0, none⟩ = some a ∧ ((((W.setCell ⟨p, 0, none⟩ a).setCell ⟨p, 1, none⟩ b).setCell ⟨p, 2, none⟩ c).setCell ⟨p, 3, none⟩ d).cell? ⟨p, 1, none⟩ = some b ∧
      ((((W.setCell ⟨p, 0, none⟩ a).setCell ⟨p, 1, none⟩ b).setCell ⟨p, 2, none⟩ c).setCell ⟨p, 3, none⟩ d).cell? ⟨p, 2, none⟩ = some c ∧ ((((W.setCell ⟨p, 0, none⟩ a).setCell ⟨p, 1, none⟩ b).setCell ⟨p, 2, none⟩ c).setCell ⟨p, 3, none⟩ d).cell? ⟨p, 3, none⟩ = some d := by
  obtain ⟨h0, -⟩ := heap_cell h (o := 0) (v := u0) rfl
  obtain ⟨h1, -⟩ := heap_cell h (o := 1) (v := u1) rfl
  obtain ⟨h2, -⟩ := heap_cell h (o := 2) (v := u2) rfl
  obtain ⟨h3, -⟩ := heap_cell h (o := 3) (v := u3) rfl
  have ne : ∀ (V : World) (i j : Nat) (v : Value), i ≠ j → (V.setCell ⟨p, i, none⟩ v).cell? ⟨p, j, none⟩ = V.cell? ⟨p, j, none⟩ := fun V i j v hij => World.cell?_setCell_other _ _ _ _ (by simp only [ne_eq, Addr.mk.injEq]; omega)
  refine ⟨?_, ?_, ?_, ?_⟩
  · rw [ne _ 3 0 _ (by decide), ne _ 2 0 _ (by decide), ne _ 1 0 _ (by decide)]
    exact World.cell?_setCell_same' _ _ _ (by rw [h0]; rfl)
  · rw [ne _ 3 1 _ (by decide), ne _ 2 1 _ (by decide)]
    exact World.cell?_setCell_same' _ _ _ (by rw [ne _ 0 1 _ (by decide), h1]; rfl)
  · rw [ne _ 3 2 _ (by decide)]
    exact World.cell?_setCell_same' _ _ _ (by rw [ne _ 1 2 _ (by decide), ne _ 0 2 _ (by decide), h2]; rfl)
  · exact World.cell?_setCell_same' _ _ _ (by rw [ne _ 2 3 _ (by decide), ne _ 1 3 _ (by decide), ne _ 0 3 _ (by decide), h3]; rfl)
theorem load_thing {w : World} {p : Nat} {v0 v1 v2 v3 : Value} (h0 : w.cell? ⟨p, 0, none⟩ = some v0) (h1 : w.cell? ⟨p, 1, none⟩ = some v1) (h2 : w.cell? ⟨p, 2, none⟩ = some v2) (h3 : w.cell? ⟨p, 3, none⟩ = some v3) :
    (loadVar 110 ⟨p, 0, none⟩).run Tryz.prog w = .ok (.agg #[v0, v1, v2, v3]) w := by
  simp [go_sem, h0, h1, h2, h3]

theorem thing_size : (Tryz.prog.info? 110).map (fun i => i.size) = some 4 := by kernel_rfl
theorem row4 {W : World} {p : Nat} {a b c d : Value} {t : TypeId} (h : W.heap[p]? = some (.cells #[a, b, c, d] t (0, 0))) : W.cell? ⟨p, 0, none⟩ = some a ∧ W.cell? ⟨p, 1, none⟩ = some b ∧ W.cell? ⟨p, 2, none⟩ = some c ∧ W.cell? ⟨p, 3, none⟩ = some d :=
  ⟨(heap_cell h (o := 0) rfl).1, (heap_cell h (o := 1) rfl).1, (heap_cell h (o := 2) rfl).1, (heap_cell h (o := 3) rfl).1⟩

set_option maxRecDepth 100000 in
set_option maxHeartbeats 8000000 in
theorem obj_find_yes (p : Parts) (X : S.Heap) (x : S.Handle) (sl : S.Slot) (t : S.Thing) (w : World) (h : HeapAt w p X) (hX : X.ok) (hg : S.goodAt X.slots x = some sl) (ht : t ∈ X.things) (hv : sl.v = t.at_) :
    Calls Tryz.prog 99 #[.pointer (some ⟨p.H, 0, none⟩), x.val] w fun e w' => ∃ g off c, e = .returned (.tuple #[.agg #[.int .i64 t.at_, .string (S.mk t.name), .int .i64 t.ver, .slice (some ⟨g, off, none⟩) t.b.length c], .int .i64 0]) ∧ Bytes w.cell? (some ⟨g, off, none⟩) t.b ∧ Below w.heap.size w w' := by
  obtain ⟨mem, hm, hml, hmt⟩ := h.mem
  have htk := hX.things t ht
  obtain ⟨A, cm, hvm, hbm, -⟩ := own_bytes hm rfl (by have := hX.units; omega)
  have hblk := hmt t ht
  have hbl := S.block_length (ver := t.ver) (b := t.b) htk.name
  have hwi := hX.within _ (mem_of_getK htk.blk)
  have hlong := htk.long
  have hu := hX.units
  obtain ⟨N, hN⟩ : ∃ N : Nat, N = 3 + t.b.length / 8 := ⟨_, rfl⟩
  have hN8 : 24 + t.b.length = N * 8 := by omega
  have hNi : (3 + ((t.b.length / 8 : Nat) : Int)) = (N : Int) := by rw [hN]; push_cast; rfl
  have hblkK := htk.blk
  rw [hNi] at hwi hblkK
  simp only at hwi
  have hwu : t.at_ + N ≤ X.units := by omega
  obtain ⟨g, off, rfl, -⟩ := hbm.2 (t.at_ * 8) (mem[t.at_ * 8]'(by omega)) (List.getElem?_eq_getElem _)
  have hB := Bytes.from (s := t.at_ * 8) hbm (24 + t.b.length)
  rw [hblk] at hB
  have hLong := fun W (hW : Below w.heap.size w W) => Hid.mk (blocks_Long p.b p.bb X.units t.at_ X.blks W ((h.below hW).blk))
  rw [hblkK] at hLong
  have hGet := fun W (hW : Below w.heap.size w W) => Hid.mk (slots_Get_yes p.s p.vs X.slots x sl hg W ((h.below hW).slt))
  rw [hv] at hGet
  have c1 := h.c1
  have c2 := h.c2
  have c3 := h.c3
  rw [hvm] at c3
  have hHl : p.H < w.heap.size := World.block_lt_of_cell? w _ c1
  generalize hpH : p.H = H at *
  generalize hpb : p.b = pb at *
  generalize hps : p.s = ps at *
  obtain ⟨a, hta⟩ : ∃ a, a = t.at_ := ⟨_, rfl⟩
  rw [← hta] at hwu hB hLong hGet ⊢
  rw [hml] at c3
  simp only [Option.getD_some] at hLong
  have hup : X.units * 8 ≤ cm := by
    have hm2 := hm
    rw [hvm] at hm2
    have e := own_off hm2
    subst e
    have := own_cap hm2
    omega
  have z8 : X.units * 8 ≤ 8192 := by omega
  have hU : (a + N) * 8 ≤ X.units * 8 := by omega
  generalize X.units * 8 = U at *
  obtain ⟨xs, xg⟩ := x
  generalize hnm : t.name = nm at *
  generalize hvr : t.ver = vr at *
  generalize htb : t.b = tb at *
  have hnl : nm.length ≤ 15 := hnm ▸ htk.name
  have hvl : vr ≤ 1000000 := hvr ▸ htk.ver
  clear hblkK htk hmt h hX hg ht hv hm hml hvm hbm hblk hu hwi hpH hpb hps hta hNi hnm hvr htb hwu
  have hB1 := Hid.mk hB; have hbl1 := Hid.mk hbl; have hN1 := Hid.mk hN; have hLong1 := Hid.mk hLong; have hGet1 := Hid.mk hGet; have hlong1 := Hid.mk hlong; clear hB hbl hN hLong hGet hlong
  -- the box of the handle, and the result's cell
  generalize hW : (w.alloc (.cells #[.int .i64 xs, .int .i64 xg] 51)).alloc (.cells #[.int .i64 0, .string ⟨#[]⟩, .int .i64 0, .slice none 0 0] 110) = W
  have hBW : Below w.heap.size w W := hW ▸ (below_one _ _).new_ _
  have z : W.heap.size = w.heap.size + 2 := by rw [← hW]; simp
  have q0 := two_cells w (.int .i64 xs) (.int .i64 xg) 51
  have b0 : W.cell? ⟨w.heap.size, 0, none⟩ = some (.int .i64 xs) := by rw [← hW, cell_alloc_old (by simp)]; exact q0.1
  have b1 : W.cell? ⟨w.heap.size, 1, none⟩ = some (.int .i64 xg) := by rw [← hW, cell_alloc_old (by simp)]; exact q0.2
  have hp : W.heap[w.heap.size + 1]? = some (.cells #[.int .i64 0, .string ⟨#[]⟩, .int .i64 0, .slice none 0 0] 110 (0, 0)) := by
    rw [← hW]
    have := heap_alloc_new (w.alloc (.cells #[.int .i64 xs, .int .i64 xg] 51)) (.cells #[.int .i64 0, .string ⟨#[]⟩, .int .i64 0, .slice none 0 0] 110)
    rwa [World.size_alloc] at this
  have d1 := (hBW.cell (p := ⟨H, 1, none⟩) hHl).trans c1
  have d2 := (hBW.cell (p := ⟨H, 2, none⟩) hHl).trans c2
  have d3 := (hBW.cell (p := ⟨H, 3, none⟩) hHl).trans c3
  have hBW1 : Hid (Below w.heap.size w W.drew) := hBW.drew
  clear q0 c1 c2 c3 hBW
  have hp1 := Hid.mk hp; clear hp
  go_enter Tryz.func99, Tryz.ntmps99
  go_wp2
  have hW1 := Hid.mk hW
  clear hW
  go_region_held3 (fun V => V.cell? ⟨H, 2, none⟩ = some (.pointer (some ⟨ps, 0, none⟩)) ∧ V.cell? ⟨w.heap.size, 0, none⟩ = some (.int .i64 xs) ∧ V.cell? ⟨w.heap.size, 1, none⟩ = some (.int .i64 xg)) (first | go_keep | (go_split_ands; exact ⟨(hb1.out.cell (p := ⟨H, 2, none⟩) (show H < W.heap.size by omega)).trans d2, (hb1.out.cell (p := ⟨w.heap.size, 0, none⟩) (show w.heap.size < W.heap.size by omega)).trans b0, (hb1.out.cell (p := ⟨w.heap.size, 1, none⟩) (show w.heap.size < W.heap.size by omega)).trans b1⟩)) (first | (go_at_call 128; (with_reducible refine (hGet1.out _ hBW1.out).out.mono ?_); rintro e w1 ⟨rfl, hb⟩; have hb1 := Hid.mk hb; clear hb) | fail)
  all_goals
    have hJ := Hid.mk (show Below w.heap.size w w1 from hBW1.out.trans (hb1.out.mono (by show w.heap.size ≤ W.heap.size; omega)))
    have e1 := (hb1.out.cell (p := ⟨H, 1, none⟩) (show H < W.heap.size by omega)).trans d1
    have e3 := (hb1.out.cell (p := ⟨H, 3, none⟩) (show H < W.heap.size by omega)).trans d3
    have hp1 := Hid.mk ((hb1.out.block (w.heap.size + 1) (show w.heap.size + 1 < W.heap.size by omega)).trans hp1.out)
    have hz1 : w.heap.size + 2 ≤ w1.heap.size := by have := hb1.out.size; have h9 : W.drew.heap.size = W.heap.size := rfl; omega
    clear d1 d2 d3 b0 b1 hGet1
    have t1 : IntKind.i64.wrap ((a : Int) * 8) = (a : Int) * 8 := by rw [IntWalk.i64_left]; unfold wrap64; omega
    have t2 : IntKind.i64.wrap ((a : Int) + (N : Int)) = (a : Int) + (N : Int) := by rw [IntWalk.i64_left]; unfold wrap64; omega
    have t3 : IntKind.i64.wrap (((a : Int) + (N : Int)) * 8) = ((a : Int) + (N : Int)) * 8 := by rw [IntWalk.i64_left]; unfold wrap64; omega
    have t4 : IntKind.i64.wrap (a : Int) = (a : Int) := by rw [IntWalk.i64_left]; unfold wrap64; omega
    have t5 : ((a : Int) * 8).toNat = a * 8 := by omega
    have t6 : (((a : Int) + (N : Int)) * 8).toNat = (a + N) * 8 := by omega
    have t7 : (0 : Int) ≤ (a : Int) * 8 := by omega
    have t8 : (a : Int) * 8 ≤ ((a : Int) + (N : Int)) * 8 := by omega
    have t9 : ((a : Int) + (N : Int)) * 8 ≤ (cm : Int) := by omega
    have t10 : ¬ cm = a * 8 := by omega
    go_wp2
    have hJd := Hid.mk (show Below w.heap.size w w1.drew from hJ.out.drew)
  all_goals go_region_with (first | (go_at_call 143; (with_reducible refine (hLong1.out _ hJd.out).out.mono ?_); rintro e w2 ⟨rfl, hw⟩; obtain rfl := hw.symm) | fail)
  all_goals
    obtain ⟨n, hn⟩ : ∃ n, n = N * 8 := ⟨_, rfl⟩
    obtain ⟨cc, hcc⟩ : ∃ cc, cm - a * 8 = cc := ⟨_, rfl⟩
    have hE : (a + N) * 8 - a * 8 = n := by omega
    have hnc : n ≤ cc := by omega
    have hnb : 24 + tb.length = n := by omega
    have hnc8 : cc ≤ cm := by omega
    have hWG : ∀ W, Below w.heap.size w W → Hid (Calls Tryz.prog 77 #[.slice (some ⟨g, off + a * 8, none⟩) n cc, .int .i64 16, .int .i64 8] W fun e w' => e = .returned (.tuple #[.int .u64 vr, .bool true]) ∧ Below W.heap.size W w') := fun W hW => by
      have := word_Get (some ⟨g, off + a * 8, none⟩) (S.block nm vr tb) cc 16 8 W (Row.below hB1.out hW) (by decide) (by rw [hbl1.out]; omega) (by rw [hbl1.out]; omega)
      rw [S.block_num hnl hvl, hbl1.out, hnb] at this
      exact this
    have hWG1 := Hid.mk hWG; have hn1 := Hid.mk hn; have hnb1 := Hid.mk hnb; clear hWG hn hnb
    clear t1 t2 t3 t5 t6 t7 t8 t9 t10 e1 e3 hLong1
    go_wp2_with (go_at_call 77; (with_reducible refine (hWG1.out _ hJd.out).out.mono ?_); rintro e w3 ⟨rfl, hb⟩; have hb3 := Hid.mk hb; clear hb)
  all_goals
    have hJ3 : Below w.heap.size w w3 := hJd.out.trans (hb3.out.mono (by show w.heap.size ≤ w1.heap.size; omega))
    have hp3 := Hid.mk ((hb3.out.block (w.heap.size + 1) (show w.heap.size + 1 < w1.heap.size by omega)).trans hp1.out)
    obtain ⟨s0, f0⟩ := heap_cell hp3.out (o := 0) (v := .int .i64 0) rfl
    obtain ⟨s1, f1⟩ := heap_cell hp3.out (o := 1) (v := .string ⟨#[]⟩) rfl
    obtain ⟨s2, f2⟩ := heap_cell hp3.out (o := 2) (v := .int .i64 0) rfl
    obtain ⟨s3, f3⟩ := heap_cell hp3.out (o := 3) (v := .slice none 0 0) rfl
    have hBy : Bytes w3.cell? (some ⟨g, off + a * 8, none⟩) (S.block nm vr tb) := Row.below hB1.out hJ3
    have k0 : w3.cell? ⟨g, off + a * 8, none⟩ = some (.int .u8 (nm.length : Int)) := by
      obtain ⟨b, o, e, hb⟩ := hBy.2 0 _ S.block_first
      cases e
      have := hb 0 _ rfl
      simp only [Nat.zero_mul, Nat.add_zero] at this
      rw [this, UInt8.toNat_ofNat', Nat.mod_eq_of_lt (by omega)]
    have hcv1 : ∀ c : Nat, (convert 81 9 (.slice (some ⟨g, off + a * 8 + 1, none⟩) nm.length c)).run Tryz.prog w3.drew = .ok (.string (S.mk nm)) w3.drew := fun c => by
      have h1 := Bytes.from (s := 1) hBy nm.length
      rw [S.block_name] at h1
      exact run_text (W := w3.drewN 1) h1 rfl
    have t5 : IntKind.u8.wrap (1 + (nm.length : Int)) = 1 + (nm.length : Int) := by rw [IntKind.wrap_u8]; omega
    have t6 : (1 + (nm.length : Int)).toNat = 1 + nm.length := by omega
    have t7 : 1 + nm.length - 1 = nm.length := by omega
    have t8 : IntKind.i64.wrap (vr : Int) = (vr : Int) := by rw [IntWalk.i64_left]; unfold wrap64; omega
    have t9 : (1 : Int) ≤ 1 + (nm.length : Int) := by omega
    have hnb2 := hnb1.out
    have hJx := Hid.mk hJ3
    have hBz := Hid.mk hBy
    clear hJ3 hBy hN8 hn1 hnb1
    have hp4 : Hid (w3.drew.heap[w.heap.size + 1]? = some (.cells #[.int .i64 0, .string ⟨#[]⟩, .int .i64 0, .slice none 0 0] 110 (0, 0))) := hp3.out
    clear s0 s1 s2 s3 f0 f1 f2 f3
    by_cases t15 : cc = 24
    · obtain rfl : n = 24 := by omega
      have hl0 : tb.length = 0 := by omega
      obtain rfl := t15.symm
      have t10 : 1 + (nm.length : Int) ≤ 24 := by omega
      have hnb21 := Hid.mk hnb2; have hcc1 := Hid.mk hcc; have hE1 := Hid.mk hE; have hl01 := Hid.mk hl0; clear hnb2 hcc hE hl0
      clear hcc1 hE1
      go_wp2
      (refine wp_still_tail_d 13 (by kernel_rfl) (by kernel_rfl) ?_; simp only [List.take_succ_cons, List.take_zero, List.drop_succ_cons, List.drop_zero]; (repeat still_step); (try refine wpStill_nil ?_))
      clear t10
      clear k0 hcv1 hWG1 t5 t6 t7 t8 t9
      refine wpList_store_row rfl 110 _ _ rfl (w.heap.size + 1) #[.int .i64 a, .string (S.mk nm), .int .i64 vr, .slice (some ⟨g, off + a * 8, none⟩) 0 0] rfl rfl 110 _ hp4.out thing_size rfl (by simp [Value.oneCell']) ?_
      obtain ⟨y0, y1, y2, y3⟩ := row4 (setRow_heap w3.drew (w.heap.size + 1) _ #[.int .i64 a, .string (S.mk nm), .int .i64 vr, .slice (some ⟨g, off + a * 8, none⟩) 0 0] _ _ hp4.out)
      have hBf := below_setRow hJx.out.drew (Nat.le_succ _) #[.int .i64 a, .string (S.mk nm), .int .i64 vr, .slice (some ⟨g, off + a * 8, none⟩) 0 0]
      generalize w3.drew.setRow (w.heap.size + 1) #[.int .i64 a, .string (S.mk nm), .int .i64 vr, .slice (some ⟨g, off + a * 8, none⟩) 0 0] = W9 at *
      have y01 := Hid.mk y0; have y11 := Hid.mk y1; have y21 := Hid.mk y2; have y31 := Hid.mk y3; have hBf1 := Hid.mk hBf; clear y0 y1 y2 y3 hBf
      go_wp2
      go_light
      refine bodyPost_ret (results_ct rfl _ _ _ rfl (load_thing y01.out y11.out y21.out y31.out)) rfl ⟨g, off + a * 8, 0, by rw [hl01.out]; rfl, ?_, hBf1.out⟩
      rw [List.eq_nil_of_length_eq_zero hl01.out]
      exact Row.nil _ _ _ _
    · have t10 : 1 + (nm.length : Int) ≤ (cc : Int) := by omega
      have t11 : ¬ cc = 1 := by omega
      have t12 : (24 : Int) ≤ (n : Int) := by omega
      have t12b : 24 ≤ n := by omega
      have t13 : n - 24 = tb.length := by omega
      have t14 : (n : Int) ≤ (cc : Int) := by omega
      have t16 : 0 < n := by omega
      have t17 : (0 : Int) < (n : Int) := by omega
      have hnb21 := Hid.mk hnb2; have hcc1 := Hid.mk hcc; have hE1 := Hid.mk hE; clear hnb2 hcc hE
      clear hcc1 hE1
      go_wp2
      (refine wp_still_tail_d 13 (by kernel_rfl) (by kernel_rfl) ?_; simp only [List.take_succ_cons, List.take_zero, List.drop_succ_cons, List.drop_zero]; (repeat still_step); (try refine wpStill_nil ?_))
      clear t10 t11 t12 t12b t13 t14 t15 t16 t17
      clear k0 hcv1 hWG1 t5 t6 t7 t8 t9
      refine wpList_store_row rfl 110 _ _ rfl (w.heap.size + 1) #[.int .i64 a, .string (S.mk nm), .int .i64 vr, .slice (some ⟨g, off + a * 8 + 24, none⟩) tb.length (cc - 24)] rfl rfl 110 _ hp4.out thing_size rfl (by simp [Value.oneCell']) ?_
      obtain ⟨y0, y1, y2, y3⟩ := row4 (setRow_heap w3.drew (w.heap.size + 1) _ #[.int .i64 a, .string (S.mk nm), .int .i64 vr, .slice (some ⟨g, off + a * 8 + 24, none⟩) tb.length (cc - 24)] _ _ hp4.out)
      have hBf := below_setRow hJx.out.drew (Nat.le_succ _) #[.int .i64 a, .string (S.mk nm), .int .i64 vr, .slice (some ⟨g, off + a * 8 + 24, none⟩) tb.length (cc - 24)]
      generalize w3.drew.setRow (w.heap.size + 1) #[.int .i64 a, .string (S.mk nm), .int .i64 vr, .slice (some ⟨g, off + a * 8 + 24, none⟩) tb.length (cc - 24)] = W9 at *
      have y01 := Hid.mk y0; have y11 := Hid.mk y1; have y21 := Hid.mk y2; have y31 := Hid.mk y3; have hBf1 := Hid.mk hBf; clear y0 y1 y2 y3 hBf
      go_wp2
      go_light
      have hfin := Bytes.from (s := 24) hB1.out tb.length
      rw [S.block_rest hnl] at hfin
      exact bodyPost_ret (results_ct rfl _ _ _ rfl (load_thing y01.out y11.out y21.out y31.out)) rfl ⟨g, off + a * 8 + 24, cc - 24, rfl, hfin, hBf1.out⟩
end Go.Proofs.YtdokiaicheillaaGreat
