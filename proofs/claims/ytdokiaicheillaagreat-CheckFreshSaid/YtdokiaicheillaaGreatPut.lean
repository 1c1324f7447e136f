/-
  The walks of blocks.Free, blocks.Long and object.put.
-/
import Derived.Test.YtdokiaicheillaaGreatBlocks
import Derived.Test.YtdokiaicheillaaGreatCopy
import Derived.Test.YtdokiaicheillaaGreatWord
namespace Go.Proofs.YtdokiaicheillaaGreat
open Go.RowKit

namespace S
def free (l : List (Int × Int)) (a : Int) : List (Int × Int) × Int := match getK l a with | some _ => (delK l a, 0) | none => (l, 101)
theorem mem_delK {K V : Type} [DecidableEq K] {l : List (K × V)} {a : K} {x : K × V} (h : x ∈ delK l a) : x ∈ l ∧ x.1 ≠ a := by
  simp only [delK, List.mem_filter, decide_eq_true_eq] at h
  exact ⟨h.1, fun e => h.2 e.symm⟩
theorem getK_pair {K V : Type} [DecidableEq K] {l : List (K × V)} {a : K} {v : V} (h : getK l a = some v) : (a, v) ∈ l := by
  obtain ⟨x, hx, rfl⟩ := Option.map_eq_some_iff.1 h
  have h1 := List.find?_some hx
  simp only [decide_eq_true_eq] at h1
  have h2 := List.mem_of_find?_eq_some hx
  rw [h1]; exact h2
end S

set_option maxRecDepth 100000 in
set_option maxHeartbeats 2000000 in
theorem blocks_Free (b mb : Nat) (u a : Int) (l : List (Int × Int)) (w : World) (h : BlocksAt w b mb u l) :
    Calls Tryz.prog 52 #[.pointer (some ⟨b, 0, none⟩), .int .i64 a] w fun e w' => e = .returned (.int .i64 (S.free l a).2) ∧ BlocksAt w' b mb u (S.free l a).1 ∧ Only [mb] w w' := by
  have c1 := h.c1
  have h1 := Hid.mk h
  cases hg : getK l a with
  | none =>
    have hS : S.free l a = (l, 101) := by simp [S.free, hg]
    have hl := run_look_none (P := Tryz.prog) (key_int Tryz.underlying3) Tryz.underlying159 h.map a hg (show (zeroValue 3).run Tryz.prog w = .ok (.int .i64 0) w by kernel_rfl) false
    rw [hS]
    clear h hg hS
    go_enter Tryz.func52, Tryz.ntmps52
    go_wp2
    go_ret
    go_light
    exact ⟨rfl, h1.out, Only.refl _ _⟩
  | some n =>
    have hS : S.free l a = (delK l a, 0) := by simp [S.free, hg]
    have hn : 1 ≤ n := (h.inside _ (S.getK_pair hg)).2.1
    have t1 : (n == 0) = false := by simp; omega
    have hl := run_look (P := Tryz.prog) (key_int Tryz.underlying3) Tryz.underlying159 h.map a hg false
    obtain ⟨o, hd, hm⟩ := run_del (P := Tryz.prog) (key_int Tryz.underlying3) Tryz.underlying159 h.map a 3 0
    have hm1 := Hid.mk hm
    rw [hS]
    clear h hg hS hm
    go_enter Tryz.func52, Tryz.ntmps52
    go_wp2
    go_ret
    go_light
    have hbm : b ≠ mb := h1.out.ne
    refine ⟨rfl, ⟨(World.putObj_heap_other hbm).trans h1.out.head, hm1.out, h1.out.u0, h1.out.u1, fun x hx => h1.out.inside x (S.mem_delK hx).1⟩, (Only.refl _ _).grown (grownBy_putObj' _ _ _) (fun k e => by cases e; exact .inl (by simp))⟩

namespace S
/-- The bytes of an object's block. -/
def block (name : Text) (ver : Nat) (b : List UInt8) : List UInt8 := (UInt8.ofNat name.length :: name) ++ List.replicate (15 - name.length) 0 ++ le 8 ver ++ b
end S

theorem own_cell {w : World} {base t size n g cap j : Nat} {xs : List Value} {u : Value} (h : w.ownsRow base t size (.slice (some ⟨g, 0, none⟩) n cap) n xs) (hu : xs[j]? = some u) :
    w.cell? ⟨g, j, none⟩ = some u ∧ w.frozen? ⟨g, j, none⟩ = false := by
  rcases h.2 with ⟨e, _⟩ | ⟨g', cap', cur, e, hb, hh, h2, h3, hs, ht⟩
  · cases e
  simp only [Value.slice.injEq, Option.some.injEq, Addr.mk.injEq, and_true, true_and] at e
  obtain ⟨rfl, rfl⟩ := e
  refine ⟨?_, by simp [World.frozen?, hh]⟩
  rw [← ht, List.getElem?_take] at hu
  split at hu
  · simp only [World.cell?, hh]
    simpa using hu
  · cases hu
theorem bytes_news {m : Mem} {ad : Addr} {l : List UInt8} (h : Bytes m (some ad) l) : ∀ j u, (l.map encByte)[j]? = some u → m (ad.add j) = some u := by
  intro j u hj
  rw [List.getElem?_map] at hj
  obtain ⟨c, hc, rfl⟩ := Option.map_eq_some_iff.1 hj
  obtain ⟨b, off, e, h2⟩ := h.2 j c hc
  simp only [Option.some.injEq] at e
  subst e
  have h3 := h2 0 _ rfl
  have ha : (⟨b, off, none⟩ : Addr).add j = ⟨b, off + j * 1 + 0, none⟩ := by unfold Addr.add; split <;> simp_all
  rw [ha]
  exact h3
theorem bytes_one (l : List UInt8) : ∀ u, u ∈ l.map encByte → u.oneCell' = true := fun u hu => by obtain ⟨c, -, rfl⟩ := List.mem_map.1 hu; rfl
theorem own_blk {g n c k : Nat} (h : (Value.slice (some ⟨g, 0, none⟩) n c).ownBlock = some k) : g = k := by simpa [Value.ownBlock] using h
theorem own_cap {w : World} {base t size n g cap : Nat} {xs : List Value} (h : w.ownsRow base t size (.slice (some ⟨g, 0, none⟩) n cap) n xs) : n ≤ cap := by
  rcases h.2 with ⟨e, _⟩ | ⟨g', cap', cur, e, hb, hh, h2, h3, hs, ht⟩
  · cases e
  simp only [Value.slice.injEq, Option.some.injEq, Addr.mk.injEq, and_true, true_and] at e
  obtain ⟨rfl, rfl⟩ := e
  exact h2
theorem own_some' {w : World} {base t size n : Nat} {v : Value} {xs : List Value} (h : w.ownsRow base t size v n xs) (hn : 0 < n) : ∃ g cap, v = .slice (some ⟨g, 0, none⟩) n cap := by
  rcases h.2 with ⟨rfl, e⟩ | ⟨g, cap, cur, rfl, _⟩
  · have := h.1
    subst e
    simp at this
    omega
  · exact ⟨_, _, rfl⟩
theorem own_add {w : World} {base t size n g cap j : Nat} {xs : List Value} {u : Value} (h : w.ownsRow base t size (.slice (some ⟨g, 0, none⟩) n cap) n xs) (hu : xs[j]? = some u) : w.cell? ((⟨g, 0, none⟩ : Addr).add j) = some u := by
  have ha : (⟨g, 0, none⟩ : Addr).add j = ⟨g, j, none⟩ := by unfold Addr.add; split <;> simp_all
  rw [ha]
  exact (own_cell h hu).1
theorem S.block_length {name : S.Text} {ver : Nat} {b : List UInt8} (hn : name.length ≤ 15) : (S.block name ver b).length = 24 + b.length := by
  simp [S.block, S.le_length]
  omega
theorem block_cells {name : S.Text} {ver : Nat} {b : List UInt8} (hn : name.length ≤ 15) :
    lay ((Value.int .u8 name.length) :: List.replicate 15 (.int .u8 0)) 1 ((S.tx (S.mk name)).map encByte) ++ (S.le 8 ver).map encByte ++ b.map encByte = (S.block name ver b).map encByte := by
  have h1 : encByte (UInt8.ofNat name.length) = .int .u8 name.length := by
    have h2 : (UInt8.ofNat name.length).toNat = name.length := by rw [UInt8.toNat_ofNat']; omega
    show Value.int .u8 ((UInt8.ofNat name.length).toNat : Int) = _
    rw [h2]
  have h3 : (List.replicate 15 (Value.int .u8 0)).drop name.length = (List.replicate (15 - name.length) (0 : UInt8)).map encByte := by
    rw [List.drop_replicate, List.map_replicate]; rfl
  simp only [lay, S.block, List.map_append, List.map_cons, h1, S.tx_mk, List.length_map, List.take_succ_cons, List.take_zero]
  rw [Nat.add_comm 1 name.length, List.drop_succ_cons, h3]
  simp
theorem byte_size : (Tryz.prog.info? 5).map (·.size) = some 1 := by kernel_rfl

set_option maxRecDepth 100000 in
set_option maxHeartbeats 4000000 in
theorem obj_put (H g cap M : Nat) (mem : List UInt8) (p : Nat) (name : S.Text) (ver : Nat) (ad : Addr) (cb : Nat) (b : List UInt8) (w : World)
    (hH : w.cell? ⟨H, 3, none⟩ = some (.slice (some ⟨g, 0, none⟩) M cap)) (hm : w.ownsRow 0 5 1 (.slice (some ⟨g, 0, none⟩) M cap) M (mem.map encByte)) (hM : M ≤ 8192) (hHg : H ≠ g)
    (hb : Bytes w.cell? (some ad) b) (hn : name.length ≤ 15) (hv : ver ≤ 9223372036854775807) (hfit : p * 8 + (24 + b.length) ≤ M) :
    Calls Tryz.prog 53 #[.pointer (some ⟨H, 0, none⟩), .agg #[.int .i64 p, .string (S.mk name), .int .i64 ver, .slice (some ad) b.length cb]] w fun e w' => e = .returned (.tuple #[]) ∧
      w'.ownsRow 0 5 1 (.slice (some ⟨g, 0, none⟩) M cap) M ((lay mem (p * 8) (S.block name ver b)).map encByte) ∧ Only [g] w w' := by
  obtain ⟨i0, hi, hzz⟩ := Option.map_eq_some_iff.1 clone_byte_info
  simp only [Prod.mk.injEq] at hzz
  obtain ⟨hz0, hz1, hz2⟩ := hzz
  have hHl : H < w.heap.size := World.block_lt_of_cell? w _ hH
  have hgl : g < w.heap.size := own_lt hm rfl
  -- the thing, and the row of 16
  have hb0 : Below w.heap.size w (w.alloc (.cells #[.int .i64 p, .string (S.mk name), .int .i64 ver, .slice (some ad) b.length cb] 110)) := below_one _ _
  have ht0 := heap_alloc_new w (.cells #[.int .i64 p, .string (S.mk name), .int .i64 ver, .slice (some ad) b.length cb] 110)
  obtain ⟨w1, hr1, ho1, hg1⟩ := run_make_full (P := Tryz.prog) (w := w.alloc (.cells #[.int .i64 p, .string (S.mk name), .int .i64 ver, .slice (some ad) b.length cb] 110)) (w.heap.size + 1) 81 5 i0 _ 1 Tryz.underlying81 hi hz0 hz1 .i64 .i64 16 (by rw [hz2]; decide) (by unfold maxLen; decide) (by simp)
  rw [World.size_alloc] at hr1 ho1
  have hB1 : Below w.heap.size w w1 := hb0.grown hg1 (by simp) (fun _ e => by cases e)
  have hzz : w.heap.size + 1 < w1.heap.size := own_lt ho1 rfl
  have ht1 : w1.heap[w.heap.size]? = some (.cells #[.int .i64 p, .string (S.mk name), .int .i64 ver, .slice (some ad) b.length cb] 110 (0, 0)) := (hg1.block _ (by simp) (by simp)).trans ht0
  have c0 : w1.cell? ⟨w.heap.size, 0, none⟩ = some (.int .i64 p) := by simp [World.cell?, ht1]
  have c1 : w1.cell? ⟨w.heap.size, 1, none⟩ = some (.string (S.mk name)) := by simp [World.cell?, ht1]
  have c2 : w1.cell? ⟨w.heap.size, 2, none⟩ = some (.int .i64 ver) := by simp [World.cell?, ht1]
  have c3 : w1.cell? ⟨w.heap.size, 3, none⟩ = some (.slice (some ad) b.length cb) := by simp [World.cell?, ht1]
  obtain ⟨x0, f0⟩ := own_cell (j := 0) ho1 (u := .int .u8 0) (by simp [madeCells, Value.cells])
  have hr1' : (Instr.makeSlice 81 (.int .i64 16) (.int .i64 16)).run Tryz.prog (w.alloc (.cells #[.int .i64 p, .string (S.mk name), .int .i64 ver, .slice (some ad) b.length cb] 110)) = .ok (.slice (some ⟨w.heap.size + 1, 0, none⟩) 16 16) w1 := hr1
  -- its first byte, and the name behind it
  have ho2 := own_set (j := 0) (u := .int .u8 name.length) ho1 (by simp [madeCells, Value.cells])
  obtain ⟨w3, hr3, ho3, hg3, hz3⟩ := run_copy_str (P := Tryz.prog) (w := (w1.setCell ⟨w.heap.size + 1, 0, none⟩ (.int .u8 name.length)).drew) 81 9 3 5 Tryz.underlying81 byte_size ho2.drew 1 15 15 (S.mk name) (show name.length ≤ 15 from hn) (show 1 + name.length ≤ 16 by omega)
  have hB3 : Below w.heap.size w w3 := ((hB1.setCell (by simp) _).drew).grown hg3 (by have := (KeepsWalks.setCell w1 ⟨w.heap.size + 1, 0, none⟩ (.int .u8 name.length)).size; have := hB1.size; show _ ≤ (w1.setCell _ _).heap.size; omega) (fun k e => by cases e; omega)
  have hne : ∀ k o, k < w.heap.size + 1 → w3.cell? ⟨k, o, none⟩ = w1.cell? ⟨k, o, none⟩ := fun k o hk => by
    have h1 : w3.heap[k]? = (w1.setCell ⟨w.heap.size + 1, 0, none⟩ (.int .u8 name.length)).heap[k]? := hg3.block k (by have := (KeepsWalks.setCell w1 ⟨w.heap.size + 1, 0, none⟩ (.int .u8 name.length)).size; show k < (w1.setCell _ _).heap.size; omega) (by simp; omega)
    rw [cell_block h1]
    exact World.cell?_setCell_other _ _ _ _ (by simp only [ne_eq, Addr.mk.injEq]; omega)
  have hx3 : (madeCells (Value.int IntKind.u8 0).cells (16 * 1)).toList.set 0 (.int .u8 name.length) = (Value.int .u8 name.length) :: List.replicate 15 (.int .u8 0) := by rw [made_flat (by rfl)]; rfl
  rw [hx3] at ho3
  have d0 := (hne w.heap.size 0 (by omega)).trans c0
  have d1 := (hne w.heap.size 1 (by omega)).trans c1
  have d2 := (hne w.heap.size 2 (by omega)).trans c2
  have d3 := (hne w.heap.size 3 (by omega)).trans c3
  have dH := (hne H 3 (by omega)).trans ((hB1.cell (p := ⟨H, 3, none⟩) hHl).trans hH)
  have hr3' : (Builtin.copy_ #[81, 9] 3 #[.slice (some ⟨w.heap.size + 1, 1, none⟩) 15 15, .string (S.mk name)]).run Tryz.prog (w1.setCell ⟨w.heap.size + 1, 0, none⟩ (.int .u8 name.length)).drew = .ok (goInt (name.length : Nat)) w3 := hr3
  have hz4 : w.heap.size + 1 < w3.heap.size := by have := hB3.size; have := own_lt ho3 rfl; omega
  have hput := word_Put (w.heap.size + 1) _ 16 _ 8 ver w3 ho3 (by omega) (by omega) (by omega) (by omega) (by simp [S.fits, S.width])
  have ho11 := Hid.mk ho1; have hg11 := Hid.mk hg1; have hB11 := Hid.mk hB1; have ht11 := Hid.mk ht1; have hm1 := Hid.mk hm; have hb1 := Hid.mk hb; have hi1 := Hid.mk hi; have hz01 := Hid.mk hz0; have hz11 := Hid.mk hz1; have hz21 := Hid.mk hz2; have hH1 := Hid.mk hH; have ho21 := Hid.mk ho2; have ho31 := Hid.mk ho3; have hg31 := Hid.mk hg3; have hB31 := Hid.mk hB3; have hput1 := Hid.mk hput; clear ho1 hg1 hB1 ht1 hm hb hi hz0 hz1 hz2 hH ho2 ho3 hg3 hB3 hput
  clear hb0 ht0 hr1 hne hx3 hr3 hz3
  go_enter Tryz.func53, Tryz.ntmps53
  go_wp2
  (refine wp_still_tail_d 4 (by kernel_rfl) (by kernel_rfl) ?_; simp only [List.take_succ_cons, List.take_zero, List.drop_succ_cons, List.drop_zero]; (repeat still_step); (try refine wpStill_nil ?_))
  refine wpl_copy rfl _ _ _ _ rfl _ _ rfl rfl hr3' ?_
  clear hr3' hr1' c0 c1 c2 c3 x0 f0
  go_wp2_with (go_at_call 98; refine hput1.out.mono ?_; rintro e w4 ⟨v4, rfl, ho4, hg4, hb4⟩; have ho41 := Hid.mk ho4; have hg41 := Hid.mk hg4; have hb41 := Hid.mk hb4; clear ho4 hg4 hb4)
  have hB4 : Below w.heap.size w w4 := hB31.out.grown hg41.out hB31.out.size (fun k e => by have := own_blk e; omega)
  have hg4c : ∀ k o, k < w.heap.size + 1 → w4.cell? ⟨k, o, none⟩ = w3.cell? ⟨k, o, none⟩ := fun k o hk => cell_block (hg41.out.block k (by omega) (fun e => by have := own_blk e.symm; omega))
  have e0 := (hg4c w.heap.size 0 (by omega)).trans d0
  have e3 := (hg4c w.heap.size 3 (by omega)).trans d3
  have eH := (hg4c H 3 (by omega)).trans dH
  have hT4 : w.heap.size < w4.heap.size := World.block_lt_of_cell? w4 _ e0
  have hTx : v4.ownBlock ≠ some w.heap.size := fun e => (hb41.out _ e).elim (fun h => by have := own_blk h; omega) (fun h => by omega)
  have hHx : v4.ownBlock ≠ some H := fun e => (hb41.out _ e).elim (fun h => by have := own_blk h; omega) (fun h => by omega)
  have hB5 : ∀ (n : Nat) (w5 : World), (w4.drewN n).grownBy w5 v4.ownBlock → Below w.heap.size w w5 := fun n w5 hg => (show Below w.heap.size w (w4.drewN n) from ⟨hB4.os, hB4.tape, hB4.output, hB4.size, hB4.block⟩).grown hg hB4.size (fun k e => (hb41.out _ e).elim (fun h => by have := own_blk h; omega) (fun h => by have := hB31.out.size; omega))
  have hnews := bytes_news (hb1.out.below hB4)
  have hB41 := Hid.mk hB4; have hB51 := Hid.mk hB5; have hnews1 := Hid.mk hnews; clear hB4 hB5 hnews
  clear hg4c d0 d1 d2 d3 dH
  have t0 : (0 : Int) ≤ (p : Int) * 8 := by omega
  have t1 : (p : Int) * 8 ≤ (M : Int) := by omega
  have hMc : M ≤ cap := own_cap hm1.out
  have t2 : IntKind.i64.wrap ((p : Int) * 8) = (p : Int) * 8 := by rw [IntWalk.i64_left]; unfold wrap64; omega
  have t3 : ((p : Int) * 8).toNat = p * 8 := by omega
  have t4 : ¬ cap = p * 8 := by omega
  have t5 : (M : Int) ≤ (cap : Int) := by omega
  go_region_held3 (fun w' => w'.cell? ⟨H, 3, none⟩ = some (.slice (some ⟨g, 0, none⟩) M cap) ∧ w'.cell? ⟨w.heap.size, 0, none⟩ = some (.int .i64 p) ∧ w'.cell? ⟨w.heap.size, 3, none⟩ = some (.slice (some ad) b.length cb))
    (first | go_keep | (go_split_ands; exact ⟨hg6.cell (by assumption) (by simpa using hHg), hg6.cell (by assumption) (by simp; omega), hg6.cell (by assumption) (by simp; omega)⟩) | (go_split_ands; exact ⟨hg5.cell (by assumption) (Ne.symm hHx), hg5.cell (by assumption) (Ne.symm hTx), hg5.cell (by assumption) (Ne.symm hTx)⟩))
    (first | (refine step_append (by rfl) _ _ 81 (by rfl) (w.heap.size + 1) 5 i0 _ 1 1 Tryz.underlying81 hi1.out hz01.out hz11.out hz21.out (by rfl) (by decide) v4 (16 + 8) _ (by rfl) (ho41.out.drew) ad b.length cb (b.map encByte) (by rfl) (by simp) hnews1.out (bytes_one b) (by unfold maxLen; omega) (by omega) (by simp; omega) ?_; intro v5 w5 ho5 hg5 h5 h6) | (obtain ⟨g5, c5, rfl⟩ := own_some' ho5 (by omega); rw [block_cells hn] at ho5; obtain ⟨w6, hr6, ho6, hg6, hz6⟩ := run_copy_own (P := Tryz.prog) (w := w5) 81 81 3 5 Tryz.underlying81 byte_size (own_kept hm1.out (fun k hk => (hB51.out 1 w5 hg5).block k (by have := own_blk hk; omega))) (p * 8) (M - p * 8) (cap - p * 8) (some ⟨g5, 0, none⟩) (16 + 8 + b.length) c5 ((S.block name ver b).map encByte) (by rw [List.length_map, S.block_length hn]; exact (Nat.min_eq_left (by omega)).symm) (fun _ => ⟨_, rfl, fun j v hj => own_add ho5 hj⟩) (bytes_one _) (by rw [List.length_map, S.block_length hn]; omega); refine step_copy (by rfl) _ _ _ _ (by rfl) _ _ (by rfl) (by rfl) hr6 ?_))
  go_wp2
  go_end0
  go_light
  refine ⟨rfl, ?_, (Only.below (hB51.out 1 w5 hg5) [g]).grown hg6 (fun k e => by cases e; exact .inl (by simp))⟩
  rw [lay_map]
  exact ho6
end Go.Proofs.YtdokiaicheillaaGreat
