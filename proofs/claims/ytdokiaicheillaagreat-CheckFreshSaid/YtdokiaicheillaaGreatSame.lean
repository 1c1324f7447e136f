/-
  The walk of table.Same.
-/
import Derived.Test.YtdokiaicheillaaGreatSlots
import Derived.Test.YtdokiaicheillaaGreatPut
import Derived.Deep.DeepMust
import Derived.Test.YtdokiaicheillaaGreatSchema
namespace Go.Proofs.YtdokiaicheillaaGreat
open Go.RowKit

namespace S
def packs (h : Handle) : Bool := decide (0 ≤ h.slot) && decide (h.slot < 65536) && decide (1 ≤ h.gen) && decide (h.gen ≤ 65535)
def pack (h : Handle) : Int := if packs h then h.slot * 65536 + h.gen else 0
def unpack (n : Int) : Handle := if 4294967296 ≤ n ∨ n % 65536 = 0 then noHandle else ⟨n / 65536, n % 65536⟩
end S

set_option maxHeartbeats 1000000 in
theorem slots_Pack_yes (h : S.Handle) (w : World) (hp : S.packs h = true) :
    Calls Tryz.prog 54 #[h.val] w fun e w' => e = .returned (.int .u64 (S.pack h)) ∧ Below w.heap.size w w' := by
  have hq := hp
  simp only [S.packs, Bool.and_eq_true, decide_eq_true_eq] at hq
  obtain ⟨⟨⟨h0, h1⟩, h2⟩, h3⟩ := hq
  have hpk : S.pack h = h.slot * 65536 + h.gen := by rw [S.pack, if_pos hp]
  rw [hpk]
  obtain ⟨s, g⟩ := h
  dsimp only at *
  have t1 : decide (s < 0) = false := by simp; omega
  have t2 : decide (65536 ≤ s) = false := by simp; omega
  have t3 : decide (g < 1) = false := by simp; omega
  have t4 : decide (65535 < g) = false := by simp; omega
  clear hp hpk
  go_enter Tryz.func54, Tryz.ntmps54
  go_wp2
  go_ret
  go_light
  exact ⟨rfl, below_one _ _⟩

set_option maxHeartbeats 2000000 in
theorem slots_Pack_no (h : S.Handle) (w : World) (hp : S.packs h = false) :
    Calls Tryz.prog 54 #[h.val] w fun e w' => e = .returned (.int .u64 (S.pack h)) ∧ Below w.heap.size w w' := by
  have hpk : S.pack h = 0 := by rw [S.pack, if_neg (by simp [hp])]
  rw [hpk]
  simp only [S.packs, Bool.and_eq_false_iff, decide_eq_false_iff_not] at hp
  obtain ⟨s, g⟩ := h
  dsimp only at *
  clear hpk
  by_cases h0 : s < 0
  · have t1 : decide (s < 0) = true := by simp [h0]
    clear hp
    go_enter Tryz.func54, Tryz.ntmps54
    go_wp2
    go_ret
    go_light
    exact ⟨rfl, below_one _ _⟩
  have t1 : decide (s < 0) = false := by simp; omega
  by_cases h1 : 65536 ≤ s
  · have t2 : decide (65536 ≤ s) = true := by simp [h1]
    clear hp
    go_enter Tryz.func54, Tryz.ntmps54
    go_wp2
    go_ret
    go_light
    exact ⟨rfl, below_one _ _⟩
  have t2 : decide (65536 ≤ s) = false := by simp; omega
  by_cases h2 : g < 1
  · have t3 : decide (g < 1) = true := by simp [h2]
    clear hp
    go_enter Tryz.func54, Tryz.ntmps54
    go_wp2
    go_ret
    go_light
    exact ⟨rfl, below_one _ _⟩
  have t3 : decide (g < 1) = false := by simp; omega
  have h3 : 65535 < g := by omega
  have t4 : decide (65535 < g) = true := by simp [h3]
  clear hp
  go_enter Tryz.func54, Tryz.ntmps54
  go_wp2
  go_ret
  go_light
  exact ⟨rfl, below_one _ _⟩

theorem slots_Pack (h : S.Handle) (w : World) : Calls Tryz.prog 54 #[h.val] w fun e w' => e = .returned (.int .u64 (S.pack h)) ∧ Below w.heap.size w w' := by
  cases hp : S.packs h
  · exact slots_Pack_no h w hp
  · exact slots_Pack_yes h w hp

theorem pair_new (w : World) (a b : Value) (t : TypeId) : (w.alloc (.cells #[a, b] t)).cell? ⟨w.heap.size, 0, none⟩ = some a ∧ (w.alloc (.cells #[a, b] t)).cell? ⟨w.heap.size, 1, none⟩ = some b := by
  have h : (w.alloc (.cells #[a, b] t)).heap[w.heap.size]? = some (.cells #[a, b] t (0, 0)) := heap_alloc_new _ _
  constructor <;> simp only [World.cell?, h] <;> rfl
theorem results_c {fn : Func} {t : Tmp} {ty : TypeId} (h : fn.results = #[.cell t ty]) (tmps : Array Value) (P : Program) (w : World) {a : Addr} {v : Value} (ha : tmps.getD t undef = .pointer (some a)) (hl : (loadVar ty a).run P w = .ok v w) :
    (results fn tmps).run P w = .ok v w := by
  have ha2 : tmps[t]?.getD undef = .pointer (some a) := by rw [← Array.getD_eq_getD_getElem?]; exact ha
  simp [results, h, ha2, hl, asAddr]

set_option maxHeartbeats 2000000 in
theorem slots_Unpack (n : Int) (h0 : 0 ≤ n) (h1 : n ≤ 18446744073709551615) (w : World) :
    Calls Tryz.prog 78 #[.int .u64 n] w fun e w' => e = .returned (S.unpack n).val ∧ Below w.heap.size w w' := by
  by_cases hb : 4294967296 ≤ n
  · have t1 : decide (4294967296 ≤ n) = true := by simp [hb]
    have hu : S.unpack n = S.noHandle := by rw [S.unpack, if_pos (.inl hb)]
    go_enter Tryz.func78, Tryz.ntmps78
    go_wp2
    refine bodyPost_ret (results_c rfl _ _ _ rfl (load_handle (v0 := .int .i64 0) (v1 := .int .i64 0) (pair_new w _ _ _).1 (pair_new w _ _ _).2)) rfl ?_
    exact ⟨by first | rfl | (rw [hu]; rfl), below_one _ _⟩
  · have t1 : decide (4294967296 ≤ n) = false := by simp; omega
    by_cases hz : n % 65536 = 0
    · have t2 : (n % 65536 == 0) = true := by simp [hz]
      have hu : S.unpack n = S.noHandle := by rw [S.unpack, if_pos (.inr hz)]
      go_enter Tryz.func78, Tryz.ntmps78
      go_wp2
      refine bodyPost_ret (results_c rfl _ _ _ rfl (load_handle (v0 := .int .i64 0) (v1 := .int .i64 0) (pair_new w _ _ _).1 (pair_new w _ _ _).2)) rfl ?_
      exact ⟨by first | rfl | (rw [hu]; rfl), below_one _ _⟩
    · have t2 : (n % 65536 == 0) = false := by simp [hz]
      have hu : S.unpack n = ⟨n / 65536, n % 65536⟩ := by rw [S.unpack, if_neg (by omega)]
      go_enter Tryz.func78, Tryz.ntmps78
      go_wp2
      refine bodyPost_ret (results_c rfl _ _ _ rfl (load_handle (v0 := .int .i64 (n / 65536)) (v1 := .int .i64 (n % 65536)) (pair_new w _ _ _).1 (pair_new w _ _ _).2)) rfl ?_
      exact ⟨by first | rfl | (rw [hu]; rfl), below_one _ _⟩
end Go.Proofs.YtdokiaicheillaaGreat

namespace Go.Proofs.YtdokiaicheillaaGreat
open Go.RowKit

theorem heap_set_at {w : World} {k o : Nat} {cs : Array Value} {t : TypeId} {fr : Nat × Nat} (h : w.heap[k]? = some (.cells cs t fr)) (v : Value) : (w.setCell ⟨k, o, none⟩ v).heap[k]? = some (.cells (cs.setIfInBounds o v) t fr) := by
  show (w.heap.modify k _)[k]? = _
  rw [Array.getElem?_modify, if_pos rfl, h]
  rfl
theorem heap_cell {w : World} {k o : Nat} {cs : Array Value} {t : TypeId} (h : w.heap[k]? = some (.cells cs t (0, 0))) {v : Value} (hv : cs[o]? = some v) : w.cell? ⟨k, o, none⟩ = some v ∧ w.frozen? ⟨k, o, none⟩ = false := by
  constructor
  · simp [World.cell?, h, hv]
  · simp [World.frozen?, h]

theorem news_new (w : World) (cs : Array Value) (t : TypeId) (news : List Value) (h : cs.toList = news) : ∀ j u, news[j]? = some u → (w.alloc (.cells cs t)).cell? ((⟨w.heap.size, 0, none⟩ : Addr).add j) = some u := by
  intro j u hj
  have ha : (⟨w.heap.size, 0, none⟩ : Addr).add j = ⟨w.heap.size, j, none⟩ := by unfold Addr.add; split <;> simp_all
  rw [ha]
  exact (heap_cell (heap_alloc_new w (.cells cs t)) (by rw [← h] at hj; simpa using hj)).1
/-- What the loop of Same keeps. -/
def sameInv (W0 : World) (T : Nat) (vo vn : Value) (i : Nat) (wr : World) : Prop :=
  ∃ vm, wr.heap[T]? = some (.cells #[vo, vn, vm] 96 (0, 0)) ∧ wr.ownsRow W0.heap.size 169 4 vm i ((S.sameFrom i).map S.Move.cells).flatten ∧ Only [T] W0 wr
theorem S.same_succ (i : Nat) : ((S.sameFrom (i + 1)).map S.Move.cells).flatten = ((S.sameFrom i).map S.Move.cells).flatten ++ S.Move.cells ⟨i, S.noVal⟩ := by
  simp [S.sameFrom, List.range_succ]
theorem load_table {w : World} {p : Nat} {v0 v1 v2 : Value} (h : w.heap[p]? = some (.cells #[v0, v1, v2] 96 (0, 0))) :
    (loadVar 96 ⟨p, 0, none⟩).run Tryz.prog w = .ok (.agg #[v0, v1, v2]) w := by
  have h0 : w.cell? ⟨p, 0, none⟩ = some v0 := (heap_cell h (o := 0) rfl).1
  have h1 : w.cell? ⟨p, 1, none⟩ = some v1 := (heap_cell h (o := 1) rfl).1
  have h2 : w.cell? ⟨p, 2, none⟩ = some v2 := (heap_cell h (o := 2) rfl).1
  simp [go_sem, h0, h1, h2]

set_option maxRecDepth 100000 in
set_option maxHeartbeats 4000000 in
theorem table_Same (A : Option Addr) (c : Nat) (l : List S.Field) (w : World) (hl : Fields w.cell? A l) (hA : A = none → c = 0) (hs : Short l) (hr : S.right l = true) :
    Calls Tryz.prog 47 #[.slice A l.length c] w fun e w' => ∃ vo vn vm, e = .returned (.agg #[vo, vn, vm]) ∧ w'.ownsRow w.heap.size 147 3 vo l.length (l.map S.Field.cells).flatten ∧ w'.ownsRow w.heap.size 147 3 vn l.length (l.map S.Field.cells).flatten ∧
      w'.ownsRow w.heap.size 169 4 vm l.length ((S.sameFrom l.length).map S.Move.cells).flatten ∧ (∀ k, vo.ownBlock = some k → vn.ownBlock ≠ some k) ∧ Below w.heap.size w w' := by
  have h16 := S.right_len hr
  have hb0 := below_one w (.cells #[.slice none 0 0, .slice none 0 0, .slice none 0 0] 96)
  have hR := field_Right A c l (w.alloc (.cells #[.slice none 0 0, .slice none 0 0, .slice none 0 0] 96)) (hl.below hb0) hs
  rw [hr] at hR
  have hcl : ∀ W, Below w.heap.size w W → Hid (Calls Tryz.prog 95 #[.slice A l.length c] W fun e w' => ∃ v, e = .returned v ∧ w'.ownsRow W.heap.size 147 3 v l.length (l.map S.Field.cells).flatten ∧ Below W.heap.size W w') := fun W hW => by
    have := clone_Field A c (l.map S.Field.cells) W (Row.id.1 (hl.below hW)) (field_rows _) (field_one _) hA
    rwa [List.length_map] at this
  have hb01 := Hid.mk hb0; have hR1 := Hid.mk hR; have hl1 := Hid.mk hl; have hs1 := Hid.mk hs; clear hb0 hR hl hs
  clear hr
  go_enter Tryz.func47, Tryz.ntmps47
  go_wp2_with (first | (go_at_call 46; refine hR1.out.mono ?_; rintro e w1 ⟨rfl, hb⟩; have hB1 := Hid.mk (below_then hb01.out hb); have hbr := Hid.mk hb; clear hb) | (go_at_call 95; refine (hcl _ hB2.out).out.mono ?_; rintro e w3 ⟨vn, rfl, ho, hb⟩; obtain ⟨An, cn, rfl⟩ := own_slice ho; have hB3 := Hid.mk (below_then hB2.out hb); have hon := Hid.mk ho; have hbn := Hid.mk hb; clear ho hb) | (go_at_call 95; refine (hcl _ hB1.out).out.mono ?_; rintro e w2 ⟨vo, rfl, ho, hb⟩; obtain ⟨Ao, co, rfl⟩ := own_slice ho; have hB2 := Hid.mk (below_then hB1.out hb); have hoo := Hid.mk ho; have hbo := Hid.mk hb; clear ho hb))
  obtain ⟨vo, hvo⟩ : ∃ vo, Value.slice Ao l.length co = vo := ⟨_, rfl⟩
  obtain ⟨vn, hvn⟩ : ∃ vn, Value.slice An l.length cn = vn := ⟨_, rfl⟩
  rw [hvo] at hoo
  rw [hvn] at hon
  have hR0 : (w.alloc (.cells #[.slice none 0 0, .slice none 0 0, .slice none 0 0] 96)).heap[w.heap.size]? = some (.cells #[.slice none 0 0, .slice none 0 0, .slice none 0 0] 96 (0, 0)) := heap_alloc_new _ _
  have hr1 := (hbr.out.block w.heap.size (by simp)).trans hR0
  have hz1 : w.heap.size < w1.heap.size := (Array.getElem?_eq_some_iff.1 hr1).1
  have hr2 := (hbo.out.block w.heap.size hz1).trans hr1
  have hz2 := hbo.out.size
  have hr3 := (hbn.out.block w.heap.size (by omega)).trans hr2
  have hz3 := hbn.out.size
  have hT0 := heap_alloc_new w3 (.cells #[vo, vn, .slice none 0 0] 96)
  have hb3W := below_one w3 (.cells #[vo, vn, .slice none 0 0] 96)
  have hr4 := (hb3W.block w.heap.size (by omega)).trans hr3
  have ho4 := own_weak (own_kept (own_kept hoo.out (fun k hk => hbn.out.block k (own_lt hoo.out hk))) (fun k hk => hb3W.block k (by have := own_lt hoo.out hk; omega))) (show w.heap.size ≤ w1.heap.size by omega)
  have hn4 := own_weak (own_kept hon.out (fun k hk => hb3W.block k (own_lt hon.out hk))) (show w.heap.size ≤ w2.heap.size by omega)
  have hdis : ∀ k, vo.ownBlock = some k → vn.ownBlock ≠ some k := fun k h1 h2 => by have := own_lt hoo.out h1; have := own_block_ge hon.out h2; omega
  have hok : ∀ k, vo.ownBlock = some k → w.heap.size < k ∧ k < w3.heap.size := fun k h1 => by have := own_lt hoo.out h1; have := own_block_ge hoo.out h1; omega
  have hnk : ∀ k, vn.ownBlock = some k → w.heap.size < k ∧ k < w3.heap.size := fun k h1 => by have := own_lt hon.out h1; have := own_block_ge hon.out h1; omega
  have hBW : Below w.heap.size w (w3.alloc (.cells #[vo, vn, .slice none 0 0] 96)) := hB3.out.new_ _
  have hsW : (w3.alloc (.cells #[vo, vn, .slice none 0 0] 96)).heap.size = w3.heap.size + 1 := by simp
  rw [hvo, hvn]
  generalize w3.alloc (.cells #[vo, vn, .slice none 0 0] 96) = W0 at *
  have hinv : sameInv W0 w3.heap.size vo vn 0 W0 := ⟨_, hT0, ⟨rfl, .inl ⟨rfl, rfl⟩⟩, Only.refl _ _⟩
  have hvs : vo.oneCell' = true ∧ vn.oneCell' = true := ⟨by rw [← hvo]; rfl, by rw [← hvn]; rfl⟩
  generalize hT : w3.heap.size = T at *
  have hTw : w.heap.size < T := by omega
  have hvo1 := Hid.mk hvo; have hvn1 := Hid.mk hvn; have hr41 := Hid.mk hr4; have ho41 := Hid.mk ho4; have hn41 := Hid.mk hn4; have hdis1 := Hid.mk hdis; have hBW1 := Hid.mk hBW; have hinv1 := Hid.mk hinv; have hvs1 := Hid.mk hvs; have hsW1 := Hid.mk hsW; have hok1 := Hid.mk hok; have hnk1 := Hid.mk hnk; clear hvo hvn hr4 ho4 hn4 hdis hBW hinv hvs hsW hok hnk
  clear hcl hb3W hr3 hz3 hr2 hz2 hr1 hz1 hR0 hT0 hB1 hB2 hB3 hbo hbn hoo hon hbr hR1 hb01 hT
  go_loopw [4, 16, 18, 20, 21, 22, 23, 24, 25, 26] (fun _ v16 _ _ _ _ _ _ _ _ wr => ∃ i : Nat, i ≤ l.length ∧ v16 = .int .i64 i ∧ Hid (sameInv W0 T vo vn i wr)) (fun _ v16 _ _ _ _ _ _ _ _ _ => l.length - (intOf v16).toNat)
  case atStart => exact ⟨0, Nat.zero_le _, rfl, hinv1⟩
  case round =>
    obtain ⟨i, hi, rfl, hI⟩ := hrel
    obtain ⟨vm, hT, hrow, hO⟩ := hI.out
    have c2 : wr.cell? ⟨T, 2, none⟩ = some vm := (heap_cell hT (o := 2) rfl).1
    obtain ⟨Am, cm, rfl⟩ := own_slice hrow
    have hTs : T < wr.heap.size := (Array.getElem?_eq_some_iff.1 hT).1
    have hne : ∀ k, (Value.slice Am i cm).ownBlock = some k → k ≠ T := fun k hk => by have := own_block_ge hrow hk; have := hsW1.out; omega
    have hT1 := Hid.mk hT; have hrow1 := Hid.mk hrow; have hO1 := Hid.mk hO; have hne1 := Hid.mk hne; clear hT hrow hO hne
    by_cases hlt : i < l.length
    · go_wp2_with (at_builtin; go_must (refine app_Move rfl _ _ rfl W0.heap.size _ i _ rfl (hrow1.out.alloc _) ⟨wr.heap.size, 0, none⟩ 1 1 (S.Move.cells ⟨i, S.noVal⟩) rfl rfl (news_new wr _ _ _ rfl) (by simp [S.Move.cells, Value.oneCell']) (by omega) (by have := hO1.out.size; simp; omega) ?_; intro v' w5 ho5 hg5 h5 h6; obtain ⟨A5, c5, rfl⟩ := own_slice ho5; have hT5 := (hg5.block T (by simp; omega) (fun e => hne1.out T e.symm rfl)).trans ((Below.heap_alloc wr _ T hTs).trans hT1.out); obtain ⟨d2, f2⟩ := heap_cell hT5 (o := 2) (v := Value.slice Am i cm) rfl; clear h5; have ho51 := Hid.mk ho5; have hg51 := Hid.mk hg5; have h61 := Hid.mk h6; have hT51 := Hid.mk hT5; clear ho5 hg5 h6 hT5))
      go_roundw
      case rel =>
        go_light
        refine ⟨i + 1, by omega, by go_num, Hid.mk ⟨_, heap_set_at hT51.out _, ?_, ((hO1.out.alloc _).grown hg51.out (fun k e => .inr ?_)).set (.inl (by simp)) _ _⟩⟩
        · rw [S.same_succ]
          refine own_kept ho51.out (fun k hk => Below.heap_setCell _ _ _ _ ?_)
          rcases h61.out with h | h
          · exact fun e => hne1.out k (h ▸ hk) e
          · have := hO1.out.size
            rw [hk] at h
            simp only [World.size_alloc, Option.some.injEq] at h
            simp only [ne_eq]
            omega
        · have := own_block_ge hrow1.out e
          exact this
      case measure => simp [intOf]; omega
    · obtain rfl : i = l.length := by omega
      have hTr := hT1.out
      have c0 : wr.cell? ⟨T, 0, none⟩ = some vo := (heap_cell hTr (o := 0) rfl).1
      have c1 : wr.cell? ⟨T, 1, none⟩ = some vn := (heap_cell hTr (o := 1) rfl).1
      have hRr := (hO1.out.block w.heap.size (by have := hsW1.out; omega) (by simp; omega)).trans hr41.out
      obtain ⟨e0, g0⟩ := heap_cell hRr (o := 0) (v := .slice none 0 0) rfl
      obtain ⟨e1, g1⟩ := heap_cell hRr (o := 1) (v := .slice none 0 0) rfl
      obtain ⟨e2, g2⟩ := heap_cell hRr (o := 2) (v := .slice none 0 0) rfl
      have hTr1 := Hid.mk hTr; have hRr1 := Hid.mk hRr; clear hTr hRr
      have hvo := hvo1.out
      have hvn := hvn1.out
      clear hvo1 hvn1
      subst hvo
      subst hvn
      go_wp2
      go_light
      have hfin := heap_set_at (heap_set_at (heap_set_at hRr1.out (o := 0) (.slice Ao l.length co)) (o := 1) (.slice An l.length cn)) (o := 2) (.slice Am l.length cm)
      have hkept : ∀ k, k ≠ w.heap.size → (((wr.setCell ⟨w.heap.size, 0, none⟩ (.slice Ao l.length co)).setCell ⟨w.heap.size, 1, none⟩ (.slice An l.length cn)).setCell ⟨w.heap.size, 2, none⟩ (.slice Am l.length cm)).heap[k]? = wr.heap[k]? := fun k hk => by
        rw [Below.heap_setCell _ _ _ _ hk, Below.heap_setCell _ _ _ _ hk, Below.heap_setCell _ _ _ _ hk]
      have hBr : Below w.heap.size w wr := hBW1.out.trans (hO1.out.toBelow (fun k hk => by simp at hk; omega) hBW1.out.size)
      refine bodyPost_ret (results_c rfl _ _ _ rfl (load_table hfin)) rfl ⟨_, _, _, rfl, ?_, ?_, ?_, hdis1.out, ((hBr.setCell (Nat.le_refl _) _).setCell (Nat.le_refl _) _).setCell (Nat.le_refl _) _⟩
      · exact own_kept ho41.out (fun k hk => (hkept k (by have := hok1.out k hk; omega)).trans (hO1.out.block k (own_lt ho41.out hk) (by have := hok1.out k hk; simp; omega)))
      · exact own_kept hn41.out (fun k hk => (hkept k (by have := hnk1.out k hk; omega)).trans (hO1.out.block k (own_lt hn41.out hk) (by have := hnk1.out k hk; simp; omega)))
      · exact own_weak (own_kept hrow1.out (fun k hk => hkept k (by have := own_block_ge hrow1.out hk; have := hsW1.out; omega))) (by have := hsW1.out; omega)
end Go.Proofs.YtdokiaicheillaaGreat
