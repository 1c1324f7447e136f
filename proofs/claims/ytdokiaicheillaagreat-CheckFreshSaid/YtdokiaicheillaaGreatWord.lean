/-
  The walks of word.right, word.Fits (not signed), word.Put.
-/
import Derived.Test.YtdokiaicheillaaGreatAppU
import Derived.Laws.OwnMore
import Derived.Handy
import Derived.Deep.DeepMust
namespace Go.Proofs.YtdokiaicheillaaGreat
open Go.RowKit

namespace S
def width (k : Int) : Bool := k == 1 || k == 2 || k == 4 || k == 8
/-- The lowest bytes of a number. -/
def le : Nat → Nat → List UInt8
  | 0, _ => []
  | w + 1, n => UInt8.ofNat n :: le w (n / 256)
end S

set_option maxHeartbeats 1000000 in
theorem word_right (k : Int) (w : World) :
    Calls Tryz.prog 116 #[.int .i64 k] w fun e w' => e = .returned (.bool (S.width k)) ∧ w' = w := by
  have hw : S.width k = (k == 1 || k == 2 || k == 4 || k == 8) := rfl
  rw [hw]
  clear hw
  by_cases h1 : k = 1
  · subst h1
    go_enter Tryz.func116, Tryz.ntmps116
    go_wp2
    go_ret
    exact ⟨rfl, rfl⟩
  by_cases h2 : k = 2
  · subst h2
    go_enter Tryz.func116, Tryz.ntmps116
    go_wp2
    go_ret
    exact ⟨rfl, rfl⟩
  by_cases h3 : k = 4
  · subst h3
    go_enter Tryz.func116, Tryz.ntmps116
    go_wp2
    go_ret
    exact ⟨rfl, rfl⟩
  have t1 : (k == 1) = false := by simp [h1]
  have t2 : (k == 2) = false := by simp [h2]
  have t3 : (k == 4) = false := by simp [h3]
  cases t4 : (k == 8)
  all_goals
    clear h1 h2 h3
    go_enter Tryz.func116, Tryz.ntmps116
    go_wp2
    go_ret
    refine ⟨?_, rfl⟩
    simp_all

/-- Does a number fit into so many bytes? -/
def S.fits (n k : Int) : Bool := S.width k && (k == 8 || n / 256 ^ k.toNat == 0)

set_option maxHeartbeats 2000000 in
theorem word_Fits (n k : Int) (h0 : 0 ≤ n) (h1 : n ≤ 18446744073709551615) (w : World) :
    Calls Tryz.prog 142 #[.int .u64 n, .int .i64 k, .bool false] w fun e w' => e = .returned (.bool (S.fits n k)) ∧ w' = w := by
  by_cases hk : S.width k = true
  · have hk2 := hk
    simp only [S.width, Bool.or_eq_true, beq_iff_eq] at hk2
    have hf : S.fits n k = (k == 8 || n / 256 ^ k.toNat == 0) := by rw [S.fits, hk, Bool.true_and]
    rcases hk2 with ((rfl | rfl) | rfl) | rfl
    · go_enter Tryz.func142, Tryz.ntmps142
      go_wp2_with (go_at_call 116; refine (word_right _ _).mono ?_; rintro e w' ⟨rfl, rfl⟩; rw [hk])
      go_ret
      exact ⟨by rw [hf]; rfl, rfl⟩
    · go_enter Tryz.func142, Tryz.ntmps142
      go_wp2_with (go_at_call 116; refine (word_right _ _).mono ?_; rintro e w' ⟨rfl, rfl⟩; rw [hk])
      go_ret
      exact ⟨by rw [hf]; rfl, rfl⟩
    · go_enter Tryz.func142, Tryz.ntmps142
      go_wp2_with (go_at_call 116; refine (word_right _ _).mono ?_; rintro e w' ⟨rfl, rfl⟩; rw [hk])
      go_ret
      exact ⟨by rw [hf]; rfl, rfl⟩
    · go_enter Tryz.func142, Tryz.ntmps142
      go_wp2_with (go_at_call 116; refine (word_right _ _).mono ?_; rintro e w' ⟨rfl, rfl⟩; rw [hk])
      go_ret
      exact ⟨by rw [hf]; rfl, rfl⟩
  · have hk' : S.width k = false := by simpa using hk
    have hf : S.fits n k = false := by rw [S.fits, hk', Bool.false_and]
    clear hk
    go_enter Tryz.func142, Tryz.ntmps142
    go_wp2_with (go_at_call 116; refine (word_right _ _).mono ?_; rintro e w' ⟨rfl, rfl⟩; rw [hk'])
    go_ret
    exact ⟨by rw [hf]; rfl, rfl⟩

theorem S.le_length : ∀ (k n : Nat), (S.le k n).length = k
  | 0, _ => rfl
  | k + 1, n => by simp [S.le, S.le_length k]
theorem S.le_at : ∀ (k n i : Nat), i < k → (S.le k n)[i]? = some (UInt8.ofNat (n / 256 ^ i))
  | 0, _, _, h => by omega
  | k + 1, n, 0, _ => by simp [S.le]
  | k + 1, n, i + 1, h => by
    rw [S.le, List.getElem?_cons_succ, S.le_at k _ i (by omega), Nat.div_div_eq_div_mul, Nat.pow_succ, Nat.mul_comm]
theorem S.le_take (k n i : Nat) (h : i < k) : (S.le k n).take (i + 1) = (S.le k n).take i ++ [UInt8.ofNat (n / 256 ^ i)] := by
  rw [List.take_add_one, S.le_at k n i h]; rfl

theorem S.le_enc (n i : Nat) : encByte (UInt8.ofNat (n / 256 ^ i)) = .int .u8 ((n : Int) / 2 ^ (8 * i) % 256) := by
  have h1 : (2 : Int) ^ (8 * i) = ((256 ^ i : Nat) : Int) := by
    rw [Int.natCast_pow, Int.pow_mul]; rfl
  have h2 : (UInt8.ofNat (n / 256 ^ i)).toNat = n / 256 ^ i % 256 := UInt8.toNat_ofNat'
  show Value.int .u8 ((UInt8.ofNat (n / 256 ^ i)).toNat : Int) = _
  rw [h2, h1, Int.natCast_emod, Int.natCast_ediv]
  rfl
theorem grown_on {w w1 w2 : World} {r r' : Option Nat} (h : w.grownBy w1 r) (k : w1.grownBy w2 r') (hr : ∀ b, r' = some b → r = some b ∨ w.heap.size ≤ b) : w.grownBy w2 r :=
  ⟨k.os.trans h.os, k.tape.trans h.tape, k.output.trans h.output, Nat.le_trans h.size k.size, fun b hb hn =>
    (k.block b (Nat.lt_of_lt_of_le hb h.size) (fun e => (hr b e.symm).elim (fun h2 => hn h2.symm) (fun h2 => by omega))).trans (h.block b hb hn)⟩
theorem grown_self (w : World) (r : Option Nat) : w.grownBy w r := ⟨rfl, rfl, rfl, Nat.le_refl _, fun _ _ _ => rfl⟩

set_option maxRecDepth 100000 in
set_option maxHeartbeats 2000000 in
/-- Put: bytes are put behind a row of one's own. -/
theorem word_Put (base : Nat) (v : Value) (m : Nat) (xs : List Value) (k : Nat) (n : Nat) (w : World) (ho : w.ownsRow base 5 1 v m xs) (hb : base ≤ w.heap.size) (hm : m ≤ 1073741824) (hk : k ≤ 8) (hn : n ≤ 18446744073709551615) (hf : S.fits n k = true) :
    Calls Tryz.prog 98 #[v, .int .i64 k, .int .u64 n] w fun e w' => ∃ v', e = .returned (.tuple #[v', .bool true]) ∧ w'.ownsRow base 5 1 v' (m + k) (xs ++ (S.le k n).map encByte) ∧ w.grownBy w' v.ownBlock ∧ (∀ b, v'.ownBlock = some b → v.ownBlock = some b ∨ w.heap.size ≤ b) := by
  have ho1 := Hid.mk ho
  obtain ⟨A0, c0, rfl⟩ := own_slice ho
  clear ho
  generalize hB : (Value.slice A0 m c0).ownBlock = B0
  have hB1 := Hid.mk hB
  clear hB
  go_enter Tryz.func98, Tryz.ntmps98
  go_wp2_with (go_at_call 142; refine (word_Fits _ _ (by omega) (by omega) _).mono ?_; rintro e w1 ⟨rfl, rfl⟩; rw [hf])
  go_loopw [0, 15] (fun v0 v15 wr => ∃ (i : Nat), i ≤ k ∧ v15 = .int .i64 i ∧ Hid (wr.ownsRow base 5 1 v0 (m + i) (xs ++ ((S.le k n).take i).map encByte)) ∧ Hid (w1.grownBy wr B0) ∧ Hid (∀ b, v0.ownBlock = some b → B0 = some b ∨ w1.heap.size ≤ b)) (fun _ v15 _ => k - (intOf v15).toNat)
  case atStart => exact ⟨0, Nat.zero_le _, rfl, Hid.mk (by simpa using ho1.out), Hid.mk (grown_self _ _), fun b h => .inl (hB1.out.symm.trans h)⟩
  case round =>
    obtain ⟨i, hi, rfl, hoi, hg, hbl⟩ := hrel
    by_cases hlt : i < k
    · go_wp2_with (at_builtin; go_must (refine app_u8 rfl _ _ rfl base _ (m + i) _ rfl (hoi.out.alloc _) ⟨wr.heap.size, 0, none⟩ 1 1 [.int .u8 ((n : Int) / 2 ^ (8 * i) % 256)] rfl rfl (cell_one_new _ _ _) (by simp [Value.oneCell']) (by omega) (by have := hg.out.size; simp; omega) ?_; intro v' w2 ho2 hg2 h5 h6; clear h5; have ho21 := Hid.mk ho2; have hg21 := Hid.mk hg2; have h61 := Hid.mk h6; clear ho2 hg2 h6))
      go_roundw
      case rel =>
        go_light
        have hgw : w1.grownBy w2 B0 := grown_on (grown_on hg.out (World.grownBy_alloc _ _ none) (fun b e => by cases e)) hg21.out hbl.out
        refine ⟨i + 1, by omega, by go_num, Hid.mk ?_, Hid.mk hgw, fun b hb' => ?_⟩
        · rw [S.le_take k n i hlt, List.map_append, List.map_cons, List.map_nil, S.le_enc, ← List.append_assoc]
          exact ho21.out
        · rcases h61.out with h | h
          · exact hbl.out b (h ▸ hb')
          · have := hg.out.size
            rw [h] at hb'
            simp only [World.size_alloc, Option.some.injEq] at hb'
            exact .inr (by omega)
      case measure => simp [intOf]; omega
    · go_wp2
      go_ret2
      go_light
      obtain rfl : i = k := by omega
      refine ⟨_, rfl, ?_, hg.out, hbl.out⟩
      have := hoi.out
      rwa [List.take_of_length_le (by rw [S.le_length]; omega)] at this
end Go.Proofs.YtdokiaicheillaaGreat
