/-
  slices.Sort, SortFunc and Compact where there is one element at most.
-/
import Derived.Test.YtdokiaicheillaaGreatShelf
import Derived.Test.YtdokiaicheillaaGreatBase
import Derived.LoopTactic
namespace Go.Proofs.YtdokiaicheillaaGreat
open Go.RowKit

set_option maxRecDepth 100000 in
set_option maxHeartbeats 2000000 in
theorem ins_u64 (A : Option Addr) (n c : Nat) (hn : n ≤ 1) (w : World) : Calls Tryz.prog 183 #[.slice A n c, .int .i64 0, .int .i64 n] w fun e w' => e = .returned (.tuple #[]) ∧ w' = w := by
  go_enter Tryz.func183, Tryz.ntmps183
  go_wp2
  go_loop [6] (fun v => v = .int .i64 1) (fun _ => 0)
  case atStart => rfl
  case round =>
    subst hrel
    have t1 : decide (1 < n) = false := by simp; omega
    have t2 : decide ((1 : Int) < (n : Int)) = false := by simp; omega
    go_wp2
    go_end0
    go_light
    exact ⟨rfl, rfl⟩

set_option maxRecDepth 100000 in
set_option maxHeartbeats 4000000 in
theorem pdq_u64 (A : Option Addr) (n c : Nat) (lim : Int) (hn : n ≤ 1) (w : World) : Calls Tryz.prog 147 #[.slice A n c, .int .i64 0, .int .i64 n, .int .i64 lim] w fun e w' => e = .returned (.tuple #[]) ∧ w' = w := by
  have t1 : decide ((n : Int) ≤ 12) = true := by simp; omega
  have hi := Hid.mk (ins_u64 A n c hn w)
  go_enter Tryz.func147, Tryz.ntmps147
  go_wp2
  go_loop [1, 2] (fun v1 v2 => v1 = .int .i64 0 ∧ v2 = .int .i64 n) (fun _ _ => 0)
  case atStart => exact ⟨rfl, rfl⟩
  case round =>
    obtain ⟨rfl, rfl⟩ := hrel
    go_wp2_with (go_at_call 183; (with_reducible refine hi.out.mono ?_); rintro e w1 ⟨rfl, rfl⟩)
    go_light
    exact bodyPost_ret (results_none rfl _ _ _) rfl ⟨rfl, rfl⟩

set_option maxRecDepth 100000 in
set_option maxHeartbeats 2000000 in
theorem sort_u64 (A : Option Addr) (n c : Nat) (hn : n ≤ 1) (w : World) : Calls Tryz.prog 108 #[.slice A n c] w fun e w' => e = .returned (.tuple #[]) ∧ w' = w := by
  have hp := fun lim => Hid.mk (pdq_u64 A n c lim hn w)
  go_enter Tryz.func108, Tryz.ntmps108
  go_wp2_with (first | (go_at_call 111; (with_reducible refine (Tryz.bits_Len _ _ (by omega) (by omega)).mono ?_); rintro e w1 ⟨rfl, rfl⟩) | (go_at_call 147; (with_reducible refine (hp _).out.mono ?_); rintro e w1 ⟨rfl, rfl⟩))
  go_end0
  go_light
  exact ⟨rfl, rfl⟩

set_option maxRecDepth 100000 in
set_option maxHeartbeats 2000000 in
theorem compact_u64 (A : Option Addr) (n c : Nat) (hn : n ≤ 1) (w : World) : Calls Tryz.prog 109 #[.slice A n c] w fun e w' => e = .returned (.slice A n c) ∧ w' = w := by
  have t1 : decide ((n : Int) < 2) = true := by simp; omega
  go_enter Tryz.func109, Tryz.ntmps109
  go_wp2
  go_ret
  go_light
  exact ⟨rfl, rfl⟩

set_option maxRecDepth 100000 in
set_option maxHeartbeats 2000000 in
theorem ins_hand (A : Option Addr) (n c : Nat) (f : Value) (hn : n ≤ 1) (w : World) : Calls Tryz.prog 148 #[.slice A n c, .int .i64 0, .int .i64 n, f] w fun e w' => e = .returned (.tuple #[]) ∧ w' = w := by
  go_enter Tryz.func148, Tryz.ntmps148
  go_wp2
  go_loop [8] (fun v => v = .int .i64 1) (fun _ => 0)
  case atStart => rfl
  case round =>
    subst hrel
    have t1 : decide (1 < n) = false := by simp; omega
    have t2 : decide ((1 : Int) < (n : Int)) = false := by simp; omega
    go_wp2
    go_end0
    go_light
    exact ⟨rfl, rfl⟩

set_option maxRecDepth 100000 in
set_option maxHeartbeats 4000000 in
theorem pdq_hand (A : Option Addr) (n c : Nat) (lim : Int) (f : Value) (hn : n ≤ 1) (w : World) : Calls Tryz.prog 110 #[.slice A n c, .int .i64 0, .int .i64 n, .int .i64 lim, f] w fun e w' => e = .returned (.tuple #[]) ∧ w' = w := by
  have t1 : decide ((n : Int) ≤ 12) = true := by simp; omega
  have hi := Hid.mk (ins_hand A n c f hn w)
  go_enter Tryz.func110, Tryz.ntmps110
  go_wp2
  go_loop [1, 2] (fun v1 v2 => v1 = .int .i64 0 ∧ v2 = .int .i64 n) (fun _ _ => 0)
  case atStart => exact ⟨rfl, rfl⟩
  case round =>
    obtain ⟨rfl, rfl⟩ := hrel
    go_wp2_with (go_at_call 148; (with_reducible refine hi.out.mono ?_); rintro e w1 ⟨rfl, rfl⟩)
    go_light
    exact bodyPost_ret (results_none rfl _ _ _) rfl ⟨rfl, rfl⟩

set_option maxRecDepth 100000 in
set_option maxHeartbeats 2000000 in
theorem sort_hand (A : Option Addr) (n c : Nat) (f : Value) (hn : n ≤ 1) (w : World) : Calls Tryz.prog 69 #[.slice A n c, f] w fun e w' => e = .returned (.tuple #[]) ∧ w' = w := by
  have hp := fun lim => Hid.mk (pdq_hand A n c lim f hn w)
  go_enter Tryz.func69, Tryz.ntmps69
  go_wp2_with (first | (go_at_call 111; (with_reducible refine (Tryz.bits_Len _ _ (by omega) (by omega)).mono ?_); rintro e w1 ⟨rfl, rfl⟩) | (go_at_call 110; (with_reducible refine (hp _).out.mono ?_); rintro e w1 ⟨rfl, rfl⟩))
  go_end0
  go_light
  exact ⟨rfl, rfl⟩

set_option maxRecDepth 100000 in
set_option maxHeartbeats 2000000 in
theorem compact_hand (A : Option Addr) (n c : Nat) (hn : n ≤ 1) (w : World) : Calls Tryz.prog 73 #[.slice A n c] w fun e w' => e = .returned (.slice A n c) ∧ w' = w := by
  have t1 : decide ((n : Int) < 2) = true := by simp; omega
  go_enter Tryz.func73, Tryz.ntmps73
  go_wp2
  go_ret
  go_light
  exact ⟨rfl, rfl⟩

end Go.Proofs.YtdokiaicheillaaGreat
