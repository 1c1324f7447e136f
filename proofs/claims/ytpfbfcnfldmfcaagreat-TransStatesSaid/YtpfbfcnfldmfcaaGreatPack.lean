/-
  The walks of slots.Pack and slots.Unpack.
-/
import Derived.Test.YtpfbfcnfldmfcaaGreatSlots
namespace Go.Proofs.YtpfbfcnfldmfcaaGreat
open Go.RowKit

namespace S
def packs (h : Handle) : Bool := decide (0 ≤ h.slot) && decide (h.slot < 65536) && decide (1 ≤ h.gen) && decide (h.gen ≤ 65535)
def pack (h : Handle) : Int := if packs h then h.slot * 65536 + h.gen else 0
def unpack (n : Int) : Handle := if 4294967296 ≤ n ∨ n % 65536 = 0 then noHandle else ⟨n / 65536, n % 65536⟩
end S

set_option maxHeartbeats 1000000 in
theorem slots_Pack_yes (h : S.Handle) (w : World) (hp : S.packs h = true) :
    Calls Tryz.prog 37 #[h.val] w fun e w' => e = .returned (.int .u64 (S.pack h)) ∧ Below w.heap.size w w' := by
  have hq := hp
  simp only [S.packs, Bool.and_eq_true, decide_eq_true_eq] at hq
  obtain ⟨⟨⟨h0, h1⟩, h2⟩, h3⟩ := hq
  have hpk : S.pack h = h.slot * 65536 + h.gen := by rw [S.pack, if_pos hp]
  rw [hpk]
  obtain ⟨s, g⟩ := h
  dsimp only at *
  have t1 : decide (s < 0) = false := by simp; omega
  have t2 : decide (65536 ≤ s) = false := by simp; omega
  have t3 : decide (g < 1) = false := by simp; omega
  have t4 : decide (65535 < g) = false := by simp; omega
  clear hp hpk
  go_enter Tryz.func37, Tryz.ntmps37
  go_wp2
  go_ret
  go_light
  exact ⟨rfl, below_one _ _⟩

set_option maxHeartbeats 2000000 in
theorem slots_Pack_no (h : S.Handle) (w : World) (hp : S.packs h = false) :
    Calls Tryz.prog 37 #[h.val] w fun e w' => e = .returned (.int .u64 (S.pack h)) ∧ Below w.heap.size w w' := by
  have hpk : S.pack h = 0 := by rw [S.pack, if_neg (by simp [hp])]
  rw [hpk]
  simp only [S.packs, Bool.and_eq_false_iff, decide_eq_false_iff_not] at hp
  obtain ⟨s, g⟩ := h
  dsimp only at *
  clear hpk
  by_cases h0 : s < 0
  · have t1 : decide (s < 0) = true := by simp [h0]
    clear hp
    go_enter Tryz.func37, Tryz.ntmps37
    go_wp2
    go_ret
    go_light
    exact ⟨rfl, below_one _ _⟩
  have t1 : decide (s < 0) = false := by simp; omega
  by_cases h1 : 65536 ≤ s
  · have t2 : decide (65536 ≤ s) = true := by simp [h1]
    clear hp
    go_enter Tryz.func37, Tryz.ntmps37
    go_wp2
    go_ret
    go_light
    exact ⟨rfl, below_one _ _⟩
  have t2 : decide (65536 ≤ s) = false := by simp; omega
  by_cases h2 : g < 1
  · have t3 : decide (g < 1) = true := by simp [h2]
    clear hp
    go_enter Tryz.func37, Tryz.ntmps37
    go_wp2
    go_ret
    go_light
    exact ⟨rfl, below_one _ _⟩
  have t3 : decide (g < 1) = false := by simp; omega
  have h3 : 65535 < g := by omega
  have t4 : decide (65535 < g) = true := by simp [h3]
  clear hp
  go_enter Tryz.func37, Tryz.ntmps37
  go_wp2
  go_ret
  go_light
  exact ⟨rfl, below_one _ _⟩

theorem slots_Pack (h : S.Handle) (w : World) : Calls Tryz.prog 37 #[h.val] w fun e w' => e = .returned (.int .u64 (S.pack h)) ∧ Below w.heap.size w w' := by
  cases hp : S.packs h
  · exact slots_Pack_no h w hp
  · exact slots_Pack_yes h w hp

theorem pair_new (w : World) (a b : Value) (t : TypeId) : (w.alloc (.cells #[a, b] t)).cell? ⟨w.heap.size, 0, none⟩ = some a ∧ (w.alloc (.cells #[a, b] t)).cell? ⟨w.heap.size, 1, none⟩ = some b := by
  have h : (w.alloc (.cells #[a, b] t)).heap[w.heap.size]? = some (.cells #[a, b] t (0, 0)) := heap_alloc_new _ _
  constructor <;> simp only [World.cell?, h] <;> rfl
theorem results_c {fn : Func} {t : Tmp} {ty : TypeId} (h : fn.results = #[.cell t ty]) (tmps : Array Value) (P : Program) (w : World) {a : Addr} {v : Value} (ha : tmps.getD t undef = .pointer (some a)) (hl : (loadVar ty a).run P w = .ok v w) :
    (results fn tmps).run P w = .ok v w := by
  have ha2 : tmps[t]?.getD undef = .pointer (some a) := by rw [← Array.getD_eq_getD_getElem?]; exact ha
  simp [results, h, ha2, hl, asAddr]

set_option maxHeartbeats 2000000 in
theorem slots_Unpack (n : Int) (h0 : 0 ≤ n) (h1 : n ≤ 18446744073709551615) (w : World) :
    Calls Tryz.prog 60 #[.int .u64 n] w fun e w' => e = .returned (S.unpack n).val ∧ Below w.heap.size w w' := by
  by_cases hb : 4294967296 ≤ n
  · have t1 : decide (4294967296 ≤ n) = true := by simp [hb]
    have hu : S.unpack n = S.noHandle := by rw [S.unpack, if_pos (.inl hb)]
    go_enter Tryz.func60, Tryz.ntmps60
    go_wp2
    refine bodyPost_ret (results_c rfl _ _ _ rfl (load_handle (v0 := .int .i64 0) (v1 := .int .i64 0) (pair_new w _ _ _).1 (pair_new w _ _ _).2)) rfl ?_
    exact ⟨by first | rfl | (rw [hu]; rfl), below_one _ _⟩
  · have t1 : decide (4294967296 ≤ n) = false := by simp; omega
    by_cases hz : n % 65536 = 0
    · have t2 : (n % 65536 == 0) = true := by simp [hz]
      have hu : S.unpack n = S.noHandle := by rw [S.unpack, if_pos (.inr hz)]
      go_enter Tryz.func60, Tryz.ntmps60
      go_wp2
      refine bodyPost_ret (results_c rfl _ _ _ rfl (load_handle (v0 := .int .i64 0) (v1 := .int .i64 0) (pair_new w _ _ _).1 (pair_new w _ _ _).2)) rfl ?_
      exact ⟨by first | rfl | (rw [hu]; rfl), below_one _ _⟩
    · have t2 : (n % 65536 == 0) = false := by simp [hz]
      have hu : S.unpack n = ⟨n / 65536, n % 65536⟩ := by rw [S.unpack, if_neg (by omega)]
      go_enter Tryz.func60, Tryz.ntmps60
      go_wp2
      refine bodyPost_ret (results_c rfl _ _ _ rfl (load_handle (v0 := .int .i64 (n / 65536)) (v1 := .int .i64 (n % 65536)) (pair_new w _ _ _).1 (pair_new w _ _ _).2)) rfl ?_
      exact ⟨by first | rfl | (rw [hu]; rfl), below_one _ _⟩
end Go.Proofs.YtpfbfcnfldmfcaaGreat
