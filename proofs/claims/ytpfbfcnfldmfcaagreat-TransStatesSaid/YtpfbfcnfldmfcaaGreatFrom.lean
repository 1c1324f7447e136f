/-
  The walks of schema.from, Fields and object.newest where there is no such version, or no such type.
-/
import Derived.Test.YtpfbfcnfldmfcaaGreatObj
namespace Go.Proofs.YtpfbfcnfldmfcaaGreat
open Go.RowKit

set_option maxRecDepth 100000 in
set_option maxHeartbeats 2000000 in
theorem schema_from_none (c mb : Nat) (ps : List Spot) (C : List (S.Text × S.Kinds)) (a : S.Text) (v : Int) (w : World) (h : CatAt w c mb ps C) (hn : getK C a = none) :
    Calls Tryz.prog 77 #[.pointer (some ⟨c, 0, none⟩), .string (S.mk a), .int .i64 v] w fun e w' => e = .returned (.tuple #[.slice none 0 0, .int .i64 90]) ∧ ∃ m, w' = w.drewN m := by
  have c0 : w.cell? ⟨c, 0, none⟩ = some (.map (some mb)) := by simp [World.cell?, h.head]
  have hl := run_look_none (P := Tryz.prog) (key_text Tryz.underlying9) Tryz.underlying85 h.map a ((getK_spot a h.names h.sorts).2 hn) (Tryz.zeroValue84 w) false
  clear h hn
  go_enter Tryz.func77, Tryz.ntmps77
  go_wp2
  go_ret2
  go_light
  exact ⟨rfl, 0, rfl⟩

set_option maxRecDepth 100000 in
set_option maxHeartbeats 2000000 in
theorem schema_from_out (c mb : Nat) (ps : List Spot) (C : List (S.Text × S.Kinds)) (a : S.Text) (k : S.Kinds) (v : Int) (w : World) (h : CatAt w c mb ps C) (hn : getK C a = some k) (hk : k.ok) (hv : v < k.oldest ∨ k.newest < v) :
    Calls Tryz.prog 77 #[.pointer (some ⟨c, 0, none⟩), .string (S.mk a), .int .i64 v] w fun e w' => e = .returned (.tuple #[.slice none 0 0, .int .i64 90]) ∧ ∃ m, w' = w.drewN m := by
  have c0 : w.cell? ⟨c, 0, none⟩ = some (.map (some mb)) := by simp [World.cell?, h.head]
  obtain ⟨p, -, -, hp, hs⟩ := (getK_spot a h.names h.sorts).1 k hn
  have hl := run_look (P := Tryz.prog) (key_text Tryz.underlying9) Tryz.underlying85 h.map a hp false
  obtain ⟨nm, sb, vv⟩ := p
  dsimp only [encB] at hs hl
  have d0 := hs.c0
  have hs1 := Hid.mk hs
  have hk1 := Hid.mk hk
  by_cases hlo : v < k.oldest
  · have t1 : decide (v < k.oldest) = true := by simp [hlo]
    clear h hs hp hn hk hv
    go_enter Tryz.func77, Tryz.ntmps77
    go_wp2
    go_ret2
    go_light
    exact ⟨rfl, 0, rfl⟩
  · have t1 : decide (v < k.oldest) = false := by simp; omega
    have t2 : decide (k.newest < v) = true := by simp; omega
    clear h hs hp hn hk hv
    go_enter Tryz.func77, Tryz.ntmps77
    go_wp2_with (go_at_call 76; refine (sort_newest sb _ k _ hs1.out hk1.out).mono ?_; rintro e w1 ⟨rfl, m, rfl⟩)
    go_ret2
    go_light
    exact ⟨rfl, _, rfl⟩

set_option maxRecDepth 100000 in
set_option maxHeartbeats 2000000 in
theorem schema_Fields_none (c mb : Nat) (ps : List Spot) (C : List (S.Text × S.Kinds)) (a : S.Text) (v : Int) (w : World) (h : CatAt w c mb ps C) (hk : ∀ x, x ∈ C → x.2.ok) (hn : ∀ k, getK C a = some k → v < k.oldest ∨ k.newest < v) :
    Calls Tryz.prog 54 #[.pointer (some ⟨c, 0, none⟩), .string (S.mk a), .int .i64 v] w fun e w' => e = .returned (.tuple #[.slice none 0 0, .int .i64 90]) ∧ ∃ m, w' = w.drewN m := by
  have hf : Hid (Calls Tryz.prog 77 #[.pointer (some ⟨c, 0, none⟩), .string (S.mk a), .int .i64 v] w fun e w' => e = .returned (.tuple #[.slice none 0 0, .int .i64 90]) ∧ ∃ m, w' = w.drewN m) := by
    cases hg : getK C a with
    | none => exact schema_from_none c mb ps C a v w h hg
    | some k =>
      have hkin : (a, k) ∈ C := by
        obtain ⟨x, hx, rfl⟩ := Option.map_eq_some_iff.1 hg
        have h1 := List.find?_some hx
        simp only [decide_eq_true_eq] at h1
        rw [h1]
        exact List.mem_of_find?_eq_some hx
      exact schema_from_out c mb ps C a k v w h hg (hk _ hkin) (hn k hg)
  clear h hk hn
  go_enter Tryz.func54, Tryz.ntmps54
  go_wp2_with (go_at_call 77; refine hf.out.mono ?_; rintro e w1 ⟨rfl, m, rfl⟩)
  go_ret2
  go_light
  exact ⟨rfl, _, rfl⟩

set_option maxRecDepth 100000 in
set_option maxHeartbeats 2000000 in
theorem obj_newest_none (H c mb : Nat) (ps : List Spot) (C : List (S.Text × S.Kinds)) (a : S.Text) (w : World) (hH : w.cell? ⟨H, 0, none⟩ = some (.pointer (some ⟨c, 0, none⟩))) (h : CatAt w c mb ps C) (hk : ∀ x, x ∈ C → x.2.ok) (hn : getK C a = none) :
    Calls Tryz.prog 31 #[.pointer (some ⟨H, 0, none⟩), .string (S.mk a)] w fun e w' => e = .returned (.tuple #[.int .i64 0, .slice none 0 0, .int .i64 90]) ∧ Below w.heap.size w w' := by
  have hv := Hid.mk (schema_Versions_none c mb ps C a w h hn)
  have hHl : H < w.heap.size := World.block_lt_of_cell? w _ hH
  have hf : ∀ w1, Below w.heap.size w w1 → Hid (Calls Tryz.prog 54 #[.pointer (some ⟨c, 0, none⟩), .string (S.mk a), .int .i64 0] w1 fun e w' => e = .returned (.tuple #[.slice none 0 0, .int .i64 90]) ∧ ∃ m, w' = w1.drewN m) := fun w1 hb => schema_Fields_none c mb ps C a 0 w1 (h.below hb) hk (fun k hk => by rw [hn] at hk; cases hk)
  clear h hk hn
  go_enter Tryz.func31, Tryz.ntmps31
  go_wp2_with (first | (go_at_call 53; refine hv.out.mono ?_; rintro e w1 ⟨rfl, hb⟩; have hb1 := Hid.mk hb; have cH := (hb.cell (p := ⟨H, 0, none⟩) hHl).trans hH; clear hb) | (go_at_call 54; refine (hf _ hb1.out).out.mono ?_; rintro e w2 ⟨rfl, m, rfl⟩))
  go_ret3
  go_light
  exact ⟨rfl, ⟨hb1.out.os, hb1.out.tape, hb1.out.output, hb1.out.size, hb1.out.block⟩⟩
end Go.Proofs.YtpfbfcnfldmfcaaGreat
