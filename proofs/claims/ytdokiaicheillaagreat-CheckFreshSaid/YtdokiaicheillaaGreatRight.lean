/-
  The walk of field.Right.
-/
import Derived.Test.YtdokiaicheillaaGreatRows
import Derived.Test.YtdokiaicheillaaGreatBase
namespace Go.Proofs.YtdokiaicheillaaGreat
open Go.RowKit

set_option maxHeartbeats 400000 in
theorem word_Size (k : Int) (w : World) :
    Calls Tryz.prog 136 #[.int .i64 k] w fun e w' => e = .returned (.int .i64 (S.size k)) ∧ w = w' := by
  obtain ⟨s, hs⟩ : ∃ s, s = S.size k := ⟨_, rfl⟩
  have hs1 : Hid (s = S.size k) := hs
  clear hs
  rw [← hs1.out]
  go_enter Tryz.func136, Tryz.ntmps136
  go_wp2
  all_goals go_ret
  all_goals go_light
  all_goals (refine ⟨ret_int ?_, rfl⟩; rw [hs1.out]; clear hs1; simp_all [S.size])

set_option maxHeartbeats 400000 in
theorem kind_may (f : S.Field) (w : World) :
    Calls Tryz.prog 135 #[.agg #[.string (S.mk f.name), .int .i64 f.kind, .int .i64 f.long]] w fun e w' => e = .returned (.bool (S.may f)) ∧ Below w.heap.size w w' := by
  obtain ⟨n, k, l⟩ := f
  obtain ⟨s, hs⟩ : ∃ s, s = S.may ⟨n, k, l⟩ := ⟨_, rfl⟩
  have hs1 : Hid (s = S.may ⟨n, k, l⟩) := hs
  clear hs
  rw [← hs1.out]
  go_enter Tryz.func135, Tryz.ntmps135
  go_wp2_with (go_at_call 136; refine (word_Size _ _).mono ?_; rintro e w' ⟨rfl, rfl⟩)
  all_goals go_ret
  all_goals go_light
  all_goals (refine ⟨ret_bool ?_, below_one _ _⟩; rw [hs1.out]; clear hs1; simp_all [S.may]; try omega)

set_option maxHeartbeats 400000 in
theorem kind_Long (f : S.Field) (w : World) :
    Calls Tryz.prog 93 #[.agg #[.string (S.mk f.name), .int .i64 f.kind, .int .i64 f.long]] w fun e w' => e = .returned (.int .i64 (S.long f)) ∧ Below w.heap.size w w' := by
  obtain ⟨n, k, l⟩ := f
  obtain ⟨s, hs⟩ : ∃ s, s = S.long ⟨n, k, l⟩ := ⟨_, rfl⟩
  have hs1 : Hid (s = S.long ⟨n, k, l⟩) := hs
  clear hs
  rw [← hs1.out]
  go_enter Tryz.func93, Tryz.ntmps93
  go_wp2_with (first | (go_at_call 135; refine (kind_may ⟨n, k, l⟩ _).mono ?_; rintro e w1 ⟨rfl, hb⟩; obtain ⟨hc, hf⟩ := bcell hb) | (go_at_call 136; refine (word_Size _ _).mono ?_; rintro e w' ⟨rfl, rfl⟩))
  all_goals go_ret
  all_goals go_light
  all_goals (refine ⟨ret_int ?_, below_then (below_one _ _) hb⟩; rw [hs1.out]; clear hs1 hc hf hb)
  · exact (S.long_no (f := ⟨n, k, l⟩) ‹_›).symm
  · exact (S.long_12 (f := ⟨n, k, l⟩) ‹_› ‹_›).symm
  · exact (S.long_n (f := ⟨n, k, l⟩) ‹_› ‹_›).symm
end Go.Proofs.YtdokiaicheillaaGreat

namespace Go.Proofs.YtdokiaicheillaaGreat
open Go.RowKit

set_option maxHeartbeats 1000000 in
theorem field_Name_s (s : ByteArray) (w : World) (hs : s.size ≤ 1073741824) :
    Calls Tryz.prog 45 #[.string s] w fun e w' => e = .returned (.bool (S.nameOk (S.tx s))) ∧ Below w.heap.size w w' := by
  obtain ⟨r, hr⟩ : ∃ r, r = S.nameOk (S.tx s) := ⟨_, rfl⟩
  have hr1 : Hid (r = S.nameOk (S.tx s)) := hr
  clear hr
  rw [← hr1.out]
  go_enter Tryz.func45, Tryz.ntmps45
  go_wp2
  go_loopw [3] (fun _ wr => ∃ i : Nat, i ≤ s.size ∧ wr = w.iter s i ∧ Hid (S.nameFrom 0 (S.tx s) = S.nameFrom i ((S.tx s).drop i))) (fun _ wr => s.size - iterPos wr w.heap.size)
  case atStart => exact ⟨0, Nat.zero_le _, rfl, rfl⟩
  case round =>
    obtain ⟨i, hi, rfl, hn⟩ := hrel
    by_cases hlt : i < s.size
    · by_cases ha : (s[i]'hlt).toNat < 128
      · have hnx := fun ty => run_next_ascii (P := Tryz.prog) w s i ty hlt ha
        have hyes := fun hc => S.name_yes hlt hc hn.out
        have hno := fun hc => S.name_no hlt hc hn.out
        have hy1 := Hid.mk hyes
        have hn1 := Hid.mk hno
        have hcv : Hid (S.letter (s[i]'hlt) = (97 ≤ (s[i]'hlt).toNat && (s[i]'hlt).toNat ≤ 122) ∧ S.sign (s[i]'hlt) = (S.letter (s[i]'hlt) || (48 ≤ (s[i]'hlt).toNat && (s[i]'hlt).toNat ≤ 57) || (s[i]'hlt).toNat == 95)) := ⟨rfl, rfl⟩
        clear hyes hno hn
        generalize hc : (s[i]'hlt).toNat = c at *
        have hc1 := Hid.mk hc
        clear hc
        have hi' : (i : Int) < 9223372036854775807 := by omega
        by_cases hl : 97 ≤ c ∧ c ≤ 122
        · have hok : Hid ((if i = 0 then S.letter (s[i]'hlt) else S.sign (s[i]'hlt)) = true) := by show _ = _; rw [hcv.out.2, hcv.out.1]; simp [hl.1, hl.2]
          have t97 : decide (97 ≤ (c : Int)) = true := by simp; omega
          have t122 : decide ((c : Int) ≤ 122) = true := by simp; omega
          clear hl
          go_wp2
          go_roundw
          case rel => exact ⟨i + 1, by omega, rfl, hy1.out hok.out⟩
          case measure => rw [iterPos_iter, iterPos_iter]; omega
        · have hlf : Hid (S.letter (s[i]'hlt) = false) := by show _ = false; rw [hcv.out.1]; simp; omega
          by_cases hi0 : i = 0
          · subst hi0
            have hno : Hid (S.nameOk (S.tx s) = false) := hn1.out (by rw [if_pos rfl]; exact hlf.out)
            rcases (show c < 97 ∨ 122 < c by omega) with hd | hd
            · clear hl
              have t97 : decide (97 ≤ (c : Int)) = false := by simp; omega
              go_wp2
              go_ret
              go_light
              exact ⟨ret_bool (by rw [hr1.out]; exact hno.out.symm), below_iter _ _ _⟩
            · clear hl
              have t97 : decide (97 ≤ (c : Int)) = true := by simp; omega
              have t122 : decide ((c : Int) ≤ 122) = false := by simp; omega
              go_wp2
              go_ret
              go_light
              exact ⟨ret_bool (by rw [hr1.out]; exact hno.out.symm), below_iter _ _ _⟩
          · have hs1 : Hid ((if i = 0 then S.letter (s[i]'hlt) else S.sign (s[i]'hlt)) = ((48 ≤ c && c ≤ 57) || c == 95)) := by show _ = _; rw [if_neg hi0, hcv.out.2, hlf.out, Bool.false_or]
            have ti : ((i : Int) == 0) = false := by simp; omega
            clear hi0
            rcases (show (48 ≤ c ∧ c ≤ 57) ∨ c = 95 ∨ c < 48 ∨ (57 < c ∧ c < 95) ∨ c = 96 ∨ 122 < c by omega) with hd | hd | hd | hd | hd | hd
            · have hok : Hid ((if i = 0 then S.letter (s[i]'hlt) else S.sign (s[i]'hlt)) = true) := by show _ = _; rw [hs1.out]; simp; omega
              have t97 : decide (97 ≤ (c : Int)) = false := by simp; omega
              have t48 : decide ((c : Int) < 48) = false := by simp; omega
              have t57 : decide (57 < (c : Int)) = false := by simp; omega
              clear hd hl
              go_wp2
              go_roundw
              case rel => exact ⟨i + 1, by omega, rfl, hy1.out hok.out⟩
              case measure => rw [iterPos_iter, iterPos_iter]; omega
            · have hok : Hid ((if i = 0 then S.letter (s[i]'hlt) else S.sign (s[i]'hlt)) = true) := by show _ = _; rw [hs1.out]; simp; omega
              have t97 : decide (97 ≤ (c : Int)) = false := by simp; omega
              have t48 : decide ((c : Int) < 48) = false := by simp; omega
              have t57 : decide (57 < (c : Int)) = true := by simp; omega
              have t95 : ((c : Int) != 95) = false := by simp; omega
              clear hd hl
              go_wp2
              go_roundw
              case rel => exact ⟨i + 1, by omega, rfl, hy1.out hok.out⟩
              case measure => rw [iterPos_iter, iterPos_iter]; omega
            · have hno : Hid (S.nameOk (S.tx s) = false) := hn1.out (by rw [hs1.out]; simp; omega)
              have t97 : decide (97 ≤ (c : Int)) = false := by simp; omega
              have t48 : decide ((c : Int) < 48) = true := by simp; omega
              have t95 : ((c : Int) != 95) = true := by simp; omega
              clear hd hl
              go_wp2
              go_ret
              go_light
              exact ⟨ret_bool (by rw [hr1.out]; exact hno.out.symm), below_iter _ _ _⟩
            · have hno : Hid (S.nameOk (S.tx s) = false) := hn1.out (by rw [hs1.out]; simp; omega)
              have t97 : decide (97 ≤ (c : Int)) = false := by simp; omega
              have t48 : decide ((c : Int) < 48) = false := by simp; omega
              have t57 : decide (57 < (c : Int)) = true := by simp; omega
              have t95 : ((c : Int) != 95) = true := by simp; omega
              clear hd hl
              go_wp2
              go_ret
              go_light
              exact ⟨ret_bool (by rw [hr1.out]; exact hno.out.symm), below_iter _ _ _⟩
            · have hno : Hid (S.nameOk (S.tx s) = false) := hn1.out (by rw [hs1.out]; simp; omega)
              have t97 : decide (97 ≤ (c : Int)) = false := by simp; omega
              have t48 : decide ((c : Int) < 48) = false := by simp; omega
              have t57 : decide (57 < (c : Int)) = true := by simp; omega
              have t95 : ((c : Int) != 95) = true := by simp; omega
              clear hd hl
              go_wp2
              go_ret
              go_light
              exact ⟨ret_bool (by rw [hr1.out]; exact hno.out.symm), below_iter _ _ _⟩
            · have hno : Hid (S.nameOk (S.tx s) = false) := hn1.out (by rw [hs1.out]; simp; omega)
              have t97 : decide (97 ≤ (c : Int)) = true := by simp; omega
              have t122 : decide ((c : Int) ≤ 122) = false := by simp; omega
              have t48 : decide ((c : Int) < 48) = false := by simp; omega
              have t57 : decide (57 < (c : Int)) = true := by simp; omega
              have t95 : ((c : Int) != 95) = true := by simp; omega
              clear hd hl
              go_wp2
              go_ret
              go_light
              exact ⟨ret_bool (by rw [hr1.out]; exact hno.out.symm), below_iter _ _ _⟩
      · have hdh := decode_high s i hlt ha
        have hnx := fun ty => run_next_at (P := Tryz.prog) w s i ty hlt
        obtain ⟨c, hc⟩ : ∃ c, (Utf8.decode s i).1 = c := ⟨_, rfl⟩
        obtain ⟨d, hd⟩ : ∃ d, (Utf8.decode s i).2 = d := ⟨_, rfl⟩
        rw [hc] at hdh
        simp only [hc, hd] at hnx
        clear hc hd
        have hno : Hid (S.nameOk (S.tx s) = false) := by
          refine S.name_no hlt ?_ hn.out
          have e1 : S.letter (s[i]'hlt) = false := by simp [S.letter]; omega
          split
          · exact e1
          · simp [S.sign, e1]; omega
        clear hn
        have t97 : decide (97 ≤ (c : Int)) = true := by simp; omega
        have t122 : decide ((c : Int) ≤ 122) = false := by simp; omega
        have t48 : decide ((c : Int) < 48) = false := by simp; omega
        have t57 : decide (57 < (c : Int)) = true := by simp; omega
        have t95 : ((c : Int) != 95) = true := by simp; omega
        clear hdh
        by_cases hi0 : i = 0
        · subst hi0
          go_wp2
          go_ret
          go_light
          exact ⟨ret_bool (by rw [hr1.out]; exact hno.out.symm), below_iter _ _ _⟩
        · have ti : ((i : Int) == 0) = false := by simp; omega
          clear hi0
          go_wp2
          go_ret
          go_light
          exact ⟨ret_bool (by rw [hr1.out]; exact hno.out.symm), below_iter _ _ _⟩
    · have hnx := fun ty => run_next_end (P := Tryz.prog) w s i ty hlt
      have he : Hid (S.nameOk (S.tx s) = (decide (1 ≤ s.size) && decide (s.size ≤ 15))) := S.name_end hlt hn.out
      clear hn
      go_wp2
      all_goals go_ret
      all_goals go_light
      all_goals (refine ⟨ret_bool ?_, below_iter _ _ _⟩; rw [hr1.out, he.out]; clear hnx he hr1; rw [Bool.eq_iff_iff]; simp; omega)

theorem field_Name (s : S.Text) (w : World) (hs : s.length ≤ 1073741824) :
    Calls Tryz.prog 45 #[.string (S.mk s)] w fun e w' => e = .returned (.bool (S.nameOk s)) ∧ Below w.heap.size w w' :=
  field_Name_s (S.mk s) w hs
end Go.Proofs.YtdokiaicheillaaGreat

namespace Go.Proofs.YtdokiaicheillaaGreat
open Go.RowKit

set_option maxHeartbeats 400000 in
theorem find_1 (f : S.Field) (n : S.Text) (b : Nat) (w : World) (h : w.cell? ⟨b, 0, none⟩ = some (.string (S.mk n))) (hlt : b < w.heap.size) :
    Calls Tryz.prog 138 #[.agg #[.string (S.mk f.name), .int .i64 f.kind, .int .i64 f.long], .pointer (some ⟨b, 0, none⟩)] w fun e w' => e = .returned (.bool (f.name == n)) ∧ Below w.heap.size w w' := by
  obtain ⟨fn, k, l⟩ := f
  obtain ⟨r, hr⟩ : ∃ r, r = (fn == n) := ⟨_, rfl⟩
  have hr1 := Hid.mk hr
  show Calls _ _ _ _ fun e w' => e = .returned (.bool (fn == n)) ∧ Below w.heap.size w w'
  rw [← hr]
  clear hr
  go_enter Tryz.func138, Tryz.ntmps138
  go_wp2
  go_ret
  go_light
  exact ⟨ret_bool (by rw [hr1.out]), below_one _ _⟩

set_option maxHeartbeats 400000 in
theorem find_index (A : Option Addr) (c cb : Nat) (l : List S.Field) (n : S.Text) (w : World) (hl : Fields w.cell? A l) (hn : w.cell? ⟨cb, 0, none⟩ = some (.string (S.mk n))) :
    Calls Tryz.prog 137 #[.slice A l.length c, .func (.func 138) #[] #[.pointer (some ⟨cb, 0, none⟩)]] w fun e w' => e = .returned (.int .i64 (S.find l n)) ∧ Below w.heap.size w w' := by
  obtain ⟨r, hr⟩ : ∃ r, r = S.find l n := ⟨_, rfl⟩
  have hr1 := Hid.mk hr
  rw [← hr]
  clear hr
  have hlen := hl.1
  have hcb := World.block_lt_of_cell? w _ hn
  have hn1 := Hid.mk hn
  clear hn
  go_enter Tryz.func137, Tryz.ntmps137
  go_wp2
  go_loopw [5, 8] (fun _ v8 wr => ∃ i : Nat, i ≤ l.length ∧ v8 = .int .i64 i ∧ Below w.heap.size w wr ∧ Hid (∀ j g, j < i → l[j]? = some g → (g.name == n) = false)) (fun _ v8 _ => l.length - (intOf v8).toNat)
  case atStart => exact ⟨0, Nat.zero_le _, rfl, Below.refl _ _, fun j g h => absurd h (Nat.not_lt_zero _)⟩
  case round =>
    obtain ⟨i, hi, rfl, hb, hj⟩ := hrel
    by_cases hlt : i < l.length
    · have hf : l[i]? = some l[i] := List.getElem?_eq_getElem hlt
      obtain ⟨b, off, rfl, h0, h1, h2, hbs⟩ := Fields.at (hl.below hb) hf
      have hcw : Hid (wr.cell? ⟨cb, 0, none⟩ = some (.string (S.mk n))) := (hb.cell (p := ⟨cb, 0, none⟩) hcb).trans hn1.out
      have hcz : Hid (cb < wr.heap.size) := below_lt hb hcb
      generalize l[i] = f at *
      have hf1 := Hid.mk hf
      clear hf
      by_cases hq : (f.name == n) = true
      · have hq1 := Hid.mk hq
        go_wp2_with (go_at_call 138; refine (find_1 f n cb _ hcw.out hcz.out).mono ?_; rintro e w1 ⟨rfl, hb1⟩)
        go_ret
        go_light
        exact ⟨ret_int (by rw [hr1.out, S.find_at hf1.out hq1.out hj.out]), below_then hb hb1⟩
      · have hq1 : (f.name == n) = false := by simpa using hq
        have hq2 := Hid.mk hq1
        clear hq
        go_wp2_with (go_at_call 138; refine (find_1 f n cb _ hcw.out hcz.out).mono ?_; rintro e w1 ⟨rfl, hb1⟩)
        go_roundw
        case rel =>
          refine ⟨i + 1, by omega, by go_num, below_then hb hb1, ?_⟩
          intro j g hji hg
          rcases Nat.lt_succ_iff_lt_or_eq.1 hji with h | rfl
          · exact hj.out j g h hg
          · rw [hf1.out] at hg
            cases hg
            exact hq2.out
        case measure => simp [intOf]; omega
    · go_wp2
      go_ret
      go_light
      exact ⟨ret_int (by rw [hr1.out, S.find_none (fun j g hg => hj.out j g (by have := (List.getElem?_eq_some_iff.1 hg).1; omega) hg)]), hb⟩

set_option maxHeartbeats 400000 in
theorem field_Find (A : Option Addr) (c : Nat) (l : List S.Field) (n : S.Text) (w : World) (hl : Fields w.cell? A l) :
    Calls Tryz.prog 94 #[.slice A l.length c, .string (S.mk n)] w fun e w' => e = .returned (.int .i64 (S.find l n)) ∧ Below w.heap.size w w' := by
  have hb0 := below_one w (.cells #[.string (S.mk n)] 9)
  have hl1 := hl.below hb0
  have hc : (w.alloc (.cells #[.string (S.mk n)] 9)).cell? ⟨w.heap.size, 0, none⟩ = some (.string (S.mk n)) := by simp
  have h := find_index A c w.heap.size l n _ hl1 hc
  have h1 := Hid.mk h
  clear h hc hl1 hl
  go_enter Tryz.func94, Tryz.ntmps94
  go_wp2_with (go_at_call 137; refine h1.out.mono ?_; rintro e w1 ⟨rfl, hb1⟩)
  go_ret
  go_light
  exact ⟨rfl, below_then hb0 hb1⟩
end Go.Proofs.YtdokiaicheillaaGreat

namespace Go.Proofs.YtdokiaicheillaaGreat
open Go.RowKit

/-- The names of fields are no longer than what can be read. -/
def Short (l : List S.Field) : Prop := ∀ (i : Nat) (f : S.Field), l[i]? = some f → f.name.length ≤ 1073741824

set_option maxHeartbeats 1000000 in
theorem field_Right (A : Option Addr) (c : Nat) (l : List S.Field) (w : World) (hl : Fields w.cell? A l) (hs : Short l) :
    Calls Tryz.prog 46 #[.slice A l.length c] w fun e w' => e = .returned (.bool (S.right l)) ∧ Below w.heap.size w w' := by
  obtain ⟨r, hr⟩ : ∃ r, r = S.right l := ⟨_, rfl⟩
  have hr1 := Hid.mk hr
  rw [← hr]
  clear hr
  have hlen := hl.1
  have hs1 := Hid.mk hs
  clear hs
  go_enter Tryz.func46, Tryz.ntmps46
  go_wp2
  go_loopw [7] (fun v7 wr => ∃ i : Nat, i ≤ l.length ∧ v7 = .int .i64 i ∧ Below w.heap.size w wr ∧ Hid (∀ j, j < i → S.okAt l j = true)) (fun v7 _ => l.length - (intOf v7).toNat)
  case atStart => exact ⟨0, Nat.zero_le _, rfl, Below.refl _ _, fun j h => absurd h (Nat.not_lt_zero _)⟩
  case round =>
    obtain ⟨i, hi, rfl, hb, hj⟩ := hrel
    by_cases hlt : i < l.length
    · have hf : l[i]? = some l[i] := List.getElem?_eq_getElem hlt
      obtain ⟨b, off, rfl, h0, h1, h2, hbs⟩ := Fields.at (hl.below hb) hf
      have hfs := Hid.mk (hs1.out i _ hf)
      generalize l[i] = f at *
      have hf1 := Hid.mk hf
      clear hf
      have hbx := Hid.mk (hb.new_ (.cells #[.string (S.mk f.name), .int .i64 f.kind, .int .i64 f.long] 147))
      have hfp := Hid.mk (S.find_place hf1.out)
      cases hn : S.nameOk f.name
      · have hno : Hid ((S.nameOk f.name && (S.long f != 0) && (S.place l f.name == i)) = false) := by show _ = _; simp [hn]
        go_wp2_with (go_at_call 45; refine (field_Name f.name _ hfs.out).mono ?_; rintro e w1 ⟨rfl, hb1⟩; obtain ⟨hc1, -⟩ := bcell hb1; have hz1 : wr.heap.size < w1.heap.size := below_lt hb1 (by simp))
        go_ret
        go_light
        exact ⟨ret_bool (by rw [hr1.out, S.right_no hf1.out hno.out]), below_then hbx.out hb1⟩
      by_cases hz : S.long f = 0
      · have hno : Hid ((S.nameOk f.name && (S.long f != 0) && (S.place l f.name == i)) = false) := by show _ = _; simp [hz]
        have t1 : ((S.long f : Int) == 0) = true := by simp [hz]
        clear hz
        go_wp2_with (first | (go_at_call 45; refine (field_Name f.name _ hfs.out).mono ?_; rintro e w1 ⟨rfl, hb1⟩; obtain ⟨hc1, -⟩ := bcell hb1; have hz1 : wr.heap.size < w1.heap.size := below_lt hb1 (by simp)) | (go_at_call 93; refine (kind_Long f _).mono ?_; rintro e w2 ⟨rfl, hb2⟩; obtain ⟨hc2, -⟩ := bcell hb2; have hz2 : wr.heap.size < w2.heap.size := below_lt hb2 hz1))
        go_ret
        go_light
        exact ⟨ret_bool (by rw [hr1.out, S.right_no hf1.out hno.out]), below_then (below_then hbx.out hb1) hb2⟩
      have t1 : ((S.long f : Int) == 0) = false := by simp; omega
      by_cases hp : S.place l f.name = i
      · have hok : Hid (S.okAt l i = true) := by
          show _ = _
          rw [S.okAt_eq hf1.out]
          simp [hn, hp]
          omega
        have t2 : (S.find l f.name != i) = false := by rw [hfp.out, hp]; simp
        clear hp hz
        go_wp2_with (first | (go_at_call 45; refine (field_Name f.name _ hfs.out).mono ?_; rintro e w1 ⟨rfl, hb1⟩; obtain ⟨hc1, -⟩ := bcell hb1; have hz1 : wr.heap.size < w1.heap.size := below_lt hb1 (by simp)) | (go_at_call 93; refine (kind_Long f _).mono ?_; rintro e w2 ⟨rfl, hb2⟩; obtain ⟨hc2, -⟩ := bcell hb2; have hz2 : wr.heap.size < w2.heap.size := below_lt hb2 hz1) | (go_at_call 94; refine (field_Find _ c l f.name _ (hl.below (below_then (below_then hbx.out hb1) hb2))).mono ?_; rintro e w3 ⟨rfl, hb3⟩))
        go_roundw
        case rel =>
          go_light
          refine ⟨i + 1, by omega, by go_num, below_then (below_then (below_then hbx.out hb1) hb2) hb3, ?_⟩
          intro j hji
          rcases Nat.lt_succ_iff_lt_or_eq.1 hji with h | rfl
          · exact hj.out j h
          · exact hok.out
        case measure => go_light; simp [intOf]; omega
      · have hno : Hid ((S.nameOk f.name && (S.long f != 0) && (S.place l f.name == i)) = false) := by show _ = _; simp [hp]
        have t2 : (S.find l f.name != i) = true := by rw [hfp.out]; simp; omega
        clear hp hz
        go_wp2_with (first | (go_at_call 45; refine (field_Name f.name _ hfs.out).mono ?_; rintro e w1 ⟨rfl, hb1⟩; obtain ⟨hc1, -⟩ := bcell hb1; have hz1 : wr.heap.size < w1.heap.size := below_lt hb1 (by simp)) | (go_at_call 93; refine (kind_Long f _).mono ?_; rintro e w2 ⟨rfl, hb2⟩; obtain ⟨hc2, -⟩ := bcell hb2; have hz2 : wr.heap.size < w2.heap.size := below_lt hb2 hz1) | (go_at_call 94; refine (field_Find _ c l f.name _ (hl.below (below_then (below_then hbx.out hb1) hb2))).mono ?_; rintro e w3 ⟨rfl, hb3⟩))
        go_ret
        go_light
        exact ⟨ret_bool (by rw [hr1.out, S.right_no hf1.out hno.out]), below_then (below_then (below_then hbx.out hb1) hb2) hb3⟩
    · go_wp2
      go_ret
      go_light
      exact ⟨ret_bool (by rw [hr1.out, S.right_end (fun j h => hj.out j (by omega))]; rw [Bool.eq_iff_iff]; simp; omega), hb⟩
end Go.Proofs.YtdokiaicheillaaGreat
