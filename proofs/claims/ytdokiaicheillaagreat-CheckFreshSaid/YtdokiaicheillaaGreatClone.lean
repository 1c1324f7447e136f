/-
  The walks of slices.Clone, at each type of elements: the elements' cells are raw.
-/
import Derived.Test.YtdokiaicheillaaGreatRows
import Derived.Test.YtdokiaicheillaaGreatBase
namespace Go.Proofs.YtdokiaicheillaaGreat
open Go.RowKit

theorem clone_Field_info : (Tryz.prog.info? 147).map (fun i => (i.zero, i.size, i.bytes)) = some (some (.agg #[.string (S.mk []), .int .i64 0, .int .i64 0]), 3, 32) := by kernel_rfl
set_option maxHeartbeats 400000 in
theorem clone_Field (A : Option Addr) (c : Nat) (rows : List (List Value)) (w : World) (hr : Row w.cell? A 3 id rows) (hk : ∀ r, r ∈ rows → r.length = 3) (h1 : ∀ r, r ∈ rows → ∀ u, u ∈ r → u.oneCell' = true) (hA : A = none → c = 0) :
    Calls Tryz.prog 95 #[.slice A rows.length c] w fun e w' => ∃ v, e = .returned v ∧ w'.ownsRow w.heap.size 147 3 v rows.length rows.flatten ∧ Below w.heap.size w w' := by
  have hlen := hr.1
  cases A with
  | none =>
    obtain rfl : c = 0 := hA rfl
    have hrows : rows = [] := by
      cases rows with
      | nil => rfl
      | cons r rows => obtain ⟨b, off, e, _⟩ := hr.2 0 r rfl; cases e
    subst hrows
    have e1 := fun (W : World) => Lib.run_eql_slice_nil (P := Tryz.prog) W 87 147 none 0 0 0 0 Tryz.underlying87
    go_enter Tryz.func95, Tryz.ntmps95
    go_wp2
    go_ret
    go_light
    exact ⟨_, rfl, ⟨rfl, .inl ⟨rfl, rfl⟩⟩, Below.refl _ _⟩
  | some a =>
    have e1 := fun (W : World) => Lib.run_eql_slice_nil (P := Tryz.prog) W 87 147 (some a) rows.length c 0 0 Tryz.underlying87
    obtain ⟨i0, hi, hzz⟩ := Option.map_eq_some_iff.1 clone_Field_info
    simp only [Prod.mk.injEq] at hzz
    obtain ⟨hz0, hz1, hz2⟩ := hzz
    have hb0 := below_one w (.cells #[] 147)
    have hbr := hr.below hb0
    have hown : (w.alloc (.cells #[] 147)).ownsRow w.heap.size 147 3 (.slice (some ⟨w.heap.size, 0, none⟩) 0 0) 0 [] :=
      ⟨rfl, .inr ⟨w.heap.size, 0, #[], rfl, Nat.le_refl _, heap_alloc_new w _, Nat.le_refl _, by decide, rfl, rfl⟩⟩
    have hnews : ∀ j u, rows.flatten[j]? = some u → (w.alloc (.cells #[] 147)).cell? (a.add j) = some u := by
      cases rows with
      | nil => intro j u h; simp at h
      | cons r rows =>
        obtain ⟨b, off, e, _⟩ := hr.2 0 r rfl
        simp only [Option.some.injEq] at e
        subst e
        exact Row.news hbr hk
    have hlens := flat_length hk
    have h1s : ∀ u ∈ rows.flatten, u.oneCell' = true := fun u hu => by obtain ⟨r, h2, h3⟩ := List.mem_flatten.1 hu; exact h1 r h2 u h3
    have hnews1 := Hid.mk hnews
    have hlens1 := Hid.mk hlens
    have h1s1 := Hid.mk h1s
    have hown1 := Hid.mk hown
    have hb01 := Hid.mk hb0
    have hi1 := Hid.mk hi
    have hz01 := Hid.mk hz0
    have hz11 := Hid.mk hz1
    have hz21 := Hid.mk hz2
    clear hlens h1s hown hnews hbr hb0 hr hk h1 hA hi hz0 hz1 hz2
    go_enter Tryz.func95, Tryz.ntmps95
    go_wp2_with (at_builtin; refine wpList_append_own_at _ rfl _ _ 87 rfl w.heap.size 147 i0 (.agg #[.string (S.mk []), .int .i64 0, .int .i64 0]) 3 32 Tryz.underlying87 hi1.out hz01.out hz11.out hz21.out rfl (by decide) (.slice (some ⟨w.heap.size, 0, none⟩) 0 0) 0 [] rfl hown1.out a rows.length c rows.flatten rfl hlens1.out hnews1.out h1s1.out (by unfold maxLen; omega) (by omega) (by simp) ?_; intro v' w' ho hg h5 h6; clear h5 h6)
    go_ret
    go_light
    exact ⟨_, rfl, by simpa using ho, hb01.out.grown hg (by simp) (fun k e => by simp [Value.ownBlock] at e; omega)⟩

theorem clone_Table_info : (Tryz.prog.info? 96).map (fun i => (i.zero, i.size, i.bytes)) = some (some (.agg #[.slice none 0 0, .slice none 0 0, .slice none 0 0]), 3, 72) := by kernel_rfl
theorem clone_slot_info : (Tryz.prog.info? 175).map (fun i => (i.zero, i.size, i.bytes)) = some (some (.agg #[.int .i64 0, .bool false, .int .u64 0]), 3, 24) := by kernel_rfl
theorem clone_byte_info : (Tryz.prog.info? 5).map (fun i => (i.zero, i.size, i.bytes)) = some (some (.int .u8 0), 1, 1) := by kernel_rfl
set_option maxHeartbeats 400000 in
theorem clone_byte (A : Option Addr) (c : Nat) (rows : List (List Value)) (w : World) (hr : Row w.cell? A 1 id rows) (hk : ∀ r, r ∈ rows → r.length = 1) (h1 : ∀ r, r ∈ rows → ∀ u, u ∈ r → u.oneCell' = true) (hA : A = none → c = 0) :
    Calls Tryz.prog 119 #[.slice A rows.length c] w fun e w' => ∃ v, e = .returned v ∧ w'.ownsRow w.heap.size 5 1 v rows.length rows.flatten ∧ Below w.heap.size w w' := by
  have hlen := hr.1
  cases A with
  | none =>
    obtain rfl : c = 0 := hA rfl
    have hrows : rows = [] := by
      cases rows with
      | nil => rfl
      | cons r rows => obtain ⟨b, off, e, _⟩ := hr.2 0 r rfl; cases e
    subst hrows
    have e1 := fun (W : World) => Lib.run_eql_slice_nil (P := Tryz.prog) W 81 5 none 0 0 0 0 Tryz.underlying81
    go_enter Tryz.func119, Tryz.ntmps119
    go_wp2
    go_ret
    go_light
    exact ⟨_, rfl, ⟨rfl, .inl ⟨rfl, rfl⟩⟩, Below.refl _ _⟩
  | some a =>
    have e1 := fun (W : World) => Lib.run_eql_slice_nil (P := Tryz.prog) W 81 5 (some a) rows.length c 0 0 Tryz.underlying81
    obtain ⟨i0, hi, hzz⟩ := Option.map_eq_some_iff.1 clone_byte_info
    simp only [Prod.mk.injEq] at hzz
    obtain ⟨hz0, hz1, hz2⟩ := hzz
    have hb0 := below_one w (.cells #[] 5)
    have hbr := hr.below hb0
    have hown : (w.alloc (.cells #[] 5)).ownsRow w.heap.size 5 1 (.slice (some ⟨w.heap.size, 0, none⟩) 0 0) 0 [] :=
      ⟨rfl, .inr ⟨w.heap.size, 0, #[], rfl, Nat.le_refl _, heap_alloc_new w _, Nat.le_refl _, by decide, rfl, rfl⟩⟩
    have hnews : ∀ j u, rows.flatten[j]? = some u → (w.alloc (.cells #[] 5)).cell? (a.add j) = some u := by
      cases rows with
      | nil => intro j u h; simp at h
      | cons r rows =>
        obtain ⟨b, off, e, _⟩ := hr.2 0 r rfl
        simp only [Option.some.injEq] at e
        subst e
        exact Row.news hbr hk
    have hlens := flat_length hk
    have h1s : ∀ u ∈ rows.flatten, u.oneCell' = true := fun u hu => by obtain ⟨r, h2, h3⟩ := List.mem_flatten.1 hu; exact h1 r h2 u h3
    have hnews1 := Hid.mk hnews
    have hlens1 := Hid.mk hlens
    have h1s1 := Hid.mk h1s
    have hown1 := Hid.mk hown
    have hb01 := Hid.mk hb0
    have hi1 := Hid.mk hi
    have hz01 := Hid.mk hz0
    have hz11 := Hid.mk hz1
    have hz21 := Hid.mk hz2
    clear hlens h1s hown hnews hbr hb0 hr hk h1 hA hi hz0 hz1 hz2
    go_enter Tryz.func119, Tryz.ntmps119
    go_wp2_with (at_builtin; refine wpList_append_own_at _ rfl _ _ 81 rfl w.heap.size 5 i0 (.int .u8 0) 1 1 Tryz.underlying81 hi1.out hz01.out hz11.out hz21.out rfl (by decide) (.slice (some ⟨w.heap.size, 0, none⟩) 0 0) 0 [] rfl hown1.out a rows.length c rows.flatten rfl hlens1.out hnews1.out h1s1.out (by unfold maxLen; omega) (by omega) (by simp) ?_; intro v' w' ho hg h5 h6; clear h5 h6)
    go_ret
    go_light
    exact ⟨_, rfl, by simpa using ho, hb01.out.grown hg (by simp) (fun k e => by simp [Value.ownBlock] at e; omega)⟩

end Go.Proofs.YtdokiaicheillaaGreat
