/-
  The walk of schema's Copy: a range over a map that fills another one.
-/
import Derived.Test.YtpfbfcnfldmfcaaGreatCreateS
import Derived.Deep.DeepMust
namespace Go.Proofs.YtpfbfcnfldmfcaaGreat
open Go.RowKit

/-- A type that is laid into a catalogue's map. -/
theorem cat_add {w w' : World} {c mb sb : Nat} {v : Value} {ps : List Spot} {C : List (S.Text × S.Kinds)} {name : S.Text} {k : S.Kinds} (h : CatAt w c mb ps C) (hO : Only [mb] w w') (hm : MapAt encT encB w' mb (ps.map (fun p => (p.1, p.2.1)) ++ [(name, sb)]))
    (hs : SortAt w' sb v k) (h1 : w.heap.size ≤ sb) (h2 : ∀ k, k ∈ rowF v → w.heap.size ≤ k ∧ k ≠ sb) : CatAt w' c mb (ps ++ [(name, sb, v)]) (C ++ [(name, k)]) := by
  have hmc : Calm w [mb] := by obtain ⟨a, cl, hm⟩ := h.map.obj; exact calm_map hm
  have hap := h.apart
  simp only [catF, List.nodup_cons, List.mem_cons, List.mem_flatMap, not_or] at hap
  obtain ⟨⟨a1, a2⟩, a3, a4⟩ := hap
  have hlen : ps.length = C.length := by have := congrArg List.length h.names; simpa using this
  refine ⟨(hO.block c (h.lt c (by simp [catF])) (by simpa using a1)).trans h.head, by simpa using hm, by simp [h.names], fun i p k hp hk => ?_, ?_⟩
  · by_cases hi : i < ps.length
    · rw [List.getElem?_append_left hi] at hp
      rw [List.getElem?_append_left (by omega)] at hk
      have hin : p ∈ ps := List.mem_of_getElem? hp
      have hb : ∀ k, (k = p.2.1 ∨ k ∈ rowF p.2.2) → w'.heap[k]? = w.heap[k]? := fun k hk => hO.block k (h.lt k (by simp only [catF, List.mem_cons, List.mem_flatMap]; exact .inr (.inr ⟨p, hin, hk⟩))) (by
        simp only [List.mem_singleton]
        rintro rfl
        exact a3 ⟨p, hin, hk⟩)
      exact (h.sorts i p k hp hk).kept (hb _ (.inl rfl)) (fun k hk => hb k (.inr hk)) (hmc.keeps hO)
    · have hi2 : i = ps.length := by
        have := (List.getElem?_eq_some_iff.1 hp).1
        simp at this
        omega
      subst hi2
      rw [List.getElem?_append_right (Nat.le_refl _), Nat.sub_self] at hp
      rw [List.getElem?_append_right (by omega), show ps.length - C.length = 0 by omega] at hk
      simp only [List.getElem?_cons_zero, Option.some.injEq] at hp hk
      subst hp
      subst hk
      exact hs
  · have hap := h.apart
    have e : catF c mb (ps ++ [(name, sb, v)]) = catF c mb ps ++ (sb :: rowF v) := by simp [catF]
    rw [e]
    refine List.nodup_append.2 ⟨hap, List.nodup_cons.2 ⟨fun hk => (h2 sb hk).2 rfl, by unfold rowF; cases v.ownBlock <;> simp⟩, fun a ha b hb => ?_⟩
    have := h.lt a ha
    rcases List.mem_cons.1 hb with rfl | hb
    · omega
    · have := (h2 b hb).1
      omega

theorem IterAt.kept {K V : Type} {enc : K → Value} {dec : V → Value} {w w' : World} {r mb : Nat} {E : List (Nat × K × V)} {clock : Nat} {todo : List (K × V)} (h : IterAt enc dec w r mb E clock todo) (h1 : w'.heap[r]? = w.heap[r]?) (h2 : w'.heap[mb]? = w.heap[mb]?) : IterAt enc dec w' r mb E clock todo := by
  obtain ⟨hE, seen, last, hr, hl, e⟩ := h
  exact ⟨⟨h2.trans hE.heap, hE.old, hE.born, hE.keys⟩, seen, last, h1.trans hr, hl, e⟩
theorem IterAt.lt {K V : Type} {enc : K → Value} {dec : V → Value} {w : World} {r mb : Nat} {E : List (Nat × K × V)} {clock : Nat} {todo : List (K × V)} (h : IterAt enc dec w r mb E clock todo) : r < w.heap.size ∧ mb < w.heap.size := by
  obtain ⟨hE, seen, last, hr, hl, e⟩ := h
  exact ⟨(Array.getElem?_eq_some_iff.1 hr).1, (Array.getElem?_eq_some_iff.1 hE.heap).1⟩
theorem IterAt.same {K V : Type} {enc : K → Value} {dec : V → Value} {w : World} {r mb : Nat} {E : List (Nat × K × V)} {clock : Nat} {todo : List (K × V)} (h : IterAt enc dec w r mb E clock todo) : EntsAt enc dec w mb E clock := h.1

theorem CatAt.ckeys {w : World} {c mb : Nat} {ps : List Spot} {C : List (S.Text × S.Kinds)} (h : CatAt w c mb ps C) : (C.map (·.1)).Nodup := by
  have h1 := h.map.keys
  rw [List.map_map] at h1
  rw [← h.names]
  exact h1
/-- What is known of an entry of a catalogue's map. -/
theorem CatAt.entry {w : World} {c mb : Nat} {ps : List Spot} {C : List (S.Text × S.Kinds)} (h : CatAt w c mb ps C) {x : S.Text × Nat} (hx : x ∈ ps.map fun p => (p.1, p.2.1)) : ∃ v k, SortAt w x.2 v k ∧ (x.1, k) ∈ C ∧ x.2 ∈ catF c mb ps ∧ (∀ b, b ∈ rowF v → b ∈ catF c mb ps) := by
  obtain ⟨p, hp, rfl⟩ := List.mem_map.1 hx
  obtain ⟨k, hk, hs⟩ := h.spot hp
  exact ⟨_, k, hs, hk, by simp only [catF, List.mem_cons, List.mem_flatMap]; exact .inr (.inr ⟨p, hp, .inl rfl⟩), fun b hb => by simp only [catF, List.mem_cons, List.mem_flatMap]; exact .inr (.inr ⟨p, hp, .inr hb⟩)⟩

/-- What is still to be copied. -/
def restC (C : List (S.Text × S.Kinds)) (todo : List (S.Text × Nat)) : List (S.Text × S.Kinds) := todo.map fun x => (x.1, (getK C x.1).getD ⟨0, []⟩)
theorem restC_perm {C : List (S.Text × S.Kinds)} {a b : List (S.Text × Nat)} (h : a.Perm b) : (restC C a).Perm (restC C b) := h.map _
theorem restC_all {w : World} {c mb : Nat} {ps : List Spot} {C : List (S.Text × S.Kinds)} (h : CatAt w c mb ps C) : restC C (ps.map fun p => (p.1, p.2.1)) = C := by
  have hk := h.ckeys
  have h1 : restC C (ps.map fun p => (p.1, p.2.1)) = (ps.map (·.1)).map fun a => (a, (getK C a).getD ⟨0, []⟩) := by simp [restC, List.map_map, Function.comp_def]
  rw [h1, h.names, List.map_map]
  refine (List.map_congr_left (fun x hx => ?_)).trans (List.map_id C)
  simp only [Function.comp_apply, getK_of_mem hk (show (x.1, x.2) ∈ C from hx)]
  rfl

theorem own_rows {w : World} {v : Value} {n : Nat} {rows : List (List Value)} {tabs : List S.Table} (h : w.ownsRow 0 90 3 v n rows.flatten) (hn : rows.length = n) (ht : tabs.length = n) (hT : ∀ (i : Nat) (r : List Value) (T : S.Table), rows[i]? = some r → tabs[i]? = some T → TabVals w r T) :
    (∀ r, r ∈ rows → r.length = 3) ∧ (∀ r, r ∈ rows → ∀ u, u ∈ r → u.oneCell' = true) := by
  have h1 : ∀ r, r ∈ rows → ∃ T, TabVals w r T := fun r hr => by
    obtain ⟨i, hi⟩ := List.getElem?_of_mem hr
    have hi2 := (List.getElem?_eq_some_iff.1 hi).1
    exact ⟨_, hT i r _ hi (List.getElem?_eq_getElem (by omega))⟩
  constructor
  · intro r hr
    obtain ⟨T, vo, vn, vm, e, -⟩ := h1 r hr
    rw [e]
    rfl
  · intro r hr u hu
    obtain ⟨T, vo, vn, vm, e, ⟨A1, c1, e1, -⟩, ⟨A2, c2, e2, -⟩, ⟨A3, c3, e3, -⟩⟩ := h1 r hr
    rw [e] at hu
    simp only [List.mem_cons, List.not_mem_nil, or_false] at hu
    rcases hu with rfl | rfl | rfl
    · rw [e1]; rfl
    · rw [e2]; rfl
    · rw [e3]; rfl

set_option maxRecDepth 100000 in
set_option maxHeartbeats 4000000 in
theorem schema_Copy (c mb : Nat) (ps : List Spot) (C : List (S.Text × S.Kinds)) (w : World) (h : CatAt w c mb ps C) (hlen : ∀ x, x ∈ C → x.2.tabs.length ≤ 1073741824) :
    Calls Tryz.prog 67 #[.pointer (some ⟨c, 0, none⟩)] w fun e w' => ∃ c' mb' ps' C', e = .returned (.pointer (some ⟨c', 0, none⟩)) ∧ CatAt w' c' mb' ps' C' ∧ C'.Perm C ∧ (∀ k, k ∈ catF c' mb' ps' → w.heap.size ≤ k) ∧ Below w.heap.size w w' := by
  have hnw := Hid.mk (schema_New w)
  have hcl := h.lt c (by simp [catF])
  have c0 : w.cell? ⟨c, 0, none⟩ = some (.map (some mb)) := by simp [World.cell?, h.head]
  have h1 := Hid.mk h
  have hlen1 := Hid.mk hlen
  clear h hlen
  go_enter Tryz.func67, Tryz.ntmps67
  go_wp2_with (go_at_call 27; (with_reducible refine hnw.out.mono ?_); rintro e w1 ⟨c', mb', rfl, hca, hc', hm', hb⟩; have hca1 := Hid.mk hca; have hb1 := Hid.mk hb; have cc := (hb.cell (p := ⟨c, 0, none⟩) hcl).trans c0; obtain ⟨E, clock, hE, hl⟩ := (h1.out.below hb).map; obtain ⟨hr1, hit⟩ := run_range (P := Tryz.prog) Tryz.underlying85 hE; have hit1 := Hid.mk hit; have hl1 := Hid.mk hl; have hE1 := Hid.mk hE; clear hca hb hit hl hE)
  clear hr1 cc c0
  have hitb := below_one w1 (.mapIter (some mb) clock #[] clock)
  have hca2 := Hid.mk (hca1.out.below hitb)
  have hB2 := Hid.mk (below_then hb1.out hitb)
  have hz1 := hb1.out.size
  have hc'l := hca1.out.lt c' (by simp [catF])
  have hm'l := hca1.out.lt mb' (by simp [catF])
  have hmbl : mb < w.heap.size := h1.out.map.lt
  have hcm : c' ≠ mb' := by
    have := hca1.out.apart
    simp only [catF, List.nodup_cons, List.mem_cons, not_or] at this
    exact this.1.1
  clear hitb
  generalize hit0 : w1.heap.size = it at *
  go_loopw [4, 5] (fun _ _ wr => ∃ (qs : List Spot) (D : List (S.Text × S.Kinds)) (todo : List (S.Text × Nat)), Hid (IterAt encT encB wr it mb E clock todo) ∧ Hid (CatAt wr c' mb' qs D) ∧ Hid ((D ++ restC C todo).Perm C) ∧ Hid (∀ x, x ∈ todo → x ∈ E.map (·.2)) ∧ Hid (∀ k, k ∈ catF c' mb' qs → w.heap.size ≤ k) ∧ Hid (Below w.heap.size w wr)) (fun _ _ wr => iterLeft wr it E)
  case atStart =>
    refine ⟨[], [], _, hit1, hca2, Hid.mk ?_, fun x hx => hx, fun k hk => ?_, hB2⟩
    · rw [show E.map (fun x => x.2) = ps.map (fun p => (p.1, p.2.1)) from hl1.out, restC_all h1.out, List.nil_append]
    · simp only [catF, List.flatMap_nil, List.mem_cons, List.not_mem_nil, or_false] at hk
      omega
  case round =>
    obtain ⟨qs, D, todo, hi, hq, hp, hsub, hF, hB⟩ := hrel
    by_cases ht : todo = []
    · subst ht
      have hnx := run_next_none (P := Tryz.prog) hi.out
      go_wp2
      go_ret
      go_light
      exact ⟨_, _, qs, D, rfl, hq.out, by simpa [restC] using hp.out, hF.out, hB.out⟩
    · obtain ⟨x, todo', w', hnx, hen, hperm, hi', hg, hs⟩ := run_next_some (P := Tryz.prog) hi.out ht (by omega) 0
      have hxin : x ∈ ps.map (fun p => (p.1, p.2.1)) := by
        rw [← hl1.out]
        exact hsub.out x (hperm.mem_iff.2 (by simp))
      have hitl := hi.out.lt.1
      have hB' : Below w.heap.size w w' := hB.out.grown hg hB.out.size (fun k e => by cases e; omega)
      have hsrc := h1.out.below hB'
      obtain ⟨v, k, hsx, hkC, hsb, hrv⟩ := hsrc.entry hxin
      have hkg : getK C x.1 = some k := getK_of_mem hsrc.ckeys hkC
      have hOi : Only [it] wr w' := ⟨hg.os, hg.tape, hg.output, hg.size, fun k hk hn => hg.block k hk (by simpa using hn)⟩
      have hitc : Calm wr [it] := fun k cs t fr hk h3 => by
        obtain ⟨-, seen, last, hr, -⟩ := hi.out
        simp only [List.mem_singleton] at hk
        subst hk
        rw [hr] at h3
        cases h3
      have hitq : ∀ k, k ∈ catF c' mb' qs → k ∉ [it] := fun k hk h9 => by
        simp only [List.mem_singleton] at h9
        subst h9
        obtain ⟨-, seen, last, hr, -⟩ := hi.out
        simp only [catF, List.mem_cons, List.mem_flatMap] at hk
        rcases hk with rfl | rfl | ⟨p, hp, hk⟩
        · omega
        · omega
        · obtain ⟨k9, -, hs9⟩ := hq.out.spot hp
          rcases hk with rfl | hk
          · have := hs9.head; rw [hr] at this; cases this
          · obtain ⟨rows, r1, -, -⟩ := hs9.row
            obtain ⟨cs, hcs⟩ := own_cells r1 (mem_rowF.1 hk)
            rw [hr] at hcs
            cases hcs
      have hq' := hq.out.only hOi hitc hitq
      have hp' : ((D ++ [(x.1, k)]) ++ restC C todo').Perm C := by
        refine List.Perm.trans ?_ hp.out
        rw [List.append_assoc]
        refine List.Perm.append_left _ ?_
        have := (restC_perm (C := C) hperm).symm
        simpa [restC, hkg] using this
      have hfresh : getK (qs.map fun p => (p.1, p.2.1)) x.1 = none := by
        refine getK_none_iff.2 fun y hy e => ?_
        have hnd : ((D ++ [(x.1, k)]) ++ restC C todo').map (·.1) |>.Nodup := (hp'.map _).nodup_iff.2 hsrc.ckeys
        obtain ⟨p, hpq, rfl⟩ := List.mem_map.1 hy
        have hpD : p.1 ∈ D.map (·.1) := by rw [← hq.out.names]; exact List.mem_map.2 ⟨p, hpq, rfl⟩
        simp only [List.map_append, List.map_cons, List.map_nil, List.nodup_append] at hnd
        exact hnd.1.2.2 _ hpD _ (List.mem_singleton.2 rfl) e.symm
      obtain ⟨rows, r1, r2, r3⟩ := hsx.row
      obtain ⟨hr3, hro⟩ := own_rows r1 r2 rfl r3
      have hkl : k.tabs.length ≤ 1073741824 := hlen1.out _ hkC
      obtain ⟨A, cap, hv, hrow, hA⟩ := Row.of_own r1 hr3 r2.symm (by omega)
      have hcl2 := clone_Table A cap rows w'.drew (show Row w'.drew.cell? A 3 id rows from hrow) hr3 hro hA
      rw [r2] at hcl2
      have d0 := hsx.c0
      have d1 := hsx.c1
      rw [hv] at d1
      have cc : w'.cell? ⟨c', 0, none⟩ = some (.map (some mb')) := by simp [World.cell?, hq'.head]
      have hsl : x.2 < w'.heap.size := hsrc.lt _ hsb
      have hc2 : c' < w'.heap.size := hq'.lt _ (by simp [catF])
      have hm2 : mb' < w'.heap.size := hq'.lt _ (by simp [catF])
      have hst : ∀ (w3 : World) (sb : Nat), Below w'.heap.size w' w3 → ∃ o, (Instr.mapUpdate 85 (.map (some mb')) (.string (S.mk x.1)) (.pointer (some ⟨sb, 0, none⟩))).run Tryz.prog w3 = .ok () (w3.putObj mb' o) ∧ Hid (MapAt encT encB (w3.putObj mb' o) mb' (qs.map (fun p => (p.1, p.2.1)) ++ [(x.1, sb)])) := fun w3 sb hb => by
        obtain ⟨o, h3, h4⟩ := run_store (P := Tryz.prog) (key_text Tryz.underlying9) Tryz.underlying85 (hq'.below hb).map x.1 sb
        rw [setK_new hfresh] at h4
        exact ⟨o, h3, h4⟩
      have hm1 := Hid.mk (iterLeft_next hi.out hi' hperm)
      have hsub' := Hid.mk (show ∀ y, y ∈ todo' → y ∈ E.map (·.2) from fun y hy => hsub.out y (hperm.mem_iff.2 (by simp [hy])))
      have hsc : x.2 ≠ mb' := fun e => by have := h1.out.lt; have := hF.out mb' (by simp [catF]); have : x.2 < w.heap.size := (show x.2 < w.heap.size from by obtain ⟨v9, k9, h9, -, h10, -⟩ := h1.out.entry hxin; exact h1.out.lt _ h10); omega
      obtain ⟨nm, sb⟩ := x
      dsimp only at d0 d1 hst hfresh hp' hsx hsl hsc hkg
      have hi'1 := Hid.mk hi'; have hq'1 := Hid.mk hq'; have hp'1 := Hid.mk hp'; have hsrc1 := Hid.mk hsrc; have hsx1 := Hid.mk hsx; have r11 := Hid.mk r1; have r31 := Hid.mk r3; have hcl21 := Hid.mk hcl2; have hst1 := Hid.mk hst; have hfresh1 := Hid.mk hfresh; have hB'1 := Hid.mk hB'; clear hi' hq' hp' hsrc hsx r1 r3 hcl2 hst hfresh hB'
      have hr2 := Hid.mk r2
      clear hi hq hp hsub hperm hxin hkC hrv hOi hitc hitq hg ht hr3 hro hrow hA r2 hkl hv
      go_wp2
      clear hnx hen
      go_region_held3 (fun W => W.cell? ⟨c', 0, none⟩ = some (.map (some mb')) ∧ W.cell? ⟨sb, 0, none⟩ = some (.int .i64 k.oldest) ∧ W.cell? ⟨sb, 1, none⟩ = some (.slice A k.tabs.length cap))
        (first | go_keep | (go_split_ands; exact ⟨(cell_block (World.putObj_heap_other hcm)).trans (by assumption), (cell_block (World.putObj_heap_other hsc)).trans (by assumption), (cell_block (World.putObj_heap_other hsc)).trans (by assumption)⟩) | (go_split_ands; exact ⟨(cell_block (hb3.out.block c' hc2)).trans (by assumption), (cell_block (hb3.out.block sb hsl)).trans (by assumption), (cell_block (hb3.out.block sb hsl)).trans (by assumption)⟩))
        (first | ((with_reducible refine hcl21.out.mono ?_); rintro e w3 ⟨v3, rfl, ho, hb⟩; obtain ⟨A3, c3, rfl⟩ := own_slice ho; have hb3 := Hid.mk (show Below w'.heap.size w' w3 from ⟨hb.os, hb.tape, hb.output, hb.size, hb.block⟩); obtain ⟨o, hsto, hmo⟩ := hst1.out (w3.alloc (.cells #[.int .i64 k.oldest, .slice A3 k.tabs.length c3] 94)) w3.heap.size (hb3.out.new_ _); have ho3 := Hid.mk ho; clear ho hb) | fail)
      have hz3 : w'.heap.size ≤ w3.heap.size := hb3.out.size
      have hO6 : Only [mb'] w' ((w3.alloc (.cells #[.int .i64 k.oldest, .slice A3 k.tabs.length c3] 94)).putObj mb' o) := (Only.below (hb3.out.new_ _) [mb']).grown (grownBy_putObj' _ _ _) (fun k e => by cases e; exact .inl (by simp))
      have hi6 : IterAt encT encB ((w3.alloc (.cells #[.int .i64 k.oldest, .slice A3 k.tabs.length c3] 94)).putObj mb' o) it mb E clock todo' := hi'1.out.kept (hO6.block it (by omega) (by simp; omega)) (hO6.block mb (by omega) (by simp; omega))
      have hsort : SortAt ((w3.alloc (.cells #[.int .i64 k.oldest, .slice A3 k.tabs.length c3] 94)).putObj mb' o) w3.heap.size (.slice A3 k.tabs.length c3) k := by
        have hmc : Calm w' [mb'] := by obtain ⟨a, cl, hm⟩ := hq'1.out.map.obj; exact calm_map hm
        refine ⟨(World.putObj_heap_other (by omega)).trans (heap_alloc_new _ _), rows, own_weak (own_kept ho3.out (fun j hj => ?_)) (Nat.zero_le _), hr2.out, fun i r T hr hT => (r31.out i r T hr hT).kept (hmc.keeps hO6)⟩
        have h8 := own_lt ho3.out hj
        have h9 : w'.heap.size ≤ j := own_block_ge ho3.out hj
        rw [World.putObj_heap_other (by omega), Below.heap_alloc _ _ _ h8]
      have hq6 := cat_add hq'1.out hO6 hmo.out hsort (by omega) (fun j hj => by have h8 := own_lt ho3.out (mem_rowF.1 hj); have h9 : w'.heap.size ≤ j := own_block_ge ho3.out (mem_rowF.1 hj); omega)
      have hB6 : Below w.heap.size w ((w3.alloc (.cells #[.int .i64 k.oldest, .slice A3 k.tabs.length c3] 94)).putObj mb' o) := hB'1.out.trans (hO6.toBelow (fun k hk => by simp at hk; omega) hB'1.out.size)
      have hF6 : ∀ j, j ∈ catF c' mb' (qs ++ [(nm, w3.heap.size, .slice A3 k.tabs.length c3)]) → w.heap.size ≤ j := fun j hj => by
        have hzw := hB'1.out.size
        rcases mem_catF_snoc hj with h7 | rfl | h7
        · exact hF.out j h7
        · omega
        · have h9 : w'.heap.size ≤ j := own_block_ge ho3.out (mem_rowF.1 h7)
          omega
      have hO61 := Hid.mk hO6; have hi61 := Hid.mk hi6; have hsort1 := Hid.mk hsort; have hq61 := Hid.mk hq6; have hB61 := Hid.mk hB6; have hF61 := Hid.mk hF6; clear hO6 hi6 hsort hq6 hB6 hF6
      go_roundw
      case rel =>
        go_light
        have hgoal := (⟨qs ++ [(nm, w3.heap.size, .slice A3 k.tabs.length c3)], D ++ [(nm, k)], todo', hi61, hq61, hp'1, hsub', hF61, hB61⟩ : ∃ (qs : List Spot) (D : List (S.Text × S.Kinds)) (todo : List (S.Text × Nat)), Hid (IterAt encT encB _ it mb E clock todo) ∧ Hid (CatAt _ c' mb' qs D) ∧ Hid ((D ++ restC C todo).Perm C) ∧ Hid (∀ x, x ∈ todo → x ∈ E.map (·.2)) ∧ Hid (∀ k, k ∈ catF c' mb' qs → w.heap.size ≤ k) ∧ Hid (Below w.heap.size w _))
        (repeat' apply Exists.intro)
        exact ⟨hgoal, rfl⟩
      case measure =>
        go_light
        rw [iterLeft_eq hi61.out, ← iterLeft_eq hi'1.out]
        exact hm1.out
end Go.Proofs.YtpfbfcnfldmfcaaGreat
