/- The walk over Table.Names. -/
import Derived.Test.YtadnabgnbhpijaaTabNames
import Derived.Deep.RegionHeld3
set_option linter.unusedSimpArgs false
set_option linter.unusedVariables false
namespace Go.Proofs.Ytadnabgnbhpijaa
open Go.RowKit Go.Maps Go.Sort Go.Shelf

theorem row_v {S : Nat → Prop} {w w' : World} {tb : Nat} {T : TabS} (h : TabM S w tb T) (hb : Below w.heap.size w w') : RowV w' (rowV T.ob T.old.length) (T.old.map SlotM.v) ∧ RowV w' T.newV (T.new.map SlotM.v) := by
  have h1 : ∀ s : SlotM, s ∈ T.all → s.v.oneCell' = true := fun s hs => by
    obtain ⟨p, c, e, _⟩ := (h.slots s hs).own.shape
    rw [e]; rfl
  refine ⟨⟨⟨some ⟨T.ob, 0, none⟩, T.old.length, by simp, ?_⟩, fun u hu => ?_⟩, ⟨?_, fun u hu => ?_⟩⟩
  · exact Rd.of_row (below_row hb h.old.row) 0 (by simp)
  · obtain ⟨s, hs, rfl⟩ := List.mem_map.1 hu
    exact h1 s (List.mem_append_left _ hs)
  · unfold TabS.newV
    cases hm : T.moving
    · rw [h.no hm]
      exact ⟨none, 0, rfl, Rd.nil _ _⟩
    · exact ⟨some ⟨T.nb, 0, none⟩, T.new.length, by simp, Rd.of_row (below_row hb (h.new hm).row) 0 (by simp)⟩
  · obtain ⟨s, hs, rfl⟩ := List.mem_map.1 hu
    exact h1 s (List.mem_append_right _ hs)
/-- the names of the first k slots -/
def namesTo (T : TabS) (k : Nat) : List (List UInt8) := ((T.all.take k).flatMap SlotM.L).map Prod.fst
theorem namesTo_succ (T : TabS) (k : Nat) (h : k < T.all.length) : namesTo T (k + 1) = namesTo T k ++ (T.all[k].L).map Prod.fst := by
  unfold namesTo
  rw [List.take_succ_eq_append_getElem h, List.flatMap_append, List.map_append]
  congr 1
  simp only [List.flatMap_cons, List.flatMap_nil, List.append_nil]
theorem namesTo_le (T : TabS) (k : Nat) : (namesTo T k).length ≤ ((T.all.flatMap SlotM.L).length) := by
  unfold namesTo
  rw [List.length_map]
  have : T.all.flatMap SlotM.L = (T.all.take k).flatMap SlotM.L ++ (T.all.drop k).flatMap SlotM.L := by rw [← List.flatMap_append, List.take_append_drop]
  rw [this, List.length_append]
  omega
def NamesRel (T : TabS) (w1 : World) (out i : Value) (wr : World) : Prop :=
  ∃ k, k ≤ T.all.length ∧ i = .int .i64 (k : Int) ∧ OwnS wr w1.heap.size 9 1 out (namesTo T k).length (strs (namesTo T k)) ∧ Below w1.heap.size w1 wr
def NamesRel2 (T : TabS) (k : Nat) (L : Slot) (w1 : World) (out i : Value) (wr : World) : Prop :=
  ∃ j, j ≤ L.length ∧ i = .int .i64 (j : Int) ∧ OwnS wr w1.heap.size 9 1 out (namesTo T k ++ (L.take j).map Prod.fst).length (strs (namesTo T k ++ (L.take j).map Prod.fst)) ∧ Below w1.heap.size w1 wr
set_option maxHeartbeats 4000000 in
set_option maxRecDepth 20000 in
theorem names_tab {S : Nat → Prop} {w : World} {tb : Nat} {T : TabS} (h : TabM S w tb T) (hn : (T.all.flatMap SlotM.L).length ≤ 100000) :
    Calls Try.prog 30 #[.pointer (some ⟨tb, 0, none⟩)] w fun e w' => ∃ v ss, e = .returned v ∧ ss = sortB ((T.all.flatMap SlotM.L).map Prod.fst) ∧ OwnS w' w.heap.size 9 1 v ss.length (strs ss) ∧ Below w.heap.size w w' := by
  obtain ⟨c0, c1, c2, c3, c4⟩ := h.cells
  have HT := Lib.hid h
  have hal : T.all.length ≤ 4194304 := by
    simp only [TabS.all, List.length_append]
    have := h.small
    cases hm : T.moving
    · rw [h.no hm]; simp; omega
    · rw [h.dbl hm]; have := h.small2 hm; omega
  obtain ⟨pn, hnv⟩ : ∃ pn, T.newV = .slice pn T.new.length T.new.length := by
    unfold TabS.newV
    cases hm : T.moving
    · rw [h.no hm]; exact ⟨none, rfl⟩
    · exact ⟨_, rfl⟩
  rw [hnv] at c1
  have HNV := Lib.hid hnv
  have hbal : Below w.heap.size w ((w.alloc (.cells #[rowV T.ob T.old.length, .slice pn T.new.length T.new.length] 85)).drew) := ((Below.refl _ _).alloc (Nat.le_refl _) _).drew
  have hcon : Calls Try.prog 50 #[.slice (some ⟨w.heap.size, 0, none⟩) 2 2] ((w.alloc (.cells #[rowV T.ob T.old.length, .slice pn T.new.length T.new.length] 85)).drew) fun e w' =>
      ∃ p c, e = .returned (.slice p T.all.length c) ∧ Rd w' p (T.all.map SlotM.v) ∧ Below w.heap.size w w' := by
    have hv := row_v h hbal
    rw [hnv] at hv
    refine (concat_two hv.1 hv.2 ?_ ?_ (by simpa using h.pos) (by simpa using h.small) ?_).mono fun e w' ⟨v, he, ho, hb⟩ => ?_
    · show World.cell? (w.alloc _) _ = _
      rw [cell_of_row _ _ _ _ _ _ (heap_alloc_new w _)]; rfl
    · show World.cell? (w.alloc _) _ = _
      rw [cell_of_row _ _ _ _ _ _ (heap_alloc_new w _)]; rfl
    · rw [List.length_map]
      have := h.small
      cases hm : T.moving
      · rw [h.no hm]; simp
      · rw [h.dbl hm]; omega
    · obtain ⟨p, c, e1, hr, _⟩ := ho.shape
      have e2 : (T.old.map SlotM.v).length + (T.new.map SlotM.v).length = T.all.length := by simp [TabS.all]
      rw [e2] at e1
      refine ⟨p, c, by rw [he, e1], ?_, hbal.trans (hb.mono hbal.size)⟩
      simpa [TabS.all] using hr
  have HC := Lib.hid hcon
  have hk : ∀ u, Below w.heap.size w u → Below w.heap.size w u ∧ u.cell? ⟨tb, 0, none⟩ = some (rowV T.ob T.old.length) ∧ u.cell? ⟨tb, 1, none⟩ = some (.slice pn T.new.length T.new.length) := fun u hu => ⟨hu, cell_below hu c0, cell_below hu c1⟩
  have HK := Lib.hid hk
  clear hk h c2 c3 c4 hnv hcon hbal
  go_enter Try.func30, Try.ntmps30
  go_wp2_with fail
  go_region_held3 (fun u => Below w.heap.size w u ∧ u.cell? ⟨tb, 0, none⟩ = some (rowV T.ob T.old.length) ∧ u.cell? ⟨tb, 1, none⟩ = some (.slice pn T.new.length T.new.length)) ((refine HK.out _ ?_; first | exact hbt | exact (Below.refl _ _).alloc (Nat.le_refl _) _ | exact ((Below.refl _ _).alloc (Nat.le_refl _) _).drew | exact ((Below.refl _ _).drew).alloc (Nat.le_refl _) _ | exact (Below.refl _ _).drew))
    (first | ((go_at_call 50; refine HC.out.mono ?_; rintro e w1 ⟨p1, cp1, rfl, hr1, hbt⟩)))
  have HBT := Lib.hid hbt
  have HR1 := Lib.hid hr1
  clear hbt hr1 c0 c1
  go_wp2_with fail
  go_loopw [3, 21] (fun out i wr => NamesRel T w1 out i wr) (fun _ i _ => T.all.length - (intOf i).toNat)
  case atStart => exact ⟨0, Nat.zero_le _, rfl, by simpa [namesTo, strs] using OwnS.none, Below.refl _ _⟩
  case round =>
    obtain ⟨k, hk, rfl, ho, hb⟩ := hrel
    have HO := Lib.hid ho
    have HB := Lib.hid hb
    clear ho hb
    by_cases hkl : k < T.all.length
    · obtain ⟨b, o, rfl, hcc⟩ := (HR1.out.below HB.out).at (k := k) (by simpa using hkl)
      have e0 := hcc k (by simpa using hkl)
      have hs := HT.out.slots _ (List.getElem_mem hkl)
      have hnx := namesTo_succ T k hkl
      have hnl := namesTo_le T (k + 1)
      rw [List.getElem_map] at e0
      generalize T.all[k] = s at *
      obtain ⟨p2, cap2, hsv, hrd2, hsl2⟩ := (hs.own.below HBT.out).shape
      rw [hsv] at e0
      have HR2 := Lib.hid hrd2
      have HNX := Lib.hid hnx
      have HHS := Lib.hid hs
      unfold maxLen at hsl2
      have k0 : (0 : Int) ≤ (k : Int) := by omega
      have k1 : (k : Int) < (T.all.length : Int) := by omega
      have hlen : (namesTo T k).length + s.L.length ≤ 100000 := by rw [hnx, List.length_append, List.length_map] at hnl; omega
      clear hcc hsv hrd2 hs hnx hnl
      go_wp2_with fail
      go_loopw [3, 27] (fun out i wr => NamesRel2 T k s.L w1 out i wr) (fun _ i _ => s.L.length - (intOf i).toNat)
      case atStart => exact ⟨0, Nat.zero_le _, rfl, by simpa using HO.out, HB.out⟩
      case round =>
        obtain ⟨j, hj, rfl, ho, hb⟩ := hrel
        have HO2 := Lib.hid ho
        have HB2 := Lib.hid hb
        clear ho hb
        by_cases hjl : j < s.L.length
        · obtain ⟨b2, o2, rfl, hcc⟩ := (HR2.out.below HB2.out).at (k := j * 2) (by rw [prs_len]; omega)
          have f0 := hcc (j * 2) (by rw [prs_len]; omega)
          have f1 := hcc (j * 2 + 1) (by rw [prs_len]; omega)
          rw [prs_get0 _ _ hjl] at f0
          rw [prs_get1 _ _ hjl, ← Nat.add_assoc] at f1
          have j0 : (0 : Int) ≤ (j : Int) := by omega
          have j1 : (j : Int) < (s.L.length : Int) := by omega
          clear hcc
          have hnw : Rd ((wr.alloc (.cells #[.string (str s.L[j].1), .int .i64 s.L[j].2] 92)).alloc (.cells #[.string (str s.L[j].1)] 9)) (some ⟨wr.heap.size + 1, 0, none⟩) (strs [s.L[j].1]) := by
            have := Rd.of_row (heap_alloc_new (wr.alloc (.cells #[.string (str s.L[j].1), .int .i64 s.L[j].2] 92)) (.cells #[.string (str s.L[j].1)] 9)) 0 (xs := strs [s.L[j].1]) (by simp [strs])
            simpa using this
          have HNW := Lib.hid hnw
          have hbal : Below w1.heap.size w1 ((wr.alloc (.cells #[.string (str s.L[j].1), .int .i64 s.L[j].2] 92)).alloc (.cells #[.string (str s.L[j].1)] 9)) := (HB2.out.alloc HB2.out.size _).alloc (by have := HB2.out.size; simp; omega) _
          have HBL := Lib.hid hbal
          have hln : (namesTo T k ++ (s.L.take j).map Prod.fst).length ≤ 100000 := by rw [List.length_append, List.length_map, List.length_take]; omega
          clear hnw hbal
          go_wp2_with ((with_reducible refine L_appR slStr Try.underlying36 ((HO2.out.alloc _).alloc _) HNW.out (strs_one [s.L[j].1]) (show (strs [s.L[j].1]).length = 1 * 1 from rfl) ?_ ?_ ?_ ?_ ?_); (focus rfl); (focus rfl); (focus exact ⟨_, rfl⟩); (focus exact ⟨by unfold maxLen; omega, by omega, HBL.out.size⟩); intro v3 w3 ho3 hg3 hk3 hn3; clear hn3; have HO3 := Lib.hid ho3; have HG3 := Lib.hid hg3; have HK3 := Lib.hid hk3; clear ho3 hg3 hk3; simp only [Act.put, List.setIfInBounds_toArray, List.set_cons_zero, List.set_cons_succ])
          refine ⟨⟨j + 1, by omega, by go_num, ?_, HG3.out.below HBL.out HBL.out.size HK3.out⟩, by simp [intOf]; omega⟩
          have h3 := HO3.out
          rw [← strs_append, List.append_assoc] at h3
          have e3 : (s.L.take j).map Prod.fst ++ [s.L[j].1] = (s.L.take (j + 1)).map Prod.fst := by rw [List.take_succ_eq_append_getElem hjl, List.map_append]; rfl
          rw [e3] at h3
          have e4 : (namesTo T k ++ (s.L.take j).map Prod.fst).length + 1 = (namesTo T k ++ (s.L.take (j + 1)).map Prod.fst).length := by rw [← e3]; simp; omega
          rw [e4] at h3
          exact h3
        · obtain rfl : j = s.L.length := by omega
          go_wp2_with fail
          refine ⟨⟨k + 1, by omega, by go_num, ?_, HB2.out⟩, by simp [intOf]; omega⟩
          have h3 := HO2.out
          rw [List.take_length, ← HNX.out] at h3
          exact h3
    · obtain rfl : k = T.all.length := by omega
      have hnl := namesTo_le T T.all.length
      have hnall : namesTo T T.all.length = (T.all.flatMap SlotM.L).map Prod.fst := by unfold namesTo; rw [List.take_length]
      have HNA := Lib.hid hnall
      have hl6 : (namesTo T T.all.length).length ≤ 1000000 := by omega
      clear hnall hnl
      go_wp2_with fail
      go_fit (sort_own HO.out hl6)
      rintro e w5 ⟨rfl, ho5, ha5⟩
      have HO5 := Lib.hid ho5
      have HA5 := Lib.hid ha5
      clear ho5 ha5
      go_wp2_with fail
      go_ret
      refine ⟨_, _, rfl, rfl, ?_, ?_⟩
      · have h5 := HO5.out.rebase HBT.out.size
        rw [HNA.out] at h5
        have hl : (sortB ((T.all.flatMap SlotM.L).map Prod.fst)).length = ((T.all.flatMap SlotM.L).map Prod.fst).length := List.length_mergeSort _
        rw [hl]
        exact h5
      · exact HA5.out.below (HBT.out.trans (HB.out.mono HBT.out.size)) (Nat.le_trans HBT.out.size HB.out.size) fun k hk => Nat.le_trans HBT.out.size (HO.out.lt k hk).1
/-- the names of a table that reads as m -/
theorem names_ok {S : Nat → Prop} {w : World} {tb : Nat} {t : Tab} {m : Slot} {G : Nat} (h : TabA S w tb t) (hk : Ok t m G) :
    Calls Try.prog 30 #[.pointer (some ⟨tb, 0, none⟩)] w fun e w' => ∃ p c, e = .returned (.slice p m.length c) ∧ Rd w' p (strs (sortB (m.map Prod.fst))) ∧ Below w.heap.size w w' := by
  obtain ⟨T, hT, rfl⟩ := h
  have hp : (T.all.flatMap SlotM.L).Perm m := by
    have := hk.inv.perm
    have e : T.all.flatMap SlotM.L = ((absT T).old ++ (absT T).new).flatten := by
      simp only [absT, TabS.all, ← List.map_append]
      rw [List.flatMap_def]
    rw [e]; exact this
  refine (names_tab hT (by have := hp.length_eq; have := hk.small; omega)).mono fun e w' ⟨v, ss, he, hss, ho, hb⟩ => ?_
  have hpm : ss = sortB (m.map Prod.fst) := by rw [hss]; exact mergeSort_of_perm (hp.map _)
  have hl : ss.length = m.length := by rw [hpm, List.length_mergeSort, List.length_map]
  obtain ⟨p, c, e1, hr, _⟩ := ho.shape
  rw [hl] at e1
  rw [hpm] at hr
  exact ⟨p, c, by rw [he, e1], hr, hb⟩
end Go.Proofs.Ytadnabgnbhpijaa
