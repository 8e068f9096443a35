/- The walks over value.Get itself, of the bytes of the text "a" and of none. -/
import Derived.Test.YtblmnaejkdkndaaValGet
set_option linter.unusedSimpArgs false
set_option linter.unusedVariables false
namespace Go.Proofs.Ytblmnaejkdkndaa
open Go.RowKit Wire

theorem val_size {k : Int} {t : ByteArray} {a b c d : Value} : (Try.prog.info? 29).map (·.size) = some (valC k t a b c d).size := by kernel_rfl
set_option maxHeartbeats 1000000 in
set_option maxRecDepth 20000 in
theorem get_a (p : Option Addr) (c : Nat) (w : World) (hr : Rd8 w p putA) (hc : 6 ≤ c) :
    Calls Try.prog 22 #[.slice p 6 c] w fun e w' => e = .returned (.tuple #[.agg (valC 1 (str [97]) (.slice none 0 0) (.slice none 0 0) (.slice none 0 0) (.slice none 0 0)), .int .i64 0]) ∧ Below w.heap.size w w' := by
  obtain ⟨b, o, rfl, _⟩ := Rd8.at hr (k := 0) (by decide)
  have HR := Lib.hid hr
  clear hr
  go_enter Try.func22, Try.ntmps22
  go_wp2_with fail
  obtain ⟨wa, hwa⟩ : ∃ v, v = ((w.alloc (.cells #[.int .i64 0, .string ⟨#[]⟩, .slice none 0 0, .slice none 0 0, .slice none 0 0, .slice none 0 0] 29)).alloc (.cells #[.slice (some ⟨b, o, none⟩) 6 c, .bool false] 96)) := ⟨_, rfl⟩
  obtain ⟨rb, hrb⟩ : ∃ rb, rb = w.heap.size + 1 := ⟨_, rfl⟩
  have hs1 : (w.alloc (.cells #[.int .i64 0, .string ⟨#[]⟩, .slice none 0 0, .slice none 0 0, .slice none 0 0, .slice none 0 0] 29)).heap.size = rb := by rw [hrb]; go_simp
  have hba : Below w.heap.size w wa := by rw [hwa]; exact ((Below.refl _ _).alloc (Nat.le_refl _) _).alloc (by go_simp) _
  have hrow : wa.heap[rb]? = some (.cells #[.slice (some ⟨b, o, none⟩) 6 c, .bool false] 96 (0, 0)) := by
    rw [hwa, ← hs1]; exact heap_alloc_new _ _
  have hrw : wa.heap[w.heap.size]? = some (.cells #[.int .i64 0, .string ⟨#[]⟩, .slice none 0 0, .slice none 0 0, .slice none 0 0, .slice none 0 0] 29 (0, 0)) := by
    rw [hwa, heap_alloc_old _ _ (by rw [hs1, hrb]; omega)]; exact heap_alloc_new _ _
  have hra : RdrAt wa rb (some ⟨b, o, none⟩) 6 c putA := ⟨hrow, HR.out.below hba, rfl, hc⟩
  have hsz : wa.heap.size = rb + 1 := by rw [hwa]; go_simp
  rw [← hwa, ← hrb]
  have HBA := Lib.hid hba
  have HRW := Lib.hid hrw
  have HSZ := Lib.hid hsz
  have HRB := Lib.hid hrb
  clear hwa hba hrow hs1 hrw hsz
  go_fit (take_ok rb 6 c 1 _ putA wa hra (by omega))
  rintro e w1 ⟨rfl, hr1, hd1, hb1⟩
  have k1 := Rd8.at hd1 (k := 0) (by decide)
  obtain ⟨b', o', hbo, k1⟩ := k1
  cases hbo
  have k1 := k1 0 (by decide)
  have HR1 := Lib.hid hr1
  have HB1 := Lib.hid hb1
  clear hr1 hd1 hb1 hra hrb
  simp [putA] at k1
  go_wp2_with fail
  have hz1 : wa.heap.size ≤ w1.heap.size := HB1.out.size
  obtain ⟨vb, hvb⟩ : ∃ vb, vb = w1.heap.size := ⟨_, rfl⟩
  obtain ⟨wb, hwb⟩ : ∃ v, v = w1.alloc (.cells #[.int .i64 1, .string ⟨#[]⟩, .slice none 0 0, .slice none 0 0, .slice none 0 0, .slice none 0 0] 29) := ⟨_, rfl⟩
  have hvr : wb.heap[vb]? = some (.cells #[.int .i64 1, .string ⟨#[]⟩, .slice none 0 0, .slice none 0 0, .slice none 0 0, .slice none 0 0] 29 (0, 0)) := by rw [hwb, hvb]; exact heap_alloc_new _ _
  have hbb : Below w1.heap.size w1 wb := by rw [hwb]; exact (Below.refl _ _).alloc (Nat.le_refl _) _
  rw [← hwb, ← hvb]
  have hne : vb ≠ rb := by have := HSZ.out; omega
  have HZ1 := Lib.hid hz1
  have HVB := Lib.hid hvb
  have HNE := Lib.hid hne
  have HBB := Lib.hid hbb
  have HRB2 := Lib.hid (HR1.out.below hbb)
  clear hz1 hvb hwb hbb hne
  go_fit (text_ok rb 5 (c - 1) _ (putA.drop 1) [97] wb HRB2.out 1 (by decide) rfl (by omega))
  rintro e w2 ⟨rfl, ⟨q, c', hr2⟩, hb2⟩
  have hv2 : w2.heap[vb]? = some (.cells #[.int .i64 1, .string ⟨#[]⟩, .slice none 0 0, .slice none 0 0, .slice none 0 0, .slice none 0 0] 29 (0, 0)) := hb2.row hvr HNE.out
  have j0 : w2.cell? ⟨vb, 0, none⟩ = some (.int .i64 1) := by simp [World.cell?, hv2]
  have j1 : w2.cell? ⟨vb, 1, none⟩ = some (.string ⟨#[]⟩) := by simp [World.cell?, hv2]
  have j2 : w2.cell? ⟨vb, 2, none⟩ = some (.slice none 0 0) := by simp [World.cell?, hv2]
  have j3 : w2.cell? ⟨vb, 3, none⟩ = some (.slice none 0 0) := by simp [World.cell?, hv2]
  have j4 : w2.cell? ⟨vb, 4, none⟩ = some (.slice none 0 0) := by simp [World.cell?, hv2]
  have j5 : w2.cell? ⟨vb, 5, none⟩ = some (.slice none 0 0) := by simp [World.cell?, hv2]
  have jf : w2.frozen? ⟨vb, 1, none⟩ = false := by simp [World.frozen?, hv2]
  have HR2 := Lib.hid hr2
  have HB2 := Lib.hid hb2
  have HV2 := Lib.hid hv2
  clear hr2 hb2 hv2 hvr k1
  go_wp2_with fail
  obtain ⟨wc, hwc⟩ : ∃ v, v = w2.setCell ⟨vb, 1, none⟩ (.string (str [97])) := ⟨_, rfl⟩
  have hcc : Chg (· = vb) w2 wc := by rw [hwc]; exact Chg.setCell w2 _ _ (by simp)
  have hvc : wc.heap[vb]? = some (.cells #[.int .i64 1, .string (str [97]), .slice none 0 0, .slice none 0 0, .slice none 0 0, .slice none 0 0] 29 (0, 0)) := by
    rw [hwc]; have := setCell_row HV2.out 1 (.string (str [97])); simpa using this
  have hrc : wc.heap[rb]? = some (.cells #[.slice q 0 c', .bool false] 96 (0, 0)) := hcc.row HR2.out.1 (fun e => HNE.out e.symm)
  rw [← hwc]
  have hz2 : w1.heap.size + 1 ≤ w2.heap.size := by
    have h1 : vb < w2.heap.size := (Array.getElem?_eq_some_iff.1 HV2.out).1
    have := HVB.out; omega
  have hz3 : w2.heap.size ≤ wc.heap.size := hcc.size
  have hbc : Below w.heap.size w wc := by
    have r := HRB.out; have z := HSZ.out; have z1 := HZ1.out; have v := HVB.out
    have b1 : Below w.heap.size wa w1 := HB1.out.below (by omega) (fun k hk => by subst hk; omega)
    have b2 : Below w.heap.size wb w2 := HB2.out.below (by have := HBB.out.size; omega) (fun k hk => by subst hk; omega)
    have b3 : Below w.heap.size w2 wc := hcc.below (by omega) (fun k hk => by subst hk; omega)
    exact (((HBA.out.trans b1).trans (HBB.out.mono (by omega))).trans b2).trans b3
  have hrw : wc.heap[w.heap.size]? = some (.cells #[.int .i64 0, .string ⟨#[]⟩, .slice none 0 0, .slice none 0 0, .slice none 0 0, .slice none 0 0] 29 (0, 0)) := by
    have r := HRB.out; have z := HSZ.out; have z1 := HZ1.out; have v := HVB.out
    have h1 := HB1.out.row HRW.out (by omega)
    have h2 : wb.heap[w.heap.size]? = some (.cells #[.int .i64 0, .string ⟨#[]⟩, .slice none 0 0, .slice none 0 0, .slice none 0 0, .slice none 0 0] 29 (0, 0)) := by rw [HBB.out.block w.heap.size (by omega)]; exact h1
    exact hcc.row (HB2.out.row h2 (by omega)) (by omega)
  have HRW := Lib.hid hrw
  have HBC := Lib.hid hbc
  have HVC := Lib.hid hvc
  have HRC := Lib.hid hrc
  have HZ3 := Lib.hid (Nat.le_trans hz2 hz3)
  clear hwc hcc hvc hrc hz2 hz3 hbc hrw j0 j1 j2 j3 j4 j5 jf
  go_fit (put_a wc)
  rintro e w3 ⟨q3, c3, rfl, hr3, hc3, hb3⟩
  have hrow (k : Nat) (o : Obj) (h : wc.heap[k]? = some o) : w3.heap[k]? = some o := by rw [hb3.block k (Array.getElem?_eq_some_iff.1 h).1]; exact h
  have hv3 := hrow _ _ HVC.out
  have hr4 := hrow _ _ HRC.out
  have hw3 := hrow _ _ HRW.out
  have hd3 := (HR.out.below HBC.out).below hb3
  have j0 : w3.cell? ⟨rb, 1, none⟩ = some (.bool false) := by simp [World.cell?, hr4]
  have m0 : w3.cell? ⟨vb, 0, none⟩ = some (.int .i64 1) := by simp [World.cell?, hv3]
  have m1 : w3.cell? ⟨vb, 1, none⟩ = some (.string (str [97])) := by simp [World.cell?, hv3]
  have m2 : w3.cell? ⟨vb, 2, none⟩ = some (.slice none 0 0) := by simp [World.cell?, hv3]
  have m3 : w3.cell? ⟨vb, 3, none⟩ = some (.slice none 0 0) := by simp [World.cell?, hv3]
  have m4 : w3.cell? ⟨vb, 4, none⟩ = some (.slice none 0 0) := by simp [World.cell?, hv3]
  have m5 : w3.cell? ⟨vb, 5, none⟩ = some (.slice none 0 0) := by simp [World.cell?, hv3]
  have n0 : w3.cell? ⟨w.heap.size, 0, none⟩ = some (.int .i64 0) := by simp [World.cell?, hw3]
  have n1 : w3.cell? ⟨w.heap.size, 1, none⟩ = some (.string ⟨#[]⟩) := by simp [World.cell?, hw3]
  have n2 : w3.cell? ⟨w.heap.size, 2, none⟩ = some (.slice none 0 0) := by simp [World.cell?, hw3]
  have n3 : w3.cell? ⟨w.heap.size, 3, none⟩ = some (.slice none 0 0) := by simp [World.cell?, hw3]
  have n4 : w3.cell? ⟨w.heap.size, 4, none⟩ = some (.slice none 0 0) := by simp [World.cell?, hw3]
  have n5 : w3.cell? ⟨w.heap.size, 5, none⟩ = some (.slice none 0 0) := by simp [World.cell?, hw3]
  have f0 : w3.frozen? ⟨w.heap.size, 0, none⟩ = false := by simp [World.frozen?, hw3]
  have f1 : w3.frozen? ⟨w.heap.size, 1, none⟩ = false := by simp [World.frozen?, hw3]
  have f2 : w3.frozen? ⟨w.heap.size, 2, none⟩ = false := by simp [World.frozen?, hw3]
  have f3 : w3.frozen? ⟨w.heap.size, 3, none⟩ = false := by simp [World.frozen?, hw3]
  have f4 : w3.frozen? ⟨w.heap.size, 4, none⟩ = false := by simp [World.frozen?, hw3]
  have f5 : w3.frozen? ⟨w.heap.size, 5, none⟩ = false := by simp [World.frozen?, hw3]
  have HR3 := Lib.hid hr3
  have HD3 := Lib.hid hd3
  have HB3 := Lib.hid hb3
  have HW3 := Lib.hid hw3
  clear hrow hv3 hr4 hd3 hr3 hb3 hw3
  go_wp2_with (first | ((with_reducible refine L_b2s slB isB isS HR3.out ?_ ?_ ?_); (focus rfl); (focus exact ⟨_, _, rfl, rfl⟩); simp only [Act.put, List.setIfInBounds_toArray, List.set_cons_zero, List.set_cons_succ]) | ((with_reducible refine L_b2s slB isB isS HD3.out ?_ ?_ ?_); (focus rfl); (focus exact ⟨_, _, rfl, rfl⟩); simp only [Act.put, List.setIfInBounds_toArray, List.set_cons_zero, List.set_cons_succ]))
  have hf := setCell_row (setCell_row (setCell_row (setCell_row (setCell_row (setCell_row HW3.out 0 (.int .i64 1)) 1 (.string (str [97]))) 2 (.slice none 0 0)) 3 (.slice none 0 0)) 4 (.slice none 0 0)) 5 (.slice none 0 0)
  simp at hf
  have hbz : Below w.heap.size w (((((( w3.setCell ⟨w.heap.size, 0, none⟩ (.int .i64 1)).setCell ⟨w.heap.size, 1, none⟩ (.string (str [97]))).setCell ⟨w.heap.size, 2, none⟩ (.slice none 0 0)).setCell ⟨w.heap.size, 3, none⟩ (.slice none 0 0)).setCell ⟨w.heap.size, 4, none⟩ (.slice none 0 0)).setCell ⟨w.heap.size, 5, none⟩ (.slice none 0 0)) :=
    ((((((HBC.out.trans (HB3.out.mono HBC.out.size)).setCell (Nat.le_refl _) _).setCell (Nat.le_refl _) _).setCell (Nat.le_refl _) _).setCell (Nat.le_refl _) _).setCell (Nat.le_refl _) _).setCell (Nat.le_refl _) _
  generalize (((((( w3.setCell ⟨w.heap.size, 0, none⟩ (.int .i64 1)).setCell ⟨w.heap.size, 1, none⟩ (.string (str [97]))).setCell ⟨w.heap.size, 2, none⟩ (.slice none 0 0)).setCell ⟨w.heap.size, 3, none⟩ (.slice none 0 0)).setCell ⟨w.heap.size, 4, none⟩ (.slice none 0 0)).setCell ⟨w.heap.size, 5, none⟩ (.slice none 0 0)) = wf at hf hbz ⊢
  refine bodyPost_ret (v := .tuple #[.agg (valC 1 (str [97]) (.slice none 0 0) (.slice none 0 0) (.slice none 0 0) (.slice none 0 0)), .int .i64 0]) ?_ rfl ⟨rfl, hbz⟩
  rw [results_cell_tmp rfl]
  simp [asAddr, Result.andThen, run_loadVar_row (P := Try.prog) wf _ _ 29 _ _ _ hf Try.underlying29 rfl val_size]
set_option maxHeartbeats 1000000 in
set_option maxRecDepth 20000 in
theorem get_none (w : World) :
    Calls Try.prog 22 #[.slice none 0 0] w fun e w' => e = .returned (.tuple #[.agg (valC 0 ⟨#[]⟩ (.slice none 0 0) (.slice none 0 0) (.slice none 0 0) (.slice none 0 0)), .int .i64 26]) ∧ Below w.heap.size w w' := by
  go_enter Try.func22, Try.ntmps22
  go_wp2_with fail
  obtain ⟨wa, hwa⟩ : ∃ v, v = ((w.alloc (.cells #[.int .i64 0, .string ⟨#[]⟩, .slice none 0 0, .slice none 0 0, .slice none 0 0, .slice none 0 0] 29)).alloc (.cells #[.slice none 0 0, .bool false] 96)) := ⟨_, rfl⟩
  obtain ⟨rb, hrb⟩ : ∃ rb, rb = w.heap.size + 1 := ⟨_, rfl⟩
  have hs1 : (w.alloc (.cells #[.int .i64 0, .string ⟨#[]⟩, .slice none 0 0, .slice none 0 0, .slice none 0 0, .slice none 0 0] 29)).heap.size = rb := by rw [hrb]; go_simp
  have hba : Below w.heap.size w wa := by rw [hwa]; exact ((Below.refl _ _).alloc (Nat.le_refl _) _).alloc (by go_simp) _
  have hrow : wa.heap[rb]? = some (.cells #[.slice none 0 0, .bool false] 96 (0, 0)) := by
    rw [hwa, ← hs1]; exact heap_alloc_new _ _
  have hrw : wa.heap[w.heap.size]? = some (.cells #[.int .i64 0, .string ⟨#[]⟩, .slice none 0 0, .slice none 0 0, .slice none 0 0, .slice none 0 0] 29 (0, 0)) := by
    rw [hwa, heap_alloc_old _ _ (by rw [hs1, hrb]; omega)]; exact heap_alloc_new _ _
  have hsz : wa.heap.size = rb + 1 := by rw [hwa]; go_simp
  rw [← hwa, ← hrb]
  have HBA := Lib.hid hba
  have HRW := Lib.hid hrw
  have HSZ := Lib.hid hsz
  have HRB := Lib.hid hrb
  clear hwa hba hs1 hrw hsz
  go_fit (take_none rb wa hrow)
  rintro e w1 ⟨q, rfl, k1, hr1, hb1⟩
  have HR1 := Lib.hid hr1
  have HB1 := Lib.hid hb1
  have f1 : w1.frozen? ⟨rb, 1, none⟩ = false := by simp [World.frozen?, hr1]
  have c1 : w1.cell? ⟨rb, 1, none⟩ = some (.bool true) := by simp [World.cell?, hr1]
  have hz1 : w1.heap.size ≠ rb := by have := (Array.getElem?_eq_some_iff.1 hr1).1; omega
  have c1a := cell_alloc c1 (.cells #[.int .i64 0, .string ⟨#[]⟩, .slice none 0 0, .slice none 0 0, .slice none 0 0, .slice none 0 0] 29)
  have f1a : (w1.alloc (.cells #[.int .i64 0, .string ⟨#[]⟩, .slice none 0 0, .slice none 0 0, .slice none 0 0, .slice none 0 0] 29)).frozen? ⟨rb, 1, none⟩ = false := by
    have h := hr1
    rw [← heap_alloc_old w1 (.cells #[.int .i64 0, .string ⟨#[]⟩, .slice none 0 0, .slice none 0 0, .slice none 0 0, .slice none 0 0] 29) (Array.getElem?_eq_some_iff.1 hr1).1] at h
    simp [World.frozen?, h]
  clear hr1 hb1 hrb hrow
  go_wp2_with fail
  obtain ⟨wc, hwc⟩ : ∃ v, v = (w1.alloc (.cells #[.int .i64 0, .string ⟨#[]⟩, .slice none 0 0, .slice none 0 0, .slice none 0 0, .slice none 0 0] 29)).setCell ⟨rb, 1, none⟩ (.bool true) := ⟨_, rfl⟩
  rw [← hwc]
  have hab : (w1.alloc (.cells #[.int .i64 0, .string ⟨#[]⟩, .slice none 0 0, .slice none 0 0, .slice none 0 0, .slice none 0 0] 29)).heap[rb]? = some (.cells #[.slice none 0 0, .bool true] 96 (0, 0)) := by
    rw [heap_alloc_old _ _ (Array.getElem?_eq_some_iff.1 HR1.out).1]; exact HR1.out
  have hrc : wc.heap[rb]? = some (.cells #[.slice none 0 0, .bool true] 96 (0, 0)) := by
    rw [hwc]; have := setCell_row hab 1 (.bool true); simpa using this
  have hrw : wc.heap[w.heap.size]? = some (.cells #[.int .i64 0, .string ⟨#[]⟩, .slice none 0 0, .slice none 0 0, .slice none 0 0, .slice none 0 0] 29 (0, 0)) := by
    have r := HRB.out; have z := HSZ.out
    have h1 := HB1.out.row HRW.out (by omega)
    have h2 : (w1.alloc (.cells #[.int .i64 0, .string ⟨#[]⟩, .slice none 0 0, .slice none 0 0, .slice none 0 0, .slice none 0 0] 29)).heap[w.heap.size]? = some (.cells #[.int .i64 0, .string ⟨#[]⟩, .slice none 0 0, .slice none 0 0, .slice none 0 0, .slice none 0 0] 29 (0, 0)) := by
      rw [heap_alloc_old _ _ (Array.getElem?_eq_some_iff.1 h1).1]; exact h1
    rw [hwc]
    exact (Chg.setCell (S := (· = rb)) _ ⟨rb, 1, none⟩ (.bool true) (by simp)).row h2 (by omega)
  have hbc : Below w.heap.size w wc := by
    have r := HRB.out; have z := HSZ.out; have z1 := HB1.out.size
    have b1 : Below w.heap.size wa w1 := HB1.out.below (by omega) (fun k hk => by subst hk; omega)
    rw [hwc]
    exact ((HBA.out.trans b1).alloc (by omega) _).setCell (by simp; omega) _
  have HRW := Lib.hid hrw
  have HBC := Lib.hid hbc
  have HRC := Lib.hid hrc
  clear hwc hab hrc hbc hrw c1a f1a c1 f1 k1 hz1
  go_fit (put_zero wc)
  rintro e w3 ⟨rfl, hb3⟩
  have hrow (k : Nat) (o : Obj) (h : wc.heap[k]? = some o) : w3.heap[k]? = some o := by rw [hb3.block k (Array.getElem?_eq_some_iff.1 h).1]; exact h
  have hr4 := hrow _ _ HRC.out
  have hw3 := hrow _ _ HRW.out
  have j0 : w3.cell? ⟨rb, 1, none⟩ = some (.bool true) := by simp [World.cell?, hr4]
  have n0 : w3.cell? ⟨w.heap.size, 0, none⟩ = some (.int .i64 0) := by simp [World.cell?, hw3]
  have n1 : w3.cell? ⟨w.heap.size, 1, none⟩ = some (.string ⟨#[]⟩) := by simp [World.cell?, hw3]
  have n2 : w3.cell? ⟨w.heap.size, 2, none⟩ = some (.slice none 0 0) := by simp [World.cell?, hw3]
  have n3 : w3.cell? ⟨w.heap.size, 3, none⟩ = some (.slice none 0 0) := by simp [World.cell?, hw3]
  have n4 : w3.cell? ⟨w.heap.size, 4, none⟩ = some (.slice none 0 0) := by simp [World.cell?, hw3]
  have n5 : w3.cell? ⟨w.heap.size, 5, none⟩ = some (.slice none 0 0) := by simp [World.cell?, hw3]
  have f0 : w3.frozen? ⟨w.heap.size, 0, none⟩ = false := by simp [World.frozen?, hw3]
  have f1 : w3.frozen? ⟨w.heap.size, 1, none⟩ = false := by simp [World.frozen?, hw3]
  have f2 : w3.frozen? ⟨w.heap.size, 2, none⟩ = false := by simp [World.frozen?, hw3]
  have f3 : w3.frozen? ⟨w.heap.size, 3, none⟩ = false := by simp [World.frozen?, hw3]
  have f4 : w3.frozen? ⟨w.heap.size, 4, none⟩ = false := by simp [World.frozen?, hw3]
  have f5 : w3.frozen? ⟨w.heap.size, 5, none⟩ = false := by simp [World.frozen?, hw3]
  have HB3 := Lib.hid hb3
  have HW3 := Lib.hid hw3
  clear hrow hr4 hb3 hw3
  go_wp2_with fail
  have hf := (setCell_row (setCell_row (setCell_row (setCell_row (setCell_row (setCell_row HW3.out 0 (.int .i64 0)) 1 (.string ⟨#[]⟩)) 2 (.slice none 0 0)) 3 (.slice none 0 0)) 4 (.slice none 0 0)) 5 (.slice none 0 0))
  simp at hf
  have hbz : Below w.heap.size w ((((((w3.setCell ⟨w.heap.size, 0, none⟩ (.int .i64 0)).setCell ⟨w.heap.size, 1, none⟩ (.string ⟨#[]⟩)).setCell ⟨w.heap.size, 2, none⟩ (.slice none 0 0)).setCell ⟨w.heap.size, 3, none⟩ (.slice none 0 0)).setCell ⟨w.heap.size, 4, none⟩ (.slice none 0 0)).setCell ⟨w.heap.size, 5, none⟩ (.slice none 0 0)) := (((((((HBC.out.trans (HB3.out.mono HBC.out.size)).setCell (Nat.le_refl _) _).setCell (Nat.le_refl _) _).setCell (Nat.le_refl _) _).setCell (Nat.le_refl _) _).setCell (Nat.le_refl _) _).setCell (Nat.le_refl _) _)
  generalize ((((((w3.setCell ⟨w.heap.size, 0, none⟩ (.int .i64 0)).setCell ⟨w.heap.size, 1, none⟩ (.string ⟨#[]⟩)).setCell ⟨w.heap.size, 2, none⟩ (.slice none 0 0)).setCell ⟨w.heap.size, 3, none⟩ (.slice none 0 0)).setCell ⟨w.heap.size, 4, none⟩ (.slice none 0 0)).setCell ⟨w.heap.size, 5, none⟩ (.slice none 0 0)) = wf at hf hbz ⊢
  refine bodyPost_ret (v := .tuple #[.agg (valC 0 ⟨#[]⟩ (.slice none 0 0) (.slice none 0 0) (.slice none 0 0) (.slice none 0 0)), .int .i64 26]) ?_ rfl ⟨rfl, hbz⟩
  rw [results_cell_tmp rfl]
  simp [asAddr, Result.andThen, run_loadVar_row (P := Try.prog) wf _ _ 29 _ _ _ hf Try.underlying29 rfl val_size]
end Go.Proofs.Ytblmnaejkdkndaa
