/- The walk of the law RecordCuts. -/
import Derived.Test.YtfeefpaclaonfaaRRecTold
import Derived.Deep.DeepCutAuto
import Derived.Deep.CutBlock
set_option linter.unusedSimpArgs false
set_option linter.unusedVariables false
namespace Go.Proofs.YtfeefpaclaonfaaR
open Go.RowKit Go.BigFrame Wire Crc Rec

theorem slI : SlT Try.prog 32 3 1 8 := SlT.of (z := .int .i64 0) (by kernel_rfl) rfl (by decide) Try.underlying32
/-- where the first i frames end -/
def endsV (L : List (List UInt8)) (i : Nat) : List Value := (List.range i).map fun j => .int .i64 ((frames (L.take (j + 1))).length : Int)
theorem endsV_succ (L : List (List UInt8)) (i : Nat) : endsV L (i + 1) = endsV L i ++ [.int .i64 ((frames (L.take (i + 1))).length : Int)] := by
  simp [endsV, List.range_succ]
theorem endsV_len (L : List (List UInt8)) (i : Nat) : (endsV L i).length = i := by simp [endsV]
def CutsRel (L : List (List UInt8)) (w : World) (s en i : Value) (wr : World) : Prop :=
  ∃ k : Nat, k ≤ L.length ∧ k ≤ 10 ∧ i = .int .i64 k ∧ (∀ j (h : j < L.length), j < k → L[j].length ≤ 300) ∧ s = .string (str (frames (L.take k))) ∧ OwnS wr w.heap.size 3 1 en k (endsV L k) ∧ Below w.heap.size w wr
theorem few {L : List (List UInt8)} {k : Nat} (hk : k ≤ 10) (h : ∀ j (h : j < L.length), j < k → L[j].length ≤ 300) : (frames (L.take k)).length ≤ 3080 := by
  have h1 := frames_take_len (L.take k) 300 (by
    intro l hl
    obtain ⟨j, hj, rfl⟩ := List.getElem_of_mem hl
    simp only [List.length_take] at hj
    rw [List.getElem_take]
    exact h j (by omega) (by omega))
  have h2 : (L.take k).length ≤ 10 := by rw [List.length_take]; omega
  have h3 : (L.take k).length * (8 + 300) ≤ 10 * 308 := Nat.mul_le_mul_right _ h2
  omega

set_option maxRecDepth 100000 in
set_option maxHeartbeats 4000000 in
theorem recordCuts_walk (p : Option Addr) (cap : Nat) (L : List (List UInt8)) (cut : Int) (w : World) (hr : RdS w p L) (h64 : -9223372036854775808 ≤ cut ∧ cut ≤ 9223372036854775807) (hcap : L.length ≤ cap) (hmax : cap ≤ maxLen) :
    Calls Try.prog 7 #[.slice p L.length cap, .int .i64 cut] w fun e w' => e = .returned (.bool true) ∧ Below w.heap.size w w' := by
  have hl63 : L.length ≤ 9223372036854775807 := by unfold maxLen at hmax; omega
  have HR := Lib.hid hr
  clear hr hmax
  go_enter Try.func7, Try.ntmps7
  go_upto_block 0 with (fail)
  go_cut [5, 6, 7] (fun s en i wc => ∃ k : Nat, (k = L.length ∨ k = 10) ∧ CutsRel L w s en (.int .i64 k) wc)
  case first =>
    go_wp2_with fail
    go_loopw [5, 6, 7] (fun s en i wr => CutsRel L w s en i wr) (fun _ _ i _ => 10 - (intOf i).toNat)
    case atStart => exact ⟨0, by omega, by omega, rfl, by intro j _ h; omega, by simp [frames_nil, str], by simpa [endsV] using OwnS.none, Below.refl _ _⟩
    case round =>
      obtain ⟨k, hk, hk10, rfl, h300, rfl, ho, hbel⟩ := hrel
      have HO := Lib.hid ho
      have H3 := Lib.hid h300
      have hfew := few hk10 h300
      clear ho h300
      by_cases hlt : k < L.length
      · by_cases hlt10 : k < 10
        · obtain ⟨b, o, rfl, hc⟩ := RdS.at (HR.out.below hbel) (k := k) hlt
          have hcell := hc k hlt
          have HFS := Lib.hid (frames_take_succ L k hlt)
          have HES := Lib.hid (endsV_succ L k)
          have H4 : Hid (L[k].length ≤ 300 → ∀ j (h : j < L.length), j < k + 1 → L[j].length ≤ 300) := fun h0 j hj hjk => by
            by_cases e : j = k
            · subst e; exact h0
            · exact H3.out j hj (by omega)
          have HFL := Lib.hid (frame_len L[k])
          clear hc
          generalize hlk : L[k] = lk at *
          clear hlk
          by_cases hbig : 300 < lk.length
          · have d1 : decide ((300 : Int) < (lk.length : Int)) = true := by simp; omega
            go_wp2_with (go_at_call 19; go_fit (told4_any _); rintro e w1 ⟨rfl, hb1⟩)
            go_ret
            exact ⟨rfl, hbel.trans (hb1.mono hbel.size)⟩
          · have d1 : decide ((300 : Int) < (lk.length : Int)) = false := by simp; omega
            have hsm : lk.length ≤ 300 := by omega
            have hlk0 : wr.heap.size ≤ wr.heap.size := Nat.le_refl _
            go_wp2_with ((with_reducible refine L_s2b isS slB isB wr.heap.size (l := lk) ?_ ?_ ?_ ?_); (focus rfl); (focus rfl); (focus exact ⟨room1 (by omega), Nat.le_refl _⟩); intro cap1 w1 ho1 hb1; have HO1 := Lib.hid ho1; clear ho1; simp only [Act.put, List.setIfInBounds_toArray, List.set_cons_zero, List.set_cons_succ])
            have ht1 := HO1.out.txt
            go_fit (frame_any _ _ cap1 lk w1 ht1.2.1 rfl (by omega))
            rintro e w2 ⟨v2, rfl, ho2, hb2⟩
            obtain ⟨p2, cap2, rfl, hr2, _⟩ := ho2.shape
            rw [HFL.out] at ho2 ⊢
            have hb2' := grew hb1 hb2
            have HR2 := Lib.hid hr2
            have hbel2 := hbel.trans (hb2'.mono hbel.size)
            have hcell2 : w2.cell? ⟨b, o + k, none⟩ = some (.string (str lk)) := by rw [hb2'.cell (p := ⟨b, o + k, none⟩) (block_lt_of_cell hcell)]; exact hcell
            clear ht1 ho2 hr2 hb1 hb2
            have hfl8 : (frame lk).length ≤ 308 := by rw [HFL.out]; omega
            go_wp2_with (first
              | ((with_reducible refine L_b2s slB isB isS HR2.out ?_ ?_ ?_); (focus rfl); (focus exact ⟨_, _, rfl, HFL.out.symm⟩); simp only [Act.put, List.setIfInBounds_toArray, List.set_cons_zero, List.set_cons_succ])
              | ((with_reducible refine L_appR slI Try.underlying32 ((HO.out.below hb2').alloc _) (Rd.one _ _ _) (int_one _ _) rfl ?_ ?_ ?_ ?_ ?_); (focus rfl); (focus rfl); (focus exact ⟨_, rfl⟩); (focus exact ⟨room1 (by omega), by omega, by simp; exact Nat.le_succ_of_le hbel2.size⟩); intro v3 w3 ho3 ha3 hk3 hn3; clear hn3; have HO3 := Lib.hid ho3; have HA3 := Lib.hid ha3; clear ho3 ha3; simp only [Act.put, List.setIfInBounds_toArray, List.set_cons_zero, List.set_cons_succ]))
            refine ⟨⟨k + 1, by omega, by omega, by go_num, H4.out hsm, by rw [HFS.out], ?_, ?_⟩, by simp [intOf]; omega⟩
            · rw [HES.out, HFS.out]
              have h := HO3.out
              simpa using h
            · exact HA3.out.below (hbel2.alloc hbel2.size _) (by simp; exact Nat.le_succ_of_le hbel2.size) hk3
        · obtain rfl : k = 10 := by omega
          have d1 : decide ((10 : Int) < (L.length : Int)) = true := by simp; omega
          go_wp2_with fail
          go_meet
          exact ⟨10, .inr rfl, 10, by omega, by omega, rfl, H3.out, rfl, HO.out, hbel⟩
      · obtain rfl : k = L.length := by omega
        go_wp2_with fail
        go_meet
        exact ⟨L.length, .inl rfl, L.length, by omega, by omega, rfl, H3.out, rfl, HO.out, hbel⟩
  case rest =>
    obtain ⟨k, hk, k', hk1, hk10, hki, h300, rfl, ho, hbel⟩ := hcut
    have hkk : k = k' := by
      simp only [Value.int.injEq, true_and] at hki; omega
    subst hkk
    clear hki
    have hfew := few hk10 h300
    obtain ⟨pe, ce, rfl, hre, _⟩ := ho.shape
    have HRE := Lib.hid hre
    have H3 := Lib.hid h300
    have HK := Lib.hid hk
    clear ho h300 hk hre
    have HF := Lib.hid (rfl : frames (L.take k) = frames (L.take k))
    generalize hs : frames (L.take k) = s at *
    have HSd := Lib.hid hs
    clear hs
    obtain ⟨u, c, hu, hc, hc1, hc2⟩ := uint_mod cut ((s.length : Int) + 1) (s.length + 1) (by omega) (by omega)
    have HU := Lib.hid hu
    have hmin : (s.take c).length = c := by rw [List.length_take]; omega
    have HMin := Lib.hid hmin
    have hmle : (s.take c).length ≤ 3080 := by omega
    have hcut := scan_cut (L.take k) (by
      intro l hl
      obtain ⟨j, hj, rfl⟩ := List.getElem_of_mem hl
      simp only [List.length_take] at hj
      rw [List.getElem_take]
      have := H3.out j (by omega) (by omega)
      omega) c
    rw [HSd.out] at hcut
    have hwl := wholeOf_le (L.take k) c
    have hwi := wholeOf_iff (L.take k) c
    have hkl : (L.take k).length = k := by rw [List.length_take]; omega
    rw [hkl] at hwl hwi
    generalize hW : wholeOf (L.take k) c = W at *
    have HW := Lib.hid hW
    have HWI := Lib.hid hwi
    have HCut := Lib.hid hcut
    clear hW hwi hcut hmin
    generalize hsc : s.take c = sc at HMin hmle HCut
    have hscl : sc.length ≤ 1099511627776 := by omega
    go_wp2_with (first | ((with_reducible refine L_s2b isS slB isB wc.heap.size (l := sc) ?_ ?_ ?_ ?_); (focus rfl); (focus rfl); (focus exact ⟨room1 (by omega), Nat.le_refl _⟩); intro cap1 w1 ho1 hb1; have HO1 := Lib.hid ho1; clear ho1; simp only [Act.put, List.setIfInBounds_toArray, List.set_cons_zero, List.set_cons_succ]) | fail)
    have ht1 := HO1.out.txt
    go_fit (scan_any _ _ cap1 sc w1 ht1.2.1 ht1.1 ht1.2.2.1 hscl)
    rintro e w2 ⟨q, cq, rfl, hrr, hb2⟩
    rw [HCut.out] at hrr ⊢
    have hlW : ((L.take k).take W).length = W := by rw [List.length_take, hkl]; omega
    have hfr : (L.take k).take W = L.take W := by rw [List.take_take, Nat.min_eq_left hwl]
    rw [hfr] at hrr
    rw [hlW, hfr]
    clear hlW hfr
    have hbel2 := hbel.trans ((grew hb1 hb2).mono hbel.size)
    have HRE2 := Lib.hid (HRE.out.below (grew hb1 hb2))
    have HRR := Lib.hid hrr
    have HR2 := Lib.hid (HR.out.below hbel2)
    clear ht1 hrr hb1 hb2 hbel
    have hWk : ∀ i, i < k → ((frames (L.take (i + 1))).length ≤ c ↔ i < W) := fun i hi => by
      have := HWI.out i hi
      rwa [List.take_take, Nat.min_eq_left (by omega)] at this
    have HWK := Lib.hid hWk
    clear hWk
    go_upto_block 2 with (fail)
    go_cut [13, 14, 15] (fun a b _ wc => a = .int .i64 (W : Int) ∧ b = .int .i64 ((frames (L.take W)).length : Int) ∧ Below w2.heap.size w2 wc)
    case first =>
      go_wp2_with fail
      go_loopw [13, 14, 15] (fun a b i wr => ∃ m : Nat, m ≤ k ∧ i = .int .i64 m ∧ a = .int .i64 ((min m W : Nat) : Int) ∧ b = .int .i64 ((frames (L.take (min m W))).length : Int) ∧ Below w2.heap.size w2 wr) (fun _ _ i _ => k - (intOf i).toNat)
      case atStart => exact ⟨0, by omega, rfl, by simp, by simp [frames_nil], Below.refl _ _⟩
      case round =>
        obtain ⟨m, hm, rfl, rfl, rfl, hbm⟩ := hrel
        by_cases hlt : m < k
        · obtain ⟨b, o, rfl, hcc⟩ := (HRE2.out.below hbm).at (k := m) (by rw [endsV_len]; exact hlt)
          have hcell := hcc m (by rw [endsV_len]; exact hlt)
          have hval : (endsV L k)[m]'(by rw [endsV_len]; exact hlt) = .int .i64 ((frames (L.take (m + 1))).length : Int) := by simp [endsV]
          rw [hval] at hcell
          have hiff := HWK.out m hlt
          generalize hfm : (frames (L.take (m + 1))).length = fm at *
          have HFM := Lib.hid hfm
          clear hval hcc hfm
          by_cases hmW : m < W
          · have d1 : (fm : Int) ≤ (c : Int) := by have := hiff.2 hmW; omega
            have e1 : min m W = m := Nat.min_eq_left (by omega)
            have e2 : min (m + 1) W = m + 1 := Nat.min_eq_left (by omega)
            have E2 := Lib.hid e2
            clear hiff e1 e2
            go_wp2_with fail
            go_region
            go_wp2_with fail
            refine ⟨⟨m + 1, by omega, by go_num, by rw [E2.out]; go_num, by rw [E2.out, HFM.out], hbm.drew⟩, by simp [intOf]; omega⟩
          · have d1 : ¬ (fm : Int) ≤ (c : Int) := by
              intro h; exact hmW (hiff.1 (by omega))
            have e2 : min (m + 1) W = min m W := by omega
            have E2 := Lib.hid e2
            clear hiff e2
            go_wp2_with fail
            refine ⟨⟨m + 1, by omega, by go_num, by rw [E2.out], by rw [E2.out], hbm⟩, by simp [intOf]; omega⟩
        · obtain rfl : m = k := by omega
          have e1 : min m W = W := Nat.min_eq_right (by omega)
          have E1 := Lib.hid e1
          clear e1
          go_wp2_with fail
          go_meet
          exact ⟨by rw [E1.out], by rw [E1.out], hbm⟩
    case rest =>
      obtain ⟨rfl, rfl, hbc⟩ := hcut
      obtain ⟨vs, hvs, hels⟩ := HRR.out
      have hvl : vs.length = W := by rw [hels.1, List.length_take]; omega
      have HV := Lib.hid hvs
      have HE := Lib.hid hels
      have HVL := Lib.hid hvl
      clear hvs hels hvl
      go_wp2_with fail
      go_loopw [16] (fun i wr => ∃ m : Nat, m ≤ W ∧ i = .int .i64 m ∧ Below w2.heap.size w2 wr) (fun i _ => W - (intOf i).toNat)
      case atStart => exact ⟨0, by omega, rfl, hbc⟩
      case round =>
        obtain ⟨m, hm, rfl, hbm⟩ := hrel
        by_cases hlt : m < W
        · have hm1 : m < vs.length := by rw [HVL.out]; exact hlt
          have hm2 : m < (L.take W).length := by rw [List.length_take]; omega
          obtain ⟨pi, ci, hvi, hri, hx1, hx2, hx3⟩ := HE.out.2 m hm1 hm2
          clear hx1 hx2 hx3
          have hle : (L.take W)[m] = L[m]'(by omega) := by rw [List.getElem_take]
          rw [hle] at hvi hri
          obtain ⟨b, o, rfl, hcc⟩ := (HV.out.below hbm).at (k := m) hm1
          have hcell := hcc m hm1
          rw [hvi] at hcell
          obtain ⟨b2, o2, rfl, hcc2⟩ := RdS.at (HR2.out.below hbm) (k := m) (by omega)
          have hcell2 := hcc2 m (by omega)
          have hcv : ∀ n, (convert 23 9 (.slice pi (L[m]'(by omega)).length ci)).run Try.prog (wr.drewN n) = .ok (.string (str (L[m]'(by omega)))) (wr.drewN n) := fun n =>
            run_b2s slB isB isS (Rd8.below hri (hbm.trans ⟨rfl, rfl, rfl, Nat.le_refl _, fun _ _ => rfl⟩))
          clear hcc hcc2 hvi hri hle hm1 hm2
          generalize L[m]'(by omega) = lm at *
          go_wp2_with fail
          go_quiet (fail)
          go_wp2_with fail
          exact ⟨⟨m + 1, by omega, by go_num, hbm.trans ⟨rfl, rfl, rfl, Nat.le_refl _, fun _ _ => rfl⟩⟩, by simp [intOf]; omega⟩
        · obtain rfl : m = W := by omega
          go_wp2_with fail
          go_fit (told4_any _)
          rintro e w5 ⟨rfl, hd5⟩
          go_wp2_with fail
          go_ret
          exact ⟨rfl, hbel2.trans ((grew hbm hd5).mono hbel2.size)⟩
end Go.Proofs.YtfeefpaclaonfaaR
