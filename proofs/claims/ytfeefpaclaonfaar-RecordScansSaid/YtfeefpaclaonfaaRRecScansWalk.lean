/- The walk of the law RecordScans. -/
import Derived.Test.YtfeefpaclaonfaaRRecScansParts
import Derived.Deep.RegionHeld3
set_option linter.unusedSimpArgs false
set_option linter.unusedVariables false
namespace Go.Proofs.YtfeefpaclaonfaaR
open Go.RowKit Go.BigFrame Wire Crc Rec

theorem scanF_few : ∀ (f : Nat) (b : List UInt8), (scanF f b).1.length ≤ b.length
  | 0, b => by simp [scanF]
  | f + 1, b => by
    unfold scanF
    cases ho : one b with
    | none => simp
    | some n =>
      have hn := (one_some ho).1
      have ih := scanF_few f (b.drop (8 + n))
      rw [List.length_drop] at ih
      simp only [List.length_cons]
      omega
theorem scan_few (b : List UInt8) : (scan b).1.length ≤ b.length := scanF_few _ b

set_option maxRecDepth 100000 in
set_option maxHeartbeats 4000000 in
theorem recordScans_walk (p0 p1 p2 p3 : Option Addr) (c0 c1 c2 c3 : Nat) (L : List (List UInt8)) (B : List UInt8) (A : List Int) (Y : List UInt8) (w : World)
    (hr0 : RdS w p0 L) (hr1 : Rd8 w p1 B) (hr2 : RdI w p2 A) (hr3 : Rd8 w p3 Y) (k0 : L.length ≤ c0) (k1 : B.length ≤ c1) (k2 : A.length ≤ c2) (k3 : Y.length ≤ c3)
    (m0 : c0 ≤ maxLen) (m1 : c1 ≤ maxLen) (m2 : c2 ≤ maxLen) (m3 : c3 ≤ maxLen) :
    Calls Try.prog 6 #[.slice p0 L.length c0, .slice p1 B.length c1, .slice p2 A.length c2, .slice p3 Y.length c3] w fun e w' => e = .returned (.bool true) ∧ Below w.heap.size w w' := by
  have hl63 : L.length ≤ 9223372036854775807 := by unfold maxLen at m0; omega
  have HM0 := Lib.hid m0
  have HM2 := Lib.hid m2
  have HM3 := Lib.hid m3
  have H0 := Lib.hid hr0
  have H1 := Lib.hid hr1
  have H2 := Lib.hid hr2
  have H3 := Lib.hid hr3
  clear hr0 hr1 hr2 hr3 m0 m1 m2 m3
  go_enter Try.func6, Try.ntmps6
  go_wp2_with fail
  go_fit (frames4_any p0 c0 L w H0.out k0 HM0.out)
  rintro e w1 ⟨⟨rfl, hsh⟩ | rfl, hb1⟩
  · have hfew := few10 (k := 10) (by omega) hsh
    have HSH := Lib.hid hsh
    have HFD := Lib.hid (rfl : frames (L.take 10) = frames (L.take 10))
    clear hsh
    generalize frames (L.take 10) = s at *
    by_cases hB : 600 < B.length
    · have d1 : decide ((600 : Int) < (B.length : Int)) = true := by simp; omega
      go_wp2_with (go_at_call 19; go_fit (told4_any _); rintro e w2 ⟨rfl, hb2⟩)
      go_ret
      exact ⟨rfl, hb1.trans (hb2.mono hb1.size)⟩
    · have d1 : decide ((600 : Int) < (B.length : Int)) = false := by simp; omega
      go_upto_block 0 with (fail)
      go_cut [] (fun wc => Below w.heap.size w wc)
      case first =>
        go_wp2_with fail
        go_loopw [11] (fun i wr => ∃ k : Nat, k ≤ L.length ∧ k ≤ 10 ∧ i = .int .i64 k ∧ Below w.heap.size w wr) (fun i _ => 10 - (intOf i).toNat)
        case atStart => exact ⟨0, by omega, by omega, rfl, hb1⟩
        case round =>
          obtain ⟨k, hk, hk10, rfl, hbel⟩ := hrel
          by_cases hlt : k < L.length
          · by_cases hlt10 : k < 10
            · obtain ⟨b, o, rfl, hc⟩ := RdS.at (H0.out.below hbel) (k := k) hlt
              have hcell := hc k hlt
              have hsm := HSH.out k hlt hlt10
              have HFL := Lib.hid (frame_len L[k])
              clear hc
              generalize hlk : L[k] = lk at *
              clear hlk
              have hlk0 : wr.heap.size ≤ wr.heap.size := Nat.le_refl _
              go_wp2_with ((with_reducible refine L_s2b isS slB isB wr.heap.size (l := lk) ?_ ?_ ?_ ?_); (focus rfl); (focus rfl); (focus exact ⟨room1 (by omega), Nat.le_refl _⟩); intro cap1 w1 ho1 hb1; have HO1 := Lib.hid ho1; clear ho1; simp only [Act.put, List.setIfInBounds_toArray, List.set_cons_zero, List.set_cons_succ])
              have ht1 := HO1.out.txt
              go_fit (frame_any _ _ cap1 lk w1 ht1.2.1 rfl (by omega))
              rintro e w2 ⟨v2, rfl, ho2, hb2⟩
              obtain ⟨p2, cap2, rfl, hr2, _⟩ := ho2.shape
              rw [HFL.out] at ho2 ⊢
              have hb2' := grew hb1 hb2
              have HR2 := Lib.hid hr2
              have hbel2 := hbel.trans (hb2'.mono hbel.size)
              have hcell2 : w2.cell? ⟨b, o + k, none⟩ = some (.string (str lk)) := by rw [hb2'.cell (p := ⟨b, o + k, none⟩) (block_lt_of_cell hcell)]; exact hcell
              clear ht1 ho2 hr2 hb1 hb2
              have hfl8 : (frame lk).length ≤ 308 := by rw [HFL.out]; omega
              go_wp2_with fail
              go_fit (ref_frame lk w2 (by omega))
              rintro e w3 ⟨rfl, hb3⟩
              have HR3 := Lib.hid (HR2.out.below hb3)
              have hbel3 := hbel2.trans (hb3.mono hbel2.size)
              go_wp2_with ((with_reducible refine L_b2s slB isB isS HR3.out ?_ ?_ ?_); (focus rfl); (focus exact ⟨_, _, rfl, HFL.out.symm⟩); simp only [Act.put, List.setIfInBounds_toArray, List.set_cons_zero, List.set_cons_succ])
              exact ⟨⟨k + 1, by omega, by omega, by go_num, hbel3⟩, by simp [intOf]; omega⟩
            · obtain rfl : k = 10 := by omega
              have d1 : decide ((10 : Int) < (L.length : Int)) = true := by simp; omega
              go_wp2_with fail
              go_meet
              exact hbel
          · obtain rfl : k = L.length := by omega
            go_wp2_with fail
            go_meet
            exact hbel
      case rest =>
        have hbel := hcut
        clear hcut
        have hBm : B.length ≤ 600 := by omega
        have HB := Lib.hid (H1.out.below hbel)
        have HA := Lib.hid (H2.out.below hbel)
        have HY := Lib.hid (H3.out.below hbel)
        have hk : ∀ u, Below wc.heap.size wc u → Below wc.heap.size wc u ∧ (convert 23 9 (.slice p1 B.length c1)).run Try.prog u = .ok (.string (str B)) u := fun u hu => ⟨hu, run_b2s slB isB isS (HB.out.below hu)⟩
        have HK := Lib.hid hk
        clear hk
        have hsum : ¬ (9223372036854775807 : Nat) < s.length + B.length := by omega
        go_wp2_with fail
        go_region_held3 (fun w' => Below wc.heap.size wc w' ∧ (convert 23 9 (.slice p1 B.length c1)).run Try.prog w' = .ok (.string (str B)) w') ((refine HK.out _ ?_; first | exact (Below.refl _ _).drew | exact hbt | exact hbt.alloc hbt.size _))
          (first | ((go_at_call 22; refine (turned_any s p2 p3 c2 c3 A Y _ ?_ ?_ k2 HM2.out k3 HM3.out ?_).mono ?_; (exact HA.out); (exact HY.out); (omega); rintro e w2 ⟨t, rfl, ht, hb⟩; have hbt : Below wc.heap.size wc w2 := ⟨hb.os, hb.tape, hb.output, hb.size, hb.block⟩)))
        have hX : RdS (w2.alloc (.cells #[.string (str s), .string (str B), .string (str t), .string (str (s ++ B))] 9)) (some ⟨w2.heap.size, 0, none⟩) [s, B, t, s ++ B] := Rd.of_row (heap_alloc_new w2 _) 0 (by simp)
        have hb3 : Below w.heap.size w (w2.alloc (.cells #[.string (str s), .string (str B), .string (str t), .string (str (s ++ B))] 9)) := (hbel.trans (hbt.mono hbel.size)).alloc (Nat.le_trans hbel.size hbt.size) _
        have hlen : ∀ x ∈ [s, B, t, s ++ B], x.length ≤ 5000 := by
          intro x hx
          simp only [List.mem_cons, List.not_mem_nil, or_false] at hx
          rcases hx with rfl | rfl | rfl | rfl
          · omega
          · omega
          · omega
          · rw [List.length_append]; omega
        have hX4 : [s, B, t, s ++ B].length = 4 := rfl
        have HX := Lib.hid hX
        have HLen := Lib.hid hlen
        have HX4 := Lib.hid hX4
        clear hX hlen hX4 hb ht hbt HK hsum
        generalize w2.alloc (.cells #[.string (str s), .string (str B), .string (str t), .string (str (s ++ B))] 9) = w3 at *
        generalize w2.heap.size = g at *
        generalize [s, B, t, s ++ B] = X at *
        go_wp2_with fail
        go_loopw [84] (fun i wr => ∃ k : Nat, k ≤ 4 ∧ i = .int .i64 k ∧ Below w3.heap.size w3 wr) (fun i _ => 4 - (intOf i).toNat)
        case atStart => exact ⟨0, by omega, rfl, Below.refl _ _⟩
        case round =>
          obtain ⟨k, hk, rfl, hbr⟩ := hrel
          by_cases hlt : k < 4
          · obtain ⟨b, o, hp, hc⟩ := RdS.at (HX.out.below hbr) (k := k) (by rw [HX4.out]; exact hlt)
            cases hp
            have hcell := hc k (by rw [HX4.out]; exact hlt)
            rw [Nat.zero_add] at hcell
            have hxl := HLen.out _ (List.getElem_mem (show k < X.length by rw [HX4.out]; exact hlt))
            clear hc
            generalize X[k]'(by rw [HX4.out]; exact hlt) = x at *
            have hlk0 : wr.heap.size ≤ wr.heap.size := Nat.le_refl _
            go_wp2_with ((with_reducible refine L_s2b isS slB isB wr.heap.size (l := x) ?_ ?_ ?_ ?_); (focus rfl); (focus rfl); (focus exact ⟨room1 (by omega), Nat.le_refl _⟩); intro cap1 w1 ho1 hb1; have HO1 := Lib.hid ho1; clear ho1; simp only [Act.put, List.setIfInBounds_toArray, List.set_cons_zero, List.set_cons_succ])
            have ht1 := HO1.out.txt
            go_fit (scan_any _ _ cap1 x w1 ht1.2.1 ht1.1 ht1.2.2.1 (by omega))
            rintro e w4 ⟨q, cq, rfl, hrr, hb4⟩
            have hb4' := grew hb1 hb4
            have HRR := Lib.hid hrr
            clear ht1 hrr hb1 hb4
            go_wp2_with fail
            go_fit (ref_scan x w4 (by omega))
            rintro e w5 ⟨q2, cq2, rfl, hr5, hb5⟩
            have hb5' := grew hb4' hb5
            have HR5 := Lib.hid hr5
            have HRR5 : Hid (RdBB w5 q (scan x).1) := by
              obtain ⟨vs, h1, h2⟩ := HRR.out
              exact ⟨vs, h1.below hb5, h2.below hb5⟩
            clear hr5 HRR
            have hml : (scan x).1.length ≤ 9223372036854775807 := by have := scan_few x; omega
            generalize (scan x).1 = M at *
            generalize (scan x).2 = N at *
            obtain ⟨vs, hvs, hels⟩ := HRR5.out
            have hvl : vs.length = M.length := hels.1
            have HV := Lib.hid hvs
            have HE := Lib.hid hels
            have HVL := Lib.hid hvl
            clear hvs hels hvl
            go_wp2_with fail
            go_loopw [22] (fun i wr => ∃ m : Nat, m ≤ M.length ∧ i = .int .i64 m ∧ Below w5.heap.size w5 wr) (fun i _ => M.length - (intOf i).toNat)
            case atStart => exact ⟨0, by omega, rfl, Below.refl _ _⟩
            case round =>
              obtain ⟨m, hm, rfl, hbm⟩ := hrel
              by_cases hlt2 : m < M.length
              · have hm1 : m < vs.length := by rw [HVL.out]; exact hlt2
                obtain ⟨pi, ci, hvi, hri, hx1, hx2, hx3⟩ := HE.out.2 m hm1 hlt2
                clear hx1 hx2 hx3
                obtain ⟨b1, o1, rfl, hcc⟩ := (HV.out.below hbm).at (k := m) hm1
                have hcell1 := hcc m hm1
                rw [hvi] at hcell1
                obtain ⟨b2, o2, rfl, hcc2⟩ := RdS.at (HR5.out.below hbm) (k := m) hlt2
                have hcell2 := hcc2 m hlt2
                have hcv : ∀ n, (convert 23 9 (.slice pi M[m].length ci)).run Try.prog (wr.drewN n) = .ok (.string (str M[m])) (wr.drewN n) := fun n =>
                  run_b2s slB isB isS (Rd8.below hri (hbm.trans ⟨rfl, rfl, rfl, Nat.le_refl _, fun _ _ => rfl⟩))
                clear hcc hcc2 hvi hri hm1 hcell
                generalize M[m] = lm at *
                go_wp2_with fail
                go_quiet (fail)
                go_wp2_with fail
                exact ⟨⟨m + 1, by omega, by go_num, hbm.trans ⟨rfl, rfl, rfl, Nat.le_refl _, fun _ _ => rfl⟩⟩, by simp [intOf]; omega⟩
              · obtain rfl : m = M.length := by omega
                go_wp2_with fail
                exact ⟨⟨k + 1, by omega, by go_num, grew (grew hbr hb5') hbm⟩, by simp [intOf]; omega⟩
          · obtain rfl : k = 4 := by omega
            go_wp2_with (go_at_call 19; go_fit (told4_any _); rintro e w6 ⟨rfl, hb6⟩)
            go_ret
            exact ⟨rfl, hb3.trans ((grew hbr hb6).mono hb3.size)⟩
  · go_wp2_with (go_at_call 19; go_fit (told4_any _); rintro e w2 ⟨rfl, hb2⟩)
    go_ret
    exact ⟨rfl, hb1.trans (hb2.mono hb1.size)⟩
end Go.Proofs.YtfeefpaclaonfaaR
