/- The walk of the law RecordTurned. -/
import Derived.Test.YtfeefpaclaonfaaRRecCutsWalk
import Derived.Test.YtfeefpaclaonfaaRRecTurnPlain
import Derived.Deep.DeepCutAuto
import Derived.Deep.CutBlock
set_option linter.unusedSimpArgs false
set_option linter.unusedVariables false
namespace Go.Proofs.YtfeefpaclaonfaaR
open Go.RowKit Go.BigFrame Wire Crc Rec

theorem two_pow_byte (j : Nat) : (2 : Int) ^ j % 256 = ((UInt8.ofNat (2 ^ j)).toNat : Int) := by
  simp

set_option maxRecDepth 100000 in
set_option maxHeartbeats 4000000 in
theorem recordTurned_walk (p : Option Addr) (cap : Nat) (L : List (List UInt8)) (x y : Int) (w : World) (hr : RdS w p L) (h64 : -9223372036854775808 ≤ x ∧ x ≤ 9223372036854775807) (h65 : -9223372036854775808 ≤ y ∧ y ≤ 9223372036854775807) (hcap : L.length ≤ cap) (hmax : cap ≤ maxLen) :
    Calls Try.prog 8 #[.slice p L.length cap, .int .i64 x, .int .i64 y] w fun e w' => e = .returned (.bool true) ∧ Below w.heap.size w w' := by
  have hl63 : L.length ≤ 9223372036854775807 := by unfold maxLen at hmax; omega
  have HR := Lib.hid hr
  clear hr hmax
  go_enter Try.func8, Try.ntmps8
  rcases Nat.eq_zero_or_pos L.length with h0 | h0
  · have d0 : (L.length == 0) = true := by simp [h0]
    go_wp2_with (go_at_call 19; go_fit (told4_any _); rintro e w4 ⟨rfl, hb4⟩)
    go_ret
    exact ⟨rfl, hb4⟩
  · have d0 : (L.length == 0) = false := beq_eq_false_iff_ne.2 (by omega)
    go_upto_if 23 with (fail)
    go_cut [0] (fun a wc => ∃ M : List (List UInt8), a = .slice p M.length cap ∧ 0 < M.length ∧ M.length ≤ 10 ∧ RdS w p M ∧ wc = w)
    case first =>
      by_cases h10 : 10 < L.length
      · have d1 : decide ((10 : Int) < (L.length : Int)) = true := by simp; omega
        have hm : (L.take 10).length = 10 := by rw [List.length_take]; omega
        have hrt : RdS w p (L.take 10) := by
          have h := Rd.take HR.out 10
          unfold RdS
          rw [List.map_take]; exact h
        have HM := Lib.hid hm
        have HRT := Lib.hid hrt
        clear hm hrt
        go_wp2_with fail
        go_meet
        exact ⟨L.take 10, by rw [HM.out], by rw [HM.out]; omega, by rw [HM.out]; omega, HRT.out, rfl⟩
      · have d1 : decide ((10 : Int) < (L.length : Int)) = false := by simp; omega
        go_wp2_with fail
        go_meet
        exact ⟨L, rfl, h0, by omega, HR.out, rfl⟩
    case rest =>
      obtain ⟨M, rfl, hM0, hM10, hrm, rfl⟩ := hcut
      have HRM := Lib.hid hrm
      clear hrm HR h0 d0 hcap hl63
      obtain ⟨u, k, hu, hk, hk1, hk2⟩ := uint_mod x (M.length : Int) M.length rfl (by omega)
      go_wp2_with fail
      go_loopw [7, 8, 10] (fun s a i wr => ∃ m : Nat, m ≤ M.length ∧ i = .int .i64 m ∧ (∀ j (h : j < M.length), j < m → M[j].length ≤ 300) ∧ s = .string (str (frames (M.take m))) ∧ a = .int .i64 ((if k < m then (frames (M.take k)).length else 0 : Nat) : Int) ∧ Below wc.heap.size wc wr) (fun _ _ i _ => M.length - (intOf i).toNat)
      case atStart => exact ⟨0, by omega, rfl, by intro j _ h; omega, by simp [frames_nil, str], by simp, Below.refl _ _⟩
      case round =>
        obtain ⟨m, hm, rfl, h300, rfl, rfl, hbel⟩ := hrel
        have H3 := Lib.hid h300
        have hfew := few (Nat.le_trans hm hM10) h300
        have HAT := Lib.hid (rfl : (if k < m then (frames (M.take k)).length else 0) = (if k < m then (frames (M.take k)).length else 0))
        generalize hav : (if k < m then (frames (M.take k)).length else 0) = av
        rw [hav] at HAT
        have HAV := Lib.hid hav
        clear h300 HAT hav
        by_cases hlt : m < M.length
        · obtain ⟨b, o, rfl, hc⟩ := RdS.at (HRM.out.below hbel) (k := m) hlt
          have hcell := hc m hlt
          have HFS := Lib.hid (frames_take_succ M m hlt)
          have H4 : Hid (M[m].length ≤ 300 → ∀ j (h : j < M.length), j < m + 1 → M[j].length ≤ 300) := fun h0 j hj hjk => by
            by_cases e : j = m
            · subst e; exact h0
            · exact H3.out j hj (by omega)
          have HFL := Lib.hid (frame_len M[m])
          clear hc
          generalize hlk : M[m] = lk at *
          clear hlk
          by_cases hbig : 300 < lk.length
          · have d1 : decide ((300 : Int) < (lk.length : Int)) = true := by simp; omega
            go_wp2_with (go_at_call 19; go_fit (told4_any _); rintro e w1 ⟨rfl, hb1⟩)
            go_ret
            exact ⟨rfl, hbel.trans (hb1.mono hbel.size)⟩
          · have d1 : decide ((300 : Int) < (lk.length : Int)) = false := by simp; omega
            have hsm : lk.length ≤ 300 := by omega
            go_wp2_with ((with_reducible refine L_s2b isS slB isB wr.heap.size (l := lk) ?_ ?_ ?_ ?_); (focus rfl); (focus rfl); (focus exact ⟨room1 (by omega), Nat.le_refl _⟩); intro cap1 w1 ho1 hb1; have HO1 := Lib.hid ho1; clear ho1; simp only [Act.put, List.setIfInBounds_toArray, List.set_cons_zero, List.set_cons_succ])
            have ht1 := HO1.out.txt
            go_fit (frame_any _ _ cap1 lk w1 ht1.2.1 rfl (by omega))
            rintro e w2 ⟨v2, rfl, ho2, hb2⟩
            obtain ⟨p2, cap2, rfl, hr2, _⟩ := ho2.shape
            rw [HFL.out] at ho2 ⊢
            have hb2' := grew hb1 hb2
            have hbel2 := hbel.trans (hb2'.mono hbel.size)
            have HR2 := Lib.hid hr2
            have hcell2 : w2.cell? ⟨b, o + m, none⟩ = some (.string (str lk)) := by rw [hb2'.cell (p := ⟨b, o + m, none⟩) (block_lt_of_cell hcell)]; exact hcell
            clear ht1 ho2 hr2 hb1 hb2
            have hfl8 : (frame lk).length ≤ 308 := by rw [HFL.out]; omega
            by_cases hmk : m = k
            · subst hmk
              go_wp2_with ((with_reducible refine L_b2s slB isB isS HR2.out ?_ ?_ ?_); (focus rfl); (focus exact ⟨_, _, rfl, HFL.out.symm⟩); simp only [Act.put, List.setIfInBounds_toArray, List.set_cons_zero, List.set_cons_succ])
              refine ⟨⟨m + 1, by omega, by go_num, H4.out hsm, by rw [HFS.out], by rw [if_pos (by omega)], hbel2⟩, by simp [intOf]; omega⟩
            · have d5 : (m == k) = false := beq_eq_false_iff_ne.2 hmk
              have d6 : ((m : Int) == (k : Int)) = false := beq_eq_false_iff_ne.2 (by omega)
              go_wp2_with ((with_reducible refine L_b2s slB isB isS HR2.out ?_ ?_ ?_); (focus rfl); (focus exact ⟨_, _, rfl, HFL.out.symm⟩); simp only [Act.put, List.setIfInBounds_toArray, List.set_cons_zero, List.set_cons_succ])
              refine ⟨⟨m + 1, by omega, by go_num, H4.out hsm, by rw [HFS.out], ?_, hbel2⟩, by simp [intOf]; omega⟩
              rw [← HAV.out]
              by_cases hkm : k < m
              · rw [if_pos hkm, if_pos (by omega)]
              · rw [if_neg hkm, if_neg (by omega)]
        · obtain rfl : m = M.length := by omega
          have hat : av = (frames (M.take k)).length := by have := HAV.out; rw [if_pos hk] at this; exact this.symm
          rw [List.take_of_length_le (Nat.le_refl _)] at hfew ⊢
          have hscan : ∀ j, j < 8 * ((M[k]).length + 4) → scan (turnBit (frames M) (8 * (frames (M.take k)).length + (32 + j))) = (M.take k, (frames (M.take k)).length) := by
            intro j hj
            have hall : ∀ l ∈ M.take k, l.length ≤ 1048576 := by
              intro l hl
              obtain ⟨i, hi, rfl⟩ := List.getElem_of_mem hl
              simp only [List.length_take] at hi
              rw [List.getElem_take]
              have := H3.out i (by omega) (by omega)
              omega
            have h := scan_turn (M.take k) hall M[k] (frames (M.drop (k + 1))) (by have := H3.out k hk hk; omega) j hj
            rw [← frames_cons, ← frames_append, ← List.drop_eq_getElem_cons hk, List.take_append_drop] at h
            exact h
          have hfl : (frames (M.take k)).length + 8 + (M[k]).length ≤ (frames M).length := by
            have h : frames M = frames (M.take k) ++ (frame M[k] ++ frames (M.drop (k + 1))) := by
              rw [← frames_cons, ← frames_append, ← List.drop_eq_getElem_cons hk, List.take_append_drop]
            rw [h, List.length_append, List.length_append, frame_len]; omega
          have hk3 := H3.out k hk hk
          have htl : (M.take k).length = k := by rw [List.length_take]; omega
          rw [← hat] at hscan hfl
          obtain ⟨b, o, rfl, hc⟩ := RdS.at (HRM.out.below hbel) (k := k) hk
          have hcell := hc k hk
          generalize hlk : M[k] = lk at *
          have HTL := Lib.hid htl
          have HSC := Lib.hid hscan
          clear hscan hlk hat hc htl
          obtain ⟨u2, j, hu2, hj, hj1, hj2⟩ := uint_mod y (8 * ((lk.length : Int) + 4)) (8 * (lk.length + 4)) (by omega) (by omega)
          have hsc := HSC.out j hj
          generalize hF : frames M = F at *
          clear hF HSC
          go_upto_region 19 with ((with_reducible refine L_s2b isS slB isB wr.heap.size (l := F) ?_ ?_ ?_ ?_); (focus rfl); (focus rfl); (focus exact ⟨room1 (by omega), Nat.le_refl _⟩); intro cap1 w1 ho1 hb1; have HO1 := Lib.hid ho1; clear ho1; simp only [Act.put, List.setIfInBounds_toArray, List.set_cons_zero, List.set_cons_succ])
          have hcell1 : w1.cell? ⟨b, o + k, none⟩ = some (.string (str lk)) := by rw [hb1.cell (p := ⟨b, o + k, none⟩) (block_lt_of_cell hcell)]; exact hcell
          obtain ⟨i, hi⟩ : ∃ i, av + 4 + j / 8 = i := ⟨_, rfl⟩
          have hiF : i < F.length := by omega
          obtain ⟨hcc, hz⟩ := HO1.out.get (j := i) (by rw [by8_len]; exact hiF)
          have hcx : (by8 F)[i]'(by rw [by8_len]; exact hiF) = .int .u8 ((F.getD i 0).toNat : Int) := by
            simp [by8, List.getD, hiF]
          rw [hcx] at hcc
          have q1 : (av : Int) + 4 + (j : Int) / 8 = (i : Int) := by omega
          have HST := Lib.hid (HO1.out.set (j := i) (by rw [by8_len]; exact hiF) (.int .u8 ((F.getD i 0 ^^^ UInt8.ofNat (2 ^ (j % 8))).toNat : Int)))
          generalize hgx : F.getD i 0 = xb at *
          have HGX := Lib.hid hgx
          clear hgx hcx
          go_wp2_with fail
          rw [two_pow_byte, b8_xor]
          have hst := HST.out
          rw [by8_set, ← HGX.out] at hst
          have htb : F.set i (F.getD i 0 ^^^ UInt8.ofNat (2 ^ (j % 8))) = turnBit F (8 * av + (32 + j)) := by
            unfold turnBit
            rw [show (8 * av + (32 + j)) / 8 = i by omega, show (8 * av + (32 + j)) % 8 = j % 8 by omega]
          rw [htb] at hst
          rw [← HGX.out]
          have hb2 := hb1.setCell (p := ⟨wr.heap.size, i, none⟩) (Nat.le_refl _) (.int .u8 ((F.getD i 0 ^^^ UInt8.ofNat (2 ^ (j % 8))).toNat : Int))
          generalize hW2 : w1.setCell ⟨wr.heap.size, i, none⟩ (.int .u8 ((F.getD i 0 ^^^ UInt8.ofNat (2 ^ (j % 8))).toNat : Int)) = w2 at *
          have hlT : F.length = (turnBit F (8 * av + (32 + j))).length := by rw [turnBit_len]
          generalize turnBit F (8 * av + (32 + j)) = T at *
          obtain ⟨ht1, ht2⟩ := (⟨hst.txt.2.1, hst.txt.2.2.1⟩ : _ ∧ _)
          go_fit (scan_any _ F.length cap1 T w2 ht1 hlT ht2 (by omega))
          rintro e w3 ⟨q3, c3, rfl, hrr, hb3⟩
          rw [hsc]
          have hbel3 := hbel.trans ((grew hb2 hb3).mono hbel.size)
          have hbs3 := hbel3.size
          clear hrr hb3 hb2 hst ht1 ht2 hsc hW2 hlT htb HGX HST
          simp only [HTL.out]
          go_wp2_with fail
          go_fit (told4_any _)
          rintro e w4 ⟨rfl, hb4⟩
          go_wp2_with fail
          go_ret
          exact ⟨rfl, hbel3.trans (hb4.mono hbs3)⟩
end Go.Proofs.YtfeefpaclaonfaaR
