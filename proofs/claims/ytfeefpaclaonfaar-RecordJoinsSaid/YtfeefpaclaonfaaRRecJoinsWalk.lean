/- The walk of the law RecordJoins. -/
import Derived.Test.YtfeefpaclaonfaaRRecTold
import Derived.Deep.DeepCutAuto
import Derived.Deep.CutBlock
set_option linter.unusedSimpArgs false
set_option linter.unusedVariables false
namespace Go.Proofs.YtfeefpaclaonfaaR
open Go.RowKit Go.BigFrame Wire Crc Rec

def JoinRel (L : List (List UInt8)) (w : World) (s i : Value) (wr : World) : Prop :=
  ∃ k : Nat, k ≤ L.length ∧ k ≤ 6 ∧ i = .int .i64 k ∧ (∀ j (h : j < L.length), j < k → L[j].length ≤ 100) ∧ s = .string (str (frames (L.take k))) ∧ Below w.heap.size w wr
theorem few6 {L : List (List UInt8)} {k : Nat} (hk : k ≤ 6) (h : ∀ j (h : j < L.length), j < k → L[j].length ≤ 100) : (frames (L.take k)).length ≤ 648 := by
  have h1 := frames_take_len (L.take k) 100 (by
    intro l hl
    obtain ⟨j, hj, rfl⟩ := List.getElem_of_mem hl
    simp only [List.length_take] at hj
    rw [List.getElem_take]
    exact h j (by omega) (by omega))
  have h2 : (L.take k).length ≤ 6 := by rw [List.length_take]; omega
  have h3 : (L.take k).length * (8 + 100) ≤ 6 * 108 := Nat.mul_le_mul_right _ h2
  omega
theorem six {L : List (List UInt8)} {k : Nat} (hk : k ≤ L.length) (h6 : k ≤ 6) (h : k = L.length ∨ k = 6) (hl : ∀ j (h : j < L.length), j < k → L[j].length ≤ 100) :
    L.take k = L.take 6 ∧ ∀ l ∈ L.take 6, l.length ≤ 100 := by
  have e : L.take k = L.take 6 := by
    rcases h with rfl | rfl
    · rw [List.take_of_length_le (Nat.le_refl _), List.take_of_length_le h6]
    · rfl
  refine ⟨e, fun l hm => ?_⟩
  rw [← e] at hm
  obtain ⟨j, hj, rfl⟩ := List.getElem_of_mem hm
  simp only [List.length_take] at hj
  rw [List.getElem_take]
  exact hl j (by omega) (by omega)
theorem frames_last (A : List (List UInt8)) (h : A ≠ []) : (frames (A.take (A.length - 1))).length + 8 ≤ (frames A).length := by
  have hp : 0 < A.length := List.length_pos_iff.2 h
  have e1 : A.take (A.length - 1 + 1) = A := List.take_of_length_le (by omega)
  have hs := frames_take_succ A (A.length - 1) (by omega)
  rw [e1] at hs
  have hl : (frames A).length = (frames (A.take (A.length - 1))).length + (frame (A[A.length - 1]'(by omega))).length := by
    conv => lhs; rw [hs]
    rw [List.length_append]
  rw [frame_len] at hl
  omega
theorem whole_last (A : List (List UInt8)) (h : A ≠ []) : wholeOf A ((frames A).length - 1) = A.length - 1 := by
  have hp : 0 < A.length := List.length_pos_iff.2 h
  have hle := wholeOf_le A ((frames A).length - 1)
  have h1 := wholeOf_iff A ((frames A).length - 1) (A.length - 1) (by omega)
  have e1 : A.take (A.length - 1 + 1) = A := List.take_of_length_le (by omega)
  rw [e1] at h1
  have hs := frames_take_succ A (A.length - 1) (by omega)
  rw [e1] at hs
  have hl : (frames A).length = (frames (A.take (A.length - 1))).length + (frame (A[A.length - 1]'(by omega))).length := by
    conv => lhs; rw [hs]
    rw [List.length_append]
  rw [frame_len] at hl
  have hlo : ¬ (A.length - 1 < wholeOf A ((frames A).length - 1)) := fun hc => by have := h1.2 hc; omega
  by_cases h2 : A.length = 1
  · omega
  · have h3 := wholeOf_iff A ((frames A).length - 1) (A.length - 2) (by omega)
    rw [show A.length - 2 + 1 = A.length - 1 by omega] at h3
    have := h3.1 (by omega)
    omega
theorem run_min2 {P : Program} (w : World) (ts : Array TypeId) (t : TypeId) (k : IntKind) (x y z : Int) (h : min x y = z) : (Builtin.min_ ts t #[.int k x, .int k y]).run P w = .ok (.int k z) w := by
  simp [Builtin.min_, Builtin.min2]
  (repeat' split) <;> omega

set_option maxRecDepth 100000 in
set_option maxHeartbeats 4000000 in
theorem recordJoins_walk (p q : Option Addr) (cap cap' : Nat) (L M : List (List UInt8)) (cut : Bool) (w : World) (hr : RdS w p L) (hq : RdS w q M) (hcap : L.length ≤ cap) (hmax : cap ≤ maxLen) (hcap' : M.length ≤ cap') (hmax' : cap' ≤ maxLen) :
    Calls Try.prog 10 #[.slice p L.length cap, .slice q M.length cap', .bool cut] w fun e w' => e = .returned (.bool true) ∧ Below w.heap.size w w' := by
  have hl63 : L.length ≤ 9223372036854775807 := by unfold maxLen at hmax; omega
  have hm63 : M.length ≤ 9223372036854775807 := by unfold maxLen at hmax'; omega
  have HR := Lib.hid hr
  have HQ := Lib.hid hq
  clear hr hmax hq hmax'
  go_enter Try.func10, Try.ntmps10
  go_upto_block 0 with (fail)
  go_cut [7, 9] (fun s i wc => s = .string (str (frames (L.take 6))) ∧ (∀ l ∈ L.take 6, l.length ≤ 100) ∧ Below w.heap.size w wc)
  case first =>
    go_wp2_with fail
    go_loopw [7, 9] (fun s i wr => JoinRel L w s i wr) (fun _ i _ => 6 - (intOf i).toNat)
    case atStart => exact ⟨0, by omega, by omega, rfl, by intro j _ h; omega, by simp [frames_nil, str], Below.refl _ _⟩
    case round =>
      obtain ⟨k, hk, hk6, rfl, h100, rfl, hbel⟩ := hrel
      have H1 := Lib.hid h100
      have hfew := few6 hk6 h100
      have hbw := hbel
      clear h100
      by_cases hlt : k < L.length
      · by_cases hlt6 : k < 6
        · obtain ⟨b, o, rfl, hc⟩ := RdS.at (HR.out.below hbel) (k := k) hlt
          have hcell := hc k hlt
          have HFS := Lib.hid (frames_take_succ L k hlt)
          have H4 : Hid (L[k].length ≤ 100 → ∀ j (h : j < L.length), j < k + 1 → L[j].length ≤ 100) := fun h0 j hj hjk => by
            by_cases e : j = k
            · subst e; exact h0
            · exact H1.out j hj (by omega)
          have HFL := Lib.hid (frame_len L[k])
          clear hc
          generalize hlk : L[k] = lk at *
          clear hlk
          by_cases hbig : 100 < lk.length
          · have d1 : decide ((100 : Int) < (lk.length : Int)) = true := by simp; omega
            go_wp2_with (go_at_call 19; go_fit (told4_any _); rintro e w1 ⟨rfl, hb1⟩)
            go_ret
            exact ⟨rfl, hbw.trans (hb1.mono hbw.size)⟩
          · have d1 : decide ((100 : Int) < (lk.length : Int)) = false := by simp; omega
            have hsm : lk.length ≤ 100 := by omega
            go_wp2_with ((with_reducible refine L_s2b isS slB isB wr.heap.size (l := lk) ?_ ?_ ?_ ?_); (focus rfl); (focus rfl); (focus exact ⟨room1 (by omega), Nat.le_refl _⟩); intro cap1 w1 ho1 hb1; have HO1 := Lib.hid ho1; clear ho1; simp only [Act.put, List.setIfInBounds_toArray, List.set_cons_zero, List.set_cons_succ])
            have ht1 := HO1.out.txt
            go_fit (frame_any _ _ cap1 lk w1 ht1.2.1 rfl (by omega))
            rintro e w2 ⟨v2, rfl, ho2, hb2⟩
            obtain ⟨p2, cap2, rfl, hr2, _⟩ := ho2.shape
            rw [HFL.out] at ho2 ⊢
            have hbel2 := hbel.trans ((grew hb1 hb2).mono hbel.size)
            have HR2 := Lib.hid hr2
            clear ht1 ho2 hr2 hb1 hb2
            have hfl8 : (frame lk).length ≤ 108 := by rw [HFL.out]; omega
            go_wp2_with ((with_reducible refine L_b2s slB isB isS HR2.out ?_ ?_ ?_); (focus rfl); (focus exact ⟨_, _, rfl, HFL.out.symm⟩); simp only [Act.put, List.setIfInBounds_toArray, List.set_cons_zero, List.set_cons_succ])
            refine ⟨⟨k + 1, by omega, by omega, by go_num, H4.out hsm, by rw [HFS.out], hbel2⟩, by simp [intOf]; omega⟩
        · obtain rfl : k = 6 := by omega
          have d1 : decide ((6 : Int) < (L.length : Int)) = true := by simp; omega
          have HX := Lib.hid (six hk hk6 (.inr rfl) H1.out).2
          go_wp2_with fail
          go_meet
          exact ⟨rfl, HX.out, hbel⟩
      · obtain rfl : k = L.length := by omega
        have hx := six hk hk6 (.inl rfl) H1.out
        have HX := Lib.hid hx
        clear hx
        go_wp2_with fail
        go_meet
        exact ⟨by rw [HX.out.1], HX.out.2, hbel⟩
  case rest =>
    obtain ⟨rfl, hA, hbA⟩ := hcut
    obtain ⟨wA, hwA⟩ : ∃ v, v = wc := ⟨_, rfl⟩
    subst hwA
    have HA := Lib.hid hA
    clear hA
    have HQ1 := Lib.hid (HQ.out.below hbA)
    go_upto_block 2 with (fail)
    go_cut [8, 12] (fun t i wd => t = .string (str (frames (M.take 6))) ∧ (∀ l ∈ M.take 6, l.length ≤ 100) ∧ Below wA.heap.size wA wd)
    case first =>
      go_wp2_with fail
      go_loopw [8, 12] (fun s i wr => JoinRel M wA s i wr) (fun _ i _ => 6 - (intOf i).toNat)
      case atStart => exact ⟨0, by omega, by omega, rfl, by intro j _ h; omega, by simp [frames_nil, str], Below.refl _ _⟩
      case round =>
        obtain ⟨k, hk, hk6, rfl, h100, rfl, hbel⟩ := hrel
        have H1 := Lib.hid h100
        have hfew := few6 hk6 h100
        have hbw := hbA.trans (hbel.mono hbA.size)
        clear h100
        by_cases hlt : k < M.length
        · by_cases hlt6 : k < 6
          · obtain ⟨b, o, rfl, hc⟩ := RdS.at (HQ1.out.below hbel) (k := k) hlt
            have hcell := hc k hlt
            have HFS := Lib.hid (frames_take_succ M k hlt)
            have H4 : Hid (M[k].length ≤ 100 → ∀ j (h : j < M.length), j < k + 1 → M[j].length ≤ 100) := fun h0 j hj hjk => by
              by_cases e : j = k
              · subst e; exact h0
              · exact H1.out j hj (by omega)
            have HFL := Lib.hid (frame_len M[k])
            clear hc
            generalize hlk : M[k] = lk at *
            clear hlk
            by_cases hbig : 100 < lk.length
            · have d1 : decide ((100 : Int) < (lk.length : Int)) = true := by simp; omega
              go_wp2_with (go_at_call 19; go_fit (told4_any _); rintro e w1 ⟨rfl, hb1⟩)
              go_ret
              exact ⟨rfl, hbw.trans (hb1.mono hbw.size)⟩
            · have d1 : decide ((100 : Int) < (lk.length : Int)) = false := by simp; omega
              have hsm : lk.length ≤ 100 := by omega
              go_wp2_with ((with_reducible refine L_s2b isS slB isB wr.heap.size (l := lk) ?_ ?_ ?_ ?_); (focus rfl); (focus rfl); (focus exact ⟨room1 (by omega), Nat.le_refl _⟩); intro cap1 w1 ho1 hb1; have HO1 := Lib.hid ho1; clear ho1; simp only [Act.put, List.setIfInBounds_toArray, List.set_cons_zero, List.set_cons_succ])
              have ht1 := HO1.out.txt
              go_fit (frame_any _ _ cap1 lk w1 ht1.2.1 rfl (by omega))
              rintro e w2 ⟨v2, rfl, ho2, hb2⟩
              obtain ⟨p2, cap2, rfl, hr2, _⟩ := ho2.shape
              rw [HFL.out] at ho2 ⊢
              have hbel2 := hbel.trans ((grew hb1 hb2).mono hbel.size)
              have HR2 := Lib.hid hr2
              clear ht1 ho2 hr2 hb1 hb2
              have hfl8 : (frame lk).length ≤ 108 := by rw [HFL.out]; omega
              go_wp2_with ((with_reducible refine L_b2s slB isB isS HR2.out ?_ ?_ ?_); (focus rfl); (focus exact ⟨_, _, rfl, HFL.out.symm⟩); simp only [Act.put, List.setIfInBounds_toArray, List.set_cons_zero, List.set_cons_succ])
              refine ⟨⟨k + 1, by omega, by omega, by go_num, H4.out hsm, by rw [HFS.out], hbel2⟩, by simp [intOf]; omega⟩
          · obtain rfl : k = 6 := by omega
            have d1 : decide ((6 : Int) < (M.length : Int)) = true := by simp; omega
            have HX := Lib.hid (six hk hk6 (.inr rfl) H1.out).2
            go_wp2_with fail
            go_meet
            exact ⟨rfl, HX.out, hbel⟩
        · obtain rfl : k = M.length := by omega
          have hx := six hk hk6 (.inl rfl) H1.out
          have HX := Lib.hid hx
          clear hx
          go_wp2_with fail
          go_meet
          exact ⟨by rw [HX.out.1], HX.out.2, hbel⟩
    case rest =>
      obtain ⟨rfl, hB, hbB⟩ := hcut
      obtain ⟨wd, hwd⟩ : ∃ v, v = wc := ⟨_, rfl⟩
      subst hwd
      have HB := Lib.hid hB
      have hfA : (frames (L.take 6)).length ≤ 648 := by
        have h1 := frames_take_len (L.take 6) 100 HA.out
        have h2 : (L.take 6).length ≤ 6 := by rw [List.length_take]; omega
        have h3 : (L.take 6).length * (8 + 100) ≤ 6 * 108 := Nat.mul_le_mul_right _ h2
        omega
      have hfB : (frames (M.take 6)).length ≤ 648 := by
        have h1 := frames_take_len (M.take 6) 100 HB.out
        have h2 : (M.take 6).length ≤ 6 := by rw [List.length_take]; omega
        have h3 : (M.take 6).length * (8 + 100) ≤ 6 * 108 := Nat.mul_le_mul_right _ h2
        omega
      clear hB
      have hgA : ∀ (i : Nat) (h : i < (L.take 6).length) (h' : i < L.length), (L.take 6)[i] = L[i] := fun i h h' => List.getElem_take ..
      have hgB : ∀ (i : Nat) (h : i < (M.take 6).length) (h' : i < M.length), (M.take 6)[i] = M[i] := fun i h h' => List.getElem_take ..
      have HGA := Lib.hid hgA
      have HGB := Lib.hid hgB
      have HLA := Lib.hid (List.length_take .. : (L.take 6).length = min 6 L.length)
      have HLB := Lib.hid (List.length_take .. : (M.take 6).length = min 6 M.length)
      clear hgA hgB
      generalize L.take 6 = A at *
      generalize M.take 6 = B at *
      have hmin1 : (if (6 : Int) < (L.length : Int) then (6 : Int) else (L.length : Int)) = (A.length : Int) := by rw [HLA.out]; split <;> omega
      have hmin2 : (if (6 : Int) < (M.length : Int) then (6 : Int) else (M.length : Int)) = (B.length : Int) := by rw [HLB.out]; split <;> omega
      have hall : ∀ l ∈ A ++ B, l.length ≤ 1048576 := by
        intro l hl
        rcases List.mem_append.1 hl with h | h
        · have := HA.out l h; omega
        · have := HB.out l h; omega
      have hsc := scan_all (A ++ B) hall
      rw [frames_append] at hsc
      have HSC := Lib.hid hsc
      have hcl := fun c => scan_cut A (fun l h => hall l (List.mem_append_left _ h)) c
      have HCL := Lib.hid hcl
      have HWL := Lib.hid (whole_last A)
      clear hall hcl hsc
      have hfl3 : (frames A ++ frames B).length ≤ 1099511627776 := by rw [List.length_append]; omega
      have HFL3 := Lib.hid hfl3
      go_wp2_with ((with_reducible refine L_s2b isS slB isB wd.heap.size (l := frames A ++ frames B) ?_ ?_ ?_ ?_); (focus rfl); (focus rfl); (focus exact ⟨room1 (by omega), Nat.le_refl _⟩); intro cap1 w1 ho1 hb1; have HO1 := Lib.hid ho1; clear ho1; simp only [Act.put, List.setIfInBounds_toArray, List.set_cons_zero, List.set_cons_succ])
      obtain ⟨-, hr1, hc1, -⟩ := HO1.out.txt
      rw [List.length_append] at hc1 HFL3
      go_fit (scan_any _ ((frames A).length + (frames B).length) cap1 (frames A ++ frames B) w1 hr1 List.length_append.symm hc1 HFL3.out)
      rintro e w2 ⟨q2, cq, rfl, hrr, hb2⟩
      rw [HSC.out] at hrr ⊢
      have hbel1 := hbA.trans (hbB.mono hbA.size)
      have hbel2 := hbel1.trans ((grew hb1 hb2).mono hbel1.size)
      have hbs2 := hbel2.size
      have HRL := Lib.hid (HR.out.below hbel2)
      have HRM := Lib.hid (HQ.out.below hbel2)
      obtain ⟨vs, hvs, hels⟩ := hrr
      have HV := Lib.hid hvs
      have HE := Lib.hid hels
      have HVL := Lib.hid hels.1
      simp only [List.length_append]
      have HVL2 := Lib.hid (HVL.out.trans List.length_append)
      obtain ⟨na, hna⟩ : ∃ n, A.length + B.length = n := ⟨_, rfl⟩
      obtain ⟨nf, hnf⟩ : ∃ n, (frames A).length + (frames B).length = n := ⟨_, rfl⟩
      have e1 : (A.length : Int) + (B.length : Int) = (na : Int) := by omega
      have e2 : ((frames A).length : Int) + ((frames B).length : Int) = (nf : Int) := by omega
      rw [hna, hnf]
      rw [hna] at HVL2
      have HNA := Lib.hid hna
      have HNF := Lib.hid hnf
      clear hna hnf hfl3 HFL3
      clear hr1 hc1 hvs hels hb1 hb2 hbel1 hbA hbB
      go_wp2_with fail
      go_loopw [17] (fun i wr => ∃ m : Nat, m ≤ na ∧ i = .int .i64 m ∧ Below w2.heap.size w2 wr) (fun i _ => na - (intOf i).toNat)
      case atStart => exact ⟨0, by omega, rfl, Below.refl _ _⟩
      case round =>
        obtain ⟨m, hm, rfl, hbm⟩ := hrel
        by_cases hlt : m < na
        · have hm1 : m < vs.length := by rw [HVL2.out]; exact hlt
          have hm2 : m < (A ++ B).length := by rw [List.length_append, HNA.out]; exact hlt
          obtain ⟨pi, ci, hvi, hri, -, -, -⟩ := HE.out.2 m hm1 hm2
          have hle0 : (A ++ B, (frames A ++ frames B).length).1[m] = (A ++ B)[m] := rfl
          rw [hle0] at hvi hri
          obtain ⟨b, o, rfl, hcc⟩ := (HV.out.below hbm).at (k := m) hm1
          have hcell := hcc m hm1
          by_cases hmA : m < A.length
          · have hmL : m < L.length := by have := HLA.out; omega
            have hle : (A ++ B)[m] = L[m] := by rw [List.getElem_append_left hmA, HGA.out]
            rw [hle] at hvi hri
            rw [hvi] at hcell
            obtain ⟨b2, o2, rfl, hcc2⟩ := RdS.at (HRL.out.below hbm) (k := m) hmL
            have hcell2 := hcc2 m hmL
            have d2 : decide ((m : Int) < (A.length : Int)) = true := by simp; omega
            have HRI := Lib.hid (Rd8.below hri hbm)
            clear hcc hcc2 hvi hri hle hm1 hm2 hle0
            generalize L[m] = lm at *
            go_wp2_with ((with_reducible refine L_b2s slB isB isS HRI.out ?_ ?_ ?_); (focus rfl); (focus exact ⟨_, _, rfl, rfl⟩); simp only [Act.put, List.setIfInBounds_toArray, List.set_cons_zero, List.set_cons_succ])
            exact ⟨⟨m + 1, by omega, by go_num, hbm⟩, by simp [intOf]; omega⟩
          · obtain ⟨j, hj⟩ : ∃ j, m = A.length + j := ⟨m - A.length, by omega⟩
            have hjB : j < B.length := by have := HNA.out; omega
            have hjM : j < M.length := by have := HLB.out; omega
            have hle : (A ++ B)[m] = M[j] := by
              have e : (A ++ B)[m] = B[j] := by
                subst hj
                rw [List.getElem_append_right (by omega)]
                simp
              rw [e, HGB.out]
            rw [hle] at hvi hri
            rw [hvi] at hcell
            obtain ⟨b2, o2, rfl, hcc2⟩ := RdS.at (HRM.out.below hbm) (k := j) hjM
            have hcell2 := hcc2 j hjM
            have hsub : (m : Int) - (A.length : Int) = (j : Int) := by omega
            have d2 : decide ((m : Int) < (A.length : Int)) = false := by simp; omega
            have HRI := Lib.hid (Rd8.below hri hbm)
            have HJ := Lib.hid hj
            clear hcc hcc2 hvi hri hle hm1 hm2 hle0 hj
            generalize M[j] = lm at *
            go_wp2_with ((with_reducible refine L_b2s slB isB isS HRI.out ?_ ?_ ?_); (focus rfl); (focus exact ⟨_, _, rfl, rfl⟩); simp only [Act.put, List.setIfInBounds_toArray, List.set_cons_zero, List.set_cons_succ])
            exact ⟨⟨m + 1, by omega, by go_num, hbm⟩, by simp [intOf]; omega⟩
        · obtain rfl : m = na := by omega
          have hbel3 := hbel2.trans (hbm.mono hbs2)
          have hbs3 := hbel3.size
          clear hbm hbel2 hbs2
          rcases cut with _ | _
          · go_wp2_with (go_at_call 19; go_fit (told4_any _); rintro e w4 ⟨rfl, hb4⟩)
            go_ret
            exact ⟨rfl, hbel3.trans (hb4.mono hbs3)⟩
          · by_cases hA0 : A = []
            · have d3 : frames A = [] := by rw [hA0, frames_nil]
              clear hA0
              go_wp2_with (go_at_call 19; go_fit (told4_any _); rintro e w4 ⟨rfl, hb4⟩)
              go_ret
              exact ⟨rfl, hbel3.trans (hb4.mono hbs3)⟩
            · have hlast := frames_last A hA0
              have hap : 0 < A.length := List.length_pos_iff.2 hA0
              have hW := HWL.out hA0
              have hcl := HCL.out ((frames A).length - 1)
              rw [hW] at hcl
              obtain ⟨c, hc⟩ : ∃ c, (frames A).length - 1 = c := ⟨_, rfl⟩
              obtain ⟨a1, ha1⟩ : ∃ c, A.length - 1 = c := ⟨_, rfl⟩
              rw [hc, ha1] at hcl
              rw [ha1] at hlast
              have i1 : ((frames A).length : Int) - 1 = (c : Int) := by omega
              have i2 : (A.length : Int) - 1 = (a1 : Int) := by omega
              have htl : (A.take a1).length = a1 := by rw [List.length_take]; omega
              have hsl : ((frames A).take c).length = c := by rw [List.length_take]; omega
              have HCl := Lib.hid hcl
              have HTL := Lib.hid htl
              have HSL := Lib.hid hsl
              generalize hg : (frames (A.take a1)).length = g at *
              have HG := Lib.hid hg
              clear hW hcl hc ha1 htl hsl hA0 hg
              generalize hsc : (frames A).take c = sc at *
              have hcc : c ≤ 1099511627776 := by omega
              have hcf : c ≤ (frames A).length := by omega
              have d3 : ((frames A).length == 0) = false := beq_eq_false_iff_ne.2 (by omega)
              have d4 : decide (g < (frames A).length) = true := by simp; omega
              have hsb : sc.length ≤ 1099511627776 := by rw [HSL.out]; omega
              go_wp2_with (first | ((with_reducible refine L_s2b isS slB isB wr.heap.size (l := sc) ?_ ?_ ?_ ?_); (focus rfl); (focus rfl); (focus exact ⟨room1 (by omega), Nat.le_refl _⟩); intro cap4 w4 ho4 hb4; have HO4 := Lib.hid ho4; clear ho4; simp only [Act.put, List.setIfInBounds_toArray, List.set_cons_zero, List.set_cons_succ]) | fail)
              obtain ⟨hr4, hc4⟩ := (⟨HO4.out.txt.2.1, HO4.out.txt.2.2.1⟩ : _ ∧ _)
              go_fit (scan_any _ _ cap4 sc w4 hr4 rfl hc4 hsb)
              rintro e w5 ⟨q5, cq5, rfl, hrr5, hb5⟩
              rw [HCl.out]
              have hbel5 := hbel3.trans ((grew hb4 hb5).mono hbs3)
              have hbs5 := hbel5.size
              clear hrr5 hb4 hb5 hr4 hc4
              simp only [HTL.out]
              go_wp2_with fail
              go_fit (told4_any _)
              rintro e w6 ⟨rfl, hb6⟩
              go_wp2_with fail
              go_ret
              exact ⟨rfl, hbel5.trans (hb6.mono hbs5)⟩
end Go.Proofs.YtfeefpaclaonfaaR
