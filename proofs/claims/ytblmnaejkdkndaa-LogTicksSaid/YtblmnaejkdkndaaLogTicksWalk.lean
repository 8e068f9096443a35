/- The walk over LogTicks. -/
import Derived.Test.YtblmnaejkdkndaaLogB
set_option linter.unusedSimpArgs false
set_option linter.unusedVariables false
namespace Go.Proofs.Ytblmnaejkdkndaa
open Go.RowKit Go.Maps Rec

/-- the unit that is added in round i -/
def unitN (i : Nat) : List UInt8 := unitB [UInt8.ofNat (97 + i)]
theorem unitN_len (i : Nat) : (unitN i).length = 48 := by unfold unitN; rw [unitB_len]; rfl
def allU : Nat → List UInt8
  | 0 => []
  | i + 1 => allU i ++ unitN i
theorem allU_len : ∀ i, (allU i).length = 48 * i
  | 0 => rfl
  | i + 1 => by rw [allU, List.length_append, allU_len i, unitN_len]; omega
/-- the disk behind i rounds, s bytes synced -/
def diskN (i s : Nat) : Files0 := if i = 0 then [] else [(logName, ⟨allU i, s⟩)]
theorem diskN_pos {i : Nat} (s : Nat) (h : i ≠ 0) : diskN i s = [(logName, ⟨allU i, s⟩)] := if_neg h
theorem diskN_len (i s : Nat) : (diskN i s).length ≤ 1 := by unfold diskN; split <;> simp
theorem diskN_add (i s : Nat) (hi : i < 20) (h0 : i = 0 → s = 0) : appendD logName (unitN i) (diskN i s) 65536 false = (diskN (i + 1) s, 0) := by
  rw [diskN_pos (i := i + 1) s (by omega)]
  by_cases hz : i = 0
  · subst hz
    rw [h0 rfl]
    exact append_first _ _ (by rw [unitN_len]; omega)
  · rw [diskN_pos s hz]
    exact append_more _ _ _ _ (by rw [unitN_len, allU_len]; omega)
/-- what is gathered behind i rounds -/
def sideN (on i : Nat) : List UInt8 := if on < i then (allU i).drop (48 * on) else []
theorem sideN_len (on i : Nat) (hi : i ≤ 20) : (sideN on i).length ≤ 1000 := by
  unfold sideN; split
  · rw [List.length_drop, allU_len]; omega
  · simp
theorem sideN_add (on i : Nat) (h : on < i) : sideN on (i + 1) = sideN on i ++ unitN i := by
  unfold sideN
  rw [if_pos (by omega), if_pos h, allU, List.drop_append_of_le_length (by rw [allU_len]; omega)]
theorem sideN_first (i : Nat) : sideN i (i + 1) = unitN i := by
  unfold sideN
  rw [if_pos (by omega), allU, List.drop_append_of_le_length (by rw [allU_len]; omega), List.drop_of_length_le (by rw [allU_len]; omega)]
  rfl
theorem side_step (on j : Nat) : (if decide (on < j + 1) = true then sideN on j ++ unitN j else sideN on j) = sideN on (j + 1) := by
  by_cases h : on < j
  · rw [if_pos (by simp; omega), sideN_add on j h]
  · by_cases h2 : on = j
    · subst h2
      rw [if_pos (by simp), sideN_first]
      unfold sideN; rw [if_neg (by omega)]; rfl
    · rw [if_neg (by simp; omega)]
      unfold sideN; rw [if_neg h, if_neg (by omega)]
/-- how many bytes are synced behind i rounds -/
def syncN (p at_ i : Nat) : Nat := if at_ < i ∧ p = 1 then 48 * (at_ + 1) else 0
def sideV (on i : Nat) : Nat := if on < i then 48 * on else 0
def TickRel (B db lb p at_ on i : Nat) (w0 : World) (sy sd : Value) (wr : World) : Prop :=
  ∃ st : Int, LogAt B wr db lb 65536 ⟨(p : Int), (i : Int), st, decide (on < i), sideN on i, diskN i (syncN p at_ i)⟩ ∧ sy = .int .i64 (syncN p at_ i : Int) ∧ sd = .int .i64 (sideV on i : Int) ∧ Below w0.heap.size w0 wr

theorem lsizeN {w : World} {db lb r B i sy : Nat} {s : LogS} (h : LogAt B w db lb r s) (hD : s.D = diskN i sy) :
    Calls Try.prog 13 #[.pointer (some ⟨db, 0, none⟩), .string (str logName)] w fun e w' => e = .returned (.int .i64 ((48 * i : Nat) : Int)) ∧ w = w' := by
  by_cases hi : i = 0
  · subst hi
    exact lsize_none h hD
  · have := lsize_at h (f := ⟨allU i, sy⟩) (by rw [hD, diskN_pos _ hi])
    rw [allU_len] at this
    exact this
theorem lsyncedN {w : World} {db lb r B i sy : Nat} {s : LogS} (h : LogAt B w db lb r s) (hD : s.D = diskN i sy) (hi : i ≠ 0) :
    Calls Try.prog 16 #[.pointer (some ⟨db, 0, none⟩), .string (str logName)] w fun e w' => e = .returned (.int .i64 (sy : Int)) ∧ w = w' :=
  lsynced_at h (f := ⟨allU i, sy⟩) (by rw [hD, diskN_pos _ hi])
theorem wpAnyH_weak {P : Program} {md : Region.Mode} {ops : Array Oper} {Q : Exit → Act → World → Prop} {S S' : World → Prop} (hs : ∀ w, S' w → S w) : ∀ (fuel : Nat) (listed : Array Bool) (a : Act) (w : World), wpAnyH P md ops Q S' fuel listed a w → wpAnyH P md ops Q S fuel listed a w
  | 0, _, _, _, h => h
  | fuel + 1, _, _, _, h => ⟨h.1, fun i hi => wpOp_mono (fun a' w' h' => ⟨hs _ h'.1, wpAnyH_weak hs fuel _ a' w' h'.2⟩) (h.2 i hi)⟩
/-- behind the first 'if' of round i -/
def MidRel (B db lb p at_ on i : Nat) (w0 : World) (sd : Value) (wr : World) : Prop :=
  ∃ st : Int, LogAt B wr db lb 65536 ⟨(p : Int), (i : Int), st, decide (on < i + 1), sideN on i, diskN i (syncN p at_ i)⟩ ∧ sd = .int .i64 (sideV on (i + 1) : Int) ∧ Below w0.heap.size w0 wr
/-- .. of the second -/
def EndRel (B db lb p at_ on i : Nat) (w0 : World) (sy : Value) (wr : World) : Prop :=
  ∃ st : Int, LogAt B wr db lb 65536 ⟨(p : Int), (i : Int) + 1, st, decide (on < i + 1), sideN on (i + 1), diskN (i + 1) (syncN p at_ (i + 1))⟩ ∧ sy = .int .i64 (syncN p at_ (i + 1) : Int) ∧ Below w0.heap.size w0 wr
set_option maxHeartbeats 4000000 in
set_option maxRecDepth 20000 in
theorem logTicks_walk (n tick from' policy : Int) (w : World) :
    Calls Try.prog 5 #[.int .i64 n, .int .i64 tick, .int .i64 from', .int .i64 policy] w fun e w' => e = .returned (.bool true) ∧ Below w.heap.size w w' := by
  obtain ⟨u1, m, hu1, hm, hm1, hm2⟩ := uint_mod n 20 20 rfl (by omega)
  obtain ⟨u2, q, hu2, hq, hq1, hq2⟩ := uint_mod policy 2 2 rfl (by omega)
  obtain ⟨k, hk⟩ : ∃ k : Nat, k = m + 1 := ⟨_, rfl⟩
  obtain ⟨p, hp⟩ : ∃ p : Nat, p = q + 1 := ⟨_, rfl⟩
  have hk1 : (1 : Int) + (m : Int) = (k : Int) := by omega
  have hp1 : (1 : Int) + (q : Int) = (p : Int) := by omega
  have hk0 : 0 < k := by omega
  have hk20 : k ≤ 20 := by omega
  have hpp : p = 1 ∨ p = 2 := by omega
  obtain ⟨u3, at_, hu3, hat, ha1, ha2⟩ := uint_mod tick (k : Int) k rfl hk0
  obtain ⟨u4, on, hu4, hon, ho1, ho2⟩ := uint_mod from' (k : Int) k rfl hk0
  have hwk : IntKind.u64.wrap (k : Int) = (k : Int) := by rw [IntKind.wrap_u64]; omega
  have d0 : ((k : Int) == 0) = false := by rw [beq_eq_false_iff_ne]; omega
  have HPP := Lib.hid hpp
  clear hk hp hpp
  go_enter Try.func5, Try.ntmps5
  go_wp2_with fail
  go_fit (new_nat 65536 w (by omega))
  rintro e w1 ⟨db, rfl, hd1, hb1⟩
  have HD1 := Lib.hid hd1
  have HB1 := Lib.hid hb1
  clear hd1 hb1
  go_wp2_with fail
  go_fit (lnew_B HD1.out HB1.out.size (p : Int) (by have := HPP.out; omega))
  rintro e w2 ⟨lb, rfl, hl2, hb2⟩
  have HL2 := Lib.hid hl2
  have HB2 := Lib.hid (HB1.out.trans hb2)
  clear hl2 hb2
  go_wp2_with fail
  go_quiet (fail)
  obtain ⟨wq, hwq⟩ : ∃ v, v = w2.drewN nq := ⟨_, rfl⟩
  rw [← hwq]
  have hlq : LogAt w.heap.size wq db lb 65536 ⟨(p : Int), 0, 0, false, [], []⟩ := by rw [hwq]; exact HL2.out.below (below_drewN (Below.refl _ _) _)
  have hbq : Below w.heap.size w wq := by rw [hwq]; exact below_drewN HB2.out _
  have HLQ := Lib.hid hlq
  have HBQ := Lib.hid hbq
  clear hwq hlq hbq
  go_upto_block 0 with (fail)
  go_cut [17, 18] (fun sy sd wc => TickRel w.heap.size db lb p at_ on k w sy sd wc)
  case first =>
    go_wp2_with fail
    go_loopw [17, 18, 19] (fun sy sd i wr => ∃ j : Nat, j ≤ k ∧ i = .int .i64 (j : Int) ∧ TickRel w.heap.size db lb p at_ on j w sy sd wr) (fun _ _ i _ => k - (intOf i).toNat)
    case atStart => exact ⟨0, by omega, rfl, 0, HLQ.out, rfl, rfl, HBQ.out⟩
    case round =>
      obtain ⟨j, hj, rfl, st, hl, rfl, rfl, hb⟩ := hrel
      have HL := Lib.hid hl
      have HB := Lib.hid hb
      clear hl hb
      by_cases hlt : j < k
      · go_upto_if 71 with (fail)
        go_cut [18] (fun sd wc => MidRel w.heap.size db lb p at_ on j w sd wc)
        case first =>
          by_cases hon : j = on
          · subst hon
            go_wp2_with fail
            go_fit (lside_B HL.out HB.out.size)
            rintro e w5 ⟨rfl, hl5, hb5⟩
            have hb5' := HB.out.trans hb5
            have hz := lsizeN hl5 (i := j) (sy := syncN p at_ j) rfl
            have hfin : MidRel w.heap.size db lb p at_ j j w (.int .i64 ((48 * j : Nat) : Int)) w5 := by
              refine ⟨st, ?_, ?_, hb5'⟩
              · have e : decide (j < j + 1) = true := by simp
                have e2 : sideN j j = [] := if_neg (by omega)
                rw [e, e2]; exact hl5
              · have e : sideV j (j + 1) = 48 * j := if_pos (by omega)
                rw [e]
            have HZ := Lib.hid hz
            have HFIN := Lib.hid hfin
            clear hfin hz hl5 hb5 hb5'
            go_wp2_with fail
            refine HZ.out.mono ?_
            rintro e w6 ⟨rfl, rfl⟩
            obtain ⟨z, hz⟩ : ∃ z : Nat, z = 48 * j := ⟨_, rfl⟩
            rw [← hz] at HFIN ⊢
            clear hz
            go_wp2_with fail
            go_meet
            exact HFIN.out
          · have hne : ((j : Int) == (on : Int)) = false := by rw [beq_eq_false_iff_ne]; omega
            have hfin : MidRel w.heap.size db lb p at_ on j w (.int .i64 (sideV on j : Int)) wr := by
              refine ⟨st, ?_, ?_, HB.out⟩
              · have e : decide (on < j + 1) = decide (on < j) := by rw [decide_eq_decide]; omega
                rw [e]; exact HL.out
              · have e : sideV on j = sideV on (j + 1) := by
                  unfold sideV
                  by_cases h : on < j
                  · rw [if_pos h, if_pos (by omega)]
                  · rw [if_neg h, if_neg (by omega)]
                rw [e]
            have HFIN := Lib.hid hfin
            clear hfin
            go_wp2_with fail
            go_meet
            exact HFIN.out
        case rest =>
          obtain ⟨st, hl, rfl, hb⟩ := hcut
          obtain ⟨x, hx⟩ : ∃ x, x = UInt8.ofNat (97 + j) := ⟨_, rfl⟩
          have hx0 : (97 + (j : Int)) = (x.toNat : Int) := by rw [hx, UInt8.toNat_ofNat']; omega
          have hx1 : (x.toNat : Int) % 256 = (x.toNat : Int) := by have := x.toNat_lt; omega
          have hun : unitN j = unitB [x] := by rw [hx]; rfl
          have hr : Rd8 (wc.alloc (.cells #[.int .u8 (x.toNat : Int)] 5)) (some ⟨wc.heap.size, 0, none⟩) [x] := Rd.of_row (heap_alloc_new wc _) 0 (by simp [by8])
          have HR := Lib.hid hr
          have HL2 := Lib.hid hl
          have HB2 := Lib.hid hb
          have HUN := Lib.hid hun
          have HS := Lib.hid (show (97 + (j : Int)) = (x.toNat : Int) from hx0)
          clear hr hl hb hun hx
          go_wp2_with ((with_reducible refine L_b2s slB isB isS HR.out ?_ ?_ ?_); (focus rfl); (focus exact ⟨_, _, rfl, rfl⟩); simp only [Act.put, List.setIfInBounds_toArray, List.set_cons_zero, List.set_cons_succ])
          have ha := ((Below.refl wc.heap.size wc).alloc (Nat.le_refl _) (.cells #[.int .u8 (x.toNat : Int)] 5)).alloc (by simp) (.cells #[.string (str [x]), .int .i64 0, .string ⟨#[]⟩, .slice none 0 0, .slice none 0 0, .slice none 0 0, .slice none 0 0, .int .i64 0] 55)
          go_fit (ladd_B [x] (by simp) (by simp) (HL2.out.below ha) (Nat.le_trans HB2.out.size ha.size) (by have := HPP.out; dsimp only; omega) (by dsimp only; omega) (Nat.le_trans (diskN_len _ _) (by omega)) (Nat.le_trans (sideN_len _ _ (by omega)) (by omega)) (Rd.of_row (by rw [show wc.heap.size + 1 = (wc.alloc (.cells #[.int .u8 (x.toNat : Int)] 5)).heap.size by simp]; exact heap_alloc_new _ _) 0 ⟨[], rfl⟩) (by rw [← HUN.out]; exact diskN_add j _ (by omega) (fun h => by subst h; rfl)))
          rintro e w6 ⟨rfl, hl6, hb6⟩
          dsimp only at hl6
          rw [← HUN.out, side_step] at hl6
          have HL6 := Lib.hid hl6
          have HB6 := Lib.hid (HB2.out.trans ((ha.mono HB2.out.size).trans hb6))
          clear hl6 hb6 ha hx0 hx1
          go_upto_if 89 with (fail)
          go_cut [17] (fun sy wd => EndRel w.heap.size db lb p at_ on j w sy wd)
          case first =>
            by_cases hat : j = at_
            · subst hat
              rcases HPP.out with hp | hp
              · have hpe : (p : Int) = 1 := by omega
                have dp : ((p : Int) == 1) = true := by rw [beq_iff_eq]; exact hpe
                have hl := HL6.out
                rw [hpe] at hl
                have HL7 := Lib.hid hl
                have HPE := Lib.hid hpe
                have HP := Lib.hid hp
                clear hl hpe hp
                go_wp2_with fail
                go_fit (ltick_B HL7.out HB6.out.size (by rw [diskN_pos _ (by omega)]; exact sync_one _ _))
                rintro e w8 ⟨rfl, hl8, hb8⟩
                rw [allU_len] at hl8
                have hb8' := HB6.out.trans hb8
                have hz := lsizeN hl8 (i := j + 1) (sy := 48 * (j + 1)) (diskN_pos _ (by omega)).symm
                have hfin : EndRel w.heap.size db lb p j on j w (.int .i64 ((48 * (j + 1) : Nat) : Int)) w8 := by
                  have e : syncN p j (j + 1) = 48 * (j + 1) := if_pos ⟨by omega, HP.out⟩
                  refine ⟨0, ?_, by rw [e], hb8'⟩
                  rw [e, diskN_pos _ (by omega), HPE.out]
                  exact hl8
                obtain ⟨z, hz2⟩ : ∃ z : Nat, z = 48 * (j + 1) := ⟨_, rfl⟩
                rw [← hz2] at hfin hz
                have HFIN := Lib.hid hfin
                have HZ := Lib.hid hz
                clear hfin hz hz2 hl8 hb8 hb8'
                go_wp2_with fail
                refine HZ.out.mono ?_
                rintro e w9 ⟨rfl, rfl⟩
                go_wp2_with fail
                go_meet
                exact HFIN.out
              · have hpe : (p : Int) = 2 := by omega
                have dp : ((p : Int) == 1) = false := by rw [beq_eq_false_iff_ne]; omega
                have hl := HL6.out
                rw [hpe] at hl
                have HL7 := Lib.hid hl
                have hfin : EndRel w.heap.size db lb p j on j w (.int .i64 (syncN p j j : Int)) w6 := by
                  have e : syncN p j (j + 1) = syncN p j j := by
                    unfold syncN; rw [if_neg (by omega), if_neg (by omega)]
                  refine ⟨1, ?_, by rw [e], HB6.out⟩
                  rw [e, hpe]
                  exact hl
                have HFIN := Lib.hid hfin
                clear hl hpe hp hfin
                go_wp2_with fail
                go_fit (ltick_neverB HL7.out)
                rintro e w8 ⟨rfl, rfl⟩
                go_wp2_with fail
                go_meet
                exact HFIN.out
            · have hne : ((j : Int) == (at_ : Int)) = false := by rw [beq_eq_false_iff_ne]; omega
              have hfin : EndRel w.heap.size db lb p at_ on j w (.int .i64 (syncN p at_ j : Int)) w6 := by
                have e : syncN p at_ j = syncN p at_ (j + 1) := by
                  unfold syncN
                  by_cases h : at_ < j ∧ p = 1
                  · rw [if_pos h, if_pos ⟨by omega, h.2⟩]
                  · rw [if_neg h, if_neg (by omega)]
                rw [e]
                exact ⟨1, by rw [← e]; exact HL6.out, rfl, HB6.out⟩
              have HFIN := Lib.hid hfin
              clear hfin
              go_wp2_with fail
              go_meet
              exact HFIN.out
          case rest =>
            obtain ⟨st, hl, rfl, hb⟩ := hcut
            have HL7 := Lib.hid hl
            have HB7 := Lib.hid hb
            have HZ := Lib.hid (lsyncedN hl (i := j + 1) (sy := syncN p at_ (j + 1)) rfl (by omega))
            clear hl hb
            go_wp2_with fail
            refine HZ.out.mono ?_
            rintro e w8 ⟨rfl, rfl⟩
            go_wp2_with fail
            refine ⟨⟨j + 1, by omega, by go_num, st, ?_, rfl, rfl, HB7.out⟩, by simp [intOf]; omega⟩
            rw [show ((j + 1 : Nat) : Int) = (j : Int) + 1 by omega]
            exact HL7.out
      · obtain rfl : j = k := by omega
        have hend : TickRel w.heap.size db lb p at_ on j w (.int .i64 (syncN p at_ j : Int)) (.int .i64 (sideV on j : Int)) wr := ⟨st, HL.out, rfl, rfl, HB.out⟩
        have HEND := Lib.hid hend
        clear hend
        go_wp2_with fail
        go_meet
        exact HEND.out
  case rest =>
    obtain ⟨st, hl, rfl, rfl, hb⟩ := hcut
    have HL := Lib.hid hl
    have HB := Lib.hid hb
    clear hl hb
    have hlr := lread_at HL.out (f := ⟨allU k, syncN p at_ k⟩) (diskN_pos _ (by omega))
    dsimp only at hlr
    obtain ⟨N, hN⟩ : ∃ N : Nat, N = (allU k).length := ⟨_, rfl⟩
    obtain ⟨M, hM⟩ : ∃ M : Nat, M = 48 * on := ⟨_, rfl⟩
    have hMN : M ≤ N := by rw [hM, hN, allU_len]; omega
    have hNb : N ≤ 960 := by rw [hN, allU_len]; omega
    have hsv : sideV on k = M := by rw [hM]; exact if_pos (by omega)
    have hsn : (allU k).drop M = sideN on k := by rw [hM]; exact (if_pos (by omega)).symm
    rw [← hN] at hlr
    rw [hsv]
    have HLR := Lib.hid hlr
    have HSN := Lib.hid hsn
    have HN := Lib.hid hN
    clear hlr hN hM hsv hsn
    go_wp2_with fail
    refine HLR.out.mono ?_
    rintro e w9 ⟨p7, c7, rfl, hr7, hc7, hm7, hb7⟩
    have hl9 := HL.out.below hb7
    have hb9 := HB.out.trans (hb7.mono HB.out.size)
    have hs1 : ∀ u, (Instr.slice 31 (.slice p7 N c7) (some (.int .i64 (M : Int))) none none).run Try.prog u = .ok (.slice (shift p7 M c7 1) (N - M) (c7 - M)) u := fun u => run_slice_from slB u p7 N c7 M hMN
    have hk : ∀ u, Below w9.heap.size w9 u → (convert 31 9 (.slice (shift p7 M c7 1) (N - M) (c7 - M))).run Try.prog u = .ok (.string (str (sideN on k))) u := by
      intro u hu
      have hr := (Rd.shift (hr7.below hu) (l := M) (n := N) (cap := c7) (sz := 1) (by rw [by8_len, HN.out, Nat.mul_one]) hc7)
      rw [Nat.mul_one, ← by8_drop, HSN.out] at hr
      have h := run_b2s slB isB isS (cap := c7 - M) hr
      rw [show (sideN on k).length = N - M by rw [← HSN.out, List.length_drop, HN.out]] at h
      exact h
    have HK := Lib.hid hk
    have HL9 := Lib.hid hl9
    have HB9 := Lib.hid hb9
    have HSL := Lib.hid (sideN_len on k hk20)
    clear hk hl9 hb9 hb7 hr7 hm7
    go_upto_region 24 with (fail)
    refine wp_region_noPanic ?_
    refine wp_region_held_drew (S := fun u => (convert 31 9 (.slice (shift p7 M c7 1) (N - M) (c7 - M))).run Try.prog u = .ok (.string (str (sideN on k))) u) (by kernel_rfl) (HK.out _ (Below.refl _ _).drew) (fun hHeld => ?_)
    refine wpAnyH_ready (rs := [0]) (by kernel_rfl) (by simp) (AllReadyH.cons rfl (fun K hK => ?_) AllReadyH.nil); go_simp; (go_at_call 18; refine (told34_any _).mono ?_; rintro e w10 ⟨rfl, hb10⟩; have hk10 : Below w9.heap.size w9 w10 := Below.trans ((Below.refl w9.heap.size w9).drew) hb10; clear hb10; go_wp2_with fail); refine hK.out _ _ ?_ (fun hHeld => ?_); (focus (exact HK.out _ hk10)); clear hK K; try simp only [Act.put, List.getElem_toArray, List.getElem_cons_succ, List.getElem_cons_zero, List.setIfInBounds_toArray, List.set_cons_zero, List.set_cons_succ]
    refine wpAnyH_take (i := 1) (v := ?_) rfl (by kernel_rfl) (by kernel_rfl) (by kernel_rfl) (fun _ _ _ h => h) (Or.inl ⟨by rfl, ?_⟩) (by assumption) ?_; rotate_left; (focus ((intro w hSw); (try dsimp only at hSw); go_simp; (try (with_reducible rfl)))); try simp only [Act.put, List.getElem_toArray, List.getElem_cons_succ, List.getElem_cons_zero, List.setIfInBounds_toArray, List.set_cons_zero, List.set_cons_succ]
    refine wpAnyH_take (i := 2) (v := ?_) rfl (by kernel_rfl) (by kernel_rfl) (by kernel_rfl) (fun _ _ _ h => h) (Or.inl ⟨by rfl, ?_⟩) (by assumption) ?_; rotate_left; (focus ((intro w hSw); (try dsimp only at hSw); go_simp; (try (with_reducible rfl)))); try simp only [Act.put, List.getElem_toArray, List.getElem_cons_succ, List.getElem_cons_zero, List.setIfInBounds_toArray, List.set_cons_zero, List.set_cons_succ]
    refine wpAnyH_take (i := 4) (v := ?_) rfl (by kernel_rfl) (by kernel_rfl) (by kernel_rfl) (fun _ _ _ h => h) (Or.inl ⟨by rfl, ?_⟩) (by assumption) ?_; rotate_left; (focus ((intro w hSw); (try dsimp only at hSw); go_simp; (try (with_reducible rfl)))); try simp only [Act.put, List.getElem_toArray, List.getElem_cons_succ, List.getElem_cons_zero, List.setIfInBounds_toArray, List.set_cons_zero, List.set_cons_succ]
    refine wpAnyH_ready (rs := [3]) (by kernel_rfl) (by simp) (AllReadyH.cons rfl (fun K hK => ?_) AllReadyH.nil); go_simp; (go_at_call 19; refine (lunits_B (HL9.out.below hk10)).mono ?_; rintro e w11 ⟨rfl, rfl⟩; go_wp2_with fail); refine hK.out _ _ ?_ (fun hHeld => ?_); (focus (assumption)); clear hK K; try simp only [Act.put, List.getElem_toArray, List.getElem_cons_succ, List.getElem_cons_zero, List.setIfInBounds_toArray, List.set_cons_zero, List.set_cons_succ]
    refine wpAnyH_take (i := 5) (v := ?_) rfl (by kernel_rfl) (by kernel_rfl) (by kernel_rfl) (fun _ _ _ h => h) (Or.inl ⟨by rfl, ?_⟩) (by assumption) ?_; rotate_left; (focus ((intro w hSw); (try dsimp only at hSw); go_simp; (try (with_reducible rfl)))); try simp only [Act.put, List.getElem_toArray, List.getElem_cons_succ, List.getElem_cons_zero, List.setIfInBounds_toArray, List.set_cons_zero, List.set_cons_succ]
    refine wpAnyH_take (i := 6) (v := ?_) rfl (by kernel_rfl) (by kernel_rfl) (by kernel_rfl) (fun _ _ _ h => h) (Or.inl ⟨by rfl, ?_⟩) (by assumption) ?_; rotate_left; (focus ((intro w hSw); (try dsimp only at hSw); go_simp; (try (with_reducible rfl)))); try simp only [Act.put, List.getElem_toArray, List.getElem_cons_succ, List.getElem_cons_zero, List.setIfInBounds_toArray, List.set_cons_zero, List.set_cons_succ]
    refine wpAnyH_take (i := 7) (v := ?_) rfl (by kernel_rfl) (by kernel_rfl) (by kernel_rfl) (fun _ _ _ h => h) (Or.inl ⟨by rfl, ?_⟩) (by assumption) ?_; rotate_left; (focus ((intro w hSw); (try dsimp only at hSw); go_simp; (try (with_reducible rfl)))); try simp only [Act.put, List.getElem_toArray, List.getElem_cons_succ, List.getElem_cons_zero, List.setIfInBounds_toArray, List.set_cons_zero, List.set_cons_succ]
    refine wpAnyH_take (i := 8) (v := ?_) rfl (by kernel_rfl) (by kernel_rfl) (by kernel_rfl) (fun _ _ _ h => h) (Or.inl ⟨by rfl, ?_⟩) (by assumption) ?_; rotate_left; (focus ((intro w hSw); (try dsimp only at hSw); go_simp; (try (with_reducible rfl)))); try simp only [Act.put, List.getElem_toArray, List.getElem_cons_succ, List.getElem_cons_zero, List.setIfInBounds_toArray, List.set_cons_zero, List.set_cons_succ]
    refine wpAnyH_take (i := 11) (v := ?_) rfl (by kernel_rfl) (by kernel_rfl) (by kernel_rfl) (fun _ _ _ h => h) (Or.inl ⟨by rfl, ?_⟩) (by assumption) ?_; rotate_left; (focus ((intro w hSw); (try dsimp only at hSw); go_simp; (try (with_reducible rfl)))); try simp only [Act.put, List.getElem_toArray, List.getElem_cons_succ, List.getElem_cons_zero, List.setIfInBounds_toArray, List.set_cons_zero, List.set_cons_succ]
    refine wpAnyH_take (i := 12) (v := ?_) rfl (by kernel_rfl) (by kernel_rfl) (by kernel_rfl) (fun _ _ _ h => h) (Or.inl ⟨by rfl, ?_⟩) (by assumption) ?_; rotate_left; (focus ((intro w hSw); (try dsimp only at hSw); go_simp; (try (with_reducible rfl)))); try simp only [Act.put, List.getElem_toArray, List.getElem_cons_succ, List.getElem_cons_zero, List.setIfInBounds_toArray, List.set_cons_zero, List.set_cons_succ]
    refine wpAnyH_take (i := 13) (v := ?_) rfl (by kernel_rfl) (by kernel_rfl) (by kernel_rfl) (fun _ _ _ h => h) (Or.inl ⟨by rfl, ?_⟩) (by assumption) ?_; rotate_left; (focus ((intro w hSw); (try dsimp only at hSw); go_simp; (try (with_reducible rfl)))); try simp only [Act.put, List.getElem_toArray, List.getElem_cons_succ, List.getElem_cons_zero, List.setIfInBounds_toArray, List.set_cons_zero, List.set_cons_succ]
    refine wpAnyH_take (i := 14) (v := ?_) rfl (by kernel_rfl) (by kernel_rfl) (by kernel_rfl) (fun _ _ _ h => h) (Or.inl ⟨by rfl, ?_⟩) (by assumption) ?_; rotate_left; (focus ((intro w hSw); (try dsimp only at hSw); go_simp; (try (with_reducible rfl)))); try simp only [Act.put, List.getElem_toArray, List.getElem_cons_succ, List.getElem_cons_zero, List.setIfInBounds_toArray, List.set_cons_zero, List.set_cons_succ]
    refine wpAnyH_ready (rs := [9]) (by kernel_rfl) (by simp) (AllReadyH.cons rfl (fun K hK => ?_) AllReadyH.nil); go_simp; (go_at_call 20; refine (lgathered_B (HL9.out.below hk10) (Nat.le_trans HSL.out (by omega))).mono ?_; rintro e w12 ⟨p12, c12, rfl, hr12, hb12⟩; have HB12 := Lib.hid (hk10.trans (hb12.mono hk10.size)); have HCV := Lib.hid (run_b2s slB isB isS (cap := c12) hr12); clear hr12 hb12; go_wp2_with fail); refine hK.out _ _ ?_ (fun hHeld => ?_); (focus (exact HK.out _ HB12.out)); clear hK K; try simp only [Act.put, List.getElem_toArray, List.getElem_cons_succ, List.getElem_cons_zero, List.setIfInBounds_toArray, List.set_cons_zero, List.set_cons_succ]
    refine wpAnyH_weak (S' := fun u => ((convert 31 9 (.slice (shift p7 M c7 1) (N - M) (c7 - M))).run Try.prog u = .ok (.string (str (sideN on k))) u) ∧ (convert 31 9 (.slice p12 (sideN on k).length c12)).run Try.prog u = .ok (.string (str (sideN on k))) u) (fun _ h => h.1) _ _ _ _ ?_
    have hS2 : (fun u => ((convert 31 9 (.slice (shift p7 M c7 1) (N - M) (c7 - M))).run Try.prog u = .ok (.string (str (sideN on k))) u) ∧ (convert 31 9 (.slice p12 (sideN on k).length c12)).run Try.prog u = .ok (.string (str (sideN on k))) u) w12 := ⟨hHeld, HCV.out⟩
    clear hHeld
    refine wpAnyH_take (i := 10) (v := ?_) rfl (by kernel_rfl) (by kernel_rfl) (by kernel_rfl) (fun _ _ _ h => h) (Or.inl ⟨by rfl, ?_⟩) (by assumption) ?_; rotate_left; (focus ((intro w hSw); (try dsimp only at hSw); go_simp; (try (with_reducible rfl)))); try simp only [Act.put, List.getElem_toArray, List.getElem_cons_succ, List.getElem_cons_zero, List.setIfInBounds_toArray, List.set_cons_zero, List.set_cons_succ]
    refine wpAnyH_take (i := 15) (v := ?_) rfl (by kernel_rfl) (by kernel_rfl) (by kernel_rfl) (fun _ _ _ h => h) (Or.inl ⟨by rfl, ?_⟩) (by assumption) ?_; rotate_left; (focus ((intro w hSw); (try dsimp only at hSw); go_simp; (try (with_reducible rfl)))); try simp only [Act.put, List.getElem_toArray, List.getElem_cons_succ, List.getElem_cons_zero, List.setIfInBounds_toArray, List.set_cons_zero, List.set_cons_succ]
    refine wpAnyH_take (i := 16) (v := ?_) rfl (by kernel_rfl) (by kernel_rfl) (by kernel_rfl) (fun _ _ _ h => h) (Or.inl ⟨by rfl, ?_⟩) (by assumption) ?_; rotate_left; (focus ((intro w hSw); (try dsimp only at hSw); go_simp; (try (with_reducible rfl)))); try simp only [Act.put, List.getElem_toArray, List.getElem_cons_succ, List.getElem_cons_zero, List.setIfInBounds_toArray, List.set_cons_zero, List.set_cons_succ]
    refine wpAnyH_take (i := 17) (v := ?_) rfl (by kernel_rfl) (by kernel_rfl) (by kernel_rfl) (fun _ _ _ h => h) (Or.inl ⟨by rfl, ?_⟩) (by assumption) ?_; rotate_left; (focus ((intro w hSw); (try dsimp only at hSw); go_simp; (try (with_reducible rfl)))); try simp only [Act.put, List.getElem_toArray, List.getElem_cons_succ, List.getElem_cons_zero, List.setIfInBounds_toArray, List.set_cons_zero, List.set_cons_succ]
    refine wpAnyH_done (by kernel_rfl) ?_ _
    refine NoPanic.normal ?_
    go_wp2_with fail
    go_ret
    exact ⟨rfl, HB9.out.trans (HB12.out.mono HB9.out.size)⟩
end Go.Proofs.Ytblmnaejkdkndaa
