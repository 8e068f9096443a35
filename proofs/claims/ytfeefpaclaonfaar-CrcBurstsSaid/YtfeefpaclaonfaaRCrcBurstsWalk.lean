/- The walk of the law CrcBursts. -/
import Derived.Test.YtfeefpaclaonfaaRCrcLaws
set_option linter.unusedSimpArgs false
set_option linter.unusedVariables false
namespace Go.Proofs.YtfeefpaclaonfaaR
open Go.RowKit Crc

theorem first_of (a : Int) (n : Nat) (h0 : 0 < n) (hn : n ≤ 4000) : ∃ f : Nat, f < n ∧ (wrap64 (a.tmod (n : Int) + (n : Int))).tmod (n : Int) = (f : Int) := by
  have h1 := Int.tmod_lt_of_pos a (b := (n : Int)) (by omega)
  have h2 := Int.lt_tmod_of_pos a (b := (n : Int)) (by omega)
  rw [IntWalk.wrap64_in _ (by omega), Int.tmod_eq_emod_of_nonneg (by omega)]
  refine ⟨((a.tmod n + n) % n).toNat, ?_, ?_⟩
  · have := Int.emod_lt_of_pos (a.tmod n + n) (b := (n : Int)) (by omega)
    have := Int.emod_nonneg (a.tmod n + n) (b := (n : Int)) (by omega)
    omega
  · have := Int.emod_nonneg (a.tmod n + n) (b := (n : Int)) (by omega)
    omega

theorem bit_test (p : BitVec 32) (m : Nat) : (bits .and .u32 ((p.toNat : Int) / (2 : Int) ^ m) 1 == 1) = p.getLsbD m := by
  have e : ((p.toNat : Int) / (2 : Int) ^ m) = ((p >>> m).toNat : Int) := by
    rw [BitVec.toNat_ushiftRight, Nat.shiftRight_eq_div_pow]; simp
  rw [e, b32_and_one, Bool.eq_iff_iff, bv_one, and_one, BitVec.getLsbD_ushiftRight, Nat.add_zero]

theorem two_pow_u8 (j : Nat) : (2 : Int) ^ j % 256 = ((UInt8.ofNat (2 ^ j)).toNat : Int) := by
  simp
theorem neq_any (l : List UInt8) (f : Nat) (p : BitVec 32) (m : Nat) (hm : m ≤ 32) (hf : f + m ≤ 8 * l.length) :
    (((upd 0#32 l).toNat : Int) == ((upd 0#32 (burst l f p m)).toNat : Int)) = !(any p m) := by
  rw [Bool.eq_iff_iff, bv_eq_int, upd_burst l f p m hm hf]
  cases any p m <;> simp

set_option maxRecDepth 20000 in
set_option maxHeartbeats 400000 in
theorem crcBursts_walk (pb : Option Addr) (cb : Nat) (l : List UInt8) (at_ : Int) (p : BitVec 32) (w : World) (hb : Rd8 w pb l) (h64 : -9223372036854775808 ≤ at_ ∧ at_ ≤ 9223372036854775807) :
    Calls Try.prog 4 #[.slice pb l.length cb, .int .i64 at_, .int .u32 (p.toNat : Int)] w fun e w' => e = .returned (.bool true) ∧ Below w.heap.size w w' := by
  have HB := Lib.hid hb
  clear hb
  by_cases h0 : l.length = 0
  · have d0 : ((l.length : Int) == 0) = true := by simp [h0]
    go_enter Try.func4, Try.ntmps4
    go_wp2_with (go_at_call 14; go_fit (told2_any _); rintro e w1 ⟨rfl, hb1⟩)
    go_ret
    exact ⟨rfl, hb1⟩
  by_cases h1 : 300 < l.length
  · have d0 : ((l.length : Int) == 0) = false := beq_eq_false_iff_ne.2 (by omega)
    have d1 : decide ((300 : Int) < (l.length : Int)) = true := by simp; omega
    go_enter Try.func4, Try.ntmps4
    go_wp2_with (go_at_call 14; go_fit (told2_any _); rintro e w1 ⟨rfl, hb1⟩)
    go_ret
    exact ⟨rfl, hb1⟩
  have d0 : ((l.length : Int) == 0) = false := beq_eq_false_iff_ne.2 (by omega)
  have d1 : decide ((300 : Int) < (l.length : Int)) = false := by simp; omega
  have h2 : l.length ≤ 300 := by omega
  have h3 : 1 ≤ l.length := by omega
  clear h0 h1
  go_enter Try.func4, Try.ntmps4
  go_wp2_with ((with_reducible refine L_appR slB Try.underlying23 (OwnS.fresh (base := w.heap.size) (Nat.le_refl _)) (HB.out.alloc _) (by8_one _) (by8_mul _) ?_ ?_ ?_ ?_ ?_); (focus rfl); (focus rfl); (focus exact ⟨_, rfl⟩); (focus exact ⟨room1 (by omega), by omega, by simp⟩); intro v1 w1 ho1 hg1 hk1 hn1; clear hn1; have hb1 := Below.grown (grewA (Below.refl _ w) _) hg1 (by simp) hk1; clear hg1 hk1; simp only [Nat.zero_add, List.nil_append] at ho1; obtain ⟨g, cap, rfl, hgb, hcap⟩ := ho1.head (by omega); simp only [Act.put, List.setIfInBounds_toArray, List.set_cons_zero, List.set_cons_succ])
  obtain ⟨f, hf, hfe⟩ := first_of at_ (8 * l.length) (by omega) (by omega)
  have ee : ((8 * l.length : Nat) : Int) = 8 * (l.length : Int) := by omega
  rw [ee] at hfe
  rw [hfe]
  clear hfe ee
  go_loopw [10, 11] (fun t i wr => ∃ m : Nat, m ≤ 32 ∧ f + m ≤ 8 * l.length ∧ i = .int .i64 m ∧ t = .bool (any p m) ∧ OwnS wr w.heap.size 5 1 (.slice (some ⟨g, 0, none⟩) l.length cap) l.length (by8 (burst l f p m)) ∧ Below w.heap.size w wr) (fun _ i _ => 32 - (intOf i).toNat)
  case atStart => exact ⟨0, by omega, by omega, rfl, rfl, ho1, hb1⟩
  case round =>
    obtain ⟨m, hm, hfm, rfl, rfl, ho, hbel⟩ := hrel
    by_cases hlt : m < 32
    · by_cases hlt2 : f + m < 8 * l.length
      · have dd : decide ((f : Int) + (m : Int) < 8 * (l.length : Int)) = true := by simp; omega
        have hbt := bit_test p m
        have hlen := burst_len l f p m
        have hix : (f + m) / 8 < (burst l f p m).length := by rw [hlen]; omega
        obtain ⟨hc, hz⟩ := ho.get (j := (f + m) / 8) (by rw [by8_len]; exact hix)
        have hcx : (by8 (burst l f p m))[(f + m) / 8]'(by rw [by8_len]; exact hix) = .int .u8 (((burst l f p m).getD ((f + m) / 8) 0).toNat : Int) := by
          simp [by8, List.getD, hix]
        rw [hcx] at hc
        have HB1 := Lib.hid (show burst l f p (m + 1) = if p.getLsbD m then turnBit (burst l f p m) (f + m) else burst l f p m from rfl)
        have HA1 := Lib.hid (show any p (m + 1) = (p.getLsbD m || any p m) from rfl)
        have HO := Lib.hid ho
        clear ho hcx hlen
        by_cases hp : p.getLsbD m = true
        · rw [hp] at hbt
          generalize hgen : (burst l f p m).getD ((f + m) / 8) 0 = x at hc
          have HG := Lib.hid hgen
          have HP := Lib.hid hp
          clear hgen hp
          go_wp2
          refine ⟨⟨m + 1, by omega, by omega, by go_num, ?_, ?_, hbel.setCell hgb _⟩, by simp [intOf]; omega⟩
          · rw [HA1.out, HP.out]; rfl
          · rw [HB1.out, HP.out, if_pos rfl, two_pow_u8, b8_xor, ← HG.out]
            have h := HO.out.set (j := (f + m) / 8) (by rw [by8_len]; exact hix) (.int .u8 (((burst l f p m).getD ((f + m) / 8) 0 ^^^ UInt8.ofNat (2 ^ ((f + m) % 8))).toNat : Int))
            rw [by8_set] at h
            exact h
        · have hp' : p.getLsbD m = false := by simpa using hp
          rw [hp'] at hbt
          have HP := Lib.hid hp'
          clear hp hp'
          go_wp2
          refine ⟨⟨m + 1, by omega, by omega, by go_num, ?_, ?_, hbel⟩, by simp [intOf]; omega⟩
          · rw [HA1.out, HP.out]; rfl
          · rw [HB1.out, HP.out]; exact HO.out
      · have dd : decide ((f : Int) + (m : Int) < 8 * (l.length : Int)) = false := by simp; omega
        have HR := Lib.hid (show Rd8 wr (some ⟨g, 0, none⟩) (burst l f p m) by obtain ⟨q, c', hq, hr, _⟩ := ho.shape; cases hq; exact hr)
        have HL := Lib.hid (burst_len l f p m).symm
        have HE := Lib.hid (neq_any l f p m hm hfm)
        clear ho
        go_wp2_with fail
        go_fit (told2_any _)
        rintro e w2 ⟨rfl, hd2⟩
        have hb2 := grew hbel hd2
        go_wp2_with fail
        go_fit (sum_n pb _ cb l _ (HB.out.below hb2) rfl (by omega))
        rintro e w3 ⟨rfl, hd3⟩
        have hb3 := grew hb2 hd3
        go_wp2_with fail
        go_fit (sum_n (some ⟨g, 0, none⟩) _ cap (burst l f p m) _ (HR.out.below (grew hd2 hd3)) HL.out (by omega))
        rintro e w4 ⟨rfl, hd4⟩
        have hb4 := grew hb3 hd4
        go_wp2_with fail
        go_ret
        refine ⟨?_, hb4⟩
        show Ending.returned (Value.bool (_ == _)) = _
        rw [bne, HE.out, Bool.not_not, beq_self_eq_true]
    · obtain rfl : m = 32 := by omega
      have HR := Lib.hid (show Rd8 wr (some ⟨g, 0, none⟩) (burst l f p 32) by obtain ⟨q, c', hq, hr, _⟩ := ho.shape; cases hq; exact hr)
      have HL := Lib.hid (burst_len l f p 32).symm
      have HE := Lib.hid (neq_any l f p 32 hm hfm)
      clear ho
      go_wp2_with fail
      go_fit (told2_any _)
      rintro e w2 ⟨rfl, hd2⟩
      have hb2 := grew hbel hd2
      go_wp2_with fail
      go_fit (sum_n pb _ cb l _ (HB.out.below hb2) rfl (by omega))
      rintro e w3 ⟨rfl, hd3⟩
      have hb3 := grew hb2 hd3
      go_wp2_with fail
      go_fit (sum_n (some ⟨g, 0, none⟩) _ cap (burst l f p 32) _ (HR.out.below (grew hd2 hd3)) HL.out (by omega))
      rintro e w4 ⟨rfl, hd4⟩
      have hb4 := grew hb3 hd4
      go_wp2_with fail
      go_ret
      refine ⟨?_, hb4⟩
      show Ending.returned (Value.bool (_ == _)) = _
      rw [bne, HE.out, Bool.not_not, beq_self_eq_true]
end Go.Proofs.YtfeefpaclaonfaaR
