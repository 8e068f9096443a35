/- The walk over DiskGarbles. -/
import Derived.Test.YtadnabgnbhpijaaDiskTold
set_option linter.unusedSimpArgs false
set_option linter.unusedVariables false
namespace Go.Proofs.Ytadnabgnbhpijaa
open Go.RowKit Go.Maps

theorem gar_1 (b : List UInt8) (k : Nat) (h : (b.take k).length ≤ 1048576) : appendD [102] (b.take k) [] 1048576 false = ([([102], ⟨b.take k, 0⟩)], 0) := by
  have e : usedD ([] : Files0) + (b.take k).length ≤ 1048576 := by simpa [usedD] using h
  unfold appendD
  rw [if_neg (by simp), if_pos (by rfl), if_pos e]; rfl
theorem gar_2 (l : List UInt8) : syncD [102] [([102], ⟨l, 0⟩)] false = ([([102], ⟨l, l.length⟩)], 0) := by
  simp [syncD, kGet, kSet]
theorem gar_3 (l m : List UInt8) (n : Nat) (h : l.length + m.length ≤ 1048576) : appendD [102] m [([102], ⟨l, n⟩)] 1048576 false = ([([102], ⟨l ++ m, n⟩)], 0) := by
  have e : usedD ([([102], ⟨l, n⟩)] : Files0) + m.length ≤ 1048576 := by simpa [usedD] using h
  unfold appendD
  rw [if_neg (by simp), if_pos (by rfl), if_pos e]
  simp [kGet, kSet]
theorem gar_4 (f : FileV) (h : f.sync ≤ f.b.length) (hl : f.b.length ≤ 2000) : kMap (crashF 1048576 true) ([([102], f)] : Files0) = [([102], ⟨garb (max f.sync ((f.b.length - 1) / 512 * 512)) f.b.length f.b, f.b.length⟩)] := by
  have e : keepN 1048576 f = f.b.length := by unfold keepN; omega
  have h1 := crashF_on 1048576 f (by omega)
  rw [e] at h1
  rw [kMap_one, h1]
  unfold fromN
  rw [e, List.take_length]
theorem gar_5 (f : FileV) : readD [102] [([102], f)] false = (f.b, 0) := by
  simp [readD, kGet]

set_option maxHeartbeats 1000000 in
set_option maxRecDepth 20000 in
theorem diskGarbles_walk (p : Option Addr) (c : Nat) (b : List UInt8) (at_ : Int) (w : World) (g : Rd8 w p b) (hm : b.length ≤ c) (hc : c ≤ maxLen) :
    Calls Try.prog 3 #[.slice p b.length c, .int .i64 at_] w fun e w' => e = .returned (.bool true) ∧ Below w.heap.size w w' := by
  unfold maxLen at hc
  have HA := Lib.hid g
  clear g
  by_cases h0 : b.length = 0
  · have d0 : ((b.length : Int) == 0) = true := by rw [beq_iff_eq]; omega
    clear h0
    go_enter Try.func3, Try.ntmps3
    go_wp2_with fail
    go_fit (told3_any w)
    rintro e w1 ⟨rfl, hb1⟩
    go_wp2_with fail
    go_ret
    exact ⟨rfl, hb1⟩
  · have d0 : ((b.length : Int) == 0) = false := by rw [beq_eq_false_iff_ne]; omega
    by_cases h1 : b.length ≤ 2000
    · have d1 : decide ((2000 : Int) < (b.length : Int)) = false := by simp; omega
      obtain ⟨u, k, hu, hk, hk1, hk2⟩ := uint_mod at_ ((b.length : Int) + 1) (b.length + 1) (by omega) (by omega)
      have hadd : IntKind.i64.wrap ((b.length : Int) + 1) = (b.length : Int) + 1 := IntWalk.i64_in _ (by omega)
      have hu2 : IntKind.u64.wrap ((b.length : Int) + 1) = (b.length : Int) + 1 := by rw [IntKind.wrap_u64]; omega
      have hlk : (b.take k).length = k := by rw [List.length_take]; omega
      have hld : (b.drop k).length = b.length - k := by simp
      have hs1 := run_slice_to slB w p b.length c k (by omega)
      have HK := Lib.hid (And.intro hlk hld)
      have hkl : k ≤ b.length := by omega
      have hpos : (0 : Int) ≤ (b.length : Int) - 1 := by omega
      clear hk hlk hld h0
      go_enter Try.func3, Try.ntmps3
      go_wp2_with fail
      go_fit (new_nat 1048576 w (by omega))
      rintro e w1 ⟨db, rfl, hd1, hb1⟩
      have HD1 := Lib.hid hd1
      have HB1 := Lib.hid hb1
      clear hd1 hb1
      go_wp2_with fail
      go_fit (append_B HD1.out HB1.out.size (by simp) [102] (b.take k) (by decide) ((HA.out.below HB1.out).take k) HK.out.1.symm (by rw [HK.out.1]; omega) (gar_1 b k (by rw [HK.out.1]; omega)))
      rintro e w2 ⟨rfl, hd2, hb2⟩
      have HD2 := Lib.hid hd2
      have HB2 := Lib.hid (HB1.out.trans hb2)
      clear hd2 hb2
      go_wp2_with fail
      go_fit (sync_B HD2.out HB2.out.size [102] (by decide) (gar_2 _))
      rintro e w3 ⟨rfl, hd3, hb3⟩
      have HD3 := Lib.hid hd3
      have HB3 := Lib.hid (HB2.out.trans hb3)
      clear hd3 hb3 hs1
      have hs2 := run_slice_from slB w3 p b.length c k (by omega)
      have hrd := (HA.out.below HB3.out).shift (l := k) (n := b.length) (cap := c) (sz := 1) (by rw [by8_mul]) hm
      rw [Nat.mul_one, ← by8_drop] at hrd
      have HRD := Lib.hid hrd
      clear hrd
      go_wp2_with fail
      go_fit (append_B HD3.out HB3.out.size (by simp) [102] (b.drop k) (by decide) HRD.out HK.out.2.symm (by rw [HK.out.2]; omega) (gar_3 _ _ _ (by rw [HK.out.1, HK.out.2]; omega)))
      rw [List.take_append_drop, HK.out.1]
      rintro e w4 ⟨rfl, hd4, hb4⟩
      have HD4 := Lib.hid hd4
      have HB4 := Lib.hid (HB3.out.trans hb4)
      clear hd4 hb4 hs2
      go_wp2_with fail
      go_fit (crash_B HD4.out HB4.out.size 1048576 true (by omega) (gar_4 _ hkl h1))
      rintro e w5 ⟨rfl, hd5, hb5⟩
      have HD5 := Lib.hid hd5
      have HB5 := Lib.hid (HB4.out.trans hb5)
      clear hd5 hb5
      go_wp2_with fail
      go_fit (start_B HD5.out HB5.out.size)
      rintro e w6 ⟨rfl, hd6, hb6⟩
      have HD6 := Lib.hid hd6
      have HB6 := Lib.hid (HB5.out.trans hb6)
      clear hd6 hb6
      rw [if_pos rfl]
      go_wp2_with fail
      go_fit (read_B HD6.out HB6.out.size [102] (by decide) (gar_5 _))
      rintro e w7 ⟨q, cq, rfl, hr7, _, hb7⟩
      have HR7 := Lib.hid hr7
      have HB7 := Lib.hid (HB6.out.trans (hb7.mono HB6.out.size))
      simp only [garb_len]
      clear hr7 hb7
      have HA7 := Lib.hid (HA.out.below HB7.out)
      go_wp2_with fail
      go_loop [11] (fun i => ∃ j : Nat, j ≤ b.length ∧ i = .int .i64 j) (fun i => b.length - (intOf i).toNat)
      case atStart => exact ⟨0, Nat.zero_le _, rfl⟩
      case round =>
        obtain ⟨j, hj, rfl⟩ := hrel
        by_cases hlt : j < b.length
        · obtain ⟨b1, o1, rfl, hc1⟩ := Rd8.at HA7.out hlt
          have c1 := hc1 j hlt
          obtain ⟨b2, o2, rfl, hc2⟩ := Rd8.at HR7.out (k := j) (by rw [garb_len]; exact hlt)
          have c2 := hc2 j (by rw [garb_len]; exact hlt)
          have hget : (garb (max k ((b.length - 1) / 512 * 512)) b.length b)[j]'(by rw [garb_len]; exact hlt) = if max k ((b.length - 1) / 512 * 512) ≤ j then b[j] ^^^ 0xA5 else b[j] := by
            simp [garb, hlt]
          rw [hget] at c2
          have hx := b8_xor_a5 b[j]
          clear hc1 hc2 hget
          generalize b[j] = x at *
          by_cases hk2 : k ≤ j
          · have t1 : decide (k ≤ j) = true := by simp; omega
            have t1' : decide ((k : Int) ≤ (j : Int)) = true := by simp; omega
            by_cases hf : (b.length - 1) / 512 * 512 ≤ j
            · have t2 : decide (((b.length : Int) - 1) / 512 * 512 ≤ (j : Int)) = true := by simp; omega
              rw [if_pos (by omega)] at c2
              clear hk2 hf
              go_wp2_with fail
              go_round
              case rel => exact ⟨j + 1, by omega, by go_num⟩
              case measure => simp [intOf]; omega
            · have t2 : decide (((b.length : Int) - 1) / 512 * 512 ≤ (j : Int)) = false := by simp; omega
              rw [if_neg (by omega)] at c2
              clear hk2 hf hx
              go_wp2_with fail
              go_round
              case rel => exact ⟨j + 1, by omega, by go_num⟩
              case measure => simp [intOf]; omega
          · have t1 : decide (k ≤ j) = false := by simp; omega
            have t1' : decide ((k : Int) ≤ (j : Int)) = false := by simp; omega
            rw [if_neg (by omega)] at c2
            clear hk2 hx
            go_wp2_with fail
            go_round
            case rel => exact ⟨j + 1, by omega, by go_num⟩
            case measure => simp [intOf]; omega
        · obtain rfl : j = b.length := by omega
          go_wp2_with fail
          go_fit (told3_any w7)
          rintro e w8 ⟨rfl, hb8⟩
          go_wp2_with fail
          go_ret
          exact ⟨rfl, HB7.out.trans (hb8.mono HB7.out.size)⟩
    · have d1 : decide ((2000 : Int) < (b.length : Int)) = true := by simp; omega
      clear h0 h1
      go_enter Try.func3, Try.ntmps3
      go_wp2_with fail
      go_fit (told3_any w)
      rintro e w1 ⟨rfl, hb1⟩
      go_wp2_with fail
      go_ret
      exact ⟨rfl, hb1⟩
end Go.Proofs.Ytadnabgnbhpijaa
