/- The walk over TableGrows. -/
import Derived.Test.YtadnabgnbhpijaaTabNames2
set_option linter.unusedSimpArgs false
set_option linter.unusedVariables false
namespace Go.Proofs.Ytadnabgnbhpijaa
open Go.RowKit Go.Maps

def nameG (i : Nat) : List UInt8 := [UInt8.ofNat i, UInt8.ofNat (i / 256), 120]
set_option maxRecDepth 20000 in
theorem nameG_any (i : Nat) (w : World) (hi : i < 1000) : Calls Try.prog 43 #[.int .i64 (i : Int)] w fun e w' => e = .returned (.string (str (nameG i))) ∧ Below w.heap.size w w' := by
  obtain ⟨x0, h0⟩ : ∃ x, x = UInt8.ofNat i := ⟨_, rfl⟩
  obtain ⟨x1, h1⟩ : ∃ x, x = UInt8.ofNat (i / 256) := ⟨_, rfl⟩
  have e0 : (i : Int) % 256 = (x0.toNat : Int) := by rw [h0]; simp [UInt8.toNat_ofNat']
  have e1 : (i : Int) / 256 % 256 = (x1.toNat : Int) := by rw [h1]; simp [UInt8.toNat_ofNat']
  have e1' : (i : Int) / 256 = (x1.toNat : Int) := by omega
  have e2 : (x1.toNat : Int) % 256 = (x1.toNat : Int) := by omega
  clear e1
  have en : nameG i = [x0, x1, 120] := by rw [h0, h1]; rfl
  rw [en]
  have hr : Rd8 (w.alloc (.cells #[.int .u8 (x0.toNat : Int), .int .u8 (x1.toNat : Int), .int .u8 120] 5)) (some ⟨w.heap.size, 0, none⟩) [x0, x1, 120] := Rd.of_row (heap_alloc_new w _) 0 (by simp [by8])
  have HR := Lib.hid hr
  clear h0 h1 en hr
  go_enter Try.func43, Try.ntmps43
  go_wp2_with ((with_reducible refine L_b2s slB isB isS HR.out ?_ ?_ ?_); (focus rfl); (focus exact ⟨_, _, rfl, rfl⟩); simp only [Act.put, List.setIfInBounds_toArray, List.set_cons_zero, List.set_cons_succ])
  go_ret
  exact ⟨rfl, (Below.refl _ _).alloc (Nat.le_refl _) _⟩
theorem nameG_len (i : Nat) : (nameG i).length ≤ 1000 := by simp [nameG]
theorem nameG_inj {i j : Nat} (hi : i < 1000) (hj : j < 1000) (h : nameG i = nameG j) : i = j := by
  unfold nameG at h
  simp only [List.cons.injEq, and_true] at h
  have h1 := congrArg UInt8.toNat h.1
  have h2 := congrArg UInt8.toNat h.2
  simp [UInt8.toNat_ofNat'] at h1 h2
  omega
/-- the first k names -/
def mG (k : Nat) : Slot := (List.range k).map fun i => (nameG i, (i : Int))
theorem mG_len (k : Nat) : (mG k).length = k := by simp [mG]
theorem mG_succ (k : Nat) : mG (k + 1) = mG k ++ [(nameG k, (k : Int))] := by simp [mG, List.range_succ]
theorem lk_nil (name : List UInt8) : lk [] name = none := rfl
theorem lk_app (a b : Slot) (name : List UInt8) : lk (a ++ b) name = (lk a name).or (lk b name) := by
  unfold lk
  rw [List.find?_append]
  cases a.find? _ <;> simp
theorem lk_mG {i : Nat} (hi : i < 1000) : ∀ k, k ≤ 1000 → lk (mG k) (nameG i) = if i < k then some (i : Int) else none
  | 0, _ => rfl
  | k + 1, hk => by
    rw [mG_succ, lk_app, lk_mG hi k (by omega)]
    by_cases h : i < k
    · rw [if_pos h, if_pos (by omega)]; rfl
    · rw [if_neg h]
      by_cases e : i = k
      · subst e
        rw [if_pos (by omega)]
        simp [lk]
      · rw [if_neg (by omega)]
        have : nameG k ≠ nameG i := fun h => e (nameG_inj (by omega) (by omega) h).symm
        simp [lk, this]
theorem putM_mG {k : Nat} (hk : k < 1000) : putM (mG k) (nameG k) (k : Int) = mG (k + 1) := by
  unfold putM
  have h : lk (mG k) (nameG k) = none := by rw [lk_mG hk k (by omega)]; simp
  rw [if_pos h, mG_succ]
theorem delM_mG {k : Nat} (hk : k < 1000) : delM (mG (k + 1)) (nameG k) = mG k := by
  unfold delM
  rw [mG_succ, List.filter_append]
  have h1 : (mG k).filter (offF (nameG k)) = mG k := off_same fun p hp e => by
    obtain ⟨i, hi, rfl⟩ := List.mem_map.1 hp
    have hi := List.mem_range.1 hi
    have := nameG_inj (by omega) (by omega) e
    omega
  rw [h1]
  simp [offF]
def GrowsRel (B : Nat) (w : World) (tb : Nat) (k G : Nat) (wr : World) : Prop := ∃ t, TabA (B ≤ ·) wr tb t ∧ Ok t (mG k) G ∧ Below B w wr
/-- while it moves, the elder row has lost eight names for each call -/
def RestRel (B : Nat) (w : World) (tb : Nat) (k G j : Nat) (wr : World) : Prop := ∃ t, TabA (B ≤ ·) wr tb t ∧ Ok t (mG k) G ∧ Below B w wr ∧ (t.moving = true → cntO t + 8 * j ≤ 1000)
theorem RestRel.start {B : Nat} {w wr : World} {tb k G : Nat} {t : Tab} (hA : TabA (B ≤ ·) wr tb t) (hO : Ok t (mG k) G) (hb : Below B w wr) : RestRel B w tb k G 0 wr := by
  refine ⟨t, hA, hO, hb, fun _ => ?_⟩
  have h1 := hO.inv.perm.length_eq
  have h2 := hO.small
  rw [List.flatten_append, List.length_append] at h1
  unfold cntO
  omega
theorem RestRel.next {B : Nat} {w wr : World} {tb k G j : Nat} {t t' : Tab} (hO : Ok t' (mG k) G) (hA : TabA (B ≤ ·) wr tb t') (hb : Below B w wr) (hK : Kept { t with work := 0 } t') (hN : moveOne t' = none) (hc : cntO t + 8 * j ≤ 1000) : RestRel B w tb k G (j + 1) wr := by
  refine ⟨t', hA, hO, hb, fun e => ?_⟩
  obtain ⟨_, _, h3⟩ := hK.was e
  have h4 : cntO { t with work := 0 } = cntO t := rfl
  rw [h4] at h3
  rcases one_none hN with h5 | h5
  · rw [e] at h5; cases h5
  · simp only at h3
    omega
set_option maxHeartbeats 4000000 in
set_option maxRecDepth 20000 in
theorem tableGrows_walk (n0 n1 : Int) (w : World) : Calls Try.prog 11 #[.int .i64 n0, .int .i64 n1] w fun e w' => e = .returned (.bool true) ∧ Below w.heap.size w w' := by
  obtain ⟨r, hr, hr3⟩ : ∃ r : Nat, (IntKind.u64.wrap n0).tmod 300 = (r : Int) ∧ r < 300 := by
    have h0 : 0 ≤ IntKind.u64.wrap n0 := by rw [IntKind.wrap_u64]; omega
    refine ⟨((IntKind.u64.wrap n0).tmod 300).toNat, ?_, ?_⟩
    · rw [Int.tmod_eq_emod_of_nonneg h0]; omega
    · rw [Int.tmod_eq_emod_of_nonneg h0]; omega
  obtain ⟨K, hK⟩ : ∃ K, K = 1 + r := ⟨_, rfl⟩
  have hw1 : wrap64 (r : Int) = (r : Int) := by unfold wrap64; omega
  have hw2 : wrap64 (1 + (r : Int)) = (K : Int) := by unfold wrap64; omega
  go_enter Try.func11, Try.ntmps11
  go_wp2_with fail
  go_fit (new_A w)
  rintro e w1 ⟨tb, rfl, hd1, hb1⟩
  have HD1 := Lib.hid hd1
  have HB1 := Lib.hid hb1
  clear hd1 hb1
  go_wp2_with fail
  go_loopw [8] (fun i wr => ∃ k, k ≤ K ∧ i = .int .i64 (k : Int) ∧ GrowsRel w.heap.size w tb k k wr) (fun i _ => K - (intOf i).toNat)
  case atStart => exact ⟨0, Nat.zero_le _, rfl, _, HD1.out, ok0, HB1.out⟩
  case round =>
    obtain ⟨k, hk, rfl, hrel⟩ := hrel
    have HREL := Lib.hid hrel
    clear hrel
    by_cases hkl : k < K
    · obtain ⟨t, hA, hO, hb⟩ := HREL.out
      have HA := Lib.hid hA
      have HO := Lib.hid hO
      have HB := Lib.hid hb
      clear hA hO hb HREL
      have dl : decide ((k : Int) < 1 + (r : Int)) = true := by simp; omega
      have hlk : lk (mG k) (nameG k) = none := by rw [lk_mG (by omega) k (by omega)]; simp
      have HLK := Lib.hid hlk
      clear hlk
      go_wp2_with fail
      go_fit (nameG_any k _ (by omega))
      rintro e w2 ⟨rfl, hb2⟩
      have HB2 := Lib.hid hb2
      have hA2 := HA.out.below hb2
      have HA2 := Lib.hid hA2
      clear hb2 hA2
      go_wp2_with fail
      go_fit (put_ok HA2.out HO.out (Nat.le_trans HB.out.size HB2.out.size) (nameG k) (k : Int) (nameG_len k) (by rw [mG_len]; omega))
      rintro e w3 ⟨rfl, t3, hO3, hA3, hb3⟩
      have hO3' := hO3 (k + 1) (fun _ => by rw [mG_len]; omega) (.inl (by omega))
      rw [putM_mG (by omega)] at hO3'
      have HO3 := Lib.hid hO3'
      have HA3 := Lib.hid hA3
      have HB3 := Lib.hid hb3
      have hwk : t3.work ≤ 8 := hO3'.work
      have hsl : t3.old.length + t3.new.length ≤ 8 + 8 * (k + 1) := hO3'.slots
      clear hO3 hO3' hA3 hb3
      have d8 : decide ((8 : Int) < (t3.work : Int)) = false := by simp; omega
      obtain ⟨j, hj, hjk⟩ : ∃ j : Nat, ((k : Int) * 7).tmod ((k : Int) + 1) = (j : Int) ∧ j < k + 1 := by
        refine ⟨((k : Int) * 7 % ((k : Int) + 1)).toNat, ?_, ?_⟩
        · rw [Int.tmod_eq_emod_of_nonneg (by omega), Int.toNat_of_nonneg (Int.emod_nonneg _ (by omega))]
        · have := Int.emod_lt_of_pos ((k : Int) * 7) (show (0 : Int) < (k : Int) + 1 by omega)
          have h0 := Int.emod_nonneg ((k : Int) * 7) (show ((k : Int) + 1) ≠ 0 by omega)
          omega
      have ds : decide ((16 : Int) + 8 * ((k : Int) + 1) < ((t3.old.length + t3.new.length : Nat) : Int)) = false := by simp; omega
      have hlj : lk (mG (k + 1)) (nameG j) = some (j : Int) := by rw [lk_mG (by omega) (k + 1) (by omega), if_pos hjk]
      have HLJ := Lib.hid hlj
      clear hlj
      go_wp2_with (first
        | (go_at_call 39; refine (work_ok HA3.out).mono ?_; rintro e w4 ⟨rfl, rfl⟩)
        | (go_at_call 35; refine (slots_ok HA3.out HO3.out (by omega)).mono ?_; rintro e w5 ⟨rfl, hb5⟩))
      have HB5 := Lib.hid hb5
      clear hb5
      go_fit (nameG_any j _ (by omega))
      rintro e w6 ⟨rfl, hb6⟩
      have hA6 := (HA3.out.below HB5.out).below hb6
      have hB6 : Below w.heap.size w w6 := grew (grew ((grew HB.out HB2.out).trans HB3.out) HB5.out) hb6
      have hgt := get_ok hA6 HO3.out hB6.size (nameG j) (nameG_len j)
      rw [HLJ.out] at hgt
      have HGT := Lib.hid hgt
      have HB6 := Lib.hid hB6
      clear hgt hA6 hB6 hb6
      go_wp2_with fail
      go_fit HGT.out
      rintro e w7 ⟨rfl, t7, ⟨hO7, _, _⟩, hA7, hb7⟩
      have HO7 := Lib.hid hO7
      have HA7 := Lib.hid hA7
      have HB7 := Lib.hid hb7
      clear hO7 hA7 hb7
      simp only [ansO]
      go_wp2_with fail
      exact ⟨⟨k + 1, by omega, by go_num, t7, HA7.out, HO7.out, HB6.out.trans HB7.out⟩, by simp [intOf]; omega⟩
    · obtain rfl : k = K := by omega
      have kle : k ≤ 1 + r := by omega
      have kge : 1 + r ≤ k := by omega
      clear hK hw2
      have dl : decide ((k : Int) < 1 + (r : Int)) = false := by simp; omega
      obtain ⟨m, hm, hmk⟩ : ∃ m : Nat, (IntKind.u64.wrap n1).tmod (1 + (r : Int)) = (m : Int) ∧ m < r + 1 := by
        have h0 : 0 ≤ IntKind.u64.wrap n1 := by rw [IntKind.wrap_u64]; omega
        refine ⟨(IntKind.u64.wrap n1 % (1 + (r : Int))).toNat, ?_, ?_⟩
        · rw [Int.tmod_eq_emod_of_nonneg h0, Int.toNat_of_nonneg (Int.emod_nonneg _ (by omega))]
        · have := Int.emod_lt_of_pos (IntKind.u64.wrap n1) (show (0 : Int) < 1 + (r : Int) by omega)
          have h0 := Int.emod_nonneg (IntKind.u64.wrap n1) (show 1 + (r : Int) ≠ 0 by omega)
          omega
      have hwm : wrap64 (m : Int) = (m : Int) := by unfold wrap64; omega
      go_wp2_with fail
      go_loopw [13] (fun i wr => ∃ c, m ≤ c ∧ c ≤ r + 1 ∧ i = .int .i64 ((c : Int) - 1) ∧ GrowsRel w.heap.size w tb c (r + 1) wr) (fun i _ => (intOf i + 1).toNat)
      case atStart => exact ⟨r + 1, by omega, by omega, by go_num, by rw [show r + 1 = k by omega]; exact HREL.out⟩
      case round =>
        obtain ⟨c, hmc, hc, rfl, hrel⟩ := hrel
        have HREL2 := Lib.hid hrel
        clear hrel
        by_cases hcm : m < c
        · obtain ⟨d, rfl⟩ : ∃ d, c = d + 1 := ⟨c - 1, by omega⟩
          have ec : ((d + 1 : Nat) : Int) - 1 = (d : Int) := by omega
          have dge : decide ((m : Int) ≤ (d : Int)) = true := by simp; omega
          have hwd : wrap64 ((d : Int) - 1) = (d : Int) - 1 := by unfold wrap64; omega
          have hwd' : IntKind.i64.wrap ((d : Int) - 1) = (d : Int) - 1 := IntWalk.i64_in _ (by omega)
          rw [ec]
          obtain ⟨t, hA, hO, hb⟩ := HREL2.out
          have HA := Lib.hid hA
          have HO := Lib.hid hO
          have HB := Lib.hid hb
          clear hA hO hb HREL HREL2 ec
          go_wp2_with fail
          go_fit (nameG_any d _ (by omega))
          rintro e w2 ⟨rfl, hb2⟩
          have hA2 := HA.out.below hb2
          have hdl := del_ok hA2 HO.out (Nat.le_trans HB.out.size hb2.size) (nameG d) (nameG_len d)
          rw [lk_mG (by omega) (d + 1) (by omega), if_pos (by omega)] at hdl
          have HDL := Lib.hid hdl
          have HB2 := Lib.hid (grew HB.out hb2)
          clear hdl hA2 hb2
          go_wp2_with fail
          go_fit HDL.out
          rintro e w3 ⟨rfl, t3, hO3, hA3, hb3⟩
          rw [delM_mG (by omega)] at hO3
          have HO3 := Lib.hid hO3
          have HA3 := Lib.hid hA3
          have HB3 := Lib.hid (HB2.out.trans hb3)
          have d8 : decide ((8 : Int) < (t3.work : Int)) = false := by have := hO3.work; simp; omega
          clear hO3 hA3 hb3
          simp only [ansO]
          go_wp2_with (go_at_call 39; refine (work_ok HA3.out).mono ?_; rintro e w4 ⟨rfl, rfl⟩)
          exact ⟨⟨d, by omega, by omega, by go_num, t3, HA3.out, HO3.out, HB3.out⟩, by simp [intOf]⟩
        · obtain rfl : c = m := by omega
          have dge : decide ((c : Int) ≤ (c : Int) - 1) = false := by simp; omega
          obtain ⟨t, hA, hO, hb⟩ := HREL2.out
          have hrest := RestRel.start hA hO hb
          have HREST := Lib.hid hrest
          clear hA hO hb hrest HREL HREL2
          go_wp2_with fail
          go_loopw [16] (fun i wr => ∃ j : Nat, j ≤ 6000 ∧ i = .int .i64 (j : Int) ∧ RestRel w.heap.size w tb c (r + 1) j wr) (fun i _ => 6000 - (intOf i).toNat)
          case atStart => exact ⟨0, Nat.zero_le _, rfl, HREST.out⟩
          case round =>
            obtain ⟨j, hj, rfl, hrel⟩ := hrel
            obtain ⟨t, hA, hO, hb, hcn⟩ := hrel
            have HA := Lib.hid hA
            have HO := Lib.hid hO
            have HB := Lib.hid hb
            have hlen : (t.len : Int) = (c : Int) := by rw [hO.inv.len, mG_len]
            clear hA hO hb HREST
            cases hm' : t.moving
            · clear hcn
              by_cases hj6 : j < 6000
              · have dj : decide ((j : Int) < 6000) = true := by simp; omega
                go_wp2_with (go_at_call 42; refine (moving_ok HA.out).mono ?_; rintro e w4 ⟨rfl, rfl⟩)
                go_fit (told6_any _)
                rintro e w5 ⟨rfl, hb5⟩
                have HA5 := Lib.hid (HA.out.below hb5)
                have HB5 := Lib.hid (grew HB.out hb5)
                clear hb5
                go_wp2_with (first
                  | (go_at_call 42; refine (moving_ok HA5.out).mono ?_; rintro e w4 ⟨rfl, rfl⟩)
                  | (go_at_call 29; refine (tlen_any HA5.out).mono ?_; rintro e w4 ⟨rfl, rfl⟩)
                  | (go_at_call 30; refine (names_ok HA5.out HO.out).mono ?_; rintro e w6 ⟨p6, c6, rfl, hr6, hb6⟩; have HB6 := Lib.hid (grew HB5.out hb6); clear hb6 hr6; rw [mG_len]))
                go_ret
                exact ⟨rfl, HB6.out⟩
              · have dj : decide ((j : Int) < 6000) = false := by simp; omega
                go_wp2_with fail
                go_fit (told6_any _)
                rintro e w5 ⟨rfl, hb5⟩
                have HA5 := Lib.hid (HA.out.below hb5)
                have HB5 := Lib.hid (grew HB.out hb5)
                clear hb5
                go_wp2_with (first
                  | (go_at_call 42; refine (moving_ok HA5.out).mono ?_; rintro e w4 ⟨rfl, rfl⟩)
                  | (go_at_call 29; refine (tlen_any HA5.out).mono ?_; rintro e w4 ⟨rfl, rfl⟩)
                  | (go_at_call 30; refine (names_ok HA5.out HO.out).mono ?_; rintro e w6 ⟨p6, c6, rfl, hr6, hb6⟩; have HB6 := Lib.hid (grew HB5.out hb6); clear hb6 hr6; rw [mG_len]))
                go_ret
                exact ⟨rfl, HB6.out⟩
            · have hcn := hcn hm'
              have dj : decide ((j : Int) < 6000) = true := by simp; omega
              have hgt := get_ok HA.out HO.out HB.out.size [110, 111, 110, 101] (by decide)
              have HGT := Lib.hid hgt
              clear hgt
              go_wp2_with (first
                | (go_at_call 42; refine (moving_ok HA.out).mono ?_; rintro e w4 ⟨rfl, rfl⟩)
                | (go_at_call 32; refine HGT.out.mono ?_; rintro e w7 ⟨rfl, t7, ⟨hO7, hK7, hN7⟩, hA7, hb7⟩))
              exact ⟨⟨j + 1, by omega, by go_num, RestRel.next hO7 hA7 (HB.out.trans hb7) hK7 hN7 hcn⟩, by simp [intOf]; omega⟩
end Go.Proofs.Ytadnabgnbhpijaa
