/- The walk over TableMany. -/
import Derived.Test.YtadnabgnbhpijaaTabNames2
set_option linter.unusedSimpArgs false
set_option linter.unusedVariables false
namespace Go.Proofs.Ytadnabgnbhpijaa
open Go.RowKit Go.Maps
namespace Many
def nameN (i : Nat) : List UInt8 := [UInt8.ofNat (97 + i % 26), UInt8.ofNat (97 + i / 26 % 26)]
set_option maxRecDepth 20000 in
theorem name_any (i : Nat) (w : World) (hi : i < 1000) : Calls Try.prog 27 #[.int .i64 (i : Int)] w fun e w' => e = .returned (.string (str (nameN i))) ∧ Below w.heap.size w w' := by
  obtain ⟨x0, h0⟩ : ∃ x, x = UInt8.ofNat (97 + i % 26) := ⟨_, rfl⟩
  obtain ⟨x1, h1⟩ : ∃ x, x = UInt8.ofNat (97 + i / 26 % 26) := ⟨_, rfl⟩
  obtain ⟨a, ha, ha2⟩ : ∃ a : Nat, (i : Int).tmod 26 = (a : Int) ∧ a = i % 26 := ⟨i % 26, by rw [Int.tmod_eq_emod_of_nonneg (by omega)]; omega, rfl⟩
  obtain ⟨b, hb, hb2⟩ : ∃ b : Nat, (i : Int).tdiv 26 = (b : Int) ∧ b = i / 26 := ⟨i / 26, by rw [Int.tdiv_eq_ediv_of_nonneg (by omega)]; omega, rfl⟩
  obtain ⟨c, hc, hc2⟩ : ∃ c : Nat, (b : Int).tmod 26 = (c : Int) ∧ c = b % 26 := ⟨b % 26, by rw [Int.tmod_eq_emod_of_nonneg (by omega)]; omega, rfl⟩
  have ha3 : a < 26 := by omega
  have hwb : wrap64 (b : Int) = (b : Int) := by unfold wrap64; omega
  have hc3 : c < 26 := by omega
  have e0 : (97 + (a : Int)) % 256 = (x0.toNat : Int) := by rw [h0, ← ha2]; simp [UInt8.toNat_ofNat']
  have e1 : (97 + (c : Int)) % 256 = (x1.toNat : Int) := by rw [h1, ← hb2, ← hc2]; simp [UInt8.toNat_ofNat']
  have e0' : 97 + (a : Int) = (x0.toNat : Int) := by omega
  have e1' : 97 + (c : Int) = (x1.toNat : Int) := by omega
  have e2 : (x0.toNat : Int) % 256 = (x0.toNat : Int) := by omega
  have e3 : (x1.toNat : Int) % 256 = (x1.toNat : Int) := by omega
  have en : nameN i = [x0, x1] := by rw [h0, h1]; rfl
  rw [en]
  have hr : Rd8 (w.alloc (.cells #[.int .u8 (x0.toNat : Int), .int .u8 (x1.toNat : Int)] 5)) (some ⟨w.heap.size, 0, none⟩) [x0, x1] := Rd.of_row (heap_alloc_new w _) 0 (by simp [by8])
  have HR := Lib.hid hr
  clear h0 h1 en hr ha2 hb2 hc2 e0 e1
  go_enter Try.func27, Try.ntmps27
  go_wp2_with ((with_reducible refine L_b2s slB isB isS HR.out ?_ ?_ ?_); (focus rfl); (focus exact ⟨_, _, rfl, rfl⟩); simp only [Act.put, List.setIfInBounds_toArray, List.set_cons_zero, List.set_cons_succ])
  go_ret
  exact ⟨rfl, (Below.refl _ _).alloc (Nat.le_refl _) _⟩
theorem name_len (i : Nat) : (nameN i).length ≤ 1000 := by simp [nameN]
theorem name_inj {i j : Nat} (hi : i < 676) (hj : j < 676) (h : nameN i = nameN j) : i = j := by
  unfold nameN at h
  simp only [List.cons.injEq, and_true] at h
  have h1 := congrArg UInt8.toNat h.1
  have h2 := congrArg UInt8.toNat h.2
  simp [UInt8.toNat_ofNat'] at h1 h2
  omega
set_option maxRecDepth 20000 in
theorem gcd_any (x y : Nat) (w : World) (hx : x ≤ 100000) (hy : y ≤ 100000) : Calls Try.prog 31 #[.int .i64 (x : Int), .int .i64 (y : Int)] w fun e w' => e = .returned (.int .i64 (Nat.gcd x y : Int)) ∧ Below w.heap.size w w' := by
  go_enter Try.func31, Try.ntmps31
  go_wp2_with fail
  go_loopw [0, 1] (fun a b wr => ∃ p q : Nat, p ≤ 100000 ∧ q ≤ 100000 ∧ a = .int .i64 (p : Int) ∧ b = .int .i64 (q : Int) ∧ Nat.gcd p q = Nat.gcd x y ∧ Below w.heap.size w wr) (fun _ b _ => (intOf b).toNat)
  case atStart => exact ⟨x, y, hx, hy, rfl, rfl, rfl, Below.refl _ _⟩
  case round =>
    obtain ⟨p, q, hp, hq, rfl, rfl, hg, hb⟩ := hrel
    have HB := Lib.hid hb
    have HG := Lib.hid hg
    clear hb hg
    by_cases hq0 : q = 0
    · subst hq0
      go_wp2_with fail
      go_ret
      have := HG.out
      rw [Nat.gcd_zero_right] at this
      subst this
      exact ⟨rfl, HB.out⟩
    · have dq : ((q : Int) == 0) = false := by rw [beq_eq_false_iff_ne]; omega
      have dq' : ¬ (q : Int) = 0 := by omega
      have hm : (p : Int).tmod (q : Int) = ((p % q : Nat) : Int) := by rw [Int.tmod_eq_emod_of_nonneg (by omega)]; rfl
      obtain ⟨s, hs⟩ : ∃ s, s = p % q := ⟨_, rfl⟩
      rw [← hs] at hm
      have hsq : s < q := by rw [hs]; exact Nat.mod_lt _ (by omega)
      have hgs : Nat.gcd q s = Nat.gcd p q := by rw [hs, Nat.gcd_comm q, ← Nat.gcd_rec, Nat.gcd_comm]
      have HGS := Lib.hid hgs
      clear hs hgs
      go_wp2_with fail
      go_quiet (fail)
      all_goals (go_wp2_with fail)
      all_goals (exact ⟨⟨q, s, by omega, by omega, rfl, rfl, HGS.out.trans HG.out, by first | exact below_drewN HB.out _ | exact HB.out⟩, by simp [intOf]; omega⟩)
/-- the first k names -/
def mN (k : Nat) : Slot := (List.range k).map fun i => (nameN i, (i : Int))
theorem m_len (k : Nat) : (mN k).length = k := by simp [mN]
theorem m_succ (k : Nat) : mN (k + 1) = mN k ++ [(nameN k, (k : Int))] := by simp [mN, List.range_succ]
theorem lk_app (a b : Slot) (name : List UInt8) : lk (a ++ b) name = (lk a name).or (lk b name) := by
  unfold lk
  rw [List.find?_append]
  cases a.find? _ <;> simp
theorem lk_m {i : Nat} (hi : i < 676) : ∀ k, k ≤ 676 → lk (mN k) (nameN i) = if i < k then some (i : Int) else none
  | 0, _ => rfl
  | k + 1, hk => by
    rw [m_succ, lk_app, lk_m hi k (by omega)]
    by_cases h : i < k
    · rw [if_pos h, if_pos (by omega)]; rfl
    · rw [if_neg h]
      by_cases e : i = k
      · subst e
        rw [if_pos (by omega)]
        simp [lk]
      · rw [if_neg (by omega)]
        have : nameN k ≠ nameN i := fun h => e (name_inj (by omega) (by omega) h).symm
        simp [lk, this]
theorem put_m {k : Nat} (hk : k < 676) : putM (mN k) (nameN k) (k : Int) = mN (k + 1) := by
  unfold putM
  have h : lk (mN k) (nameN k) = none := by rw [lk_m hk k (by omega)]; simp
  rw [if_pos h, m_succ]
theorem lk_del (m : Slot) (x y : List UInt8) : lk (delM m x) y = if x = y then none else lk m y := by
  unfold delM
  by_cases e : x = y
  · subst e
    rw [if_pos rfl]
    refine lk_none fun p hp => ?_
    have := (List.mem_filter.1 hp).2
    simpa [offF] using this
  · rw [if_neg e]
    unfold lk
    rw [List.find?_filter]
    congr 2
    funext a
    by_cases h : a.1 = y
    · have : ¬ a.1 = x := fun e' => e (e'.symm.trans h)
      simp [offF, h, this]
      exact fun e' => e e'.symm
    · simp [offF, h]
theorem del_len {m : Slot} (hu : (m.map Prod.fst).Nodup) {x : List UInt8} {v : Int} (h : lk m x = some v) : (delM m x).length + 1 = m.length := by
  unfold lk at h
  cases hf : m.find? (fun p => p.1 == x) with
  | none => rw [hf] at h; cases h
  | some p =>
    have h1 := List.mem_of_find?_eq_some hf
    have h2 := List.find?_some hf
    have h3 : p.1 = x := by simpa using h2
    have := off_len m hu p h1
    rw [h3] at this
    exact this
/-- what is left behind k steps -/
def mR (K d : Nat) : Nat → Slot
  | 0 => mN K
  | k + 1 => delM (mR K d k) (nameN (k * d % K))
theorem lk_mR {K d : Nat} (hK : K ≤ 676) {a : Nat} (ha : a < K) : ∀ k, lk (mR K d k) (nameN a) = if ∃ j, j < k ∧ j * d % K = a then none else some (a : Int)
  | 0 => by
    unfold mR
    rw [lk_m (by omega) K hK, if_pos ha, if_neg (by rintro ⟨j, h, _⟩; omega)]
  | k + 1 => by
    unfold mR
    rw [lk_del, lk_mR hK ha k]
    have hkk : k * d % K < K := Nat.mod_lt _ (by omega)
    by_cases e : k * d % K = a
    · rw [if_pos (by rw [e]), if_pos ⟨k, by omega, e⟩]
    · rw [if_neg (fun h => e (name_inj (by omega) (by omega) h))]
      by_cases e2 : ∃ j, j < k ∧ j * d % K = a
      · obtain ⟨j, h1, h2⟩ := e2
        rw [if_pos ⟨j, h1, h2⟩, if_pos ⟨j, by omega, h2⟩]
      · rw [if_neg e2, if_neg]
        rintro ⟨j, h1, h2⟩
        by_cases h3 : j = k
        · subst h3; exact e h2
        · exact e2 ⟨j, by omega, h2⟩
theorem steps_ne {K d j k : Nat} (hg : Nat.gcd d K = 1) (hjk : j < k) (hk : k < K) : j * d % K ≠ k * d % K := by
  intro h
  have h1 := Nat.sub_mod_eq_zero_of_mod_eq h.symm
  rw [← Nat.sub_mul] at h1
  have h2 : K ∣ (k - j) * d := Nat.dvd_of_mod_eq_zero h1
  have h3 : K ∣ k - j := Nat.Coprime.dvd_of_dvd_mul_right (k := K) (n := d) (m := k - j) (by rw [Nat.Coprime, Nat.gcd_comm]; exact hg) h2
  have := Nat.le_of_dvd (by omega) h3
  omega
theorem lk_here {K d k : Nat} (hK : K ≤ 676) (hg : Nat.gcd d K = 1) (hk : k < K) : lk (mR K d k) (nameN (k * d % K)) = some ((k * d % K : Nat) : Int) := by
  rw [lk_mR hK (Nat.mod_lt _ (by omega)), if_neg]
  rintro ⟨j, h1, h2⟩
  exact steps_ne hg h1 hk h2
theorem lk_gone {K d k : Nat} (m : Slot) : lk (delM m (nameN (k * d % K))) (nameN (k * d % K)) = none := by rw [lk_del, if_pos rfl]
theorem next_at {K d k : Nat} : (k * d % K + d) % K = (k + 1) * d % K := by rw [Nat.add_mul, Nat.one_mul, Nat.mod_add_mod]
def ManyRel (B : Nat) (w : World) (tb : Nat) (m : Slot) (G : Nat) (wr : World) : Prop := ∃ t, TabA (B ≤ ·) wr tb t ∧ Ok t m G ∧ Below B w wr
end Many
open Many
set_option maxHeartbeats 4000000 in
set_option maxRecDepth 20000 in
theorem tableMany_walk (n0 n1 : Int) (w : World) : Calls Try.prog 7 #[.int .i64 n0, .int .i64 n1] w fun e w' => e = .returned (.bool true) ∧ Below w.heap.size w w' := by
  obtain ⟨r, hr, hr6⟩ : ∃ r : Nat, (IntKind.u64.wrap n0).tmod 600 = (r : Int) ∧ r < 600 := by
    have h0 : 0 ≤ IntKind.u64.wrap n0 := by rw [IntKind.wrap_u64]; omega
    refine ⟨((IntKind.u64.wrap n0).tmod 600).toNat, ?_, ?_⟩
    · rw [Int.tmod_eq_emod_of_nonneg h0]; omega
    · rw [Int.tmod_eq_emod_of_nonneg h0]; omega
  obtain ⟨s, hs, hs6⟩ : ∃ s : Nat, (IntKind.u64.wrap n1).tmod (1 + (r : Int)) = (s : Int) ∧ s < 1 + r := by
    have h0 : 0 ≤ IntKind.u64.wrap n1 := by rw [IntKind.wrap_u64]; omega
    refine ⟨(IntKind.u64.wrap n1 % (1 + (r : Int))).toNat, ?_, ?_⟩
    · rw [Int.tmod_eq_emod_of_nonneg h0, Int.toNat_of_nonneg (Int.emod_nonneg _ (by omega))]
    · have := Int.emod_lt_of_pos (IntKind.u64.wrap n1) (show (0 : Int) < 1 + (r : Int) by omega)
      have h0 := Int.emod_nonneg (IntKind.u64.wrap n1) (show 1 + (r : Int) ≠ 0 by omega)
      omega
  have hw1 : wrap64 (r : Int) = (r : Int) := by unfold wrap64; omega
  have hw3 : wrap64 (s : Int) = (s : Int) := by unfold wrap64; omega
  go_enter Try.func7, Try.ntmps7
  go_wp2_with fail
  go_fit (new_A w)
  rintro e w1 ⟨tb, rfl, hd1, hb1⟩
  have HD1 := Lib.hid hd1
  have HB1 := Lib.hid hb1
  clear hd1 hb1
  go_wp2_with fail
  go_loopw [8] (fun i wr => ∃ k, k ≤ 1 + r ∧ i = .int .i64 (k : Int) ∧ ManyRel w.heap.size w tb (mN k) k wr) (fun i _ => 1 + r - (intOf i).toNat)
  case atStart => exact ⟨0, Nat.zero_le _, rfl, _, HD1.out, ok0, HB1.out⟩
  case round =>
    obtain ⟨k, hk, rfl, hrel⟩ := hrel
    have HREL := Lib.hid hrel
    clear hrel
    obtain ⟨t, hA, hO, hb⟩ := HREL.out
    have HA := Lib.hid hA
    have HO := Lib.hid hO
    have HB := Lib.hid hb
    have htl : (t.len : Int) = (k : Int) := by rw [hO.inv.len, m_len]
    clear hA hO hb HREL
    by_cases hkl : k < 1 + r
    · have dl : decide ((k : Int) < 1 + (r : Int)) = true := by simp; omega
      have hlk : lk (mN k) (nameN k) = none := by rw [lk_m (by omega) k (by omega)]; simp
      have HLK := Lib.hid hlk
      clear hlk
      go_wp2_with fail
      go_fit (name_any k _ (by omega))
      rintro e w2 ⟨rfl, hb2⟩
      have HB2 := Lib.hid hb2
      have hA2 := HA.out.below hb2
      have hpt := put_ok hA2 HO.out (Nat.le_trans HB.out.size HB2.out.size) (nameN k) (k : Int) (name_len k) (by rw [m_len]; omega)
      rw [HLK.out] at hpt
      have HPT := Lib.hid hpt
      clear hb2 hA2 hpt
      go_wp2_with fail
      go_fit HPT.out
      rintro e w3 ⟨rfl, t3, hO3, hA3, hb3⟩
      have hO3' := hO3 (k + 1) (fun _ => by rw [m_len]; omega) (.inl (by omega))
      rw [put_m (by omega)] at hO3'
      have HO3 := Lib.hid hO3'
      have HA3 := Lib.hid hA3
      have HB3 := Lib.hid ((grew HB.out HB2.out).trans hb3)
      clear hO3 hO3' hA3 hb3
      simp only [ansO]
      go_wp2_with fail
      exact ⟨⟨k + 1, by omega, by go_num, t3, HA3.out, HO3.out, HB3.out⟩, by simp [intOf]; omega⟩
    · obtain rfl : k = 1 + r := by omega
      have dl : decide (((1 + r : Nat) : Int) < 1 + (r : Int)) = false := by simp
      have ec : ((1 + r : Nat) : Int) = 1 + (r : Int) := by omega
      rw [ec] at htl dl
      rw [ec]
      go_wp2_with (first
        | (go_at_call 29; refine (tlen_any HA.out).mono ?_; rintro e w4 ⟨rfl, rfl⟩)
        | (go_at_call 30; refine (names_ok HA.out HO.out).mono ?_; rintro e w6 ⟨p6, c6, rfl, hr6, hb6⟩; have HA6 := Lib.hid (HA.out.below hb6); have HB6 := Lib.hid (grew HB.out hb6); clear hb6 hr6; rw [m_len]))
      go_loopw [11] (fun i wr => ∃ d : Nat, 1 ≤ d ∧ d ≤ r + 2 ∧ i = .int .i64 (d : Int) ∧ ManyRel w.heap.size w tb (mN (1 + r)) (1 + r) wr) (fun i _ => r + 3 - (intOf i).toNat)
      case atStart => exact ⟨1 + s, by omega, by omega, by go_num, _, HA6.out, HO.out, HB6.out⟩
      case round =>
        obtain ⟨d, hd1, hd2, rfl, hrel⟩ := hrel
        obtain ⟨t7, hA7, hO7, hb7⟩ := hrel
        have HA7 := Lib.hid hA7
        have HO7 := Lib.hid hO7
        have HB7 := Lib.hid hb7
        have hgc := gcd_any d (1 + r) wr (by omega) (by omega)
        rw [ec] at hgc
        have HGC := Lib.hid hgc
        clear hA7 hO7 hb7 HA6 HB6 HA HO HB hgc htl
        by_cases hg1 : Nat.gcd d (1 + r) = 1
        · rw [hg1] at HGC
          have HG1 := Lib.hid hg1
          clear hg1
          go_wp2_with (go_at_call 31; refine HGC.out.mono ?_; rintro e w8 ⟨rfl, hb8⟩; have HA8 := Lib.hid (HA7.out.below hb8); have HB8 := Lib.hid (grew HB7.out hb8); clear hb8)
          go_loopw [12, 13] (fun a i wr => ∃ k, k ≤ 1 + r ∧ i = .int .i64 (k : Int) ∧ a = .int .i64 ((k * d % (1 + r) : Nat) : Int) ∧ ManyRel w.heap.size w tb (mR (1 + r) d k) (1 + r) wr ∧ (mR (1 + r) d k).length + k = 1 + r) (fun _ i _ => 1 + r - (intOf i).toNat)
          case atStart => exact ⟨0, Nat.zero_le _, rfl, by simp, ⟨_, HA8.out, HO7.out, HB8.out⟩, by simp [mR, m_len]⟩
          case round =>
            obtain ⟨k, hk, rfl, rfl, hrel, hml⟩ := hrel
            obtain ⟨t9, hA9, hO9, hb9⟩ := hrel
            have HA9 := Lib.hid hA9
            have HO9 := Lib.hid hO9
            have HB9 := Lib.hid hb9
            clear hA9 hO9 hb9 HA7 HB7 HO7 HA8 HB8 HGC
            by_cases hkl : k < 1 + r
            · have hlk := lk_here (by omega) HG1.out hkl
              obtain ⟨a, ha⟩ : ∃ a, a = k * d % (1 + r) := ⟨_, rfl⟩
              have hal : a < 1 + r := by rw [ha]; exact Nat.mod_lt _ (by omega)
              obtain ⟨b, hb⟩ : ∃ b, b = (k + 1) * d % (1 + r) := ⟨_, rfl⟩
              have hnx : ((a : Int) + (d : Int)).tmod (1 + (r : Int)) = (b : Int) := by
                rw [Int.tmod_eq_emod_of_nonneg (by omega), hb, ← next_at, ← ha, Int.natCast_emod]
                rfl
              have hmr : mR (1 + r) d (k + 1) = delM (mR (1 + r) d k) (nameN a) := by rw [ha]; rfl
              have HB := Lib.hid hb
              rw [← ha] at hlk ⊢
              have HLK := Lib.hid hlk
              have HMR := Lib.hid hmr
              have HML := Lib.hid hml
              clear ha hb hlk hmr hml
              have dl : decide ((k : Int) < 1 + (r : Int)) = true := by simp; omega
              go_wp2_with fail
              go_fit (name_any a _ (by omega))
              rintro e w2 ⟨rfl, hb2⟩
              have hA2 := HA9.out.below hb2
              have hB2 := grew HB9.out hb2
              have hgt := get_ok hA2 HO9.out hB2.size (nameN a) (name_len a)
              rw [HLK.out] at hgt
              have HGT := Lib.hid hgt
              have HB2 := Lib.hid hB2
              clear hA2 hB2 hgt hb2
              go_wp2_with fail
              go_fit HGT.out
              rintro e w3 ⟨rfl, t3, ⟨hO3, _, _⟩, hA3, hb3⟩
              have HO3 := Lib.hid hO3
              have HA3 := Lib.hid hA3
              have HB3 := Lib.hid (HB2.out.trans hb3)
              clear hO3 hA3 hb3
              simp only [ansO]
              go_wp2_with fail
              go_fit (name_any a _ (by omega))
              rintro e w4 ⟨rfl, hb4⟩
              have hA4 := HA3.out.below hb4
              have hB4 := grew HB3.out hb4
              have hdl := del_ok hA4 HO3.out hB4.size (nameN a) (name_len a)
              rw [HLK.out] at hdl
              have HDL := Lib.hid hdl
              have HB4 := Lib.hid hB4
              clear hA4 hB4 hdl hb4
              go_wp2_with fail
              go_fit HDL.out
              rintro e w5 ⟨rfl, t5, hO5, hA5, hb5⟩
              have hle := del_len HO3.out.inv.uniq HLK.out
              have HML := HML.out
              have hln : (t5.len : Int) = (r : Int) - (k : Int) := by rw [hO5.inv.len]; omega
              have HLE := Lib.hid hle
              have HO5 := Lib.hid hO5
              have HA5 := Lib.hid hA5
              have HB5 := Lib.hid (HB4.out.trans hb5)
              clear hO5 hA5 hb5 hle
              simp only [ansO]
              go_wp2_with (go_at_call 29; refine (tlen_any HA5.out).mono ?_; rintro e w6 ⟨rfl, rfl⟩)
              go_fit (name_any a _ (by omega))
              rintro e w6 ⟨rfl, hb6⟩
              have hA6 := HA5.out.below hb6
              have hB6 := grew HB5.out hb6
              have hgt := get_ok hA6 HO5.out hB6.size (nameN a) (name_len a)
              rw [lk_del, if_pos rfl] at hgt
              have HGT := Lib.hid hgt
              have HB6 := Lib.hid hB6
              clear hA6 hB6 hgt hb6
              go_wp2_with fail
              go_fit HGT.out
              rintro e w7 ⟨rfl, t7, ⟨hO7, _, _⟩, hA7, hb7⟩
              rw [← HMR.out] at hO7
              have HO7 := Lib.hid hO7
              have HA7 := Lib.hid hA7
              have HB7 := Lib.hid (HB6.out.trans hb7)
              clear hO7 hA7 hb7
              simp only [ansO]
              go_wp2_with fail
              exact ⟨⟨k + 1, by omega, by go_num, by rw [← HB.out], ⟨t7, HA7.out, HO7.out, HB7.out⟩, by rw [HMR.out]; have := HLE.out; omega⟩, by simp [intOf]; omega⟩
            · obtain rfl : k = 1 + r := by omega
              have hm0 : (mR (1 + r) d (1 + r)).length = 0 := by omega
              have dl : decide (1 + (r : Int) < 1 + (r : Int)) = false := by simp
              have hsl : t9.old.length + t9.new.length ≤ 8 + 8 * (1 + r) := HO9.out.slots
              have ds : decide ((t9.old.length : Int) + (t9.new.length : Int) ≤ 16 + 8 * (1 + (r : Int))) = true := by rw [decide_eq_true_eq]; omega
              rw [ec]
              clear hml hsl
              go_wp2_with fail
              go_fit (told6_any _)
              rintro e w5 ⟨rfl, hb5⟩
              have HA5 := Lib.hid (HA9.out.below hb5)
              have HB5 := Lib.hid (grew HB9.out hb5)
              clear hb5
              go_wp2_with (first
                | (go_at_call 30; refine (names_ok HA5.out HO9.out).mono ?_; rintro e w6 ⟨p6, c6, rfl, hr6, hb6⟩; have HA6 := Lib.hid (HA5.out.below hb6); have HB6 := Lib.hid (grew HB5.out hb6); clear hb6 hr6; rw [hm0])
                | (go_at_call 35; refine (slots_ok HA6.out HO9.out (by omega)).mono ?_; rintro e w7 ⟨rfl, hb7⟩; have HB7 := Lib.hid (grew HB6.out hb7); clear hb7))
              go_ret
              exact ⟨rfl, HB7.out⟩
        · have hdd : d ≠ r + 2 := by
            rintro rfl
            apply hg1
            rw [show r + 2 = (1 + r) + 1 by omega, Nat.gcd_comm]
            simp
          obtain ⟨g, hg⟩ : ∃ g, g = Nat.gcd d (1 + r) := ⟨_, rfl⟩
          rw [← hg] at HGC hg1
          have dg : ((g : Int) == 1) = false := by rw [beq_eq_false_iff_ne]; omega
          have dg' : ¬ (g : Int) = 1 := by omega
          clear hg
          go_wp2_with (go_at_call 31; refine HGC.out.mono ?_; rintro e w8 ⟨rfl, hb8⟩; have HA8 := Lib.hid (HA7.out.below hb8); have HB8 := Lib.hid (grew HB7.out hb8); clear hb8)
          exact ⟨⟨d + 1, by omega, by omega, by go_num, _, HA8.out, HO7.out, HB8.out⟩, by simp [intOf]; omega⟩
end Go.Proofs.Ytadnabgnbhpijaa
