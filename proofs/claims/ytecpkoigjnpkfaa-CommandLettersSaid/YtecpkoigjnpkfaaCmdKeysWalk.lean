/- The walk over CommandKeys. -/
import Derived.Test.YtecpkoigjnpkfaaCmdLaw
import Derived.Test.YtecpkoigjnpkfaaCmdAll
import Derived.Test.YtecpkoigjnpkfaaCmdTold
set_option linter.unusedSimpArgs false
set_option linter.unusedVariables false
namespace Go.Proofs.Ytecpkoigjnpkfaa
open Go.RowKit Cmd

theorem stc_mul (L : List (List UInt8)) : (stc L).length = L.length * 1 := by simp [stc]
theorem rows_names : rowsL.all (fun r => decide (r.name.length ≤ 20)) = true := by decide +kernel
theorem row_name {r : CRow} (h : r ∈ rowsL) : r.name.length ≤ 20 := by
  have := List.all_eq_true.1 rows_names r h
  simpa using this
set_option maxHeartbeats 4000000 in
set_option maxRecDepth 20000 in
theorem commandKeys_walk (p : Option Addr) (c : Nat) (x : Int) (a : List (List UInt8)) (W : World) (hr : RdS W p a) :
    Calls Try.prog 4 #[.int .i64 x, .slice p a.length c] W fun e w' => e = .returned (.bool true) ∧ Below W.heap.size W w' := by
  obtain ⟨n, hn⟩ : ∃ n, a.length = n := ⟨_, rfl⟩
  rw [hn]
  have HR : Go.RowKit.Hid (Rd W p (stc a)) := hr
  have HN := Lib.hid hn
  clear hr hn
  by_cases h30 : 30 < n
  · have d0 : decide ((30 : Int) < (n : Int)) = true := by rw [decide_eq_true_iff]; omega
    clear h30
    go_enter Try.func4, Try.ntmps4
    go_wp2_with fail
    go_fit (told_any _)
    rintro e w1 ⟨rfl, hb1⟩
    go_wp2_with fail
    go_ret
    exact ⟨rfl, hb1⟩
  · have d0 : decide ((30 : Int) < (n : Int)) = false := by rw [decide_eq_false_iff_not]; omega
    obtain ⟨u, k, hu, hk, ht1, ht2⟩ := uint_mod x 82 82 rfl (by omega)
    go_enter Try.func4, Try.ntmps4
    go_wp2_with fail
    go_fit (all_any _)
    rintro e w1 ⟨L, b, rfl, ⟨hL, hmem, hbl, hcell⟩, hbb, hb1⟩
    have hkL : k < L.length := by omega
    have hr := hmem _ (List.getElem_mem hkL)
    have hc := hcell k hkL
    generalize L[k] = r at hr hc
    have c0 : w1.cell? ⟨b, k * 7, none⟩ = some (.string (str r.name)) := hc 0 (by omega)
    have c1 : w1.cell? ⟨b, k * 7 + 1, none⟩ = some (.int .i64 r.least) := hc 1 (by omega)
    have c2 : w1.cell? ⟨b, k * 7 + 2, none⟩ = some (.int .i64 r.most) := hc 2 (by omega)
    have c3 : w1.cell? ⟨b, k * 7 + 3, none⟩ = some (.bool r.write) := hc 3 (by omega)
    have c4 : w1.cell? ⟨b, k * 7 + 4, none⟩ = some (.int .i64 r.first) := hc 4 (by omega)
    have c5 : w1.cell? ⟨b, k * 7 + 5, none⟩ = some (.int .i64 r.last) := hc 5 (by omega)
    have c6 : w1.cell? ⟨b, k * 7 + 6, none⟩ = some (.int .i64 r.step) := hc 6 (by omega)
    have HB1 := Lib.hid hb1
    have HMR := Lib.hid hr
    have i1 : (0 : Int) ≤ (k : Int) := by omega
    have i2 : (k : Int) < 82 := by omega
    clear hc hcell hmem hr hkL hL hbb hb1
    go_upto_region 7 with (fail)
    have hwr : (w1.alloc (.cells #[.string (str r.name), .int .i64 r.least, .int .i64 r.most, .bool r.write, .int .i64 r.first, .int .i64 r.last, .int .i64 r.step] 27)).heap[w1.heap.size]? = some (.cells #[.string (str r.name), .int .i64 r.least, .int .i64 r.most, .bool r.write, .int .i64 r.first, .int .i64 r.last, .int .i64 r.step] 27 (0, 0)) := heap_alloc_new _ _
    have hb0 : Below W.heap.size W (w1.alloc (.cells #[.string (str r.name), .int .i64 r.least, .int .i64 r.most, .bool r.write, .int .i64 r.first, .int .i64 r.last, .int .i64 r.step] 27)) := HB1.out.alloc HB1.out.size _
    have hsz : (w1.alloc (.cells #[.string (str r.name), .int .i64 r.least, .int .i64 r.most, .bool r.write, .int .i64 r.first, .int .i64 r.last, .int .i64 r.step] 27)).heap.size = w1.heap.size + 1 := by go_simp
    change Code.wp _ _ _ _ (w1.alloc (.cells #[.string (str r.name), .int .i64 r.least, .int .i64 r.most, .bool r.write, .int .i64 r.first, .int .i64 r.last, .int .i64 r.step] 27))
    clear c0 c1 c2 c3 c4 c5 c6
    generalize w1.alloc (.cells #[.string (str r.name), .int .i64 r.least, .int .i64 r.most, .bool r.write, .int .i64 r.first, .int .i64 r.last, .int .i64 r.step] 27) = w2 at *
    obtain ⟨vb, hvb⟩ : ∃ v, v = w1.heap.size := ⟨_, rfl⟩
    rw [← hvb] at hwr hsz ⊢
    have hcell : ∀ u, Below w2.heap.size w2 u → u.cell? ⟨vb, 0, none⟩ = some (.string (str r.name)) ∧ u.cell? ⟨vb, 1, none⟩ = some (.int .i64 r.least) ∧ u.cell? ⟨vb, 2, none⟩ = some (.int .i64 r.most) ∧ u.cell? ⟨vb, 3, none⟩ = some (.bool r.write) ∧ u.cell? ⟨vb, 6, none⟩ = some (.int .i64 r.step) := by
      intro u hu
      have hrow : u.heap[vb]? = _ := (hu.block vb (by omega)).trans hwr
      refine ⟨?_, ?_, ?_, ?_, ?_⟩ <;> simp [World.cell?, hrow]
    have HC := Lib.hid hcell
    have HB2 := Lib.hid hb0
    have HR2 := Lib.hid (Rd.below HR.out hb0)
    clear hwr hsz hcell hb0 hvb HR HB1 hu hk ht1 ht2 i1 i2
    obtain ⟨q0, -⟩ := HC.out w2 (Below.refl _ _)
    have HO := Lib.hid (OwnS.new (w := w2) (base := w2.heap.size) (n := 1) (e := 9) (sz := 1) #[.string (str r.name)] 1 (0, 0) (Nat.le_refl _) (.inl rfl) (by omega) (by decide) rfl)
    have HM := Lib.hid (show (stc a).length = n * 1 by have := HN.out; rw [← this]; exact stc_mul a)
    go_wp2_with ((with_reducible refine L_appR (m := n) slVS Try.underlying22 HO.out (HR2.out.alloc _) (stc_one _) HM.out ?_ ?_ ?_ ?_ ?_); (focus rfl); (focus rfl); (focus exact ⟨_, rfl⟩); (focus exact ⟨room1 (by omega), by omega, by go_simp⟩); intro v3 w3 ho3 hg3 hk3 hn3; clear hn3; have hb3 := App.below hg3 ((Below.refl w2.heap.size w2).alloc (Nat.le_refl _) _) (by go_simp) hk3; clear hg3 hk3; have HO3 := Lib.hid ho3; have HB3 := Lib.hid hb3; clear ho3 hb3; simp only [Act.put, List.setIfInBounds_toArray, List.set_cons_zero, List.set_cons_succ])
    obtain ⟨pb, cb, rfl, hrb, -⟩ := HO3.out.shape
    have hrb' : Rd w3 pb (stc (r.name :: a)) := hrb
    have hLW := fun h => keys_law HMR.out (a := a) h
    have hhd : ∀ y ∈ (r.name :: a).head?, y.length ≤ 1048576 := by
      intro y hy
      cases hy
      have := row_name HMR.out
      omega
    obtain ⟨m, hm⟩ : ∃ m, 1 + n = m := ⟨_, rfl⟩
    have hmB : m = (r.name :: a).length := by rw [List.length_cons, HN.out]; omega
    have hm1 : a.length + 1 = m := by rw [HN.out]; omega
    rw [hm1] at hLW
    rw [hm]
    obtain ⟨B, hB⟩ : ∃ B, r.name :: a = B := ⟨_, rfl⟩
    rw [hB] at hLW hmB hhd hrb'
    have hm31 : m ≤ 31 := by omega
    obtain ⟨ks, hks⟩ : ∃ ks, keysP B = ks := ⟨_, rfl⟩
    obtain ⟨F, hF⟩ : ∃ F, fitsP B = F := ⟨_, rfl⟩
    have hKN := fun (h : fitsP B ≠ 0) => keysP_no h
    have HK := Lib.hid (keys_any pb m cb B hmB (by omega) hhd w3 hrb')
    have HF := Lib.hid (fun w4 hb4 => fits_any pb m cb B hmB (by omega) hhd w4 (hrb'.below hb4))
    rw [hks] at hLW hKN HK
    rw [hF] at hLW hKN HF
    have HLW := Lib.hid hLW
    have HKN := Lib.hid hKN
    have HMB := Lib.hid hmB
    have HRB := Lib.hid hrb'
    clear hLW hKN hmB hrb' hrb hm1 hm hhd HO HM HR2 hks hF hB HN h30
    go_fit HK.out
    rintro e w4 ⟨v4, rfl, ho4, hb4⟩
    obtain ⟨pk, ck, rfl, hrk, -⟩ := ho4.shape
    have HRK := Lib.hid hrk
    have HB4 := Lib.hid hb4
    have HF4 := Lib.hid (HF.out w4 hb4)
    obtain ⟨K, hK⟩ : ∃ K, ks.length = K := ⟨_, rfl⟩
    rw [hK]
    have HKL := Lib.hid hK
    have hK31 : K ≤ 31 := by
      by_cases h : F = 0
      · obtain ⟨-, -, -, st, hst, hpos⟩ := HLW.out h
        by_cases hc : 31 < ks.length
        · have h1 := (hpos 31 hc).1
          have h2 := HMB.out
          omega
        · omega
      · have := HKN.out h
        subst this
        simp at hK; omega
    clear hrk hb4 ho4 HF HK hK
    go_wp2_with fail
    go_fit HF4.out
    rintro e w5 ⟨rfl, hb5⟩
    by_cases h0 : F = 0
    · subst h0
      obtain ⟨hl, hmo, hkk, st, hst, hpos⟩ := HLW.out rfl
      have HPOS := Lib.hid hpos
      have HKK := Lib.hid hkk
      have HMO := Lib.hid hmo
      have HB5 := Lib.hid hb5
      clear hpos hkk hmo HLW HKN hb5
      go_wp2_with fail
      go_loopw [9, 10] (fun av iv wr => ∃ t i : Nat, av = .int .i64 (t : Int) ∧ iv = .int .i64 (i : Int) ∧ i ≤ K ∧ t ≤ 1 + i * st ∧ Below w4.heap.size w4 wr) (fun _ iv _ => K - (intOf iv).toNat)
      case atStart => exact ⟨1, 0, rfl, rfl, Nat.zero_le _, by omega, HB5.out⟩
      case round =>
        obtain ⟨t, i, rfl, rfl, hi, ht, hb⟩ := hrel
        have HB := Lib.hid hb
        by_cases hiK : i < K
        · have d1 : (i : Int) < (K : Int) := by omega
          have d2 : (0 : Int) ≤ (i : Int) := by omega
          have hik : i < ks.length := by rw [HKL.out]; exact hiK
          obtain ⟨hp1, hp2⟩ := HPOS.out i hik
          obtain ⟨q, hq⟩ : ∃ q, 1 + i * st = q := ⟨_, rfl⟩
          rw [hq] at ht hp1 hp2
          have hq1 : q + 1 ≤ 1 + (i + 1) * st := by rw [Nat.add_mul]; omega
          rw [← HMB.out] at hp1
          have HP2 := Lib.hid hp2
          have HQ1 := Lib.hid hq1
          clear hb hp2 hq hq1
          go_wp2_with fail
          go_loopw [9] (fun av wr => ∃ t : Nat, av = .int .i64 (t : Int) ∧ t ≤ q ∧ Below w4.heap.size w4 wr) (fun av _ => m - (intOf av).toNat)
          case atStart => exact ⟨t, rfl, ht, HB.out⟩
          case round =>
            clear HB
            obtain ⟨t, rfl, ht, hb⟩ := hrel
            have HB := Lib.hid hb
            have htm : t < m := by omega
            have d3 : (t : Int) < (m : Int) := by omega
            have d4 : (0 : Int) ≤ (t : Int) := by omega
            have htB : t < B.length := by rw [← HMB.out]; exact htm
            obtain ⟨b1, o1, rfl, hc1⟩ := ((HRB.out.below HB4.out).below hb).at (k := t) (by rw [stc_mul]; omega)
            obtain ⟨b2, o2, rfl, hc2⟩ := (HRK.out.below hb).at (k := i) (by rw [stc_mul]; omega)
            have e1 := hc1 t (by rw [stc_mul]; omega)
            have e2 := hc2 i (by rw [stc_mul]; omega)
            simp only [stc, List.getElem_map] at e1 e2
            have HNE := Lib.hid (show B[t] ≠ ks[i] → t ≠ q from fun h e => by
              subst e
              have := HP2.out
              rw [List.getElem?_eq_getElem htB] at this
              exact h (Option.some.inj this))
            clear hc1 hc2 hb
            generalize B[t] = y at *
            generalize ks[i] = z at *
            by_cases hyz : y = z
            · subst hyz
              go_wp2_with fail
              go_quiet (fail)
              have d5 : decide ((m : Int) ≤ (t : Int)) = false := by rw [decide_eq_false_iff_not]; omega
              go_wp2_with fail
              have := HQ1.out
              exact ⟨⟨t + 1, i + 1, by go_num, by go_num, by omega, by omega, below_drewN HB.out _⟩, by simp [intOf]; omega⟩
            · have hn1 : (y == z) = false := by rw [beq_eq_false_iff_ne]; exact hyz
              have hn2 : ¬ str y = str z := fun h => hyz (str_inj h)
              have htq := HNE.out hyz
              go_wp2_with fail
              go_quiet (fail)
              go_wp2_with fail
              exact ⟨⟨t + 1, by go_num, by omega, below_drewN HB.out _⟩, by simp [intOf]; omega⟩
        · obtain rfl : K = i := by omega
          clear hb ht hi hiK
          go_wp2_with fail
          go_fit (told_any _)
          rintro e w6 ⟨rfl, hb6⟩
          have hb2 : Below w2.heap.size w2 w6 := HB3.out.trans ((HB4.out.trans ((HB.out.trans (hb6.mono HB.out.size)).mono HB4.out.size)).mono HB3.out.size)
          obtain ⟨z0, z1, z2, z3, z6⟩ := HC.out w6 hb2
          have HB6 := Lib.hid (HB2.out.trans (hb2.mono HB2.out.size))
          have dl : decide (r.least ≤ (m : Int)) = true := decide_eq_true hl
          clear hb6 hb2 hl
          rcases HKK.out with ⟨hs0, hw, hk0⟩ | ⟨hs1, hk1⟩
          · have hK0 : K = 0 := by rw [← HKL.out, hk0]; rfl
            subst hK0
            rw [hs0] at z6
            clear hk0
            rcases HMO.out with hm0 | ⟨hm1, hm2⟩
            · rw [hm0] at z2
              clear hm0
              rcases hw with hw | hw
              · rw [hw] at z3
                clear hw
                go_wp2_with fail
                go_ret
                exact ⟨rfl, HB6.out⟩
              · have dn : (r.name == [70, 76, 85, 83, 72, 65, 76, 76]) = true := by rw [hw]; rfl
                clear hw
                generalize r.write = wb at z3
                cases wb
                · go_wp2_with fail
                  go_ret
                  exact ⟨rfl, HB6.out⟩
                · go_wp2_with fail
                  go_ret
                  exact ⟨rfl, HB6.out⟩
            · have dm : (r.most == 0) = false := by rw [beq_eq_false_iff_ne]; omega
              have dm2 : decide ((m : Int) ≤ r.most) = true := decide_eq_true hm2
              clear hm1 hm2
              rcases hw with hw | hw
              · rw [hw] at z3
                clear hw
                go_wp2_with fail
                go_ret
                exact ⟨rfl, HB6.out⟩
              · have dn : (r.name == [70, 76, 85, 83, 72, 65, 76, 76]) = true := by rw [hw]; rfl
                clear hw
                generalize r.write = wb at z3
                cases wb
                · go_wp2_with fail
                  go_ret
                  exact ⟨rfl, HB6.out⟩
                · go_wp2_with fail
                  go_ret
                  exact ⟨rfl, HB6.out⟩
          · have ds : decide ((0 : Int) < r.step) = true := decide_eq_true hs1
            have dk0 : 0 < K := by have := HKL.out; omega
            have dk : decide ((0 : Int) < (K : Int)) = true := by rw [decide_eq_true_iff]; omega
            clear hs1 hk1
            rcases HMO.out with hm0 | ⟨hm1, hm2⟩
            · rw [hm0] at z2
              clear hm0
              generalize r.write = wb at z3
              by_cases hw : r.name = FLUSHALL
              · have dn : (r.name == [70, 76, 85, 83, 72, 65, 76, 76]) = true := by rw [hw]; rfl
                clear hw
                cases wb
                · go_wp2_with fail
                  go_ret
                  exact ⟨rfl, HB6.out⟩
                · go_wp2_with fail
                  go_ret
                  exact ⟨rfl, HB6.out⟩
              · have dn : (r.name == [70, 76, 85, 83, 72, 65, 76, 76]) = false := by rw [beq_eq_false_iff_ne]; exact hw
                clear hw
                cases wb
                · go_wp2_with fail
                  go_ret
                  exact ⟨rfl, HB6.out⟩
                · go_wp2_with fail
                  go_ret
                  exact ⟨rfl, HB6.out⟩
            · have dm : (r.most == 0) = false := by rw [beq_eq_false_iff_ne]; omega
              have dm2 : decide ((m : Int) ≤ r.most) = true := decide_eq_true hm2
              clear hm1 hm2
              generalize r.write = wb at z3
              by_cases hw : r.name = FLUSHALL
              · have dn : (r.name == [70, 76, 85, 83, 72, 65, 76, 76]) = true := by rw [hw]; rfl
                clear hw
                cases wb
                · go_wp2_with fail
                  go_ret
                  exact ⟨rfl, HB6.out⟩
                · go_wp2_with fail
                  go_ret
                  exact ⟨rfl, HB6.out⟩
              · have dn : (r.name == [70, 76, 85, 83, 72, 65, 76, 76]) = false := by rw [beq_eq_false_iff_ne]; exact hw
                clear hw
                cases wb
                · go_wp2_with fail
                  go_ret
                  exact ⟨rfl, HB6.out⟩
                · go_wp2_with fail
                  go_ret
                  exact ⟨rfl, HB6.out⟩
    · have d1 : (F == 0) = false := by rw [beq_eq_false_iff_ne]; exact h0
      have hks := HKN.out h0
      have hK0 : K = 0 := by rw [← HKL.out, hks]; rfl
      have HB5 := Lib.hid hb5
      clear hks h0 HF4 HLW HKN hb5
      subst hK0
      go_wp2_with fail
      go_fit (told_any _)
      rintro e w6 ⟨rfl, hb6⟩
      have HB6 := Lib.hid hb6
      clear hb6
      go_wp2_with fail
      go_ret
      exact ⟨rfl, HB2.out.trans ((HB3.out.trans ((HB4.out.trans ((HB5.out.trans (HB6.out.mono HB5.out.size)).mono HB4.out.size)).mono HB3.out.size)).mono HB2.out.size)⟩
end Go.Proofs.Ytecpkoigjnpkfaa
