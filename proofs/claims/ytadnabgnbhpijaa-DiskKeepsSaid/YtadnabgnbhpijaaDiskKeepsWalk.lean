/- The walk over DiskKeeps. -/
import Derived.Test.YtadnabgnbhpijaaDiskTold
import Derived.Deep.CutBlock
set_option linter.unusedSimpArgs false
set_option linter.unusedVariables false
namespace Go.Proofs.Ytadnabgnbhpijaa
open Go.RowKit Go.Maps

/-- the disk behind n rounds -/
def keepD (n : Nat) (all : List UInt8) (s : Nat) : Files0 := if n = 0 then [] else [([102], ⟨all, s⟩)]
theorem keepD_pos {n : Nat} (h : 0 < n) (all : List UInt8) (s : Nat) : keepD n all s = [([102], ⟨all, s⟩)] := if_neg (by omega)
theorem keepD_len (n : Nat) (all : List UInt8) (s : Nat) : (keepD n all s).length ≤ 1000000 := by
  unfold keepD; split <;> simp
theorem kee_1 (n : Nat) (all x : List UInt8) (s : Nat) (h0 : n = 0 → all = [] ∧ s = 0) (hl : all.length + x.length ≤ 1048576) : appendD [102] x (keepD n all s) 1048576 false = ([([102], ⟨all ++ x, s⟩)], 0) := by
  unfold keepD
  split
  · rename_i hn
    obtain ⟨rfl, rfl⟩ := h0 hn
    have e : usedD ([] : Files0) + x.length ≤ 1048576 := by show 0 + _ ≤ _; simpa using hl
    unfold appendD
    rw [if_neg (by simp), if_pos (by rfl), if_pos e]; rfl
  · have e : usedD ([([102], ⟨all, s⟩)] : Files0) + x.length ≤ 1048576 := by simp only [usedD, List.map_cons, List.map_nil, List.sum_cons, List.sum_nil]; omega
    unfold appendD
    rw [if_neg (by simp), if_pos (by rfl), if_pos e]
    simp [kGet, kSet]
theorem kee_2 (f : FileV) : syncD [102] [([102], f)] false = ([([102], ⟨f.b, f.b.length⟩)], 0) := by
  simp [syncD, kGet, kSet]
theorem kee_3 (f : FileV) : readD [102] [([102], f)] true = ([], 23) := by simp [readD]
theorem kee_4 (D : Files0) : appendD [102] [] D 1048576 true = (D, 23) := by simp [appendD]
theorem kee_5 (f : FileV) : readD [102] [([102], f)] false = (f.b, 0) := by simp [readD, kGet]
theorem kee_6 (keep : Int) (garble : Bool) (f : FileV) (h : f.sync ≤ f.b.length) : (crashF keep garble f).b.take f.sync = f.b.take f.sync := by
  have hk := keepN_le keep f h
  cases garble
  · rw [crashF_off keep false f (.inl rfl)]
    simp only
    rw [List.take_take]; congr 1; omega
  · rw [crashF_on keep f hk.2]
    apply List.ext_getElem
    · simp [garb_len]; omega
    · intro i h1 h2
      have hi : i < f.sync := by simp at h2; omega
      have : ¬ fromN keep f ≤ i := by unfold fromN; omega
      simp [garb, this]
theorem synced_B {S : Nat → Prop} {w : World} {db room : Nat} {down : Bool} {f : FileV} (h : DiskAt S w db [([102], f)] room down) :
    Calls Try.prog 22 #[.pointer (some ⟨db, 0, none⟩), .string (str [102])] w fun e w' => e = .returned (.int .i64 (f.sync : Int)) ∧ w = w' := by
  obtain ⟨mb, E, hd, hD⟩ := h
  have hg : kGet [102] (kMap FileM.f E) = some f := by rw [← hD]; rfl
  rw [get_file] at hg
  cases hx : kGet [102] E with
  | none => rw [hx] at hg; cases hg
  | some x =>
    rw [hx] at hg
    have e : x.f = f := Option.some.inj hg
    rw [← e]
    exact synced_some hd (by decide) hx
theorem cell_below {w v : World} (hb : Below w.heap.size w v) {a : Addr} {x : Value} (h : w.cell? a = some x) : v.cell? a = some x := by
  rw [hb.cell (block_lt_of_cell h)]; exact h
def KeepsRel (w : World) (db n : Nat) (a sy : Value) (wr : World) : Prop :=
  ∃ (all : List UInt8) (s : Nat), a = .string (str all) ∧ sy = .string (str (all.take s)) ∧ s ≤ all.length ∧ all.length ≤ 300 * n ∧ (n = 0 → all = [] ∧ s = 0) ∧ DiskAt (w.heap.size ≤ ·) wr db (keepD n all s) 1048576 false ∧ Below w.heap.size w wr

set_option maxHeartbeats 2000000 in
set_option maxRecDepth 20000 in
theorem diskKeeps_walk (p0 p1 : Option Addr) (c0 c1 : Nat) (L : List (List UInt8)) (M : List Bool) (keep : Int) (garble : Bool) (w : World) (g0 : RdS w p0 L) (g1 : Rd w p1 (M.map Value.bool)) (m0 : L.length ≤ c0) (m1 : M.length ≤ c1) (k0 : c0 ≤ maxLen) (k1 : c1 ≤ maxLen)
    (e0 : ∀ l ∈ L, l.length ≤ maxLen) (hk : -9223372036854775808 ≤ keep ∧ keep ≤ 9223372036854775807) :
    Calls Try.prog 5 #[.slice p0 L.length c0, .slice p1 M.length c1, .int .i64 keep, .bool garble] w fun e w' => e = .returned (.bool true) ∧ Below w.heap.size w w' := by
  unfold maxLen at k0 k1
  have H0 := Lib.hid g0
  have H1 := Lib.hid g1
  have HE := Lib.hid e0
  clear g0 g1 e0
  go_enter Try.func5, Try.ntmps5
  go_wp2_with fail
  go_fit (new_nat 1048576 w (by omega))
  rintro e w1 ⟨db, rfl, hd1, hb1⟩
  have HD1 := Lib.hid hd1
  have HB1 := Lib.hid hb1
  clear hd1 hb1
  go_upto_block 0 with (fail)
  go_cut [11, 12] (fun a sy wc => ∃ n : Nat, (n = L.length ∨ n = 20) ∧ n ≤ 20 ∧ KeepsRel w db n a sy wc)
  case first =>
    go_wp2_with fail
    go_loopw [11, 12, 13] (fun a sy i wr => ∃ k : Nat, k ≤ L.length ∧ k ≤ 20 ∧ i = .int .i64 k ∧ KeepsRel w db k a sy wr) (fun _ _ i _ => 20 - (intOf i).toNat)
    case atStart => exact ⟨0, Nat.zero_le _, by omega, rfl, [], 0, rfl, rfl, Nat.le_refl _, by simp, fun _ => ⟨rfl, rfl⟩, HD1.out, HB1.out⟩
    case round =>
      obtain ⟨k, hk1, hk2, rfl, all, s, rfl, rfl, hs, hal, hz, hd, hb⟩ := hrel
      have HD := Lib.hid hd
      have HB := Lib.hid hb
      have HZ := Lib.hid hz
      clear hd hb hz
      by_cases hlt : k < L.length
      · by_cases hlt20 : k < 20
        · obtain ⟨bb, oo, rfl, hc⟩ := RdS.at H0.out (k := k) hlt
          have hcell0 := hc k hlt
          have hcell := cell_below HB.out hcell0
          have hxl := HE.out L[k] (List.getElem_mem hlt)
          unfold maxLen at hxl
          clear hc
          generalize L[k] = x at *
          by_cases h300 : x.length ≤ 300
          · have d300 : decide ((300 : Int) < (x.length : Int)) = false := by simp; omega
            have hsum : ¬ (9223372036854775807 : Nat) < all.length + x.length := by omega
            have HC0 := Lib.hid hcell0
            clear hcell0
            go_wp2_with ((with_reducible refine L_s2b isS slB isB w.heap.size (l := x) ?_ ?_ ?_ ?_); (focus rfl); (focus rfl); (focus exact ⟨room1 (by omega), HB.out.size⟩); intro cap5 w5 ho5 hb5; have HO5 := Lib.hid ho5; clear ho5; simp only [Act.put, List.setIfInBounds_toArray, List.set_cons_zero, List.set_cons_succ])
            have HB5 := Lib.hid (HB.out.trans (hb5.mono HB.out.size))
            have HD5 := Lib.hid (HD.out.below hb5)
            obtain ⟨_, hr5, _, _, _⟩ := HO5.out.txt
            have HR5 := Lib.hid hr5
            clear hb5 hr5 hcell
            go_fit (append_B HD5.out HB5.out.size (keepD_len _ _ _) [102] x (by decide) HR5.out rfl (by omega) (kee_1 k all x s HZ.out (by omega)))
            rintro e w6 ⟨rfl, hd6, hb6⟩
            have HD6 := Lib.hid hd6
            have hb66 := HB5.out.trans hb6
            have HB6 := Lib.hid hb66
            have hcell6 := cell_below HB6.out HC0.out
            clear hd6 hb6 hb66
            have htk : (all ++ x).take s = all.take s := List.take_append_of_le_length hs
            have htl : (all ++ x).length ≤ 300 * (k + 1) := by rw [List.length_append]; omega
            have HTK := Lib.hid htk
            have HTL := Lib.hid htl
            clear htk htl
            have hno : KeepsRel w db (k + 1) (.string (str (all ++ x))) (.string (str (all.take s))) w6 := ⟨all ++ x, s, rfl, by rw [HTK.out], by rw [List.length_append]; omega, HTL.out, fun h => by omega, by rw [keepD_pos (by omega)]; exact HD6.out, HB6.out⟩
            have HNO := Lib.hid hno
            clear hno
            by_cases hm : k < M.length
            · obtain ⟨b2, o2, rfl, hc2⟩ := Rd.at H1.out (k := k) (by simpa using hm)
              have cm := cell_below HB6.out (hc2 k (by simpa using hm))
              simp only [List.getElem_map] at cm
              clear hc2
              cases hmk : M[k]
              · rw [hmk] at cm
                clear hmk
                go_wp2_with fail
                exact ⟨⟨k + 1, by omega, by omega, by go_num, HNO.out⟩, by simp [intOf]; omega⟩
              · rw [hmk] at cm
                clear hmk
                go_wp2_with fail
                go_fit (sync_B HD6.out HB6.out.size [102] (by decide) (kee_2 _))
                rintro e w7 ⟨rfl, hd7, hb7⟩
                have HD7 := Lib.hid hd7
                have HB7 := Lib.hid (HB6.out.trans hb7)
                clear hd7 hb7
                go_wp2_with fail
                exact ⟨⟨k + 1, by omega, by omega, by go_num, all ++ x, (all ++ x).length, rfl, by rw [List.take_length], Nat.le_refl _, HTL.out, fun h => by omega, by rw [keepD_pos (by omega)]; exact HD7.out, HB7.out⟩, by simp [intOf]; omega⟩
            · go_wp2_with fail
              exact ⟨⟨k + 1, by omega, by omega, by go_num, HNO.out⟩, by simp [intOf]; omega⟩
          · have d300 : decide ((300 : Int) < (x.length : Int)) = true := by simp; omega
            go_wp2_with fail
            go_fit (told3_any wr)
            rintro e w2 ⟨rfl, hb2⟩
            go_wp2_with fail
            go_ret
            exact ⟨rfl, HB.out.trans (hb2.mono HB.out.size)⟩
        · obtain rfl : k = 20 := by omega
          have d1 : decide ((20 : Int) < (L.length : Int)) = true := by simp; omega
          go_wp2_with fail
          go_meet
          exact ⟨20, .inr rfl, by omega, all, s, rfl, rfl, hs, hal, HZ.out, HD.out, HB.out⟩
      · obtain rfl : k = L.length := by omega
        go_wp2_with fail
        go_meet
        exact ⟨L.length, .inl rfl, hk2, all, s, rfl, rfl, hs, hal, HZ.out, HD.out, HB.out⟩
  case rest =>
    obtain ⟨n, hn, hn20, all, s, rfl, rfl, hs, hal, hz, hd, hb⟩ := hcut
    have HD := Lib.hid hd
    have HB := Lib.hid hb
    have HZ := Lib.hid hz
    clear hd hb hz
    obtain ⟨wA, hA⟩ : ∃ v, v = wc := ⟨_, rfl⟩
    subst hA
    by_cases h0 : L.length = 0
    · have t0 : ((L.length : Int) == 0) = true := by rw [beq_iff_eq]; omega
      clear hn h0
      go_wp2_with fail
      go_fit (told3_any wA)
      rintro e w2 ⟨rfl, hb2⟩
      go_wp2_with fail
      go_ret
      exact ⟨rfl, HB.out.trans (hb2.mono HB.out.size)⟩
    · have t0 : ((L.length : Int) == 0) = false := by rw [beq_eq_false_iff_ne]; omega
      have hd2 := HD.out
      rw [keepD_pos (by omega)] at hd2
      have HD2 := Lib.hid hd2
      have hst : (all.take s).length = s := by rw [List.length_take]; omega
      have HST := Lib.hid hst
      clear hn h0 hd2 hst
      go_wp2_with fail
      go_fit (crash_B HD2.out HB.out.size keep garble hk (kMap_one _ _ _))
      rintro e w3 ⟨rfl, hd3, hb3⟩
      have HD3 := Lib.hid hd3
      have HB3 := Lib.hid (HB.out.trans hb3)
      clear hd3 hb3
      have hkn := keepN_le keep ⟨all, s⟩ hs
      have hcl := crashF_len keep garble ⟨all, s⟩ hs
      have h6 := kee_6 keep garble ⟨all, s⟩ hs
      have hoff : garble = false → (crashF keep garble ⟨all, s⟩).b = all.take (keepN keep ⟨all, s⟩) := fun h => by rw [crashF_off keep garble _ (.inl h)]
      have hn : (s : Int) + max 0 (min keep ((all.length : Int) - (s : Int))) = (keepN keep ⟨all, s⟩ : Int) := by unfold keepN; simp only; omega
      generalize crashF keep garble ⟨all, s⟩ = f1 at *
      have hw1 : IntKind.i64.wrap ((s : Int) + max 0 (min keep ((all.length : Int) - (s : Int)))) = (keepN keep ⟨all, s⟩ : Int) := by rw [hn]; exact IntWalk.i64_in _ (by have := hkn.2; simp only at this; omega)
      have hkn2 : keepN keep ⟨all, s⟩ ≤ all.length := hkn.2
      have hkn1 : s ≤ keepN keep ⟨all, s⟩ := hkn.1
      generalize keepN keep ⟨all, s⟩ = m at *
      have HCL := Lib.hid hcl
      have H6 := Lib.hid h6
      have HOFF := Lib.hid hoff
      clear hcl h6 hoff hkn hn
      go_wp2_with fail
      go_fit (read_B HD3.out HB3.out.size [102] (by decide) (kee_3 _))
      rintro e w4 ⟨q4, c4, rfl, _, hd4, hb4⟩
      have HD4 := Lib.hid hd4
      have HB4 := Lib.hid (HB3.out.trans (hb4.mono HB3.out.size))
      clear hd4 hb4
      go_wp2_with fail
      go_fit (append_B HD4.out HB4.out.size (by simp) [102] [] (by decide) (Rd8.nil _ none) rfl (by simp) (kee_4 _))
      rintro e w5 ⟨rfl, hd5, hb5⟩
      have HD5 := Lib.hid hd5
      have HB5 := Lib.hid (HB4.out.trans hb5)
      clear hd5 hb5
      go_wp2_with fail
      go_fit (start_B HD5.out HB5.out.size)
      rintro e w6 ⟨rfl, hd6, hb6⟩
      have HD6 := Lib.hid hd6
      have HB6 := Lib.hid (HB5.out.trans hb6)
      clear hd6 hb6
      rw [if_pos rfl]
      go_wp2_with fail
      go_fit (read_BC HD6.out HB6.out.size [102] (by decide) (kee_5 _))
      rintro e w7 ⟨q7, c7, rfl, hr7, hcap, hd7, hb7⟩
      have HD7 := Lib.hid hd7
      have HB7 := Lib.hid (HB6.out.trans (hb7.mono HB6.out.size))
      have HR7 := Lib.hid hr7
      clear hr7 hd7 hb7
      rw [HCL.out.1] at hcap ⊢
      have hs7 := run_slice_to slB w7 q7 m c7 s (by omega)
      have hr7s := HR7.out.take s
      rw [show (f1.b.take s) = all.take s from H6.out] at hr7s
      have HR7S := Lib.hid hr7s
      have g1 := rg_below (w := w7) (fun u hu => told3_any u)
      have G1 := Lib.hid g1
      have v1 : ∀ d os, (convert 22 9 (.slice q7 m c7)).run Try.prog (Go.Sort.grow (redrawn w7 d) os) = .ok (.string (str f1.b)) (Go.Sort.grow (redrawn w7 d) os) := fun d os => by
        have h := run_b2s slB isB isS (cap := c7) (HR7.out.below (below_regrown w7 d os))
        rw [HCL.out.1] at h; exact h
      have HCM := Lib.hid HCL.out.2
      clear hr7s g1
      go_wp2_with (first
        | ((with_reducible refine L_b2s slB isB isS HR7S.out ?_ ?_ ?_); (focus rfl); (focus exact ⟨_, _, rfl, HST.out.symm⟩); simp only [Act.put, List.setIfInBounds_toArray, List.set_cons_zero, List.set_cons_succ])
        | (go_at_call 22; refine (synced_B HD7.out).mono ?_; rw [HCM.out]; rintro e w8 ⟨rfl, rfl⟩))
      cases garble
      · have hf1 : f1.b = all.take m := HOFF.out rfl
        rw [hf1] at v1
        clear hf1
        refine wp_region_quiet_below (by kernel_rfl) (by kernel_rfl) ?_; (repeat (first | go_big_quiet_step (first | with_reducible exact G1.out _ _ | fail) | quiet_step (first | with_reducible exact G1.out _ _ | fail))); refine wpQuiet_nil ?_; intro _ hw'; obtain ⟨⟨dq, osq⟩, hw''⟩ := hw'; subst hw''; have hq := below_regrown w7 dq osq; generalize Go.Sort.grow (redrawn w7 dq) osq = wz at *; clear dq osq
        go_wp2_with fail
        go_ret
        exact ⟨rfl, HB7.out.trans (hq.mono HB7.out.size)⟩
      · refine wp_region_quiet_below (by kernel_rfl) (by kernel_rfl) ?_; (repeat (first | go_big_quiet_step (first | with_reducible exact G1.out _ _ | fail) | quiet_step (first | with_reducible exact G1.out _ _ | fail))); refine wpQuiet_nil ?_; intro _ hw'; obtain ⟨⟨dq, osq⟩, hw''⟩ := hw'; subst hw''; have hq := below_regrown w7 dq osq; generalize Go.Sort.grow (redrawn w7 dq) osq = wz at *; clear dq osq
        go_wp2_with fail
        go_ret
        exact ⟨rfl, HB7.out.trans (hq.mono HB7.out.size)⟩
end Go.Proofs.Ytadnabgnbhpijaa
