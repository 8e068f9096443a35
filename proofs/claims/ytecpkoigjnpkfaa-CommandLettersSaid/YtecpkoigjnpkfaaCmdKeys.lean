/- The walk over command.Keys. -/
import Derived.Test.YtecpkoigjnpkfaaCmdTexts
set_option linter.unusedSimpArgs false
set_option linter.unusedVariables false
namespace Go.Proofs.Ytecpkoigjnpkfaa
open Go.RowKit Cmd

theorem slVS : SlT Try.prog 22 9 1 16 := SlT.of (z := .string .empty) (by kernel_rfl) rfl (by decide) Try.underlying22
theorem one_one (x : List UInt8) : ∀ u ∈ [Value.string (str x)], u.oneCell' = true := by simp [Value.oneCell']
theorem stc_single (x : List UInt8) : stc [x] = [.string (str x)] := rfl
theorem rows_keys : rowsL.all (fun r => decide (0 ≤ r.first) && (decide (r.first = 0 ∧ r.last = 0) || decide (r.first = 1 ∧ 1 ≤ r.step ∧ r.step ≤ 2 ∧ -2 ≤ r.last ∧ r.last ≤ 2 ∧ (r.last < 0 → 0 ≤ r.least + r.last) ∧ (0 ≤ r.last → r.last < r.least)))) = true := by decide +kernel
theorem row_keys {r : CRow} (h : r ∈ rowsL) : (r.first = 0 ∧ r.last = 0) ∨ (r.first = 1 ∧ 1 ≤ r.step ∧ r.step ≤ 2 ∧ -2 ≤ r.last ∧ r.last ≤ 2 ∧ (r.last < 0 → 0 ≤ r.least + r.last) ∧ (0 ≤ r.last → r.last < r.least)) := by
  have := List.all_eq_true.1 rows_keys r h
  simp only [Bool.and_eq_true, Bool.or_eq_true, decide_eq_true_iff] at this
  exact this.2
theorem keysP_no {a : List (List UInt8)} (h : fitsP a ≠ 0) : keysP a = [] := by
  cases a with
  | nil => rfl
  | cons x a =>
    cases hf : findP x with
    | none => simp [keysP, hf]
    | some r =>
      have : ¬ fitsR r (x :: a).length = 0 := by simpa [fitsP, hf] using h
      simp only [keysP, hf]
      rw [if_neg this]
theorem fits_some {a : List (List UInt8)} (h : fitsP a = 0) : ∃ x a' r, a = x :: a' ∧ findP x = some r ∧ fitsR r a.length = 0 ∧ keysP a = keysR r a := by
  cases a with
  | nil => exact absurd h (by decide)
  | cons x a =>
    cases hf : findP x with
    | none => simp [fitsP, hf] at h
    | some r =>
      have h' : fitsR r (x :: a).length = 0 := by simpa [fitsP, hf] using h
      refine ⟨x, a, r, rfl, hf, h', ?_⟩
      simp only [keysP, hf]
      rw [if_pos h']
theorem fitsR_least {r : CRow} {n : Nat} (h : fitsR r n = 0) : r.least ≤ (n : Int) ∧ (r.most = 0 ∨ r.most < 0 ∨ (n : Int) ≤ r.most) := by
  unfold fitsR at h
  split at h
  · exact absurd h (by decide)
  · rename_i hc
    refine ⟨by have := fun h => hc (.inl h); omega, ?_⟩
    have := fun h => hc (.inr (.inl h))
    omega
theorem keysFrom_in {a : List (List UInt8)} {last step fuel i : Nat} (h : i ≤ last) : keysFrom a last step (fuel + 1) i = a.getD i [] :: keysFrom a last step fuel (i + step) := by
  rw [keysFrom, if_pos h]
theorem keysFrom_out {a : List (List UInt8)} {last step fuel i : Nat} (h : last < i) : keysFrom a last step fuel i = [] := by
  cases fuel with
  | zero => rfl
  | succ f => rw [keysFrom, if_neg (by omega)]
theorem wrap_nat (k st : Nat) (h : k + st ≤ 100000) : wrap64 ((k : Int) + (st : Int)) = ((k + st : Nat) : Int) := by unfold wrap64; omega
/-- where the loop of the keys stands -/
def KeysRel (w0 : World) (a : List (List UInt8)) (last step : Nat) (out i : Value) (wr : World) : Prop :=
  ∃ (k fuel m : Nat) (ks : List (List UInt8)), i = .int .i64 (k : Int) ∧ m = ks.length ∧ m ≤ k ∧ k ≤ last + 2 ∧ last + 1 ≤ fuel + k ∧ ks ++ keysFrom a last step fuel k = keysFrom a last step a.length 1 ∧ OwnS wr w0.heap.size 9 1 out m (stc ks) ∧ Below w0.heap.size w0 wr
set_option maxHeartbeats 2000000 in
set_option maxRecDepth 20000 in
theorem keys_any (p : Option Addr) (n c : Nat) (a : List (List UInt8)) (hn : n = a.length) (hs : n ≤ 1000) (ht : ∀ x ∈ a.head?, x.length ≤ 1048576) (w : World) (hr : Rd w p (stc a)) :
    Calls Try.prog 10 #[.slice p n c] w fun e w' => ∃ v, e = .returned v ∧ OwnS w' w.heap.size 9 1 v (keysP a).length (stc (keysP a)) ∧ Below w.heap.size w w' := by
  have HFA := Lib.hid (fits_any p n c a hn hs ht w hr)
  obtain ⟨F, hF⟩ : ∃ F, fitsP a = F := ⟨_, rfl⟩
  rw [hF] at HFA
  have HF := Lib.hid hF
  clear hF
  by_cases h0 : F = 0
  · subst h0
    obtain ⟨x, a', r, hax, hfd, hfr, hkr⟩ := fits_some HF.out
    rw [hkr]
    obtain ⟨KS, hKS⟩ : ∃ v, keysR r a = v := ⟨_, rfl⟩
    rw [hKS]
    have HKS := Lib.hid hKS
    clear hKS
    have hmem := foundR_mem hfd
    have hrk := row_keys hmem
    obtain ⟨hl1, -⟩ := fitsR_least hfr
    rw [← hn] at hl1
    have hn1 : 1 ≤ n := by rw [hn, hax, List.length_cons]; omega
    obtain ⟨b, o, rfl, hcc⟩ := hr.at (k := 0) (by rw [hax]; simp [stc])
    have c0 : ∀ u, Below w.heap.size w u → u.cell? ⟨b, o, none⟩ = some (.string (str x)) := by
      intro u hu
      obtain ⟨b', o', e1, hu'⟩ := (hr.below hu).at (k := 0) (by rw [hax]; simp [stc])
      cases e1
      have := hu' 0 (by rw [hax]; simp [stc])
      simpa [hax, stc] using this
    have HFI := Lib.hid (find_any x (ht x (by rw [hax]; rfl)))
    have HR := Lib.hid hr
    have HFD := Lib.hid hfd
    have HK := Lib.hid hrk
    have HN := Lib.hid hn
    have HC0 := Lib.hid c0
    have HT := Lib.hid ht
    have i0 : (0 : Int) < (n : Int) := by omega
    clear hr hfd hrk hn c0 ht hcc hax hkr hmem hfr
    go_enter Try.func10, Try.ntmps10
    go_wp2_with fail
    go_fit HFA.out
    rintro e w1 ⟨rfl, hb1⟩
    have c1 := HC0.out w1 hb1
    have HB1 := Lib.hid hb1
    clear hb1
    go_wp2_with fail
    go_fit (HFI.out _)
    rintro e w2 ⟨rfl, hb2⟩
    rw [HFD.out]
    rw [show (cellsR (foundR (some r))).toArray = #[.string (str r.name), .int .i64 r.least, .int .i64 r.most, .bool r.write, .int .i64 r.first, .int .i64 r.last, .int .i64 r.step] from rfl, show Option.isSome (some r) = true from rfl]
    have hb12 : Below w.heap.size w w2 := HB1.out.trans (hb2.mono HB1.out.size)
    have HB2 := Lib.hid hb12
    clear hb2 hb12
    go_upto_region 4 with (fail)
    have hwr : (w2.alloc (.cells #[.string (str r.name), .int .i64 r.least, .int .i64 r.most, .bool r.write, .int .i64 r.first, .int .i64 r.last, .int .i64 r.step] 27)).heap[w2.heap.size]? = some (.cells #[.string (str r.name), .int .i64 r.least, .int .i64 r.most, .bool r.write, .int .i64 r.first, .int .i64 r.last, .int .i64 r.step] 27 (0, 0)) := heap_alloc_new _ _
    have hb0 : Below w.heap.size w (w2.alloc (.cells #[.string (str r.name), .int .i64 r.least, .int .i64 r.most, .bool r.write, .int .i64 r.first, .int .i64 r.last, .int .i64 r.step] 27)) := HB2.out.alloc HB2.out.size _
    have hsz : (w2.alloc (.cells #[.string (str r.name), .int .i64 r.least, .int .i64 r.most, .bool r.write, .int .i64 r.first, .int .i64 r.last, .int .i64 r.step] 27)).heap.size = w2.heap.size + 1 := by go_simp
    change Code.wp _ _ _ _ (w2.alloc (.cells #[.string (str r.name), .int .i64 r.least, .int .i64 r.most, .bool r.write, .int .i64 r.first, .int .i64 r.last, .int .i64 r.step] 27))
    generalize w2.alloc (.cells #[.string (str r.name), .int .i64 r.least, .int .i64 r.most, .bool r.write, .int .i64 r.first, .int .i64 r.last, .int .i64 r.step] 27) = w0 at *
    obtain ⟨vb, hvb⟩ : ∃ v, v = w2.heap.size := ⟨_, rfl⟩
    rw [← hvb] at hwr hsz ⊢
    have hcell : ∀ u, Below w0.heap.size w0 u → u.cell? ⟨vb, 4, none⟩ = some (.int .i64 r.first) ∧ u.cell? ⟨vb, 5, none⟩ = some (.int .i64 r.last) ∧ u.cell? ⟨vb, 6, none⟩ = some (.int .i64 r.step) := by
      intro u hu
      have hrow : u.heap[vb]? = _ := (hu.block vb (by omega)).trans hwr
      refine ⟨?_, ?_, ?_⟩ <;> simp [World.cell?, hrow]
    have HC := Lib.hid hcell
    have HB0 := Lib.hid hb0
    have HRR := Lib.hid (HR.out.below hb0)
    clear hwr hsz hcell hb0 hvb HR HC0 HFI HB1 HB2 HFA HT
    obtain ⟨q4, q5, q6⟩ := HC.out w0 (Below.refl _ _)
    have hkeys : KS = if 0 < r.first then keysFrom a (lastR r n).toNat r.step.toNat a.length r.first.toNat else [] := by rw [← HKS.out, HN.out]; rfl
    rcases HK.out with ⟨hf, hl⟩ | ⟨hf, hs1, hs2, hl2, hl3, hl4, hl5⟩
    · rw [hf] at q4 hkeys HC
      rw [if_neg (by decide)] at hkeys
      subst hkeys
      rw [hl] at q5
      clear HK HRR hf hl
      go_wp2_with fail
      go_loopw [6, 7] (fun out i wr => out = .slice none 0 0 ∧ wr = w0) (fun _ _ _ => 0)
      case atStart => exact ⟨rfl, rfl⟩
      case round =>
        obtain ⟨rfl, rfl⟩ := hrel
        go_wp2_with fail
        go_ret
        exact ⟨_, rfl, OwnS.none, HB0.out⟩
    · rw [hf] at q4 hkeys HC
      rw [if_pos (by decide)] at hkeys
      obtain ⟨la, hla⟩ : ∃ la : Nat, (lastR r n) = (la : Int) := by
        refine ⟨(lastR r n).toNat, ?_⟩
        unfold lastR; split <;> omega
      obtain ⟨st, hst⟩ : ∃ st : Nat, r.step = (st : Int) := ⟨r.step.toNat, by omega⟩
      have hlan : la < n := by
        unfold lastR at hla; split at hla <;> omega
      rw [hla, hst, Int.toNat_natCast, Int.toNat_natCast, show Int.toNat 1 = 1 from rfl] at hkeys
      rw [hst] at q6 HC
      have HLA := Lib.hid hla
      have HKY := Lib.hid hkeys
      have HHY := Lib.hid (show _ ∧ _ ∧ _ ∧ _ from ⟨hs1, hs2, hl2, hl3⟩)
      clear hla hkeys hs1 hs2 hl2 hl3
      by_cases hL : r.last < 0
      · have dL : decide (r.last < 0) = true := decide_eq_true hL
        have he : (n : Int) + r.last = (la : Int) := by have := HLA.out; unfold lastR at this; rw [if_pos hL] at this; exact this
        have hb1 : (-2 : Int) ≤ r.last := HHY.out.2.2.1
        clear hl4 hl5
        go_wp2_with fail
        go_loopw [6, 7] (KeysRel w0 a la st) (fun _ i _ => la + 2 - (intOf i).toNat)
        case atStart => exact ⟨1, n, 0, [], rfl, rfl, by omega, by omega, by omega, by rw [HN.out]; rfl, OwnS.none, Below.refl _ _⟩
        case round =>
          obtain ⟨k, fuel, m, ks, rfl, hm, hmk, hkl, hfu, hks, ho, hb⟩ := hrel
          obtain ⟨px, cx, rfl, -, -⟩ := ho.shape
          obtain ⟨r4, r5, r6⟩ := HC.out wr hb
          have HB := Lib.hid hb
          have HO := Lib.hid ho
          have HM := Lib.hid hm
          have HKS2 := Lib.hid hks
          have hz := hb.size
          by_cases hkla : k ≤ la
          · have i1 : (0 : Int) ≤ (k : Int) := by omega
            have i2 : (k : Int) < (n : Int) := by omega
            have d1 : decide ((k : Int) ≤ (la : Int)) = true := by rw [decide_eq_true_iff]; omega
            have hka : k < a.length := by rw [← HN.out]; omega
            obtain ⟨bx, ox, e1, hcc⟩ := (HRR.out.below hb).at (k := k) (by simp [stc]; exact hka)
            cases e1
            have ck := hcc k (by simp [stc]; exact hka)
            simp only [stc, List.getElem_map] at ck
            have hget : a.getD k [] = a[k] := by simp [hka]
            have HG := Lib.hid hget
            clear hcc ho hb hm hks hget r5
            generalize a[k] = y at *
            go_wp2_with ((with_reducible refine L_appR (m := 1) slVS Try.underlying22 (HO.out.alloc _) (Rd.one wr (.string (str y)) 9) (one_one y) rfl ?_ ?_ ?_ ?_ ?_); (focus rfl); (focus rfl); (focus exact ⟨_, rfl⟩); (focus exact ⟨room1 (by omega), by omega, by go_simp; omega⟩); intro v2 w3 ho2 hg2 hk2 hn2; clear hn2; have hb2 := App.below hg2 (HB.out.alloc HB.out.size _) (by go_simp; omega) hk2; clear hg2 hk2; have HO2 := Lib.hid ho2; have HB2 := Lib.hid hb2; have r7 := (HC.out _ hb2).2.2; clear ho2 hb2; simp only [Act.put, List.setIfInBounds_toArray, List.set_cons_zero, List.set_cons_succ])
            obtain ⟨f1, hf1⟩ : ∃ f1, fuel = f1 + 1 := ⟨fuel - 1, by omega⟩
            subst hf1
            have hst2 : 1 ≤ st ∧ st ≤ 2 := by have := HHY.out; omega
            have hwk : wrap64 ((k : Int) + (st : Int)) = ((k + st : Nat) : Int) := wrap_nat k st (by omega)
            have HWK := Lib.hid hwk
            clear hwk
            have g1 : Value.int IntKind.i64 (wrap64 ((k:Int) + (st:Int))) = .int .i64 ((k + st : Nat) : Int) := by rw [HWK.out]
            have g2 : m + 1 = (ks ++ [y]).length := by rw [HM.out]; simp
            have g3 : m + 1 ≤ k + st := by omega
            have g4 : k + st ≤ la + 2 := by omega
            have g5 : la + 1 ≤ f1 + (k + st) := by omega
            have g6 := HKS2.out
            rw [keysFrom_in hkla, HG.out] at g6
            have g7 : (ks ++ [y]) ++ keysFrom a la st f1 (k + st) = keysFrom a la st a.length 1 := by rw [← g6, List.append_assoc]; rfl
            have g8 := HO2.out
            rw [← stc_single, ← stc_append] at g8
            have g9 : la + 2 - (intOf (Value.int IntKind.i64 (wrap64 ((k:Int) + (st:Int))))).toNat < la + 2 - (intOf (Value.int IntKind.i64 (k:Int))).toNat := by rw [HWK.out]; simp only [intOf]; omega
            exact ⟨⟨k + st, f1, m + 1, ks ++ [y], g1, g2, g3, g4, g5, g7, g8, HB2.out⟩, g9⟩
          · have d1 : decide ((k : Int) ≤ (la : Int)) = false := by rw [decide_eq_false_iff_not]; omega
            have hfin : ks = KS := by
              have := hks
              rw [keysFrom_out (by omega), List.append_nil, ← HKY.out] at this
              exact this
            have HFI := Lib.hid hfin
            clear hfin hks ho hb
            go_wp2_with fail
            go_ret
            refine ⟨_, rfl, ?_, HB0.out.trans (HB.out.mono HB0.out.size)⟩
            rw [← HFI.out, ← HM.out]
            exact HO.out.rebase HB0.out.size
      · have dL : decide (r.last < 0) = false := decide_eq_false hL
        have he : r.last = (la : Int) := by have := HLA.out; unfold lastR at this; rw [if_neg hL] at this; exact this
        rw [he] at q5 dL
        clear hl4 hl5
        go_wp2_with fail
        go_loopw [6, 7] (KeysRel w0 a la st) (fun _ i _ => la + 2 - (intOf i).toNat)
        case atStart => exact ⟨1, n, 0, [], rfl, rfl, by omega, by omega, by omega, by rw [HN.out]; rfl, OwnS.none, Below.refl _ _⟩
        case round =>
          obtain ⟨k, fuel, m, ks, rfl, hm, hmk, hkl, hfu, hks, ho, hb⟩ := hrel
          obtain ⟨px, cx, rfl, -, -⟩ := ho.shape
          obtain ⟨r4, r5, r6⟩ := HC.out wr hb
          have HB := Lib.hid hb
          have HO := Lib.hid ho
          have HM := Lib.hid hm
          have HKS2 := Lib.hid hks
          have hz := hb.size
          by_cases hkla : k ≤ la
          · have i1 : (0 : Int) ≤ (k : Int) := by omega
            have i2 : (k : Int) < (n : Int) := by omega
            have d1 : decide ((k : Int) ≤ (la : Int)) = true := by rw [decide_eq_true_iff]; omega
            have hka : k < a.length := by rw [← HN.out]; omega
            obtain ⟨bx, ox, e1, hcc⟩ := (HRR.out.below hb).at (k := k) (by simp [stc]; exact hka)
            cases e1
            have ck := hcc k (by simp [stc]; exact hka)
            simp only [stc, List.getElem_map] at ck
            have hget : a.getD k [] = a[k] := by simp [hka]
            have HG := Lib.hid hget
            clear hcc ho hb hm hks hget r5
            generalize a[k] = y at *
            go_wp2_with ((with_reducible refine L_appR (m := 1) slVS Try.underlying22 (HO.out.alloc _) (Rd.one wr (.string (str y)) 9) (one_one y) rfl ?_ ?_ ?_ ?_ ?_); (focus rfl); (focus rfl); (focus exact ⟨_, rfl⟩); (focus exact ⟨room1 (by omega), by omega, by go_simp; omega⟩); intro v2 w3 ho2 hg2 hk2 hn2; clear hn2; have hb2 := App.below hg2 (HB.out.alloc HB.out.size _) (by go_simp; omega) hk2; clear hg2 hk2; have HO2 := Lib.hid ho2; have HB2 := Lib.hid hb2; have r7 := (HC.out _ hb2).2.2; clear ho2 hb2; simp only [Act.put, List.setIfInBounds_toArray, List.set_cons_zero, List.set_cons_succ])
            obtain ⟨f1, hf1⟩ : ∃ f1, fuel = f1 + 1 := ⟨fuel - 1, by omega⟩
            subst hf1
            have hst2 : 1 ≤ st ∧ st ≤ 2 := by have := HHY.out; omega
            have hwk : wrap64 ((k : Int) + (st : Int)) = ((k + st : Nat) : Int) := wrap_nat k st (by omega)
            have HWK := Lib.hid hwk
            clear hwk
            have g1 : Value.int IntKind.i64 (wrap64 ((k:Int) + (st:Int))) = .int .i64 ((k + st : Nat) : Int) := by rw [HWK.out]
            have g2 : m + 1 = (ks ++ [y]).length := by rw [HM.out]; simp
            have g3 : m + 1 ≤ k + st := by omega
            have g4 : k + st ≤ la + 2 := by omega
            have g5 : la + 1 ≤ f1 + (k + st) := by omega
            have g6 := HKS2.out
            rw [keysFrom_in hkla, HG.out] at g6
            have g7 : (ks ++ [y]) ++ keysFrom a la st f1 (k + st) = keysFrom a la st a.length 1 := by rw [← g6, List.append_assoc]; rfl
            have g8 := HO2.out
            rw [← stc_single, ← stc_append] at g8
            have g9 : la + 2 - (intOf (Value.int IntKind.i64 (wrap64 ((k:Int) + (st:Int))))).toNat < la + 2 - (intOf (Value.int IntKind.i64 (k:Int))).toNat := by rw [HWK.out]; simp only [intOf]; omega
            exact ⟨⟨k + st, f1, m + 1, ks ++ [y], g1, g2, g3, g4, g5, g7, g8, HB2.out⟩, g9⟩
          · have d1 : decide ((k : Int) ≤ (la : Int)) = false := by rw [decide_eq_false_iff_not]; omega
            have hfin : ks = KS := by
              have := hks
              rw [keysFrom_out (by omega), List.append_nil, ← HKY.out] at this
              exact this
            have HFI := Lib.hid hfin
            clear hfin hks ho hb
            go_wp2_with fail
            go_ret
            refine ⟨_, rfl, ?_, HB0.out.trans (HB.out.mono HB0.out.size)⟩
            rw [← HFI.out, ← HM.out]
            exact HO.out.rebase HB0.out.size
  · have d0 : (F == 0) = false := by rw [beq_eq_false_iff_ne]; exact h0
    rw [keysP_no (by rw [HF.out]; exact h0)]
    clear h0 hr hn ht
    go_enter Try.func10, Try.ntmps10
    go_wp2_with fail
    go_fit HFA.out
    rintro e w1 ⟨rfl, hb1⟩
    have HB1 := Lib.hid hb1
    clear hb1
    go_wp2_with fail
    go_ret
    exact ⟨_, rfl, OwnS.none, HB1.out⟩
end Go.Proofs.Ytecpkoigjnpkfaa
