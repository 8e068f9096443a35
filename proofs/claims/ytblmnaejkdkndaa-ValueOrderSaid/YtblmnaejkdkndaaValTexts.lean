/- The walks over value.texts, value.count and value.Len. -/
import Derived.Test.YtblmnaejkdkndaaValRise
import Derived.Lib.BufferMore
set_option linter.unusedSimpArgs false
set_option linter.unusedVariables false
namespace Go.Proofs.Ytblmnaejkdkndaa
open Go.RowKit

theorem slVS : SlT Try.prog 24 9 1 16 := SlT.of (z := .string .empty) (by kernel_rfl) rfl (by decide) Try.underlying24
/-- strings, as cells -/
def sts (L : List (List UInt8)) : List Value := L.map fun l => .string (str l)
theorem sts_append (L M : List (List UInt8)) : sts (L ++ M) = sts L ++ sts M := by simp [sts]
theorem sts_mul (L : List (List UInt8)) : (sts L).length = L.length * 1 := by simp [sts]
theorem sts_one (L : List (List UInt8)) : ∀ u ∈ sts L, u.oneCell' = true := by
  intro u hu
  obtain ⟨_, _, rfl⟩ := List.mem_map.1 hu
  rfl
/-- a value, as cells -/
abbrev valC (k : Int) (t : ByteArray) (a b c d : Value) : Array Value := #[.int .i64 k, .string t, a, b, c, d]

/-! ### slices.Clone -/
set_option maxRecDepth 20000 in
theorem clone_nil (w : World) : Calls Try.prog 53 #[.slice none 0 0] w fun e w' => e = .returned (.slice none 0 0) ∧ w = w' := by
  have hq := fun u => Lib.run_eql_slice_nil_nil (P := Try.prog) u 0 0 Try.underlying24
  go_enter Try.func53, Try.ntmps53
  go_wp2_with fail
  go_ret
  exact ⟨rfl, rfl⟩
set_option maxHeartbeats 1000000 in
set_option maxRecDepth 20000 in
theorem clone_some (a : Addr) (n cap : Nat) (L : List (List UInt8)) (hn : n = L.length) (hs : n ≤ 1048576) (w : World) (hr : Rd w (some a) (sts L)) :
    Calls Try.prog 53 #[.slice (some a) n cap] w fun e w' => ∃ v, e = .returned v ∧ OwnS w' w.heap.size 9 1 v n (sts L) ∧ Below w.heap.size w w' := by
  subst hn
  have HR := Lib.hid (hr.alloc (.cells #[] 9))
  have hq := fun u => Lib.run_eql_slice_some_nil (P := Try.prog) u a L.length cap Try.underlying24
  clear hr
  go_enter Try.func53, Try.ntmps53
  go_wp2_with ((with_reducible refine L_appR slVS Try.underlying24 (OwnS.fresh (base := w.heap.size) (Nat.le_refl _)) HR.out (sts_one _) (sts_mul _) ?_ ?_ ?_ ?_ ?_); (focus rfl); (focus rfl); (focus exact ⟨_, rfl⟩); (focus exact ⟨room1 (by omega), by omega, by simp⟩); intro v1 w1 ho1 hg1 hk1 hn1; clear hn1; have hb1 := App.below hg1 ((Below.refl w.heap.size w).alloc (Nat.le_refl _) _) (by simp) hk1; clear hg1 hk1; (try simp only [Nat.zero_add, List.nil_append] at ho1); have HO1 := Lib.hid ho1; clear ho1; simp only [Act.put, List.setIfInBounds_toArray, List.set_cons_zero, List.set_cons_succ])
  go_ret
  exact ⟨v1, rfl, HO1.out, hb1⟩
theorem clone_any (p : Option Addr) (n cap : Nat) (L : List (List UInt8)) (hn : n = L.length) (hs : n ≤ 1048576) (h0 : p = none → n = 0 ∧ cap = 0) (w : World) (hr : Rd w p (sts L)) :
    Calls Try.prog 53 #[.slice p n cap] w fun e w' => ∃ v, e = .returned v ∧ OwnS w' w.heap.size 9 1 v n (sts L) ∧ Below w.heap.size w w' := by
  cases p with
  | some a => exact clone_some a n cap L hn hs w hr
  | none =>
    obtain ⟨rfl, rfl⟩ := h0 rfl
    obtain rfl : L = [] := List.eq_nil_of_length_eq_zero hn.symm
    refine (clone_nil w).mono ?_
    rintro e w' ⟨rfl, rfl⟩
    exact ⟨_, rfl, OwnS.none, Below.refl _ _⟩

/-! ### value.texts -/
theorem Rd.two (w : World) (x y : Value) (t : TypeId) : Rd (w.alloc (.cells #[x, y] t)) (some ⟨w.heap.size, 0, none⟩) [x, y] :=
  Rd.of_row (heap_alloc_new w _) 0 (by simp)
/-- names, each with an empty text behind it -/
def two (N : List (List UInt8)) : List (List UInt8) := N.flatMap fun n => [n, []]
theorem two_len : ∀ N : List (List UInt8), (two N).length = N.length * 2
  | [] => rfl
  | p :: N => by
    have ih := two_len N
    simp only [two, List.flatMap_cons, List.length_append, List.length_cons, List.length_nil] at ih ⊢
    omega
theorem two_succ (N : List (List UInt8)) (k : Nat) (h : k < N.length) : two (N.take (k + 1)) = two (N.take k) ++ [N[k], []] := by
  rw [List.take_succ_eq_append_getElem h]; unfold two; rw [List.flatMap_append]; rfl
theorem sts_pair (x : List UInt8) : sts [x, []] = [.string (str x), .string ⟨#[]⟩] := rfl
theorem sts_single (x : List UInt8) : sts [x] = [.string (str x)] := rfl
theorem run_store_cx (u : World) (a : Addr) : (store a (.complex .f64 0 0)).run Try.prog u = stored Try.prog u a (.complex .f64 0 0) .plain := run_store _ u a _ .plain rfl
theorem one_succ (N : List (List UInt8)) (k : Nat) (h : k < N.length) : N.take (k + 1) = N.take k ++ [N[k]] := List.take_succ_eq_append_getElem h
theorem Rd.two2 (w : World) (o : Obj) (x y : Value) (t : TypeId) : Rd ((w.alloc o).alloc (.cells #[x, y] t)) (some ⟨w.heap.size + 1, 0, none⟩) [x, y] := by
  have h := Rd.two (w.alloc o) x y t
  have e : (w.alloc o).heap.size = w.heap.size + 1 := by go_simp
  rw [e] at h
  exact h
theorem Rd.one2 (w : World) (o : Obj) (x : Value) (t : TypeId) : Rd ((w.alloc o).alloc (.cells #[x] t)) (some ⟨w.heap.size + 1, 0, none⟩) [x] := by
  have h := Rd.one (w.alloc o) x t
  have e : (w.alloc o).heap.size = w.heap.size + 1 := by go_simp
  rw [e] at h
  exact h
theorem two_one (x : List UInt8) : ∀ u ∈ [Value.string (str x), Value.string ⟨#[]⟩], u.oneCell' = true := by simp [Value.oneCell']
theorem one_one (x : List UInt8) : ∀ u ∈ [Value.string (str x)], u.oneCell' = true := by simp [Value.oneCell']
/-- where a loop of texts stands -/
def TxAt (w0 : World) (f : Nat → List (List UInt8)) (n : Nat) (out i : Value) (wr : World) : Prop :=
  ∃ k m : Nat, k ≤ n ∧ m = (f k).length ∧ i = .int .i64 (k : Int) ∧ OwnS wr w0.heap.size 9 1 out m (sts (f k)) ∧ Below w0.heap.size w0 wr

set_option maxHeartbeats 4000000 in
set_option maxRecDepth 20000 in
theorem texts_any (kd : Int) (t : ByteArray) (pl : Option Addr) (nl cl : Nat) (L : List (List UInt8)) (pf : Option Addr) (nf cf : Nat) (F : List (List UInt8)) (ps : Option Addr) (ns cs : Nat) (S : List (List UInt8)) (pp : Option Addr) (np cp : Nat) (M : List (List UInt8))
    (hnl : nl = L.length) (hnf : nf = F.length) (hns : ns = S.length) (hnp : np = M.length) (hsm : nl ≤ 1048576 ∧ nf ≤ 1048576 ∧ ns ≤ 1048576 ∧ np ≤ 1048576) (h0 : pl = none → nl = 0 ∧ cl = 0) (w : World)
    (hr : Rd w pl (sts L)) (hrf : Rd w pf (el2 (.string ⟨#[]⟩) F)) (hrs : Rd w ps (el2 (.int .i64 7) S)) (hrp : Rd w pp (el2 (.complex .f64 0 0) M)) :
    Calls Try.prog 26 #[.agg (valC kd t (.slice pl nl cl) (.slice pf nf cf) (.slice ps ns cs) (.slice pp np cp))] w fun e w' =>
      ∃ v, e = .returned v ∧ OwnS w' w.heap.size 9 1 v (L ++ two F ++ S ++ M).length (sts (L ++ two F ++ S ++ M)) ∧ Below w.heap.size w w' := by
  subst hnl hnf hns hnp
  obtain ⟨s1, s2, s3, s4⟩ := hsm
  have HL0 := Lib.hid hr
  have HR1 := Lib.hid hrf
  have HR2 := Lib.hid hrs
  have HR3 := Lib.hid hrp
  have H0 := Lib.hid h0
  clear hr hrf hrs hrp h0
  go_enter Try.func26, Try.ntmps26
  go_wp2_with fail
  go_fit (clone_any pl L.length cl L rfl s1 H0.out _ (HL0.out.alloc _))
  rintro e w1 ⟨v1, rfl, ho1, hb1⟩
  obtain ⟨w0, hw0⟩ : ∃ v, v = w.alloc (.cells #[.int .i64 kd, .string t, .slice pl L.length cl, .slice pf F.length cf, .slice ps S.length cs, .slice pp M.length cp] 29) := ⟨_, rfl⟩
  have hb0 : Below w.heap.size w w0 := by subst hw0; repeat (first | exact Below.refl _ _ | refine grewA ?_ _ | refine Below.drew ?_ | refine grew ?_ (by assumption))
  have hs0 : w0.heap.size = w.heap.size + 1 := by subst hw0; go_simp
  have hrow : w0.heap[w.heap.size]? = some (.cells #[.int .i64 kd, .string t, .slice pl L.length cl, .slice pf F.length cf, .slice ps S.length cs, .slice pp M.length cp] 29 (0, 0)) := by rw [hw0]; exact heap_alloc_new w _
  rw [← hw0] at hb1 ho1
  clear hw0
  have hk : ∀ u, Below w0.heap.size w0 u → u.cell? ⟨w.heap.size, 3, none⟩ = some (.slice pf F.length cf) ∧ u.cell? ⟨w.heap.size, 4, none⟩ = some (.slice ps S.length cs) ∧ u.cell? ⟨w.heap.size, 5, none⟩ = some (.slice pp M.length cp) := by
    intro u hu
    have hlt : w.heap.size < w0.heap.size := by omega
    refine ⟨?_, ?_, ?_⟩ <;> (rw [hu.cell hlt]; simp [World.cell?, hrow])
  have HK := Lib.hid hk
  have HW := Lib.hid hb0
  have HS0 := Lib.hid hs0
  have hat : ∀ {p : Option Addr} {xs : List Value}, Rd w p xs → ∀ u, Below w0.heap.size w0 u → Rd u p xs := fun h u hu => (h.below hb0).below hu
  have HAT := Lib.hid (fun p xs => @hat p xs)
  obtain ⟨q3, q4, q5⟩ := hk _ hb1
  have HO1 := Lib.hid ho1
  have HB1 := Lib.hid hb1
  clear hk hb0 hrow ho1 hb1 hat hs0
  go_wp2_with fail
  go_loopw [3, 16] (TxAt w0 (fun k => L ++ two (F.take k)) F.length) (fun _ i _ => F.length - (intOf i).toNat)
  case atStart => exact ⟨0, L.length, by omega, by simp [two], rfl, by simpa [two] using HO1.out, HB1.out⟩
  case round =>
    obtain ⟨k, m, hk, hm, rfl, ho, hb⟩ := hrel
    obtain ⟨px, cx, rfl, -, -⟩ := ho.shape
    have hms : m ≤ 8388608 := by
      rw [hm]; simp only [List.length_append, two_len, List.length_take]; omega
    have hz := hb.size
    have HM := Lib.hid hm
    have HB := Lib.hid hb
    have HO := Lib.hid ho
    have HK1 := Lib.hid (HK.out wr hb)
    clear hm
    by_cases hkl : k < F.length
    · obtain ⟨bf, of, rfl, hcc⟩ := rd_el2 (HAT.out _ _ HR1.out wr hb) hkl
      obtain ⟨c0, c1⟩ := hcc k hkl
      have hto := two_succ F k hkl
      have HTO := Lib.hid hto
      have i0 : (k : Int) < (F.length : Int) := by omega
      have i1 : (0 : Int) ≤ (k : Int) := by omega
      clear hcc ho hb hto
      generalize F[k]'hkl = x at *
      go_wp2_with ((with_reducible refine L_appR (m := 2) slVS Try.underlying24 ((HO.out.alloc _).alloc _) (Rd.two2 wr _ (.string (str x)) (.string ⟨#[]⟩) 9) (two_one x) rfl ?_ ?_ ?_ ?_ ?_); (focus rfl); (focus rfl); (focus exact ⟨_, rfl⟩); (focus exact ⟨room1 (by omega), by omega, by go_simp; omega⟩); intro v2 w2 ho2 hg2 hk2 hn2; clear hn2; have hb2 := App.below hg2 ((HB.out.alloc HB.out.size _).alloc (by go_simp; omega) _) (by go_simp; omega) hk2; clear hg2 hk2; have HO2 := Lib.hid ho2; have HB2 := Lib.hid hb2; clear ho2 hb2; simp only [Act.put, List.setIfInBounds_toArray, List.set_cons_zero, List.set_cons_succ])
      refine ⟨⟨k + 1, m + 2, by omega, ?_, by go_num, ?_, HB2.out⟩, by simp [intOf]; omega⟩
      · rw [HM.out]; simp only [HTO.out, List.length_append, List.length_cons, List.length_nil]; omega
      · have := HO2.out
        simpa only [HTO.out, sts_append, sts_pair, sts_single, List.append_assoc] using this
    · obtain rfl : k = F.length := by omega
      have hfull : L ++ two (F.take F.length) = L ++ two (F) := by rw [List.take_length]
      have hm := HM.out
      simp only [hfull] at hm
      simp only [hfull] at ho
      clear HM HO
      have HM := Lib.hid hm
      have HO := Lib.hid ho
      clear ho hm hfull hkl hk
      obtain ⟨r3, r4, r5⟩ := HK1.out
      go_wp2_with fail
      go_loopw [3, 31] (TxAt w0 (fun k => (L ++ two F) ++ S.take k) S.length) (fun _ i _ => S.length - (intOf i).toNat)
      case atStart => exact ⟨0, m, by omega, by rw [HM.out]; simp, rfl, by simpa using HO.out, HB.out⟩
      case round =>
        obtain ⟨k, m, hk, hm, rfl, ho, hb⟩ := hrel
        obtain ⟨px, cx, rfl, -, -⟩ := ho.shape
        have hms : m ≤ 8388608 := by
          rw [hm]; simp only [List.length_append, two_len, List.length_take]; omega
        have hz := hb.size
        have HM := Lib.hid hm
        have HB := Lib.hid hb
        have HO := Lib.hid ho
        have HK1 := Lib.hid (HK.out wr hb)
        clear hm
        by_cases hkl : k < S.length
        · obtain ⟨bf, of, rfl, hcc⟩ := rd_el2 (HAT.out _ _ HR2.out wr hb) hkl
          obtain ⟨c0, c1⟩ := hcc k hkl
          have hto := one_succ S k hkl
          have HTO := Lib.hid hto
          have i0 : (k : Int) < (S.length : Int) := by omega
          have i1 : (0 : Int) ≤ (k : Int) := by omega
          clear hcc ho hb hto
          generalize S[k]'hkl = x at *
          go_wp2_with ((with_reducible refine L_appR (m := 1) slVS Try.underlying24 ((HO.out.alloc _).alloc _) (Rd.one2 wr _ (.string (str x)) 9) (one_one x) rfl ?_ ?_ ?_ ?_ ?_); (focus rfl); (focus rfl); (focus exact ⟨_, rfl⟩); (focus exact ⟨room1 (by omega), by omega, by go_simp; omega⟩); intro v2 w2 ho2 hg2 hk2 hn2; clear hn2; have hb2 := App.below hg2 ((HB.out.alloc HB.out.size _).alloc (by go_simp; omega) _) (by go_simp; omega) hk2; clear hg2 hk2; have HO2 := Lib.hid ho2; have HB2 := Lib.hid hb2; clear ho2 hb2; simp only [Act.put, List.setIfInBounds_toArray, List.set_cons_zero, List.set_cons_succ])
          refine ⟨⟨k + 1, m + 1, by omega, ?_, by go_num, ?_, HB2.out⟩, by simp [intOf]; omega⟩
          · rw [HM.out]; simp only [HTO.out, List.length_append, List.length_cons, List.length_nil]; omega
          · have := HO2.out
            simpa only [HTO.out, sts_append, sts_pair, sts_single, List.append_assoc] using this
        · obtain rfl : k = S.length := by omega
          have hfull : (L ++ two F) ++ S.take S.length = (L ++ two F) ++ S := by rw [List.take_length]
          have hm := HM.out
          simp only [hfull] at hm
          simp only [hfull] at ho
          clear HM HO
          have HM := Lib.hid hm
          have HO := Lib.hid ho
          clear ho hm hfull hkl hk
          obtain ⟨r3, r4, r5⟩ := HK1.out
          go_wp2_with fail
          go_loopw [3, 44] (TxAt w0 (fun k => ((L ++ two F) ++ S) ++ M.take k) M.length) (fun _ i _ => M.length - (intOf i).toNat)
          case atStart => exact ⟨0, m, by omega, by rw [HM.out]; simp, rfl, by simpa using HO.out, HB.out⟩
          case round =>
            obtain ⟨k, m, hk, hm, rfl, ho, hb⟩ := hrel
            obtain ⟨px, cx, rfl, -, -⟩ := ho.shape
            have hms : m ≤ 8388608 := by
              rw [hm]; simp only [List.length_append, two_len, List.length_take]; omega
            have hz := hb.size
            have HM := Lib.hid hm
            have HB := Lib.hid hb
            have HO := Lib.hid ho
            have HK1 := Lib.hid (HK.out wr hb)
            clear hm
            by_cases hkl : k < M.length
            · obtain ⟨bf, of, rfl, hcc⟩ := rd_el2 (HAT.out _ _ HR3.out wr hb) hkl
              obtain ⟨c0, c1⟩ := hcc k hkl
              have hto := one_succ M k hkl
              have HTO := Lib.hid hto
              have i0 : (k : Int) < (M.length : Int) := by omega
              have i1 : (0 : Int) ≤ (k : Int) := by omega
              have hst := run_store_cx
              clear hcc ho hb hto
              generalize M[k]'hkl = x at *
              go_wp2_with ((with_reducible refine L_appR (m := 1) slVS Try.underlying24 ((HO.out.alloc _).alloc _) (Rd.one2 wr _ (.string (str x)) 9) (one_one x) rfl ?_ ?_ ?_ ?_ ?_); (focus rfl); (focus rfl); (focus exact ⟨_, rfl⟩); (focus exact ⟨room1 (by omega), by omega, by go_simp; omega⟩); intro v2 w2 ho2 hg2 hk2 hn2; clear hn2; have hb2 := App.below hg2 ((HB.out.alloc HB.out.size _).alloc (by go_simp; omega) _) (by go_simp; omega) hk2; clear hg2 hk2; have HO2 := Lib.hid ho2; have HB2 := Lib.hid hb2; clear ho2 hb2; simp only [Act.put, List.setIfInBounds_toArray, List.set_cons_zero, List.set_cons_succ])
              refine ⟨⟨k + 1, m + 1, by omega, ?_, by go_num, ?_, HB2.out⟩, by simp [intOf]; omega⟩
              · rw [HM.out]; simp only [HTO.out, List.length_append, List.length_cons, List.length_nil]; omega
              · have := HO2.out
                simpa only [HTO.out, sts_append, sts_pair, sts_single, List.append_assoc] using this
            · obtain rfl : k = M.length := by omega
              have hfull : ((L ++ two F) ++ S) ++ M.take M.length = ((L ++ two F) ++ S) ++ M := by rw [List.take_length]
              have hm := HM.out
              simp only [hfull] at hm
              simp only [hfull] at ho
              clear HM HO
              have HM := Lib.hid hm
              have HO := Lib.hid ho
              clear ho hm hfull hkl hk
              obtain ⟨r3, r4, r5⟩ := HK1.out
              go_wp2_with fail
              go_ret
              refine ⟨_, rfl, ?_, ?_⟩
              · rw [← HM.out]; exact HO.out.rebase (by have := HS0.out; omega)
              · exact HW.out.trans (HB.out.mono HW.out.size)

end Go.Proofs.Ytblmnaejkdkndaa
