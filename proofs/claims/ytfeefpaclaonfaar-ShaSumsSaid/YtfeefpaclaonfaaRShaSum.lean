/- The walk over package sha's Sum. -/
import Derived.Test.YtfeefpaclaonfaaRShaBlock
set_option linter.unusedSimpArgs false
set_option linter.unusedVariables false
namespace Go.Proofs.YtfeefpaclaonfaaR
open Go.RowKit Go.BigFrame Sha Wire

set_option maxRecDepth 20000 in
set_option maxHeartbeats 400000 in
theorem eight_any (base : Nat) (v : Value) (n : Nat) (xs : List Value) (k : Nat) (w : World) (ho : OwnS w base 5 1 v n xs) (hk : (k : Int) ≤ 9223372036854775807) (hn : n ≤ 1099511627776) (hb : base ≤ w.heap.size) :
    Calls Try.prog 36 #[v, .int .i64 (k : Int)] w (Puts base 5 v (n + 8) (xs ++ by8 (beB k 8)) w) := by
  have HP := Lib.hid (put8 base v n xs k w ho (by omega) hn hb)
  clear ho
  go_enter Try.func36, Try.ntmps36
  go_wp2_with fail
  go_fit HP.out
  rintro e w1 ⟨v1, rfl, h1, h2⟩
  go_wp2_with fail
  go_ret
  exact ⟨v1, rfl, h1, h2⟩

theorem OwnS.text {w : World} {base n c : Nat} {p : Option Addr} {l : List UInt8} {e : TypeId} (h : OwnS w base e 1 (.slice p n c) n (by8 l)) : n = l.length ∧ Rd8 w p l ∧ n ≤ c ∧ c ≤ maxLen ∧ ∀ a, p = some a → base ≤ a.block ∧ a.block < w.heap.size := by
  have hl := h.1
  rw [by8_len, Nat.mul_one] at hl
  refine ⟨hl.symm, ?_, ?_, ?_, fun a hp => h.lt a.block (by subst hp; rfl)⟩
  · obtain ⟨q, c', hq, hr, _⟩ := h.shape
    cases hq; exact hr
  · rcases h.2 with ⟨h0, rfl⟩ | ⟨g, cap, cur, fr, h0, _, _, _, h1, h2, _⟩
    · omega
    · cases h0; exact h1
  · rcases h.2 with ⟨h0, rfl⟩ | ⟨g, cap, cur, fr, h0, _, _, _, h1, h2, _⟩
    · cases h0; exact Nat.zero_le _
    · cases h0; exact h2
/-- a text behind which noughts come -/
def PadRel (l : List UInt8) (w : World) (b : Value) (wr : World) : Prop :=
  ∃ j : Nat, j ≤ noughts (l.length + 1) ∧ OwnS wr w.heap.size 5 1 b (l.length + 1 + j) (by8 (l ++ [128] ++ List.replicate j 0)) ∧ Below w.heap.size w wr
theorem Rd.setRow {w : World} {p : Option Addr} {xs : List Value} (h : Rd w p xs) (g : Nat) (cs : Array Value) (hne : ∀ a, p = some a → a.block ≠ g) : Rd (w.setRow g cs) p xs :=
  h.keep fun b o hp _ i => World.cell?_of_block (setRow_other _ _ _ _ (hne ⟨b, o, none⟩ hp))
theorem shift_block {p : Option Addr} {l c sz : Nat} {a : Addr} (h : shift p l c sz = some a) : ∃ a', p = some a' ∧ a.block = a'.block := by
  unfold shift at h
  split at h
  · exact ⟨a, h, rfl⟩
  · cases p with
    | none => cases h
    | some a' =>
      simp only [Option.map_some, Option.some.injEq] at h
      refine ⟨a', rfl, ?_⟩
      rw [← h]; unfold Addr.add; split <;> rfl
theorem index8 (s : St) (k : Nat) (hk : k < 8) (u : World) : (Instr.index 63 (.agg (wordsTo s.list 8 8)) (.int .i64 (k : Int))).run Try.prog u = .ok (.int .u32 ((at_ s.list k).toNat : Int)) u := by
  rw [wordsTo_st]
  obtain rfl | rfl | rfl | rfl | rfl | rfl | rfl | rfl : k = 0 ∨ k = 1 ∨ k = 2 ∨ k = 3 ∨ k = 4 ∨ k = 5 ∨ k = 6 ∨ k = 7 := by omega
  all_goals kernel_rfl
theorem and15 (n : Nat) (h : n < 4294967296) : bits .and .u32 (n : Int) 15 = ((n % 16 : Nat) : Int) := by
  show IntKind.u32.wrap ((BitVec.ofInt 32 (n : Int) &&& BitVec.ofInt 32 15).toNat : Int) = _
  have e : n &&& 15 = n % 16 := Nat.and_two_pow_sub_one_eq_mod n 4
  have e1 : (BitVec.ofInt 32 (n : Int)).toNat = n := by rw [BitVec.ofInt_natCast, BitVec.toNat_ofNat]; exact Nat.mod_eq_of_lt h
  have e2 : (BitVec.ofInt 32 15).toNat = 15 := by decide
  rw [BitVec.toNat_and, e1, e2, e, IntKind.wrap_u32']
  omega
theorem dig_run (d : Nat) (hd : d < 16) (u : World) : (Instr.index 9 (.string ⟨#[48, 49, 50, 51, 52, 53, 54, 55, 56, 57, 97, 98, 99, 100, 101, 102]⟩) (.int .u32 (d : Int))).run Try.prog u = .ok (.int .u8 ((digit d).toNat : Int)) u := by
  obtain rfl | rfl | rfl | rfl | rfl | rfl | rfl | rfl | rfl | rfl | rfl | rfl | rfl | rfl | rfl | rfl : d = 0 ∨ d = 1 ∨ d = 2 ∨ d = 3 ∨ d = 4 ∨ d = 5 ∨ d = 6 ∨ d = 7 ∨ d = 8 ∨ d = 9 ∨ d = 10 ∨ d = 11 ∨ d = 12 ∨ d = 13 ∨ d = 14 ∨ d = 15 := by omega
  all_goals kernel_rfl
theorem hexW_at (x : W) (j c : Nat) (hj : j < 8) (hc : c = 268435456 ∧ j = 0 ∨ c = 16777216 ∧ j = 1 ∨ c = 1048576 ∧ j = 2 ∨ c = 65536 ∧ j = 3 ∨ c = 4096 ∧ j = 4 ∨ c = 256 ∧ j = 5 ∨ c = 16 ∧ j = 6 ∨ c = 1 ∧ j = 7) :
    (hexW x).take (j + 1) = (hexW x).take j ++ [digit (x.toNat / c % 16)] := by
  have hx := x.isLt
  rcases hc with ⟨rfl, rfl⟩ | ⟨rfl, rfl⟩ | ⟨rfl, rfl⟩ | ⟨rfl, rfl⟩ | ⟨rfl, rfl⟩ | ⟨rfl, rfl⟩ | ⟨rfl, rfl⟩ | ⟨rfl, rfl⟩ <;> simp [hexW]
  rw [Nat.mod_eq_of_lt (by omega)]
theorem hex_step (L : List W) (k : Nat) (h : k < L.length) : ((L.take (k + 1)).map hexW).flatten = ((L.take k).map hexW).flatten ++ hexW (at_ L k) := by
  rw [List.take_succ_eq_append_getElem h, List.map_append, List.flatten_append]
  simp [at_, h]
/-- where the loop over the blocks stands -/
def SumRel (P : List UInt8) (w : World) (g : Nat) (b : Value) (wr : World) : Prop :=
  ∃ (i : Nat) (p : Option Addr) (n c : Nat), b = .slice p n c ∧ n = (P.drop (64 * i)).length ∧ n ≤ c ∧ c ≤ maxLen ∧ Rd8 wr p (P.drop (64 * i)) ∧ (∀ a, p = some a → g + 2 ≤ a.block) ∧ i ≤ P.length / 64 ∧
    wr.heap[g]? = some (.cells (wordsTo K 64 64) 62 (0, 0)) ∧ wr.heap[g + 1]? = some (.cells (wordsTo (blocks h0 P i).list 8 8) 63 (0, 0)) ∧ Below w.heap.size w wr
theorem size8 (l : List W) : (Try.prog.info? 63).map (·.size) = some (wordsTo l 8 8).size := by
  rw [wordsTo_size]; exact (zero_of_info zero8).2
theorem noughts_iff (n j : Nat) (hj : j ≤ noughts n) : (n + j) % 64 = 56 ↔ j = noughts n := by
  unfold noughts at *; omega

set_option maxRecDepth 20000 in
set_option maxHeartbeats 1000000 in
theorem sum_any (l : List UInt8) (w : World) (hl : l.length ≤ 1048576) :
    Calls Try.prog 26 #[.string (str l)] w fun e w' => e = .returned (.string (str (sha l))) ∧ Below w.heap.size w w' := by
  obtain ⟨hz, hsz⟩ := zero_of_info zero64
  obtain ⟨hz8, hsz8⟩ := zero_of_info zero8
  go_enter Try.func26, Try.ntmps26
  go_wp2_with fail
  go_fit (constants_any w)
  rintro e w1 ⟨rfl, hb1⟩
  have E64 : Hid ((Try.prog.info? 62).map (·.size) = some (wordsTo K 64 64).size) := by rw [wordsTo_size]; exact Lib.hid hsz
  have E8 : Hid ((Try.prog.info? 63).map (·.size) = some (wordsTo h0.list 8 8).size) := by rw [wordsTo_size]; exact Lib.hid hsz8
  have hu := Try.underlying62
  have hu8 := Try.underlying63
  clear hsz hsz8
  go_upto_region 2 with (first
    | ((with_reducible refine L_store_row ?_ ?_ (heap_alloc2_old _ _ _) E64.out ?_ (wordsTo_one _ _ _) ?_); (focus rfl); (focus rfl); (focus simp [wordsTo_size]); simp only [Act.put, List.setIfInBounds_toArray, List.set_cons_zero, List.set_cons_succ])
    | ((with_reducible refine L_store_row ?_ ?_ ((setRow_other _ _ _ _ (by simp)).trans (heap_alloc2_new _ _ _)) E8.out ?_ (wordsTo_one _ _ _) ?_); (focus rfl); (focus rfl); (focus simp [wordsTo_size]); simp only [Act.put, List.setIfInBounds_toArray, List.set_cons_zero, List.set_cons_succ]))
  obtain ⟨wb, hwb⟩ : ∃ v, v = ((((w1.alloc (.cells (Array.replicate 64 (Value.int .u32 0)) 62)).alloc (.cells (Array.replicate 8 (Value.int .u32 0)) 63)).setRow w1.heap.size (wordsTo K 64 64)).setRow (w1.heap.size + 1) (wordsTo h0.list 8 8)) := ⟨_, rfl⟩
  have q0 : wb.heap[w1.heap.size]? = some (.cells (wordsTo K 64 64) 62 (0, 0)) := by
    rw [hwb, setRow_other _ _ _ _ (by simp)]; exact setRow_heap _ _ _ _ _ _ (heap_alloc2_old _ _ _)
  have q1 : wb.heap[w1.heap.size + 1]? = some (.cells (wordsTo h0.list 8 8) 63 (0, 0)) := by
    rw [hwb]; exact setRow_heap _ _ _ _ _ _ ((setRow_other _ _ _ _ (by simp)).trans (heap_alloc2_new _ _ _))
  have qb : Below w.heap.size w wb := by
    have h2 := (hb1.alloc hb1.size (.cells (Array.replicate 64 (Value.int .u32 0)) 62)).alloc (by simp; exact Nat.le_succ_of_le hb1.size) (.cells (Array.replicate 8 (Value.int .u32 0)) 63)
    have hs := hb1.size
    rw [hwb]
    exact h2.trans ⟨rfl, rfl, rfl, by simp, fun k hk => by rw [setRow_other _ _ _ _ (by omega), setRow_other _ _ _ _ (by omega)]⟩
  have qs : wb.heap.size = w1.heap.size + 2 := by rw [hwb]; simp
  rw [← hwb]
  have Q0 := Lib.hid q0
  have Q1 := Lib.hid q1
  have QS := Lib.hid qs
  have hs1 := hb1.size
  clear hwb q0 q1 qs hz hz8
  have hl1 : l.length ≤ 1048577 := by omega
  have hon : ∀ u ∈ [Value.int .u8 128], u.oneCell' = true := int_one _ _
  go_upto_block 0 with (first
    | ((with_reducible refine L_s2b isS slB isB wb.heap.size (l := l) ?_ ?_ ?_ ?_); (focus rfl); (focus rfl); (focus exact ⟨room1 (by omega), Nat.le_refl _⟩); intro cap2 w2 ho2 hb2; have HO2 := Lib.hid ho2; clear ho2; simp only [Act.put, List.setIfInBounds_toArray, List.set_cons_zero, List.set_cons_succ])
    | ((with_reducible refine L_appR slB Try.underlying23 (HO2.out.alloc _) (Rd.one _ _ _) hon rfl ?_ ?_ ?_ ?_ ?_); (focus rfl); (focus rfl); (focus exact ⟨_, rfl⟩); (focus exact ⟨room1 (by omega), by omega, by simp; exact Nat.le_succ_of_le hb2.size⟩); intro v3 w3 ho3 ha3 hk3 hn3; clear hn3; have HO3 := Lib.hid ho3; have hb3 := ha3.below (hb2.alloc hb2.size _) (by simp; exact Nat.le_succ_of_le hb2.size) hk3; clear ho3 ha3 hk3; simp only [Act.put, List.setIfInBounds_toArray, List.set_cons_zero, List.set_cons_succ]))
  have hpad : PadRel l wb v3 w3 := ⟨0, by omega, by have h := HO3.out; simpa [by8] using h, hb3⟩
  have HPad := Lib.hid hpad
  clear hpad hb2 HO2 HO3 hb3
  go_cut [5] (fun b wc => OwnS wc wb.heap.size 5 1 b (l.length + 1 + noughts (l.length + 1)) (by8 (l ++ [128] ++ List.replicate (noughts (l.length + 1)) 0)) ∧ Below wb.heap.size wb wc)
  case first =>
    go_wp2_with fail
    go_loopw [5] (fun b wr => PadRel l wb b wr) (fun b _ => match b with | .slice _ n _ => 2000000 - n | _ => 0)
    case atStart => exact HPad.out
    case round =>
      obtain ⟨j, hj, ho, hbel⟩ := hrel
      obtain ⟨p, cap, rfl, hr, hm⟩ := ho.shape
      have HN := Lib.hid (noughts_iff (l.length + 1) j hj)
      have hnl : noughts (l.length + 1) < 64 := by unfold noughts; omega
      have HO := Lib.hid ho
      clear ho hr hm
      have hn : ∃ n : Nat, l.length + 1 + j = n := ⟨_, rfl⟩
      obtain ⟨n, hn⟩ := hn
      rw [hn] at HN HO ⊢
      have hnb : n ≤ 1048641 := by omega
      have HNn := Lib.hid hn
      clear hn
      by_cases h56 : n % 64 = 56
      · have d1 : ((n : Int) % 64 != 56) = false := by simp; omega
        have hj2 := HN.out.1 h56
        clear h56
        go_wp2_with fail
        go_meet
        rw [← hj2, HNn.out]
        exact ⟨HO.out, hbel⟩
      · have d1 : ((n : Int) % 64 != 56) = true := by simp; omega
        have hj2 : j < noughts (l.length + 1) := by
          have h2 : j ≠ noughts (l.length + 1) := fun e => h56 (HN.out.2 e)
          omega
        clear h56
        have hz0 : ∀ u ∈ [Value.int .u8 0], u.oneCell' = true := int_one _ _
        go_wp2_with ((with_reducible refine L_appR slB Try.underlying23 (HO.out.alloc _) (Rd.one _ _ _) hz0 rfl ?_ ?_ ?_ ?_ ?_); (focus rfl); (focus rfl); (focus exact ⟨_, rfl⟩); (focus exact ⟨room1 (by omega), by omega, by simp; exact Nat.le_succ_of_le hbel.size⟩); intro v4 w4 ho4 ha4 hk4 hn4; clear hn4; have HO4 := Lib.hid ho4; have HA4 := Lib.hid ha4; clear ho4 ha4; simp only [Act.put, List.setIfInBounds_toArray, List.set_cons_zero, List.set_cons_succ])
        obtain ⟨p4, c4, rfl, _, _⟩ := HO4.out.shape
        refine ⟨⟨j + 1, by omega, ?_, HA4.out.below (hbel.alloc hbel.size _) (by simp; exact Nat.le_succ_of_le hbel.size) hk4⟩, by simp; omega⟩
        have h := HO4.out
        rw [← HNn.out] at h ⊢
        have e : by8 (l ++ [128] ++ List.replicate j 0) ++ [Value.int .u8 0] = by8 (l ++ [128] ++ List.replicate (j + 1) 0) := by
          simp [by8, List.replicate_succ']
        rw [e] at h
        exact h
  case rest =>
    obtain ⟨ho, hbel⟩ := hcut
    have HO := Lib.hid ho
    have hnl : noughts (l.length + 1) < 64 := by unfold noughts; omega
    have hbs := hbel.size
    have h8 := eight_any wb.heap.size u5 _ _ (8 * l.length) wc ho (by omega) (by omega) hbs
    rw [show ((8 * l.length : Nat) : Int) = (l.length : Int) * 8 by omega] at h8
    have H8 := Lib.hid h8
    clear h8 ho
    go_wp2_with fail
    go_fit H8.out
    rintro e w5 ⟨v5, rfl, ho5, ha5⟩
    have hb5 := ha5.below hbel hbs (fun k hk => (HO.out.lt k hk).1)
    have hP : by8 (l ++ [128] ++ List.replicate (noughts (l.length + 1)) 0) ++ by8 (beB (8 * l.length) 8) = by8 (padded l) := by rw [← by8_append]; rfl
    rw [hP] at ho5
    obtain ⟨p5, c5, rfl, hr5, hm5⟩ := ho5.shape
    obtain ⟨hn5, _, hc5, hcm5, hlt5⟩ := ho5.text
    have hN : (padded l).length = l.length + 1 + noughts (l.length + 1) + 8 := hn5.symm
    have hmod : (padded l).length % 64 = 0 := by rw [hN]; unfold noughts; omega
    have hsha : sha l = ((blocks h0 (padded l) ((padded l).length / 64)).list.map hexW).flatten := rfl
    have HSha := Lib.hid hsha
    have R0 : SumRel (padded l) w w1.heap.size (.slice p5 (l.length + 1 + noughts (l.length + 1) + 8) c5) w5 :=
      ⟨0, p5, _, c5, rfl, by simp [hN], hc5, hcm5, hr5, fun a ha => by have := (hlt5 a ha).1; rw [QS.out] at this; exact this, by omega,
        by rw [hb5.block _ (by rw [QS.out]; omega)]; exact Q0.out, by rw [hb5.block _ (by rw [QS.out]; omega)]; exact Q1.out, qb.trans (hb5.mono qb.size)⟩
    have HR0 := Lib.hid R0
    have hNb : (padded l).length ≤ 1100000 := by omega
    clear R0 hsha hN hn5 hr5 hc5 hcm5 hlt5 ho5 ha5 hb5 HO H8 hP hbel hbs hnl HPad Q0 Q1 QS qb hm5
    generalize padded l = P at *
    go_upto_block 2 with (fail)
    go_cut [] (fun wd => wd.heap[w1.heap.size + 1]? = some (.cells (wordsTo (blocks h0 P (P.length / 64)).list 8 8) 63 (0, 0)) ∧ Below w.heap.size w wd)
    case first =>
      go_wp2_with fail
      go_loopw [5] (fun b wr => SumRel P w w1.heap.size b wr) (fun b _ => match b with | .slice _ n _ => n | _ => 0)
      case atStart => exact HR0.out
      case round =>
        obtain ⟨i, p, n, c, rfl, hn, hnc, hcm, hr, hpb, hi, q0, q1, hbel⟩ := hrel
        have HN := Lib.hid hn
        have HR := Lib.hid hr
        have HPB := Lib.hid hpb
        have Q0 := Lib.hid q0
        have Q1 := Lib.hid q1
        have HCM := Lib.hid hcm
        rw [List.length_drop] at hn
        clear hr hpb q0 q1 hcm
        by_cases hgo : 0 < n
        · have hil : i < P.length / 64 := by omega
          have h64 : 64 ≤ n := by omega
          have d1 : decide ((0 : Int) < (n : Int)) = true := by simp; omega
          have hnb : n ≤ 1100000 := by omega
          have HNe := Lib.hid hn
          clear hn
          go_wp2_with (first
            | ((with_reducible refine L_load_row ?_ Q1.out hu8 rfl (size8 _) ?_); (focus rfl); simp only [Act.put, List.setIfInBounds_toArray, List.set_cons_zero, List.set_cons_succ])
            | ((with_reducible refine L_load_row ?_ Q0.out hu rfl E64.out ?_); (focus rfl); simp only [Act.put, List.setIfInBounds_toArray, List.set_cons_zero, List.set_cons_succ]))
          go_fit (block_any (blocks h0 P i) p n c (P.drop (64 * i)) wr HR.out HN.out h64 hnc HCM.out)
          rintro e w6 ⟨rfl, hb6⟩
          have l0 := (Array.getElem?_eq_some_iff.1 Q0.out).1
          have l1 := (Array.getElem?_eq_some_iff.1 Q1.out).1
          have P0 := Lib.hid (show w6.heap[w1.heap.size]? = some (.cells (wordsTo K 64 64) 62 (0, 0)) by rw [hb6.block _ l0]; exact Q0.out)
          have P1 := Lib.hid (show w6.heap[w1.heap.size + 1]? = some (.cells (wordsTo (blocks h0 P i).list 8 8) 63 (0, 0)) by rw [hb6.block _ l1]; exact Q1.out)
          have HR6 := Lib.hid (HR.out.below hb6)
          have hbl : Sha.block (blocks h0 P i) (P.drop (64 * i)) = blocks h0 P (i + 1) := rfl
          have hbel6 := hbel.trans (hb6.mono hbel.size)
          rw [hbl]
          have hsl : ∀ u, (Instr.slice 23 (.slice p n c) (some (.int .i64 64)) none none).run Try.prog u = .ok (.slice (shift p 64 c 1) (n - 64) (c - 64)) u := fun u => run_slice_from slB u p n c 64 h64
          clear hbl hb6
          go_wp2_with ((with_reducible refine L_store_row ?_ ?_ P1.out (size8 (blocks h0 P (i + 1)).list) ?_ (wordsTo_one (blocks h0 P (i + 1)).list 8 8) ?_); (focus rfl); (focus rfl); (focus simp [wordsTo_size]); simp only [Act.put, List.setIfInBounds_toArray, List.set_cons_zero, List.set_cons_succ])
          have hcm := HCM.out
          refine ⟨⟨i + 1, shift p 64 c 1, n - 64, c - 64, rfl, ?_, by omega, by omega, ?_, ?_, by omega, ?_, ?_, ?_⟩, by simp; omega⟩
          · rw [HN.out, List.length_drop, List.length_drop]; omega
          · have h := HR6.out.shift (l := 64) (n := n) (cap := c) (sz := 1) (by rw [by8_mul, ← HN.out]) hnc
            rw [← by8_drop, List.drop_drop] at h
            have e : 64 * i + 64 * 1 = 64 * (i + 1) := by omega
            rw [e] at h
            exact h.setRow _ _ fun a ha => by
              obtain ⟨a', ha', hb'⟩ := shift_block ha
              have := HPB.out a' ha'
              rw [hb']; omega
          · intro a ha
            obtain ⟨a', ha', hb'⟩ := shift_block ha
            have := HPB.out a' ha'
            rw [hb']; omega
          · rw [setRow_other _ _ _ _ (by omega)]; exact P0.out
          · exact setRow_heap _ _ _ _ _ _ P1.out
          · exact hbel6.trans ⟨rfl, rfl, rfl, by simp, fun k hk => setRow_other _ _ _ _ (by omega)⟩
        · have hie : i = P.length / 64 := by omega
          have d1 : decide ((0 : Int) < (n : Int)) = false := by rw [decide_eq_false_iff_not]; omega
          subst hie
          clear hn
          go_wp2_with fail
          go_meet
          exact ⟨Q1.out, hbel⟩
    case rest =>
      obtain ⟨q1, hbel⟩ := hcut
      have Q1 := Lib.hid q1
      clear q1 HR0
      generalize blocks h0 P (P.length / 64) = st at *
      go_wp2_with ((with_reducible refine L_load_row ?_ Q1.out hu8 rfl (size8 _) ?_); (focus rfl); simp only [Act.put, List.setIfInBounds_toArray, List.set_cons_zero, List.set_cons_succ])
      go_loopw [6, 40] (fun out i wr => ∃ k : Nat, k ≤ 8 ∧ i = .int .i64 k ∧ OwnS wr wc.heap.size 5 1 out (8 * k) (by8 ((st.list.take k).map hexW).flatten) ∧ Below wc.heap.size wc wr) (fun _ i _ => 8 - (intOf i).toNat)
      case atStart => exact ⟨0, by omega, rfl, OwnS.none, Below.refl _ _⟩
      case round =>
        obtain ⟨k, hk, rfl, ho, hbr⟩ := hrel
        by_cases hlt : k < 8
        · have HO := Lib.hid ho
          clear ho
          have hix := index8 st k hlt
          have HH := Lib.hid (hex_step st.list k (by show k < 8; exact hlt))
          generalize at_ st.list k = x at *
          generalize hpre : ((st.list.take k).map hexW).flatten = pre at *
          go_wp2_with fail
          go_loopw [6, 9] (fun out i wq => ∃ j : Nat, j ≤ 8 ∧ i = .int .i64 (28 - 4 * (j : Int)) ∧ OwnS wq wc.heap.size 5 1 out (8 * k + j) (by8 (pre ++ (hexW x).take j)) ∧ Below wc.heap.size wc wq) (fun _ i _ => (intOf i + 4).toNat)
          case atStart => exact ⟨0, by omega, by simp, by simpa using HO.out, hbr⟩
          case round =>
            obtain ⟨j, hj, rfl, ho, hbj⟩ := hrel
            have HOJ := Lib.hid ho
            clear ho
            by_cases hj8 : j = 8
            · subst hj8
              go_wp2_with fail
              refine ⟨⟨k + 1, by omega, by go_num, ?_, hbj⟩, by simp [intOf]; omega⟩
              have h := HOJ.out
              rw [show (hexW x).take 8 = hexW x from rfl, ← HH.out] at h
              exact h
            by_cases hj0 : j = 0
            · subst hj0
              have hA := Lib.hid (hexW_at x 0 268435456 (by omega) (by omega))
              obtain ⟨d, hd⟩ : ∃ d, x.toNat / 268435456 % 16 = d := ⟨_, rfl⟩
              have hd16 : d < 16 := by omega
              have hand : bits .and .u32 ((x.toNat : Int) / 268435456) 15 = (d : Int) := by
                have h1 := and15 (x.toNat / 268435456) (by have := x.isLt; omega)
                rw [hd] at h1; exact h1
              have hdr := dig_run d hd16
              have HD := Lib.hid hd
              clear hd
              have hon8 : ∀ u ∈ [Value.int .u8 ((digit d).toNat : Int)], u.oneCell' = true := int_one _ _
              go_wp2_with ((with_reducible refine L_appR slB Try.underlying23 (HOJ.out.alloc _) (Rd.one _ _ _) hon8 rfl ?_ ?_ ?_ ?_ ?_); (focus rfl); (focus rfl); (focus exact ⟨_, rfl⟩); (focus exact ⟨room1 (by omega), by omega, by simp; exact Nat.le_succ_of_le hbj.size⟩); intro v4 w4 ho4 ha4 hk4 hn4; clear hn4; have HO4 := Lib.hid ho4; have HA4 := Lib.hid ha4; clear ho4 ha4; simp only [Act.put, List.setIfInBounds_toArray, List.set_cons_zero, List.set_cons_succ])
              refine ⟨⟨0 + 1, by omega, by simp, ?_, HA4.out.below (hbj.alloc hbj.size _) (by simp; exact Nat.le_succ_of_le hbj.size) hk4⟩, by simp [intOf]⟩
              rw [hA.out, HD.out]
              have h := HO4.out
              have e : by8 (pre ++ ((hexW x).take 0 ++ [digit d])) = by8 (pre ++ (hexW x).take 0) ++ [.int .u8 ((digit d).toNat : Int)] := by simp [by8]
              rw [e]
              exact h
            by_cases hj1 : j = 1
            · subst hj1
              have hA := Lib.hid (hexW_at x 1 16777216 (by omega) (by omega))
              obtain ⟨d, hd⟩ : ∃ d, x.toNat / 16777216 % 16 = d := ⟨_, rfl⟩
              have hd16 : d < 16 := by omega
              have hand : bits .and .u32 ((x.toNat : Int) / 16777216) 15 = (d : Int) := by
                have h1 := and15 (x.toNat / 16777216) (by have := x.isLt; omega)
                rw [hd] at h1; exact h1
              have hdr := dig_run d hd16
              have HD := Lib.hid hd
              clear hd
              have hon8 : ∀ u ∈ [Value.int .u8 ((digit d).toNat : Int)], u.oneCell' = true := int_one _ _
              go_wp2_with ((with_reducible refine L_appR slB Try.underlying23 (HOJ.out.alloc _) (Rd.one _ _ _) hon8 rfl ?_ ?_ ?_ ?_ ?_); (focus rfl); (focus rfl); (focus exact ⟨_, rfl⟩); (focus exact ⟨room1 (by omega), by omega, by simp; exact Nat.le_succ_of_le hbj.size⟩); intro v4 w4 ho4 ha4 hk4 hn4; clear hn4; have HO4 := Lib.hid ho4; have HA4 := Lib.hid ha4; clear ho4 ha4; simp only [Act.put, List.setIfInBounds_toArray, List.set_cons_zero, List.set_cons_succ])
              refine ⟨⟨1 + 1, by omega, by simp, ?_, HA4.out.below (hbj.alloc hbj.size _) (by simp; exact Nat.le_succ_of_le hbj.size) hk4⟩, by simp [intOf]⟩
              rw [hA.out, HD.out]
              have h := HO4.out
              have e : by8 (pre ++ ((hexW x).take 1 ++ [digit d])) = by8 (pre ++ (hexW x).take 1) ++ [.int .u8 ((digit d).toNat : Int)] := by simp [by8]
              rw [e]
              exact h
            by_cases hj2 : j = 2
            · subst hj2
              have hA := Lib.hid (hexW_at x 2 1048576 (by omega) (by omega))
              obtain ⟨d, hd⟩ : ∃ d, x.toNat / 1048576 % 16 = d := ⟨_, rfl⟩
              have hd16 : d < 16 := by omega
              have hand : bits .and .u32 ((x.toNat : Int) / 1048576) 15 = (d : Int) := by
                have h1 := and15 (x.toNat / 1048576) (by have := x.isLt; omega)
                rw [hd] at h1; exact h1
              have hdr := dig_run d hd16
              have HD := Lib.hid hd
              clear hd
              have hon8 : ∀ u ∈ [Value.int .u8 ((digit d).toNat : Int)], u.oneCell' = true := int_one _ _
              go_wp2_with ((with_reducible refine L_appR slB Try.underlying23 (HOJ.out.alloc _) (Rd.one _ _ _) hon8 rfl ?_ ?_ ?_ ?_ ?_); (focus rfl); (focus rfl); (focus exact ⟨_, rfl⟩); (focus exact ⟨room1 (by omega), by omega, by simp; exact Nat.le_succ_of_le hbj.size⟩); intro v4 w4 ho4 ha4 hk4 hn4; clear hn4; have HO4 := Lib.hid ho4; have HA4 := Lib.hid ha4; clear ho4 ha4; simp only [Act.put, List.setIfInBounds_toArray, List.set_cons_zero, List.set_cons_succ])
              refine ⟨⟨2 + 1, by omega, by simp, ?_, HA4.out.below (hbj.alloc hbj.size _) (by simp; exact Nat.le_succ_of_le hbj.size) hk4⟩, by simp [intOf]⟩
              rw [hA.out, HD.out]
              have h := HO4.out
              have e : by8 (pre ++ ((hexW x).take 2 ++ [digit d])) = by8 (pre ++ (hexW x).take 2) ++ [.int .u8 ((digit d).toNat : Int)] := by simp [by8]
              rw [e]
              exact h
            by_cases hj3 : j = 3
            · subst hj3
              have hA := Lib.hid (hexW_at x 3 65536 (by omega) (by omega))
              obtain ⟨d, hd⟩ : ∃ d, x.toNat / 65536 % 16 = d := ⟨_, rfl⟩
              have hd16 : d < 16 := by omega
              have hand : bits .and .u32 ((x.toNat : Int) / 65536) 15 = (d : Int) := by
                have h1 := and15 (x.toNat / 65536) (by have := x.isLt; omega)
                rw [hd] at h1; exact h1
              have hdr := dig_run d hd16
              have HD := Lib.hid hd
              clear hd
              have hon8 : ∀ u ∈ [Value.int .u8 ((digit d).toNat : Int)], u.oneCell' = true := int_one _ _
              go_wp2_with ((with_reducible refine L_appR slB Try.underlying23 (HOJ.out.alloc _) (Rd.one _ _ _) hon8 rfl ?_ ?_ ?_ ?_ ?_); (focus rfl); (focus rfl); (focus exact ⟨_, rfl⟩); (focus exact ⟨room1 (by omega), by omega, by simp; exact Nat.le_succ_of_le hbj.size⟩); intro v4 w4 ho4 ha4 hk4 hn4; clear hn4; have HO4 := Lib.hid ho4; have HA4 := Lib.hid ha4; clear ho4 ha4; simp only [Act.put, List.setIfInBounds_toArray, List.set_cons_zero, List.set_cons_succ])
              refine ⟨⟨3 + 1, by omega, by simp, ?_, HA4.out.below (hbj.alloc hbj.size _) (by simp; exact Nat.le_succ_of_le hbj.size) hk4⟩, by simp [intOf]⟩
              rw [hA.out, HD.out]
              have h := HO4.out
              have e : by8 (pre ++ ((hexW x).take 3 ++ [digit d])) = by8 (pre ++ (hexW x).take 3) ++ [.int .u8 ((digit d).toNat : Int)] := by simp [by8]
              rw [e]
              exact h
            by_cases hj4 : j = 4
            · subst hj4
              have hA := Lib.hid (hexW_at x 4 4096 (by omega) (by omega))
              obtain ⟨d, hd⟩ : ∃ d, x.toNat / 4096 % 16 = d := ⟨_, rfl⟩
              have hd16 : d < 16 := by omega
              have hand : bits .and .u32 ((x.toNat : Int) / 4096) 15 = (d : Int) := by
                have h1 := and15 (x.toNat / 4096) (by have := x.isLt; omega)
                rw [hd] at h1; exact h1
              have hdr := dig_run d hd16
              have HD := Lib.hid hd
              clear hd
              have hon8 : ∀ u ∈ [Value.int .u8 ((digit d).toNat : Int)], u.oneCell' = true := int_one _ _
              go_wp2_with ((with_reducible refine L_appR slB Try.underlying23 (HOJ.out.alloc _) (Rd.one _ _ _) hon8 rfl ?_ ?_ ?_ ?_ ?_); (focus rfl); (focus rfl); (focus exact ⟨_, rfl⟩); (focus exact ⟨room1 (by omega), by omega, by simp; exact Nat.le_succ_of_le hbj.size⟩); intro v4 w4 ho4 ha4 hk4 hn4; clear hn4; have HO4 := Lib.hid ho4; have HA4 := Lib.hid ha4; clear ho4 ha4; simp only [Act.put, List.setIfInBounds_toArray, List.set_cons_zero, List.set_cons_succ])
              refine ⟨⟨4 + 1, by omega, by simp, ?_, HA4.out.below (hbj.alloc hbj.size _) (by simp; exact Nat.le_succ_of_le hbj.size) hk4⟩, by simp [intOf]⟩
              rw [hA.out, HD.out]
              have h := HO4.out
              have e : by8 (pre ++ ((hexW x).take 4 ++ [digit d])) = by8 (pre ++ (hexW x).take 4) ++ [.int .u8 ((digit d).toNat : Int)] := by simp [by8]
              rw [e]
              exact h
            by_cases hj5 : j = 5
            · subst hj5
              have hA := Lib.hid (hexW_at x 5 256 (by omega) (by omega))
              obtain ⟨d, hd⟩ : ∃ d, x.toNat / 256 % 16 = d := ⟨_, rfl⟩
              have hd16 : d < 16 := by omega
              have hand : bits .and .u32 ((x.toNat : Int) / 256) 15 = (d : Int) := by
                have h1 := and15 (x.toNat / 256) (by have := x.isLt; omega)
                rw [hd] at h1; exact h1
              have hdr := dig_run d hd16
              have HD := Lib.hid hd
              clear hd
              have hon8 : ∀ u ∈ [Value.int .u8 ((digit d).toNat : Int)], u.oneCell' = true := int_one _ _
              go_wp2_with ((with_reducible refine L_appR slB Try.underlying23 (HOJ.out.alloc _) (Rd.one _ _ _) hon8 rfl ?_ ?_ ?_ ?_ ?_); (focus rfl); (focus rfl); (focus exact ⟨_, rfl⟩); (focus exact ⟨room1 (by omega), by omega, by simp; exact Nat.le_succ_of_le hbj.size⟩); intro v4 w4 ho4 ha4 hk4 hn4; clear hn4; have HO4 := Lib.hid ho4; have HA4 := Lib.hid ha4; clear ho4 ha4; simp only [Act.put, List.setIfInBounds_toArray, List.set_cons_zero, List.set_cons_succ])
              refine ⟨⟨5 + 1, by omega, by simp, ?_, HA4.out.below (hbj.alloc hbj.size _) (by simp; exact Nat.le_succ_of_le hbj.size) hk4⟩, by simp [intOf]⟩
              rw [hA.out, HD.out]
              have h := HO4.out
              have e : by8 (pre ++ ((hexW x).take 5 ++ [digit d])) = by8 (pre ++ (hexW x).take 5) ++ [.int .u8 ((digit d).toNat : Int)] := by simp [by8]
              rw [e]
              exact h
            by_cases hj6 : j = 6
            · subst hj6
              have hA := Lib.hid (hexW_at x 6 16 (by omega) (by omega))
              obtain ⟨d, hd⟩ : ∃ d, x.toNat / 16 % 16 = d := ⟨_, rfl⟩
              have hd16 : d < 16 := by omega
              have hand : bits .and .u32 ((x.toNat : Int) / 16) 15 = (d : Int) := by
                have h1 := and15 (x.toNat / 16) (by have := x.isLt; omega)
                rw [hd] at h1; exact h1
              have hdr := dig_run d hd16
              have HD := Lib.hid hd
              clear hd
              have hon8 : ∀ u ∈ [Value.int .u8 ((digit d).toNat : Int)], u.oneCell' = true := int_one _ _
              go_wp2_with ((with_reducible refine L_appR slB Try.underlying23 (HOJ.out.alloc _) (Rd.one _ _ _) hon8 rfl ?_ ?_ ?_ ?_ ?_); (focus rfl); (focus rfl); (focus exact ⟨_, rfl⟩); (focus exact ⟨room1 (by omega), by omega, by simp; exact Nat.le_succ_of_le hbj.size⟩); intro v4 w4 ho4 ha4 hk4 hn4; clear hn4; have HO4 := Lib.hid ho4; have HA4 := Lib.hid ha4; clear ho4 ha4; simp only [Act.put, List.setIfInBounds_toArray, List.set_cons_zero, List.set_cons_succ])
              refine ⟨⟨6 + 1, by omega, by simp, ?_, HA4.out.below (hbj.alloc hbj.size _) (by simp; exact Nat.le_succ_of_le hbj.size) hk4⟩, by simp [intOf]⟩
              rw [hA.out, HD.out]
              have h := HO4.out
              have e : by8 (pre ++ ((hexW x).take 6 ++ [digit d])) = by8 (pre ++ (hexW x).take 6) ++ [.int .u8 ((digit d).toNat : Int)] := by simp [by8]
              rw [e]
              exact h
            by_cases hj7 : j = 7
            · subst hj7
              have hA := Lib.hid (hexW_at x 7 1 (by omega) (by omega))
              obtain ⟨d, hd⟩ : ∃ d, x.toNat / 1 % 16 = d := ⟨_, rfl⟩
              have hd16 : d < 16 := by omega
              have hand : bits .and .u32 ((x.toNat : Int)) 15 = (d : Int) := by
                have h1 := and15 (x.toNat / 1) (by have := x.isLt; omega)
                rw [hd] at h1; rw [Nat.div_one] at h1; exact h1
              have hdr := dig_run d hd16
              have HD := Lib.hid hd
              clear hd
              have hon8 : ∀ u ∈ [Value.int .u8 ((digit d).toNat : Int)], u.oneCell' = true := int_one _ _
              go_wp2_with ((with_reducible refine L_appR slB Try.underlying23 (HOJ.out.alloc _) (Rd.one _ _ _) hon8 rfl ?_ ?_ ?_ ?_ ?_); (focus rfl); (focus rfl); (focus exact ⟨_, rfl⟩); (focus exact ⟨room1 (by omega), by omega, by simp; exact Nat.le_succ_of_le hbj.size⟩); intro v4 w4 ho4 ha4 hk4 hn4; clear hn4; have HO4 := Lib.hid ho4; have HA4 := Lib.hid ha4; clear ho4 ha4; simp only [Act.put, List.setIfInBounds_toArray, List.set_cons_zero, List.set_cons_succ])
              refine ⟨⟨7 + 1, by omega, by simp, ?_, HA4.out.below (hbj.alloc hbj.size _) (by simp; exact Nat.le_succ_of_le hbj.size) hk4⟩, by simp [intOf]⟩
              rw [hA.out, HD.out]
              have h := HO4.out
              have e : by8 (pre ++ ((hexW x).take 7 ++ [digit d])) = by8 (pre ++ (hexW x).take 7) ++ [.int .u8 ((digit d).toNat : Int)] := by simp [by8]
              rw [e]
              exact h
            omega
        · obtain rfl : k = 8 := by omega
          have hall : ((st.list.take 8).map hexW).flatten = sha l := by rw [HSha.out]; rfl
          rw [hall] at ho
          obtain ⟨p9, c9, rfl, hr9, _⟩ := ho.shape
          have hlen : 8 * 8 = (sha l).length := by have := ho.1; rw [by8_len] at this; omega
          have H9 := Lib.hid hr9
          have HL9 := Lib.hid hlen
          clear ho hr9 hall hlen
          go_wp2_with ((with_reducible refine L_b2s slB isB isS H9.out ?_ ?_ ?_); (focus rfl); (focus exact ⟨_, _, rfl, HL9.out⟩); simp only [Act.put, List.setIfInBounds_toArray, List.set_cons_zero, List.set_cons_succ])
          go_ret
          exact ⟨rfl, hbel.trans (hbr.mono hbel.size)⟩
end Go.Proofs.YtfeefpaclaonfaaR
