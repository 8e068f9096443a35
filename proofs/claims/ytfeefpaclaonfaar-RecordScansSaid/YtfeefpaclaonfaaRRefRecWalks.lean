/- The walks over the document's four, number, Frame and Scan. -/
import Derived.Test.YtfeefpaclaonfaaRRecTold
import Derived.Deep.DeepCutAuto
import Derived.Deep.CutBlock
set_option linter.unusedSimpArgs false
set_option linter.unusedVariables false
namespace Go.Proofs.YtfeefpaclaonfaaR
open Go.RowKit Go.BigFrame Wire Crc Rec

theorem four_vals (n : Nat) (hn : n < 4294967296) : by8 (beB n 4) = [.int .u8 ((n : Int) / 16777216), .int .u8 ((n : Int) / 65536 % 256), .int .u8 ((n : Int) / 256 % 256), .int .u8 ((n : Int) % 256)] := by
  have e3 : 256 ^ 3 = 16777216 := by decide
  have e2 : 256 ^ 2 = 65536 := by decide
  have h : n / 16777216 % 256 = n / 16777216 := Nat.mod_eq_of_lt (by omega)
  simp only [beB, by8, List.map_cons, List.map_nil, e3, e2, Nat.pow_one, Nat.pow_zero, Nat.div_one, UInt8.toNat_ofNat', Nat.reducePow, h]
  simp

set_option maxRecDepth 20000 in
set_option maxHeartbeats 400000 in
theorem ref_four (n : Nat) (w : World) (hn : n < 4294967296) :
    Calls Try.prog 32 #[.int .u32 (n : Int)] w fun e w' => e = .returned (.string (str (beB n 4))) ∧ Below w.heap.size w w' := by
  go_enter Try.func32, Try.ntmps32
  have hr := Rd8.new w (beB n 4) #[.int .u8 ((n : Int) / 16777216), .int .u8 ((n : Int) / 65536 % 256), .int .u8 ((n : Int) / 256 % 256), .int .u8 ((n : Int) % 256)] 5 (0, 0) (by rw [four_vals n hn]; exact List.prefix_rfl)
  have HR := Lib.hid hr
  clear hr
  go_wp2_with ((with_reducible refine L_b2s slB isB isS HR.out ?_ ?_ ?_); (focus rfl); (focus exact ⟨_, _, rfl, (beB_len _ _).symm⟩); simp only [Act.put, List.setIfInBounds_toArray, List.set_cons_zero, List.set_cons_succ])
  go_ret
  exact ⟨rfl, grewA (Below.refl _ _) _⟩
/-- an or of parts that do not meet is a sum -/
theorem or_sum (g k b : Nat) (hb : b < 2 ^ k) (hs : g * 2 ^ k + b < 9223372036854775808) (a : Int) (ha : a = ((g * 2 ^ k : Nat) : Int)) : bits .or .i64 a (b : Int) = ((g * 2 ^ k + b : Nat) : Int) := by
  subst ha
  show IntKind.i64.wrap ((BitVec.ofInt 64 ((g * 2 ^ k : Nat) : Int) ||| BitVec.ofInt 64 (b : Int)).toNat : Int) = _
  rw [BitVec.toNat_or, ofInt_u64 _ (by omega), ofInt_u64 b (by omega)]
  have h := Nat.shiftLeft_add_eq_or_of_lt hb g
  rw [Nat.shiftLeft_eq] at h
  rw [← h]
  generalize g * 2 ^ k + b = s at *
  rw [IntKind.wrap_i64]
  omega
theorem num_or (a b c d : UInt8) : bits .or .i64 (bits .or .i64 (bits .or .i64 (wrap64 (wrap64 (a.toNat : Int) * 16777216)) (wrap64 (wrap64 (b.toNat : Int) * 65536))) (wrap64 (wrap64 (c.toNat : Int) * 256))) (wrap64 (d.toNat : Int)) = (Wire.get [a, b, c, d] : Int) := by
  have ha := a.toNat_lt
  have hb := b.toNat_lt
  have hc := c.toNat_lt
  have hd := d.toNat_lt
  have e1 : wrap64 (wrap64 (b.toNat : Int) * 65536) = ((b.toNat * 65536 : Nat) : Int) := by unfold wrap64; omega
  have e2 : wrap64 (wrap64 (c.toNat : Int) * 256) = ((c.toNat * 256 : Nat) : Int) := by unfold wrap64; omega
  have e3 : wrap64 (d.toNat : Int) = (d.toNat : Int) := by unfold wrap64; omega
  rw [e1, e2, e3, or_sum a.toNat 24 (b.toNat * 65536) (by omega) (by omega) _ (by unfold wrap64; omega),
    or_sum (a.toNat * 256 + b.toNat) 16 (c.toNat * 256) (by omega) (by omega) _ (by omega),
    or_sum (a.toNat * 65536 + b.toNat * 256 + c.toNat) 8 d.toNat (by omega) (by omega) _ (by omega)]
  simp only [Wire.get, List.foldl_cons, List.foldl_nil]
  omega
set_option maxRecDepth 20000 in
set_option maxHeartbeats 400000 in
theorem ref_number (l : List UInt8) (w : World) (hl : l.length = 4) :
    Calls Try.prog 34 #[.string (str l)] w fun e w' => e = .returned (.int .i64 (get l : Int)) ∧ Below w.heap.size w w' := by
  obtain ⟨a, b, c, d, rfl⟩ : ∃ a b c d, l = [a, b, c, d] := by
    match l, hl with
    | [a, b, c, d], _ => exact ⟨a, b, c, d, rfl⟩
  clear hl
  go_enter Try.func34, Try.ntmps34
  go_wp2_with fail
  go_quiet (fail)
  have hv := num_or a b c d
  go_wp2_with fail
  go_ret
  refine ⟨?_, ⟨rfl, rfl, rfl, Nat.le_refl _, fun _ _ => rfl⟩⟩
  rw [← hv]; rfl
set_option maxRecDepth 20000 in
set_option maxHeartbeats 400000 in
theorem ref_frame (l : List UInt8) (w : World) (hl : l.length ≤ 1048576) :
    Calls Try.prog 21 #[.string (str l)] w fun e w' => e = .returned (.tuple #[.string (str (frame l)), .int .i64 0]) ∧ Below w.heap.size w w' := by
  have d1 : decide ((1048576 : Int) < (l.length : Int)) = false := by simp; omega
  go_enter Try.func21, Try.ntmps21
  go_wp2_with fail
  go_fit (ref_four l.length w (by omega))
  rintro e w1 ⟨rfl, hb1⟩
  have hn4 : (beB l.length 4).length = 4 := beB_len _ _
  have hlen : (beB l.length 4 ++ l).length ≤ 1099511627776 := by rw [List.length_append, hn4]; omega
  go_wp2_with (first | ((with_reducible refine L_s2b isS slB isB w1.heap.size (l := beB l.length 4 ++ l) ?_ ?_ ?_ ?_); (focus rfl); (focus rfl); (focus exact ⟨room1 (by omega), Nat.le_refl _⟩); intro cap2 w2 ho2 hb2; have HO2 := Lib.hid ho2; clear ho2; simp only [Act.put, List.setIfInBounds_toArray, List.set_cons_zero, List.set_cons_succ]) | fail)
  have hr2 : Rd8 w2 (some ⟨w1.heap.size, 0, none⟩) (beB l.length 4 ++ l) := HO2.out.txt.2.1
  go_fit (ref_n0 _ (4 + l.length) cap2 (beB l.length 4 ++ l) w2 hr2 (by rw [List.length_append, hn4]) (by omega))
  rintro e w3 ⟨rfl, rfl⟩
  have hbel := hb1.trans (hb2.mono hb1.size)
  have hup := upd_append 0#32 (beB l.length 4) l
  rw [hup]
  have hfr : frame l = beB l.length 4 ++ beB (upd (upd 0#32 (beB l.length 4)) l).toNat 4 ++ l := rfl
  have HFR := Lib.hid hfr
  clear hup hfr
  have hcl := (upd (upd 0#32 (beB l.length 4)) l).isLt
  generalize (upd (upd 0#32 (beB l.length 4)) l).toNat = c at *
  have hc4 : (beB c 4).length ≤ 4 := Nat.le_of_eq (beB_len _ _)
  go_wp2_with fail
  go_fit (ref_four c w2 (by omega))
  rintro e w4 ⟨rfl, hb4⟩
  go_wp2_with fail
  go_ret2
  exact ⟨(show Ending.returned (.tuple #[.string (str (beB l.length 4 ++ (beB c 4 ++ l))), .int .i64 0]) = _ from by rw [HFR.out, List.append_assoc]), hbel.trans (hb4.mono hbel.size)⟩

theorem slSS : SlT Try.prog 31 9 1 16 := SlT.of (z := .string .empty) (by kernel_rfl) rfl (by decide) Try.underlying31
/-- where the document's Scan stands -/
def RefScanRel (l : List UInt8) (w : World) (out i : Value) (wr : World) : Prop :=
  ∃ (a : Nat) (L : List (List UInt8)), a ≤ l.length ∧ i = .int .i64 a ∧ OwnS wr w.heap.size 9 1 out L.length (L.map fun x => Value.string (str x)) ∧ Below w.heap.size w wr ∧ scan l = (L ++ (scan (l.drop a)).1, a + (scan (l.drop a)).2) ∧ L.length ≤ a
def RefScanEnd (l : List UInt8) (w : World) (out i : Value) (wr : World) : Prop :=
  i = .int .i64 ((scan l).2 : Int) ∧ OwnS wr w.heap.size 9 1 out (scan l).1.length ((scan l).1.map fun x => Value.string (str x)) ∧ Below w.heap.size w wr
theorem RefScanRel.done {l : List UInt8} {w : World} {out : Value} {a : Nat} {wr : World} {L : List (List UInt8)} {r : List UInt8} (ho : OwnS wr w.heap.size 9 1 out L.length (L.map fun x => Value.string (str x))) (hb : Below w.heap.size w wr)
    (hs : scan l = (L ++ (scan r).1, a + (scan r).2)) (h1 : one r = none) : RefScanEnd l w out (.int .i64 (a : Int)) wr := by
  rw [scan_none h1, List.append_nil, Nat.add_zero] at hs
  unfold RefScanEnd
  rw [hs]
  exact ⟨rfl, ho, hb⟩
/-- a piece is a frame as found, or it is none -/
theorem one_iff (r : List UInt8) (n : Nat) (h8 : 8 ≤ r.length) (hn : n = get (r.take 4)) (h1 : n ≤ 1048576) (h2 : n ≤ r.length - 8) : (frame ((r.drop 8).take n) = r.take (8 + n) → one r = some n) ∧ (frame ((r.drop 8).take n) ≠ r.take (8 + n) → one r = none) := by
  have hl : ((r.drop 8).take n).length = n := by rw [List.length_take, List.length_drop]; omega
  have ht4 : (r.take 4).length = 4 := by rw [List.length_take]; omega
  have hd4 : ((r.drop 4).take 4).length = 4 := by rw [List.length_take, List.length_drop]; omega
  have e0 : beB n 4 = r.take 4 := by rw [hn]; have := beB_get_self (r.take 4); rwa [ht4] at this
  have esplit : r.take (8 + n) = r.take 4 ++ (r.drop 4).take 4 ++ (r.drop 8).take n := by
    rw [show 8 + n = 4 + (4 + n) by omega, List.take_add, List.take_add, List.drop_drop, List.append_assoc]
  have ef : frame ((r.drop 8).take n) = r.take 4 ++ beB (upd (upd 0#32 (r.take 4)) ((r.drop 8).take n)).toNat 4 ++ (r.drop 8).take n := by
    unfold frame; rw [hl, e0]
  have eg : upd (upd 0#32 (r.take 4)) ((r.drop 8).take n) = BitVec.ofNat 32 (get ((r.drop 4).take 4)) ↔ beB (upd (upd 0#32 (r.take 4)) ((r.drop 8).take n)).toNat 4 = (r.drop 4).take 4 := by
    have h32 : 256 ^ 4 = 2 ^ 32 := by decide
    constructor
    · intro h
      rw [h, BitVec.toNat_ofNat, Nat.mod_eq_of_lt (by have := get_lt ((r.drop 4).take 4); rw [hd4, h32] at this; exact this)]
      have := beB_get_self ((r.drop 4).take 4); rwa [hd4] at this
    · intro h
      rw [← h, get_beB]
      apply BitVec.eq_of_toNat_eq
      rw [BitVec.toNat_ofNat, h32, Nat.mod_mod]
      exact (Nat.mod_eq_of_lt (BitVec.isLt _)).symm
  rw [ef, esplit]
  unfold one
  rw [if_neg (by omega), ← hn]
  constructor
  · intro h
    have h' := List.append_cancel_right h
    have h'' := List.append_cancel_left h'
    rw [if_neg (by rw [not_or, not_or]; exact ⟨by omega, by omega, fun hc => hc (eg.2 h'')⟩)]
  · intro h
    rw [if_pos (.inr (.inr fun hc => h (by rw [eg.1 hc])))]

set_option maxRecDepth 20000 in
set_option maxHeartbeats 4000000 in
theorem ref_scan (l : List UInt8) (w : World) (hm : l.length ≤ 1099511627776) :
    Calls Try.prog 24 #[.string (str l)] w fun e w' => ∃ q c, e = .returned (.tuple #[.slice q (scan l).1.length c, .int .i64 ((scan l).2 : Int)]) ∧ RdS w' q (scan l).1 ∧ Below w.heap.size w w' := by
  go_enter Try.func24, Try.ntmps24
  go_upto_block 0 with (fail)
  go_cut [4, 5] (fun out i wc => RefScanEnd l w out i wc)
  case first =>
    go_wp2_with fail
    go_loopw [4, 5] (fun out i wr => RefScanRel l w out i wr) (fun _ i _ => l.length - (intOf i).toNat)
    case atStart => exact ⟨0, [], by omega, rfl, by simpa using OwnS.none, Below.refl _ _, by simp, by simp⟩
    case round =>
      obtain ⟨a, L, ha, rfl, ho, hbel, hsc, hLa⟩ := hrel
      have HO := Lib.hid ho
      have HS := Lib.hid hsc
      clear ho hsc
      by_cases h8 : l.length - a < 8
      · have d1 : decide ((8 : Int) ≤ (l.length : Int) - (a : Int)) = false := by simp; omega
        go_wp2_with fail
        go_meet
        refine RefScanRel.done HO.out hbel HS.out ?_
        unfold one
        rw [if_pos (by rw [List.length_drop]; exact h8)]
      · have d1 : decide ((8 : Int) ≤ (l.length : Int) - (a : Int)) = true := by simp; omega
        have h8 : 8 ≤ l.length - a := by omega
        have hr4 : List.drop a (List.take (a + 4) l) = (l.drop a).take 4 := by rw [List.drop_take, Nat.add_sub_cancel_left]
        have hl4 : ((l.drop a).take 4).length = 4 := by rw [List.length_take, List.length_drop]; omega
        have HR4 := Lib.hid hr4
        have HL4 := Lib.hid hl4
        have hlr := Lib.hid (show (l.drop a).length = l.length - a from List.length_drop)
        have hg1 : get ((l.drop a).take 4) < 4294967296 := by
          have h1 := get_lt ((l.drop a).take 4)
          rw [hl4] at h1
          have h3 : 256 ^ 4 = 4294967296 := by decide
          omega
        clear hr4 hl4
        go_wp2_with fail
        rw [HR4.out]
        go_fit (ref_number ((l.drop a).take 4) wr HL4.out)
        rintro e w1 ⟨rfl, hb1⟩
        generalize hn : get ((l.drop a).take 4) = n at *
        have HN := Lib.hid hn
        clear hn
        have hb1' := hbel.trans (hb1.mono hbel.size)
        by_cases c1 : 1048576 < n
        · have d2 : decide ((1048576 : Int) < (n : Int)) = true := by simp; omega
          go_wp2_with fail
          go_meet
          refine RefScanRel.done (HO.out.below hb1) hb1' HS.out ?_
          unfold one
          rw [if_neg (by rw [hlr.out]; omega), HN.out, if_pos (.inl c1)]
        have d2 : decide ((1048576 : Int) < (n : Int)) = false := by simp; omega
        by_cases c2 : l.length - a - 8 < n
        · have d3 : decide ((l.length : Int) - (a : Int) - 8 < (n : Int)) = true := by simp; omega
          go_wp2_with fail
          go_meet
          refine RefScanRel.done (HO.out.below hb1) hb1' HS.out ?_
          unfold one
          rw [if_neg (by rw [hlr.out]; omega), HN.out, if_pos (.inr (.inl (by rw [hlr.out]; exact c2)))]
        have d3 : decide ((l.length : Int) - (a : Int) - 8 < (n : Int)) = false := by simp; omega
        have hb8 : List.drop (a + 8) (List.take (a + 8 + n) l) = ((l.drop a).drop 8).take n := by
          rw [List.drop_take, Nat.add_sub_cancel_left, List.drop_drop]
        have hpc : List.drop a (List.take (a + 8 + n) l) = (l.drop a).take (8 + n) := by
          rw [List.drop_take, Nat.add_assoc, Nat.add_sub_cancel_left]
        have HI := Lib.hid (one_iff (l.drop a) n (by rw [hlr.out]; omega) HN.out.symm (by omega) (by rw [hlr.out]; omega))
        have hlb : (((l.drop a).drop 8).take n).length = n := by rw [List.length_take, List.length_drop, hlr.out]; omega
        have HB8 := Lib.hid hb8
        have HPC := Lib.hid hpc
        have HLB := Lib.hid hlb
        clear hb8 hpc hlb
        go_wp2_with fail
        rw [HB8.out]
        generalize hbd : ((l.drop a).drop 8).take n = bd at HI HLB ⊢
        have HBD := Lib.hid hbd
        clear hbd
        go_fit (ref_frame bd w1 (by rw [HLB.out]; omega))
        rintro e w2 ⟨rfl, hb2⟩
        have hb2' := hb1'.trans (hb2.mono hb1'.size)
        by_cases c3 : frame bd = (l.drop a).take (8 + n)
        · have d4 : (!frame bd == List.drop a (List.take (a + 8 + n) l)) = false := by rw [HPC.out, c3]; simp
          have H1 := Lib.hid (HI.out.1 c3)
          have HO2 := Lib.hid (HO.out.below (grew hb1 hb2))
          clear c3
          have hs1 : ∀ u ∈ [Value.string (str bd)], u.oneCell' = true := by simp [Value.oneCell']
          go_wp2_with ((with_reducible refine L_appR slSS Try.underlying31 (HO2.out.alloc _) (Rd.one _ _ _) hs1 rfl ?_ ?_ ?_ ?_ ?_); (focus rfl); (focus rfl); (focus exact ⟨_, rfl⟩); (focus exact ⟨room1 (by omega), by omega, by simp; exact Nat.le_succ_of_le hb2'.size⟩); intro v4 w4 ho4 ha4 hk4 hn4; clear hn4; have HO4 := Lib.hid ho4; have HA4 := Lib.hid ha4; clear ho4 ha4; simp only [Act.put, List.setIfInBounds_toArray, List.set_cons_zero, List.set_cons_succ])
          have h1s := one_some H1.out
          have h8n : 8 + n ≤ l.length - a := by have := h1s.1; rw [hlr.out] at this; exact this
          refine ⟨⟨a + 8 + n, L ++ [bd], by omega, by go_num, ?_, ?_, ?_, by simp; omega⟩, by simp [intOf]; omega⟩
          · rw [List.length_append, List.map_append]; exact HO4.out
          · exact HA4.out.below (hb2'.alloc hb2'.size _) (by simp; exact Nat.le_succ_of_le hb2'.size) hk4
          · have e1 : l.drop (a + 8 + n) = (l.drop a).drop (8 + n) := by
              rw [List.drop_drop]; congr 1; omega
            rw [HS.out, scan_some H1.out, e1, HBD.out]
            refine Prod.ext ?_ ?_
            · simp
            · simp only; omega
        · have d4 : (!frame bd == List.drop a (List.take (a + 8 + n) l)) = true := by rw [HPC.out]; simpa using c3
          have H1 := Lib.hid (HI.out.2 c3)
          clear c3
          go_wp2_with fail
          go_meet
          exact RefScanRel.done (HO.out.below (grew hb1 hb2)) hb2' HS.out H1.out
  case rest =>
    obtain ⟨rfl, ho, hbel⟩ := hcut
    obtain ⟨q, c, rfl, hr, _⟩ := ho.shape
    have H3 := Lib.hid hr
    clear ho hr
    go_wp2_with fail
    go_ret2
    exact ⟨q, c, rfl, H3.out, hbel⟩
end Go.Proofs.YtfeefpaclaonfaaR
