/- The walk over DiskNames (printed by gen_disknames.py). -/
import Derived.Test.YtadnabgnbhpijaaDiskTold
set_option linter.unusedSimpArgs false
set_option linter.unusedVariables false
namespace Go.Proofs.Ytadnabgnbhpijaa
open Go.RowKit Go.Maps

abbrev oT : List UInt8 := [111, 116, 104, 101, 114]
abbrev gT : List UInt8 := [103, 111, 110, 101]
theorem nam_1 (b : List UInt8) (k : Nat) (h : (b.take k).length ≤ 300) : appendD [97] (b.take k) [] 10000 false = ([([97], ⟨b.take k, 0⟩)], 0) := by
  have e : usedD ([] : Files0) + (b.take k).length ≤ 10000 := by show 0 + _ ≤ _; omega
  unfold appendD
  rw [if_neg (by simp), if_pos (by rfl), if_pos e]; rfl
theorem nam_2 (l : List UInt8) : syncD [97] [([97], ⟨l, 0⟩)] false = ([([97], ⟨l, l.length⟩)], 0) := by
  simp [syncD, kGet, kSet]
theorem nam_3 (l m : List UInt8) (n : Nat) (h : l.length + m.length ≤ 300) : appendD [97] m [([97], ⟨l, n⟩)] 10000 false = ([([97], ⟨l ++ m, n⟩)], 0) := by
  have e : usedD ([([97], ⟨l, n⟩)] : Files0) + m.length ≤ 10000 := by simp only [usedD, List.map_cons, List.map_nil, List.sum_cons, List.sum_nil]; omega
  unfold appendD
  rw [if_neg (by simp), if_pos (by rfl), if_pos e]
  simp [kGet, kSet]
theorem nam_4 (f : FileV) (h : f.b.length ≤ 300) : appendD [98] oT [([97], f)] 10000 false = ([([97], f), ([98], ⟨oT, 0⟩)], 0) := by
  have e : usedD ([([97], f)] : Files0) + oT.length ≤ 10000 := by simp only [usedD, List.map_cons, List.map_nil, List.sum_cons, List.sum_nil, List.length_cons, List.length_nil]; omega
  unfold appendD
  rw [if_neg (by simp), if_pos (by rfl), if_pos e]
  have : ¬ ([98] : List UInt8) < [97] := by decide
  simp [kGet, kPut, kIns, kDel, this]
theorem nam_5t (f : FileV) (h : f.b.length ≤ 300) : appendD [99] gT [([97], f), ([98], ⟨oT, 0⟩)] 10000 false = ([([97], f), ([98], ⟨oT, 0⟩), ([99], ⟨gT, 0⟩)], 0) := by
  have e : usedD ([([97], f), ([98], ⟨oT, 0⟩)] : Files0) + gT.length ≤ 10000 := by simp only [usedD, List.map_cons, List.map_nil, List.sum_cons, List.sum_nil, List.length_cons, List.length_nil]; omega
  unfold appendD
  rw [if_neg (by simp), if_pos (by rfl), if_pos e]
  have h1 : ¬ ([99] : List UInt8) < [97] := by decide
  have h2 : ¬ ([99] : List UInt8) < [98] := by decide
  simp [kGet, kPut, kIns, kDel, h1, h2]
theorem nam_5f (f : FileV) (h : f.b.length ≤ 300) : appendD [99] gT [([97], f)] 10000 false = ([([97], f), ([99], ⟨gT, 0⟩)], 0) := by
  have e : usedD ([([97], f)] : Files0) + gT.length ≤ 10000 := by simp only [usedD, List.map_cons, List.map_nil, List.sum_cons, List.sum_nil, List.length_cons, List.length_nil]; omega
  unfold appendD
  rw [if_neg (by simp), if_pos (by rfl), if_pos e]
  have h1 : ¬ ([99] : List UInt8) < [97] := by decide
  simp [kGet, kPut, kIns, kDel, h1]
theorem nam_6t (f g h : FileV) : renameD [97] [98] [([97], f), ([98], g), ([99], h)] false = ([([98], f), ([99], h)], 0) := by
  have h1 : ([98] : List UInt8) < [99] := by decide
  simp [renameD, mayN, kGet, kPut, kIns, kDel, h1]
theorem nam_6f (f h : FileV) : renameD [97] [98] [([97], f), ([99], h)] false = ([([98], f), ([99], h)], 0) := by
  have h1 : ([98] : List UInt8) < [99] := by decide
  simp [renameD, mayN, kGet, kPut, kIns, kDel, h1]
theorem nam_7 (f h : FileV) : deleteD [99] [([98], f), ([99], h)] false = ([([98], f)], 0) := by
  simp [deleteD, kGet, kDel]
theorem nam_8 (f : FileV) : renameD [97] [120] [([98], f)] false = ([([98], f)], 25) := by
  simp [renameD, kGet]
theorem nam_9 (keep : Int) (b : List UInt8) (k : Nat) : kMap (crashF keep false) ([([98], ⟨b, k⟩)] : Files0) = [([98], ⟨b.take (keepN keep ⟨b, k⟩), keepN keep ⟨b, k⟩⟩)] := by
  rw [kMap_one, crashF_off _ _ _ (.inl rfl)]
theorem nam_10 (f : FileV) : readD [98] [([98], f)] false = (f.b, 0) := by
  simp [readD, kGet]
theorem size_none_B {S : Nat → Prop} {w : World} {db room : Nat} {down : Bool} {D : Files0} (h : DiskAt S w db D room down) {name : List UInt8} (hl : name.length ≤ maxLen) (hx : kGet name D = none) :
    Calls Try.prog 25 #[.pointer (some ⟨db, 0, none⟩), .string (str name)] w fun e w' => e = .returned (.int .i64 0) ∧ w = w' := by
  obtain ⟨mb, E, hd, rfl⟩ := h
  refine size_none hd hl ?_
  rw [get_file] at hx
  cases h : kGet name E with
  | none => rfl
  | some x => rw [h] at hx; cases hx

set_option maxHeartbeats 2000000 in
set_option maxRecDepth 20000 in
theorem diskNames_t (p : Option Addr) (c : Nat) (b : List UInt8) (at_ keep : Int) (w : World) (g : Rd8 w p b) (hm : b.length ≤ c) (hc : c ≤ 9223372036854775807) (hk : -9223372036854775808 ≤ keep ∧ keep ≤ 9223372036854775807) (h1 : b.length ≤ 300) :
    Calls Try.prog 6 #[.slice p b.length c, .int .i64 at_, .int .i64 keep, .bool true] w fun e w' => e = .returned (.bool true) ∧ Below w.heap.size w w' := by
  have HA := Lib.hid g
  clear g
  have d1 : decide ((300 : Int) < (b.length : Int)) = false := by simp; omega
  obtain ⟨u, k, hu, hk0, hk1, hk2⟩ := uint_mod at_ ((b.length : Int) + 1) (b.length + 1) (by omega) (by omega)
  have hadd : IntKind.i64.wrap ((b.length : Int) + 1) = (b.length : Int) + 1 := IntWalk.i64_in _ (by omega)
  have hu2 : IntKind.u64.wrap ((b.length : Int) + 1) = (b.length : Int) + 1 := by rw [IntKind.wrap_u64]; omega
  have hlk : (b.take k).length = k := by rw [List.length_take]; omega
  have hld : (b.drop k).length = b.length - k := by simp
  have hs1 := run_slice_to slB w p b.length c k (by omega)
  have HK := Lib.hid (And.intro hlk hld)
  have hkl : k ≤ b.length := by omega
  have hcv := fun (w : World) (C : Array Value) (n c : Nat) => Lib.run_convert_bytes_const (P := Try.prog) w 22 5 C n c Try.underlying22 Try.underlying5
  clear hk0 hlk hld
  go_enter Try.func6, Try.ntmps6
  go_wp2_with fail
  go_fit (new_nat 10000 w (by omega))
  rintro e w1 ⟨db, rfl, hd1, hb1⟩
  have HD1 := Lib.hid hd1
  have HB1 := Lib.hid hb1
  clear hd1 hb1
  go_wp2_with fail
  go_fit (append_B HD1.out HB1.out.size (by simp) [97] (b.take k) (by decide) ((HA.out.below HB1.out).take k) HK.out.1.symm (by rw [HK.out.1]; omega) (nam_1 b k (by rw [HK.out.1]; omega)))
  rintro e w2 ⟨rfl, hd2, hb2⟩
  have HD2 := Lib.hid hd2
  have HB2 := Lib.hid (HB1.out.trans hb2)
  clear hd2 hb2
  go_wp2_with fail
  go_fit (sync_B HD2.out HB2.out.size [97] (by decide) (nam_2 _))
  rintro e w3 ⟨rfl, hd3, hb3⟩
  have HD3 := Lib.hid hd3
  have HB3 := Lib.hid (HB2.out.trans hb3)
  clear hd3 hb3 hs1
  have hs2 := run_slice_from slB w3 p b.length c k (by omega)
  have hrd := (HA.out.below HB3.out).shift (l := k) (n := b.length) (cap := c) (sz := 1) (by rw [by8_mul]) hm
  rw [Nat.mul_one, ← by8_drop] at hrd
  have HRD := Lib.hid hrd
  clear hrd
  go_wp2_with fail
  go_fit (append_B HD3.out HB3.out.size (by simp) [97] (b.drop k) (by decide) HRD.out HK.out.2.symm (by rw [HK.out.2]; omega) (nam_3 _ _ _ (by rw [HK.out.1, HK.out.2]; omega)))
  rw [List.take_append_drop, HK.out.1]
  rintro e w4 ⟨rfl, hd4, hb4⟩
  have HD4 := Lib.hid hd4
  have HB4 := Lib.hid (HB3.out.trans hb4)
  clear hd4 hb4 hs2
  go_wp2_with fail
  go_fit (append_B (HD4.out.below ((Below.refl _ _).alloc (Nat.le_refl _) _)) (Nat.le_trans HB4.out.size (by simp)) (by simp) [98] oT (by decide) (Rd8.new _ oT _ _ _ ⟨[], rfl⟩) rfl (by simp) (nam_4 _ h1))
  rintro e w5 ⟨rfl, hd5, hb5⟩
  have HD5 := Lib.hid hd5
  have HB5 := Lib.hid ((HB4.out.alloc HB4.out.size _).trans hb5)
  clear hd5 hb5
  go_wp2_with fail
  go_fit (append_B (HD5.out.below ((Below.refl _ _).alloc (Nat.le_refl _) _)) (Nat.le_trans HB5.out.size (by simp)) (by simp) [99] gT (by decide) (Rd8.new _ gT _ _ _ ⟨[], rfl⟩) rfl (by simp) (nam_5t _ h1))
  rintro e w6 ⟨rfl, hd6, hb6⟩
  have HD6 := Lib.hid hd6
  have HB6 := Lib.hid ((HB5.out.alloc HB5.out.size _).trans hb6)
  clear hd6 hb6
  go_wp2_with fail
  go_fit (rename_B HD6.out HB6.out.size (by simp) [97] [98] (by decide) (by decide) (nam_6t _ _ _))
  rintro e w7 ⟨rfl, hd7, hb7⟩
  have HD7 := Lib.hid hd7
  have HB7 := Lib.hid (HB6.out.trans hb7)
  clear hd7 hb7
  go_wp2_with fail
  go_fit (delete_B HD7.out HB7.out.size [99] (by decide) (nam_7 _ _))
  rintro e w8 ⟨rfl, hd8, hb8⟩
  have HD8 := Lib.hid hd8
  have HB8 := Lib.hid (HB7.out.trans hb8)
  clear hd8 hb8
  go_wp2_with fail
  go_fit (rename_B HD8.out HB8.out.size (by simp) [97] [120] (by decide) (by decide) (nam_8 _))
  rintro e w9 ⟨rfl, hd9, hb9⟩
  have HD9 := Lib.hid hd9
  have HB9 := Lib.hid (HB8.out.trans hb9)
  clear hd9 hb9
  clear hcv
  go_wp2_with fail
  go_fit (crash_B HD9.out HB9.out.size keep false hk (nam_9 keep b k))
  rintro e w10 ⟨rfl, hd10, hb10⟩
  have HD10 := Lib.hid hd10
  have HB10 := Lib.hid (HB9.out.trans hb10)
  clear hd10 hb10
  go_wp2_with fail
  go_fit (start_B HD10.out HB10.out.size)
  rintro e w11 ⟨rfl, hd11, hb11⟩
  have HD11 := Lib.hid hd11
  have HB11 := Lib.hid (HB10.out.trans hb11)
  clear hd11 hb11
  rw [if_pos rfl]
  go_wp2_with fail
  go_fit (names_B HD11.out (by simp))
  rintro e wn ⟨pn, cn, rfl, hrn, hbn⟩
  simp only [List.length_cons, List.length_nil, Nat.zero_add]
  have HDN := Lib.hid (HD11.out.below hbn)
  have HBN := Lib.hid (HB11.out.trans (hbn.mono HB11.out.size))
  have HRN := Lib.hid hrn
  clear hrn hbn
  have hkn : keepN keep ⟨b, k⟩ ≤ b.length := (keepN_le keep ⟨b, k⟩ hkl).2
  have hn : (k : Int) + max 0 (min keep ((b.length : Int) - (k : Int))) = (keepN keep ⟨b, k⟩ : Int) := by unfold keepN; simp only; omega
  have hw1 : IntKind.i64.wrap ((k : Int) + max 0 (min keep ((b.length : Int) - (k : Int)))) = (keepN keep ⟨b, k⟩ : Int) := by rw [hn]; exact IntWalk.i64_in _ (by omega)
  generalize hkeep : keepN keep ⟨b, k⟩ = n at *
  have HKEEP := Lib.hid hkeep
  have HN := Lib.hid hn
  have hnl : (b.take n).length = n := by rw [List.length_take]; omega
  have HNL := Lib.hid hnl
  clear hkeep hn
  go_wp2_with fail
  go_fit (read_B HDN.out HBN.out.size [98] (by decide) (nam_10 _))
  rintro e wr ⟨q, cq, rfl, hrr, _, hbr⟩
  have HRR := Lib.hid hrr
  have HDR := Lib.hid (HDN.out.below hbr)
  have HBR := Lib.hid (HBN.out.trans (hbr.mono HBN.out.size))
  have HNR := Lib.hid (HRN.out.below hbr)
  clear hrr hbr
  simp only [hnl]
  have g1 := rg_below (w := wr) (fun u hu => told3_any u)
  have g2 : ∀ d os, Calls Try.prog 25 #[.pointer (some ⟨db, 0, none⟩), .string ⟨#[97]⟩] (Go.Sort.grow (redrawn wr d) os) fun e w'' => e = .returned (.int .i64 0) ∧ ∃ p : Regrown, w'' = Go.Sort.grow (redrawn wr p.d) p.os :=
    rg_same (w := wr) (fun u hu => size_none_B (HDR.out.below hu) (name := [97]) (by decide) (by rfl))
  have g3 := rg_below (w := wr) (fun u hu => used_any (HDR.out.below hu) (by simp))
  have hus : usedD ([([98], ⟨b.take n, n⟩)] : Files0) = n := by simp only [usedD, List.map_cons, List.map_nil, List.sum_cons, List.sum_nil, Nat.add_zero]; exact hnl
  rw [hus] at g3
  have G1 := Lib.hid g1
  have G2 := Lib.hid g2
  have G3 := Lib.hid g3
  obtain ⟨bn, on_, rfl, hcn⟩ := HNR.out.at (k := 0) (by simp)
  have c0 : wr.cell? ⟨bn, on_, none⟩ = some (.string (str [98])) := hcn 0 (by simp)
  have c0r := cell_regrown c0
  have v1 : ∀ d os, (convert 22 9 (.slice q n cq)).run Try.prog (Go.Sort.grow (redrawn wr d) os) = .ok (.string (str (b.take n))) (Go.Sort.grow (redrawn wr d) os) := fun d os => by
    have h := run_b2s slB isB isS (cap := cq) (HRR.out.below (below_regrown wr d os))
    rw [HNL.out] at h; exact h
  have v2 : ∀ d os, (convert 22 9 (.slice p n c)).run Try.prog (Go.Sort.grow (redrawn wr d) os) = .ok (.string (str (b.take n))) (Go.Sort.grow (redrawn wr d) os) := fun d os => by
    have h := run_b2s slB isB isS (cap := c) (((HA.out.below HBR.out).take n).below (below_regrown wr d os))
    rw [HNL.out] at h; exact h
  have v3 := fun u => run_slice_to slB u p b.length c n (by omega)
  clear g1 g2 g3 hus hcn hkn hnl
  go_wp2_with fail
  refine wp_region_quiet_below (by kernel_rfl) (by kernel_rfl) ?_; (repeat (first | go_big_quiet_step (first | (first | with_reducible exact G1.out _ _ | with_reducible exact G2.out _ _ | with_reducible exact G3.out _ _) | fail) | quiet_step (first | (first | with_reducible exact G1.out _ _ | with_reducible exact G2.out _ _ | with_reducible exact G3.out _ _) | fail))); refine wpQuiet_nil ?_; intro _ hw'; obtain ⟨⟨dq, osq⟩, hw''⟩ := hw'; subst hw''; have hq := below_regrown wr dq osq; generalize Go.Sort.grow (redrawn wr dq) osq = wz at *; clear dq osq
  go_wp2_with fail
  go_ret
  exact ⟨rfl, HBR.out.trans (hq.mono HBR.out.size)⟩

set_option maxHeartbeats 2000000 in
set_option maxRecDepth 20000 in
theorem diskNames_f (p : Option Addr) (c : Nat) (b : List UInt8) (at_ keep : Int) (w : World) (g : Rd8 w p b) (hm : b.length ≤ c) (hc : c ≤ 9223372036854775807) (hk : -9223372036854775808 ≤ keep ∧ keep ≤ 9223372036854775807) (h1 : b.length ≤ 300) :
    Calls Try.prog 6 #[.slice p b.length c, .int .i64 at_, .int .i64 keep, .bool false] w fun e w' => e = .returned (.bool true) ∧ Below w.heap.size w w' := by
  have HA := Lib.hid g
  clear g
  have d1 : decide ((300 : Int) < (b.length : Int)) = false := by simp; omega
  obtain ⟨u, k, hu, hk0, hk1, hk2⟩ := uint_mod at_ ((b.length : Int) + 1) (b.length + 1) (by omega) (by omega)
  have hadd : IntKind.i64.wrap ((b.length : Int) + 1) = (b.length : Int) + 1 := IntWalk.i64_in _ (by omega)
  have hu2 : IntKind.u64.wrap ((b.length : Int) + 1) = (b.length : Int) + 1 := by rw [IntKind.wrap_u64]; omega
  have hlk : (b.take k).length = k := by rw [List.length_take]; omega
  have hld : (b.drop k).length = b.length - k := by simp
  have hs1 := run_slice_to slB w p b.length c k (by omega)
  have HK := Lib.hid (And.intro hlk hld)
  have hkl : k ≤ b.length := by omega
  have hcv := fun (w : World) (C : Array Value) (n c : Nat) => Lib.run_convert_bytes_const (P := Try.prog) w 22 5 C n c Try.underlying22 Try.underlying5
  clear hk0 hlk hld
  go_enter Try.func6, Try.ntmps6
  go_wp2_with fail
  go_fit (new_nat 10000 w (by omega))
  rintro e w1 ⟨db, rfl, hd1, hb1⟩
  have HD1 := Lib.hid hd1
  have HB1 := Lib.hid hb1
  clear hd1 hb1
  go_wp2_with fail
  go_fit (append_B HD1.out HB1.out.size (by simp) [97] (b.take k) (by decide) ((HA.out.below HB1.out).take k) HK.out.1.symm (by rw [HK.out.1]; omega) (nam_1 b k (by rw [HK.out.1]; omega)))
  rintro e w2 ⟨rfl, hd2, hb2⟩
  have HD2 := Lib.hid hd2
  have HB2 := Lib.hid (HB1.out.trans hb2)
  clear hd2 hb2
  go_wp2_with fail
  go_fit (sync_B HD2.out HB2.out.size [97] (by decide) (nam_2 _))
  rintro e w3 ⟨rfl, hd3, hb3⟩
  have HD3 := Lib.hid hd3
  have HB3 := Lib.hid (HB2.out.trans hb3)
  clear hd3 hb3 hs1
  have hs2 := run_slice_from slB w3 p b.length c k (by omega)
  have hrd := (HA.out.below HB3.out).shift (l := k) (n := b.length) (cap := c) (sz := 1) (by rw [by8_mul]) hm
  rw [Nat.mul_one, ← by8_drop] at hrd
  have HRD := Lib.hid hrd
  clear hrd
  go_wp2_with fail
  go_fit (append_B HD3.out HB3.out.size (by simp) [97] (b.drop k) (by decide) HRD.out HK.out.2.symm (by rw [HK.out.2]; omega) (nam_3 _ _ _ (by rw [HK.out.1, HK.out.2]; omega)))
  rw [List.take_append_drop, HK.out.1]
  rintro e w4 ⟨rfl, hd4, hb4⟩
  have HD4 := Lib.hid hd4
  have HB4 := Lib.hid (HB3.out.trans hb4)
  clear hd4 hb4 hs2
  go_wp2_with fail
  go_fit (append_B (HD4.out.below ((Below.refl _ _).alloc (Nat.le_refl _) _)) (Nat.le_trans HB4.out.size (by simp)) (by simp) [99] gT (by decide) (Rd8.new _ gT _ _ _ ⟨[], rfl⟩) rfl (by simp) (nam_5f _ h1))
  rintro e w5 ⟨rfl, hd5, hb5⟩
  have HD5 := Lib.hid hd5
  have HB5 := Lib.hid ((HB4.out.alloc HB4.out.size _).trans hb5)
  clear hd5 hb5
  go_wp2_with fail
  go_fit (rename_B HD5.out HB5.out.size (by simp) [97] [98] (by decide) (by decide) (nam_6f _ _))
  rintro e w6 ⟨rfl, hd6, hb6⟩
  have HD6 := Lib.hid hd6
  have HB6 := Lib.hid (HB5.out.trans hb6)
  clear hd6 hb6
  go_wp2_with fail
  go_fit (delete_B HD6.out HB6.out.size [99] (by decide) (nam_7 _ _))
  rintro e w7 ⟨rfl, hd7, hb7⟩
  have HD7 := Lib.hid hd7
  have HB7 := Lib.hid (HB6.out.trans hb7)
  clear hd7 hb7
  go_wp2_with fail
  go_fit (rename_B HD7.out HB7.out.size (by simp) [97] [120] (by decide) (by decide) (nam_8 _))
  rintro e w8 ⟨rfl, hd8, hb8⟩
  have HD8 := Lib.hid hd8
  have HB8 := Lib.hid (HB7.out.trans hb8)
  clear hd8 hb8
  clear hcv
  go_wp2_with fail
  go_fit (crash_B HD8.out HB8.out.size keep false hk (nam_9 keep b k))
  rintro e w9 ⟨rfl, hd9, hb9⟩
  have HD9 := Lib.hid hd9
  have HB9 := Lib.hid (HB8.out.trans hb9)
  clear hd9 hb9
  go_wp2_with fail
  go_fit (start_B HD9.out HB9.out.size)
  rintro e w10 ⟨rfl, hd10, hb10⟩
  have HD10 := Lib.hid hd10
  have HB10 := Lib.hid (HB9.out.trans hb10)
  clear hd10 hb10
  rw [if_pos rfl]
  go_wp2_with fail
  go_fit (names_B HD10.out (by simp))
  rintro e wn ⟨pn, cn, rfl, hrn, hbn⟩
  simp only [List.length_cons, List.length_nil, Nat.zero_add]
  have HDN := Lib.hid (HD10.out.below hbn)
  have HBN := Lib.hid (HB10.out.trans (hbn.mono HB10.out.size))
  have HRN := Lib.hid hrn
  clear hrn hbn
  have hkn : keepN keep ⟨b, k⟩ ≤ b.length := (keepN_le keep ⟨b, k⟩ hkl).2
  have hn : (k : Int) + max 0 (min keep ((b.length : Int) - (k : Int))) = (keepN keep ⟨b, k⟩ : Int) := by unfold keepN; simp only; omega
  have hw1 : IntKind.i64.wrap ((k : Int) + max 0 (min keep ((b.length : Int) - (k : Int)))) = (keepN keep ⟨b, k⟩ : Int) := by rw [hn]; exact IntWalk.i64_in _ (by omega)
  generalize hkeep : keepN keep ⟨b, k⟩ = n at *
  have HKEEP := Lib.hid hkeep
  have HN := Lib.hid hn
  have hnl : (b.take n).length = n := by rw [List.length_take]; omega
  have HNL := Lib.hid hnl
  clear hkeep hn
  go_wp2_with fail
  go_fit (read_B HDN.out HBN.out.size [98] (by decide) (nam_10 _))
  rintro e wr ⟨q, cq, rfl, hrr, _, hbr⟩
  have HRR := Lib.hid hrr
  have HDR := Lib.hid (HDN.out.below hbr)
  have HBR := Lib.hid (HBN.out.trans (hbr.mono HBN.out.size))
  have HNR := Lib.hid (HRN.out.below hbr)
  clear hrr hbr
  simp only [hnl]
  have g1 := rg_below (w := wr) (fun u hu => told3_any u)
  have g2 : ∀ d os, Calls Try.prog 25 #[.pointer (some ⟨db, 0, none⟩), .string ⟨#[97]⟩] (Go.Sort.grow (redrawn wr d) os) fun e w'' => e = .returned (.int .i64 0) ∧ ∃ p : Regrown, w'' = Go.Sort.grow (redrawn wr p.d) p.os :=
    rg_same (w := wr) (fun u hu => size_none_B (HDR.out.below hu) (name := [97]) (by decide) (by rfl))
  have g3 := rg_below (w := wr) (fun u hu => used_any (HDR.out.below hu) (by simp))
  have hus : usedD ([([98], ⟨b.take n, n⟩)] : Files0) = n := by simp only [usedD, List.map_cons, List.map_nil, List.sum_cons, List.sum_nil, Nat.add_zero]; exact hnl
  rw [hus] at g3
  have G1 := Lib.hid g1
  have G2 := Lib.hid g2
  have G3 := Lib.hid g3
  obtain ⟨bn, on_, rfl, hcn⟩ := HNR.out.at (k := 0) (by simp)
  have c0 : wr.cell? ⟨bn, on_, none⟩ = some (.string (str [98])) := hcn 0 (by simp)
  have c0r := cell_regrown c0
  have v1 : ∀ d os, (convert 22 9 (.slice q n cq)).run Try.prog (Go.Sort.grow (redrawn wr d) os) = .ok (.string (str (b.take n))) (Go.Sort.grow (redrawn wr d) os) := fun d os => by
    have h := run_b2s slB isB isS (cap := cq) (HRR.out.below (below_regrown wr d os))
    rw [HNL.out] at h; exact h
  have v2 : ∀ d os, (convert 22 9 (.slice p n c)).run Try.prog (Go.Sort.grow (redrawn wr d) os) = .ok (.string (str (b.take n))) (Go.Sort.grow (redrawn wr d) os) := fun d os => by
    have h := run_b2s slB isB isS (cap := c) (((HA.out.below HBR.out).take n).below (below_regrown wr d os))
    rw [HNL.out] at h; exact h
  have v3 := fun u => run_slice_to slB u p b.length c n (by omega)
  clear g1 g2 g3 hus hcn hkn hnl
  go_wp2_with fail
  refine wp_region_quiet_below (by kernel_rfl) (by kernel_rfl) ?_; (repeat (first | go_big_quiet_step (first | (first | with_reducible exact G1.out _ _ | with_reducible exact G2.out _ _ | with_reducible exact G3.out _ _) | fail) | quiet_step (first | (first | with_reducible exact G1.out _ _ | with_reducible exact G2.out _ _ | with_reducible exact G3.out _ _) | fail))); refine wpQuiet_nil ?_; intro _ hw'; obtain ⟨⟨dq, osq⟩, hw''⟩ := hw'; subst hw''; have hq := below_regrown wr dq osq; generalize Go.Sort.grow (redrawn wr dq) osq = wz at *; clear dq osq
  go_wp2_with fail
  go_ret
  exact ⟨rfl, HBR.out.trans (hq.mono HBR.out.size)⟩

theorem diskNames_walk (p : Option Addr) (c : Nat) (b : List UInt8) (at_ keep : Int) (other : Bool) (w : World) (g : Rd8 w p b) (hm : b.length ≤ c) (hc : c ≤ maxLen) (hk : -9223372036854775808 ≤ keep ∧ keep ≤ 9223372036854775807) :
    Calls Try.prog 6 #[.slice p b.length c, .int .i64 at_, .int .i64 keep, .bool other] w fun e w' => e = .returned (.bool true) ∧ Below w.heap.size w w' := by
  unfold maxLen at hc
  by_cases h1 : b.length ≤ 300
  · cases other
    · exact diskNames_f p c b at_ keep w g hm (by omega) hk h1
    · exact diskNames_t p c b at_ keep w g hm (by omega) hk h1
  · have d1 : decide ((300 : Int) < (b.length : Int)) = true := by simp; omega
    clear h1 g
    go_enter Try.func6, Try.ntmps6
    go_wp2_with fail
    go_fit (told3_any w)
    rintro e w1 ⟨rfl, hb1⟩
    go_wp2_with fail
    go_ret
    exact ⟨rfl, hb1⟩
end Go.Proofs.Ytadnabgnbhpijaa
