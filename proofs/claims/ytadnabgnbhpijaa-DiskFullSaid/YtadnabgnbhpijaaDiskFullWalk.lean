/- The walk over DiskFull (printed by gen_diskfull.py). -/
import Derived.Test.YtadnabgnbhpijaaDiskTold
set_option linter.unusedSimpArgs false
set_option linter.unusedVariables false
namespace Go.Proofs.Ytadnabgnbhpijaa
open Go.RowKit Go.Maps

theorem full_1y {a : List UInt8} {n : Nat} (h : a.length ≤ n) : appendD [97] a [] n false = ([([97], ⟨a, 0⟩)], 0) := by
  simp [appendD, mayN, usedD, kGet, kPut, kIns, kDel, h]
theorem full_1n {a : List UInt8} {n : Nat} (h : ¬ a.length ≤ n) : appendD [97] a [] n false = ([], 9) := by
  simp [appendD, mayN, usedD, kGet, kPut, kIns, kDel, h]
theorem full_2yy {a b : List UInt8} {n : Nat} (h : a.length + b.length ≤ n) : appendD [98] b [([97], ⟨a, 0⟩)] n false = ([([97], ⟨a, 0⟩), ([98], ⟨b, 0⟩)], 0) := by
  have : ¬ ([98] : List UInt8) < [97] := by decide
  simp [appendD, mayN, usedD, kGet, kPut, kIns, kDel, h, this]
theorem full_2yn {a b : List UInt8} {n : Nat} (h : ¬ a.length + b.length ≤ n) : appendD [98] b [([97], ⟨a, 0⟩)] n false = ([([97], ⟨a, 0⟩)], 9) := by
  simp [appendD, mayN, usedD, kGet, kPut, kIns, kDel, h]
theorem full_2ny {b : List UInt8} {n : Nat} (h : b.length ≤ n) : appendD [98] b [] n false = ([([98], ⟨b, 0⟩)], 0) := by
  simp [appendD, mayN, usedD, kGet, kPut, kIns, kDel, h]
theorem full_2nn {b : List UInt8} {n : Nat} (h : ¬ b.length ≤ n) : appendD [98] b [] n false = ([], 9) := by
  simp [appendD, mayN, usedD, kGet, kPut, kIns, kDel, h]
theorem full_3 (D : Files0) : appendD [99] [120] D 0 false = (D, 9) := by
  simp [appendD, mayN]

set_option maxHeartbeats 1000000 in
set_option maxRecDepth 20000 in
theorem full_11 (room : Int) (n u : Nat) (p1 p2 : Option Addr) (c1 c2 : Nat) (a b : List UInt8) (w : World) (g1 : Rd8 w p1 a) (g2 : Rd8 w p2 b) (hu : IntKind.u64.wrap room = (u : Int)) (hk : n < 101) (hm : (u : Int).tmod 101 = (n : Int)) (hm2 : (u : Int) % 101 = (n : Int)) (la : a.length ≤ 100) (lb : b.length ≤ 100)
    (ha : a.length ≤ n) (hb : a.length + b.length ≤ n) : Calls Try.prog 4 #[.int .i64 room, .slice p1 a.length c1, .slice p2 b.length c2] w fun e w' => e = .returned (.bool true) ∧ Below w.heap.size w w' := by
  have HA := Lib.hid g1
  have HB := Lib.hid g2
  clear g1 g2
  have da : decide ((100 : Int) < (a.length : Int)) = false := by simp; omega
  have db : decide ((100 : Int) < (b.length : Int)) = false := by simp; omega
  have E1 : appendD [97] a [] n false = ([([97], ⟨a, 0⟩)], 0) := full_1y ha
  have E2 : appendD [98] b [([97], ⟨a, 0⟩)] n false = ([([97], ⟨a, 0⟩), ([98], ⟨b, 0⟩)], 0) := full_2yy hb
  have E3 : appendD [99] [120] [([97], ⟨a, 0⟩), ([98], ⟨b, 0⟩)] 0 false = ([([97], ⟨a, 0⟩), ([98], ⟨b, 0⟩)], 9) := full_3 _
  have EU : usedD ([([97], ⟨a, 0⟩), ([98], ⟨b, 0⟩)] : Files0) = a.length + b.length := by simp [usedD]
  have HE := Lib.hid (And.intro E1 (And.intro E2 (And.intro E3 EU)))
  have d1 : decide (a.length ≤ n) = true := by simp; omega
  have d1' : decide ((a.length : Int) ≤ (n : Int)) = true := by simp; omega
  have d2 : decide ((b.length : Int) ≤ (n : Int) - (a.length : Int)) = true := by simp; omega
  clear E1 E2 E3 EU ha hb
  go_enter Try.func4, Try.ntmps4
  go_wp2_with fail
  go_fit (new_nat n w (by omega))
  rintro e w1 ⟨db, rfl, hd1, hb1⟩
  have HD1 := Lib.hid hd1
  have HB1 := Lib.hid hb1
  clear hd1 hb1
  go_wp2_with fail
  go_fit (append_B HD1.out HB1.out.size (by simp) [97] a (by decide) (HA.out.below HB1.out) rfl (by omega) HE.out.1)
  rintro e w2 ⟨rfl, hd2, hb2⟩
  have HD2 := Lib.hid hd2
  have HB2 := Lib.hid (HB1.out.trans hb2)
  clear hd2 hb2
  go_wp2_with fail
  go_fit (append_B HD2.out HB2.out.size (by simp) [98] b (by decide) (HB.out.below HB2.out) rfl (by omega) HE.out.2.1)
  rintro e w3 ⟨rfl, hd3, hb3⟩
  have HD3 := Lib.hid hd3
  have HB3 := Lib.hid (HB2.out.trans hb3)
  clear hd3 hb3
  go_wp2_with fail
  go_fit (room_B HD3.out HB3.out.size 0)
  rintro e w4 ⟨rfl, hd4, hb4⟩
  have HD4 := Lib.hid hd4
  have HB4 := Lib.hid (HB3.out.trans hb4)
  clear hd4 hb4
  go_wp2_with fail
  go_fit (told3_any w4)
  rintro e w5 ⟨rfl, hb5⟩
  have HD5 := Lib.hid (HD4.out.below hb5)
  have HB5 := Lib.hid (HB4.out.trans (hb5.mono HB4.out.size))
  clear hb5
  go_wp2_with fail
  go_fit (used_any HD5.out (by simp))
  rw [HE.out.2.2.2]
  rintro e w6 ⟨rfl, hb6⟩
  have HD6 := Lib.hid (HD5.out.below hb6)
  have HB6 := Lib.hid (HB5.out.trans (hb6.mono HB5.out.size))
  clear hb6
  go_wp2_with fail
  go_fit (names_B HD6.out (by simp))
  rintro e w7 ⟨p7, c7, rfl, _, hb7⟩
  simp only [List.length_cons, List.length_nil, Nat.zero_add, Nat.reduceAdd]
  have HD7 := Lib.hid (HD6.out.below hb7)
  have HB7 := Lib.hid (HB6.out.trans (hb7.mono HB6.out.size))
  clear hb7
  have hcv := fun (w : World) (C : Array Value) (n c : Nat) => Lib.run_convert_bytes_const (P := Try.prog) w 22 5 C n c Try.underlying22 Try.underlying5
  go_wp2_with fail
  go_fit (append_B (HD7.out.below ((Below.refl _ _).alloc (Nat.le_refl _) _)) (Nat.le_trans HB7.out.size (by simp)) (by simp) [99] [120] (by decide) (Rd8.new _ [120] _ _ _ ⟨[], rfl⟩) rfl (by simp) HE.out.2.2.1)
  rintro e w8 ⟨rfl, hd8, hb8⟩
  have HD8 := Lib.hid hd8
  have HB8 := Lib.hid ((HB7.out.alloc HB7.out.size _).trans hb8)
  clear hd8 hb8 hcv
  go_wp2_with fail
  go_fit (used_any HD8.out (by simp))
  rw [HE.out.2.2.2]
  rintro e w9 ⟨rfl, hb9⟩
  have HB9 := Lib.hid (HB8.out.trans (hb9.mono HB8.out.size))
  clear hb9
  go_wp2_with fail
  go_ret
  exact ⟨rfl, HB9.out⟩

set_option maxHeartbeats 1000000 in
set_option maxRecDepth 20000 in
theorem full_10 (room : Int) (n u : Nat) (p1 p2 : Option Addr) (c1 c2 : Nat) (a b : List UInt8) (w : World) (g1 : Rd8 w p1 a) (g2 : Rd8 w p2 b) (hu : IntKind.u64.wrap room = (u : Int)) (hk : n < 101) (hm : (u : Int).tmod 101 = (n : Int)) (hm2 : (u : Int) % 101 = (n : Int)) (la : a.length ≤ 100) (lb : b.length ≤ 100)
    (ha : a.length ≤ n) (hb : ¬ a.length + b.length ≤ n) : Calls Try.prog 4 #[.int .i64 room, .slice p1 a.length c1, .slice p2 b.length c2] w fun e w' => e = .returned (.bool true) ∧ Below w.heap.size w w' := by
  have HA := Lib.hid g1
  have HB := Lib.hid g2
  clear g1 g2
  have da : decide ((100 : Int) < (a.length : Int)) = false := by simp; omega
  have db : decide ((100 : Int) < (b.length : Int)) = false := by simp; omega
  have E1 : appendD [97] a [] n false = ([([97], ⟨a, 0⟩)], 0) := full_1y ha
  have E2 : appendD [98] b [([97], ⟨a, 0⟩)] n false = ([([97], ⟨a, 0⟩)], 9) := full_2yn hb
  have E3 : appendD [99] [120] [([97], ⟨a, 0⟩)] 0 false = ([([97], ⟨a, 0⟩)], 9) := full_3 _
  have EU : usedD ([([97], ⟨a, 0⟩)] : Files0) = a.length := by simp [usedD]
  have HE := Lib.hid (And.intro E1 (And.intro E2 (And.intro E3 EU)))
  have d1 : decide (a.length ≤ n) = true := by simp; omega
  have d1' : decide ((a.length : Int) ≤ (n : Int)) = true := by simp; omega
  have d2 : decide ((b.length : Int) ≤ (n : Int) - (a.length : Int)) = false := by simp; omega
  clear E1 E2 E3 EU ha hb
  go_enter Try.func4, Try.ntmps4
  go_wp2_with fail
  go_fit (new_nat n w (by omega))
  rintro e w1 ⟨db, rfl, hd1, hb1⟩
  have HD1 := Lib.hid hd1
  have HB1 := Lib.hid hb1
  clear hd1 hb1
  go_wp2_with fail
  go_fit (append_B HD1.out HB1.out.size (by simp) [97] a (by decide) (HA.out.below HB1.out) rfl (by omega) HE.out.1)
  rintro e w2 ⟨rfl, hd2, hb2⟩
  have HD2 := Lib.hid hd2
  have HB2 := Lib.hid (HB1.out.trans hb2)
  clear hd2 hb2
  go_wp2_with fail
  go_fit (append_B HD2.out HB2.out.size (by simp) [98] b (by decide) (HB.out.below HB2.out) rfl (by omega) HE.out.2.1)
  rintro e w3 ⟨rfl, hd3, hb3⟩
  have HD3 := Lib.hid hd3
  have HB3 := Lib.hid (HB2.out.trans hb3)
  clear hd3 hb3
  go_wp2_with fail
  go_fit (room_B HD3.out HB3.out.size 0)
  rintro e w4 ⟨rfl, hd4, hb4⟩
  have HD4 := Lib.hid hd4
  have HB4 := Lib.hid (HB3.out.trans hb4)
  clear hd4 hb4
  go_wp2_with fail
  go_fit (told3_any w4)
  rintro e w5 ⟨rfl, hb5⟩
  have HD5 := Lib.hid (HD4.out.below hb5)
  have HB5 := Lib.hid (HB4.out.trans (hb5.mono HB4.out.size))
  clear hb5
  go_wp2_with fail
  go_fit (used_any HD5.out (by simp))
  rw [HE.out.2.2.2]
  rintro e w6 ⟨rfl, hb6⟩
  have HD6 := Lib.hid (HD5.out.below hb6)
  have HB6 := Lib.hid (HB5.out.trans (hb6.mono HB5.out.size))
  clear hb6
  go_wp2_with fail
  go_fit (names_B HD6.out (by simp))
  rintro e w7 ⟨p7, c7, rfl, _, hb7⟩
  simp only [List.length_cons, List.length_nil, Nat.zero_add, Nat.reduceAdd]
  have HD7 := Lib.hid (HD6.out.below hb7)
  have HB7 := Lib.hid (HB6.out.trans (hb7.mono HB6.out.size))
  clear hb7
  have hcv := fun (w : World) (C : Array Value) (n c : Nat) => Lib.run_convert_bytes_const (P := Try.prog) w 22 5 C n c Try.underlying22 Try.underlying5
  go_wp2_with fail
  go_fit (append_B (HD7.out.below ((Below.refl _ _).alloc (Nat.le_refl _) _)) (Nat.le_trans HB7.out.size (by simp)) (by simp) [99] [120] (by decide) (Rd8.new _ [120] _ _ _ ⟨[], rfl⟩) rfl (by simp) HE.out.2.2.1)
  rintro e w8 ⟨rfl, hd8, hb8⟩
  have HD8 := Lib.hid hd8
  have HB8 := Lib.hid ((HB7.out.alloc HB7.out.size _).trans hb8)
  clear hd8 hb8 hcv
  go_wp2_with fail
  go_fit (used_any HD8.out (by simp))
  rw [HE.out.2.2.2]
  rintro e w9 ⟨rfl, hb9⟩
  have HB9 := Lib.hid (HB8.out.trans (hb9.mono HB8.out.size))
  clear hb9
  go_wp2_with fail
  go_ret
  exact ⟨rfl, HB9.out⟩

set_option maxHeartbeats 1000000 in
set_option maxRecDepth 20000 in
theorem full_01 (room : Int) (n u : Nat) (p1 p2 : Option Addr) (c1 c2 : Nat) (a b : List UInt8) (w : World) (g1 : Rd8 w p1 a) (g2 : Rd8 w p2 b) (hu : IntKind.u64.wrap room = (u : Int)) (hk : n < 101) (hm : (u : Int).tmod 101 = (n : Int)) (hm2 : (u : Int) % 101 = (n : Int)) (la : a.length ≤ 100) (lb : b.length ≤ 100)
    (ha : ¬ a.length ≤ n) (hb : b.length ≤ n) : Calls Try.prog 4 #[.int .i64 room, .slice p1 a.length c1, .slice p2 b.length c2] w fun e w' => e = .returned (.bool true) ∧ Below w.heap.size w w' := by
  have HA := Lib.hid g1
  have HB := Lib.hid g2
  clear g1 g2
  have da : decide ((100 : Int) < (a.length : Int)) = false := by simp; omega
  have db : decide ((100 : Int) < (b.length : Int)) = false := by simp; omega
  have E1 : appendD [97] a [] n false = ([], 9) := full_1n ha
  have E2 : appendD [98] b [] n false = ([([98], ⟨b, 0⟩)], 0) := full_2ny hb
  have E3 : appendD [99] [120] [([98], ⟨b, 0⟩)] 0 false = ([([98], ⟨b, 0⟩)], 9) := full_3 _
  have EU : usedD ([([98], ⟨b, 0⟩)] : Files0) = b.length := by simp [usedD]
  have HE := Lib.hid (And.intro E1 (And.intro E2 (And.intro E3 EU)))
  have d1 : decide (a.length ≤ n) = false := by simp; omega
  have d1' : decide ((a.length : Int) ≤ (n : Int)) = false := by simp; omega
  have d2 : decide (b.length ≤ n) = true := by simp; omega
  have d2' : decide ((b.length : Int) ≤ (n : Int)) = true := by simp; omega
  clear E1 E2 E3 EU ha hb
  go_enter Try.func4, Try.ntmps4
  go_wp2_with fail
  go_fit (new_nat n w (by omega))
  rintro e w1 ⟨db, rfl, hd1, hb1⟩
  have HD1 := Lib.hid hd1
  have HB1 := Lib.hid hb1
  clear hd1 hb1
  go_wp2_with fail
  go_fit (append_B HD1.out HB1.out.size (by simp) [97] a (by decide) (HA.out.below HB1.out) rfl (by omega) HE.out.1)
  rintro e w2 ⟨rfl, hd2, hb2⟩
  have HD2 := Lib.hid hd2
  have HB2 := Lib.hid (HB1.out.trans hb2)
  clear hd2 hb2
  go_wp2_with fail
  go_fit (append_B HD2.out HB2.out.size (by simp) [98] b (by decide) (HB.out.below HB2.out) rfl (by omega) HE.out.2.1)
  rintro e w3 ⟨rfl, hd3, hb3⟩
  have HD3 := Lib.hid hd3
  have HB3 := Lib.hid (HB2.out.trans hb3)
  clear hd3 hb3
  go_wp2_with fail
  go_fit (room_B HD3.out HB3.out.size 0)
  rintro e w4 ⟨rfl, hd4, hb4⟩
  have HD4 := Lib.hid hd4
  have HB4 := Lib.hid (HB3.out.trans hb4)
  clear hd4 hb4
  go_wp2_with fail
  go_fit (told3_any w4)
  rintro e w5 ⟨rfl, hb5⟩
  have HD5 := Lib.hid (HD4.out.below hb5)
  have HB5 := Lib.hid (HB4.out.trans (hb5.mono HB4.out.size))
  clear hb5
  go_wp2_with fail
  go_fit (used_any HD5.out (by simp))
  rw [HE.out.2.2.2]
  rintro e w6 ⟨rfl, hb6⟩
  have HD6 := Lib.hid (HD5.out.below hb6)
  have HB6 := Lib.hid (HB5.out.trans (hb6.mono HB5.out.size))
  clear hb6
  go_wp2_with fail
  go_fit (names_B HD6.out (by simp))
  rintro e w7 ⟨p7, c7, rfl, _, hb7⟩
  simp only [List.length_cons, List.length_nil, Nat.zero_add, Nat.reduceAdd]
  have HD7 := Lib.hid (HD6.out.below hb7)
  have HB7 := Lib.hid (HB6.out.trans (hb7.mono HB6.out.size))
  clear hb7
  have hcv := fun (w : World) (C : Array Value) (n c : Nat) => Lib.run_convert_bytes_const (P := Try.prog) w 22 5 C n c Try.underlying22 Try.underlying5
  go_wp2_with fail
  go_fit (append_B (HD7.out.below ((Below.refl _ _).alloc (Nat.le_refl _) _)) (Nat.le_trans HB7.out.size (by simp)) (by simp) [99] [120] (by decide) (Rd8.new _ [120] _ _ _ ⟨[], rfl⟩) rfl (by simp) HE.out.2.2.1)
  rintro e w8 ⟨rfl, hd8, hb8⟩
  have HD8 := Lib.hid hd8
  have HB8 := Lib.hid ((HB7.out.alloc HB7.out.size _).trans hb8)
  clear hd8 hb8 hcv
  go_wp2_with fail
  go_fit (used_any HD8.out (by simp))
  rw [HE.out.2.2.2]
  rintro e w9 ⟨rfl, hb9⟩
  have HB9 := Lib.hid (HB8.out.trans (hb9.mono HB8.out.size))
  clear hb9
  go_wp2_with fail
  go_ret
  exact ⟨rfl, HB9.out⟩

set_option maxHeartbeats 1000000 in
set_option maxRecDepth 20000 in
theorem full_00 (room : Int) (n u : Nat) (p1 p2 : Option Addr) (c1 c2 : Nat) (a b : List UInt8) (w : World) (g1 : Rd8 w p1 a) (g2 : Rd8 w p2 b) (hu : IntKind.u64.wrap room = (u : Int)) (hk : n < 101) (hm : (u : Int).tmod 101 = (n : Int)) (hm2 : (u : Int) % 101 = (n : Int)) (la : a.length ≤ 100) (lb : b.length ≤ 100)
    (ha : ¬ a.length ≤ n) (hb : ¬ b.length ≤ n) : Calls Try.prog 4 #[.int .i64 room, .slice p1 a.length c1, .slice p2 b.length c2] w fun e w' => e = .returned (.bool true) ∧ Below w.heap.size w w' := by
  have HA := Lib.hid g1
  have HB := Lib.hid g2
  clear g1 g2
  have da : decide ((100 : Int) < (a.length : Int)) = false := by simp; omega
  have db : decide ((100 : Int) < (b.length : Int)) = false := by simp; omega
  have E1 : appendD [97] a [] n false = ([], 9) := full_1n ha
  have E2 : appendD [98] b [] n false = ([], 9) := full_2nn hb
  have E3 : appendD [99] [120] [] 0 false = ([], 9) := full_3 _
  have EU : usedD ([] : Files0) = 0 := by simp [usedD]
  have HE := Lib.hid (And.intro E1 (And.intro E2 (And.intro E3 EU)))
  have d1 : decide (a.length ≤ n) = false := by simp; omega
  have d1' : decide ((a.length : Int) ≤ (n : Int)) = false := by simp; omega
  have d2 : decide (b.length ≤ n) = false := by simp; omega
  have d2' : decide ((b.length : Int) ≤ (n : Int)) = false := by simp; omega
  clear E1 E2 E3 EU ha hb
  go_enter Try.func4, Try.ntmps4
  go_wp2_with fail
  go_fit (new_nat n w (by omega))
  rintro e w1 ⟨db, rfl, hd1, hb1⟩
  have HD1 := Lib.hid hd1
  have HB1 := Lib.hid hb1
  clear hd1 hb1
  go_wp2_with fail
  go_fit (append_B HD1.out HB1.out.size (by simp) [97] a (by decide) (HA.out.below HB1.out) rfl (by omega) HE.out.1)
  rintro e w2 ⟨rfl, hd2, hb2⟩
  have HD2 := Lib.hid hd2
  have HB2 := Lib.hid (HB1.out.trans hb2)
  clear hd2 hb2
  go_wp2_with fail
  go_fit (append_B HD2.out HB2.out.size (by simp) [98] b (by decide) (HB.out.below HB2.out) rfl (by omega) HE.out.2.1)
  rintro e w3 ⟨rfl, hd3, hb3⟩
  have HD3 := Lib.hid hd3
  have HB3 := Lib.hid (HB2.out.trans hb3)
  clear hd3 hb3
  go_wp2_with fail
  go_fit (room_B HD3.out HB3.out.size 0)
  rintro e w4 ⟨rfl, hd4, hb4⟩
  have HD4 := Lib.hid hd4
  have HB4 := Lib.hid (HB3.out.trans hb4)
  clear hd4 hb4
  go_wp2_with fail
  go_fit (told3_any w4)
  rintro e w5 ⟨rfl, hb5⟩
  have HD5 := Lib.hid (HD4.out.below hb5)
  have HB5 := Lib.hid (HB4.out.trans (hb5.mono HB4.out.size))
  clear hb5
  go_wp2_with fail
  go_fit (used_any HD5.out (by simp))
  rw [HE.out.2.2.2]
  rintro e w6 ⟨rfl, hb6⟩
  have HD6 := Lib.hid (HD5.out.below hb6)
  have HB6 := Lib.hid (HB5.out.trans (hb6.mono HB5.out.size))
  clear hb6
  go_wp2_with fail
  go_fit (names_B HD6.out (by simp))
  rintro e w7 ⟨p7, c7, rfl, _, hb7⟩
  simp only [List.length_cons, List.length_nil, Nat.zero_add, Nat.reduceAdd]
  have HD7 := Lib.hid (HD6.out.below hb7)
  have HB7 := Lib.hid (HB6.out.trans (hb7.mono HB6.out.size))
  clear hb7
  have hcv := fun (w : World) (C : Array Value) (n c : Nat) => Lib.run_convert_bytes_const (P := Try.prog) w 22 5 C n c Try.underlying22 Try.underlying5
  go_wp2_with fail
  go_fit (append_B (HD7.out.below ((Below.refl _ _).alloc (Nat.le_refl _) _)) (Nat.le_trans HB7.out.size (by simp)) (by simp) [99] [120] (by decide) (Rd8.new _ [120] _ _ _ ⟨[], rfl⟩) rfl (by simp) HE.out.2.2.1)
  rintro e w8 ⟨rfl, hd8, hb8⟩
  have HD8 := Lib.hid hd8
  have HB8 := Lib.hid ((HB7.out.alloc HB7.out.size _).trans hb8)
  clear hd8 hb8 hcv
  go_wp2_with fail
  go_fit (used_any HD8.out (by simp))
  rw [HE.out.2.2.2]
  rintro e w9 ⟨rfl, hb9⟩
  have HB9 := Lib.hid (HB8.out.trans (hb9.mono HB8.out.size))
  clear hb9
  go_wp2_with fail
  go_ret
  exact ⟨rfl, HB9.out⟩

theorem diskFull_walk (room : Int) (p1 p2 : Option Addr) (c1 c2 : Nat) (a b : List UInt8) (w : World) (g1 : Rd8 w p1 a) (g2 : Rd8 w p2 b) (m1 : a.length ≤ c1) (m2 : b.length ≤ c2) (k1 : c1 ≤ maxLen) (k2 : c2 ≤ maxLen) :
    Calls Try.prog 4 #[.int .i64 room, .slice p1 a.length c1, .slice p2 b.length c2] w fun e w' => e = .returned (.bool true) ∧ Below w.heap.size w w' := by
  unfold maxLen at k1 k2
  by_cases la : a.length ≤ 100
  · by_cases lb : b.length ≤ 100
    · obtain ⟨u, n, hu, hk, hm, hm2⟩ := uint_mod room 101 101 rfl (by omega)
      by_cases ha : a.length ≤ n
      · by_cases hb : a.length + b.length ≤ n
        · exact full_11 room n u p1 p2 c1 c2 a b w g1 g2 hu hk hm hm2 la lb ha hb
        · exact full_10 room n u p1 p2 c1 c2 a b w g1 g2 hu hk hm hm2 la lb ha hb
      · by_cases hb : b.length ≤ n
        · exact full_01 room n u p1 p2 c1 c2 a b w g1 g2 hu hk hm hm2 la lb ha hb
        · exact full_00 room n u p1 p2 c1 c2 a b w g1 g2 hu hk hm hm2 la lb ha hb
    · have da : decide ((100 : Int) < (a.length : Int)) = false := by simp; omega
      have db : decide ((100 : Int) < (b.length : Int)) = true := by simp; omega
      clear la lb g1 g2
      go_enter Try.func4, Try.ntmps4
      go_wp2_with fail
      go_fit (told3_any w)
      rintro e w1 ⟨rfl, hb1⟩
      go_wp2_with fail
      go_ret
      exact ⟨rfl, hb1⟩
  · have da : decide ((100 : Int) < (a.length : Int)) = true := by simp; omega
    clear la g1 g2
    go_enter Try.func4, Try.ntmps4
    go_wp2_with fail
    go_fit (told3_any w)
    rintro e w1 ⟨rfl, hb1⟩
    go_wp2_with fail
    go_ret
    exact ⟨rfl, hb1⟩
end Go.Proofs.Ytadnabgnbhpijaa
