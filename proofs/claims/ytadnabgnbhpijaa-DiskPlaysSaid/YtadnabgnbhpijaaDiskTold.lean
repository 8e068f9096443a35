/- The walk over told of the disk's statements. -/
import Derived.Test.YtadnabgnbhpijaaDiskMore
import Derived.Test.YtadnabgnbhpijaaDiskCrash
set_option linter.unusedSimpArgs false
set_option linter.unusedVariables false
namespace Go.Proofs.Ytadnabgnbhpijaa
open Go.RowKit Go.Maps

theorem kMap_one {α β : Type} (f : α → β) (k : List UInt8) (x : α) : kMap f [(k, x)] = [(k, f x)] := rfl
abbrev fA : Files0 := [([102], ⟨[97, 98, 99, 100], 0⟩)]
abbrev fB : Files0 := [([102], ⟨[97, 98, 99, 100], 4⟩)]
abbrev fC : Files0 := [([102], ⟨[97, 98, 99, 100, 101, 102, 103, 104], 4⟩)]
abbrev fD : Files0 := [([102], ⟨[97, 98, 99, 100, 101, 102], 6⟩)]
theorem told3_1 : appendD [102] [97, 98, 99, 100] [] 10 false = (fA, 0) := by rfl
theorem told3_2 : syncD [102] fA false = (fB, 0) := by rfl
theorem told3_3 : appendD [102] [101, 102, 103, 104] fB 10 false = (fC, 0) := by rfl
theorem told3_4 : appendD [102] [120, 121, 122] fC 10 false = (fC, 9) := by rfl
theorem told3_5 : kMap (crashF 2 false) fC = fD := by rfl
theorem told3_6 : readD [102] fD false = ([97, 98, 99, 100, 101, 102], 0) := by rfl

section
variable {B : Nat} {w : World} {db room : Nat} {down : Bool} {D D' : Files0} {e' : Int}
/-- the call tells a code; the disk is D then; what lay below B is as it was -/
def DoesB (B : Nat) (w : World) (db : Nat) (D : Files0) (e' : Int) (room : Nat) (down : Bool) (e : Ending) (w' : World) : Prop :=
  e = .returned (.int .i64 e') ∧ DiskAt (B ≤ ·) w' db D room down ∧ Below B w w'
theorem Does.base {r : Files0 × Int} {e : Ending} {w' : World} {down' : Bool} (h : Does (B ≤ ·) w db r room down' e w') (hB : B ≤ w.heap.size) (he : r = (D', e')) : DoesB B w db D' e' room down' e w' := by
  subst he
  exact ⟨h.1, (h.2.base hB).1, (h.2.base hB).2⟩
theorem append_B (h : DiskAt (B ≤ ·) w db D room down) (hB : B ≤ w.heap.size) (hn : D.length ≤ 1000000) (name b : List UInt8) (hl : name.length ≤ maxLen) {p : Option Addr} {c n : Nat} (hr : Rd8 w p b) (hn' : n = b.length) (hbl : b.length ≤ 70368744177664)
    (he : appendD name b D room down = (D', e')) : Calls Try.prog 14 #[.pointer (some ⟨db, 0, none⟩), .string (str name), .slice p n c] w (DoesB B w db D' e' room down) := by
  subst hn'
  exact (append_any h hn name b hl hr hbl).mono fun e w' hd => hd.base hB he
theorem sync_B (h : DiskAt (B ≤ ·) w db D room down) (hB : B ≤ w.heap.size) (name : List UInt8) (hl : name.length ≤ maxLen) (he : syncD name D down = (D', e')) :
    Calls Try.prog 15 #[.pointer (some ⟨db, 0, none⟩), .string (str name)] w (DoesB B w db D' e' room down) :=
  (sync_any h name hl).mono fun e w' hd => hd.base hB he
theorem delete_B (h : DiskAt (B ≤ ·) w db D room down) (hB : B ≤ w.heap.size) (name : List UInt8) (hl : name.length ≤ maxLen) (he : deleteD name D down = (D', e')) :
    Calls Try.prog 24 #[.pointer (some ⟨db, 0, none⟩), .string (str name)] w (DoesB B w db D' e' room down) :=
  (delete_any h name hl).mono fun e w' hd => hd.base hB he
theorem rename_B (h : DiskAt (B ≤ ·) w db D room down) (hB : B ≤ w.heap.size) (hn : D.length ≤ 1000000) (name to_ : List UInt8) (hl : name.length ≤ maxLen) (hl2 : to_.length ≤ maxLen) (he : renameD name to_ D down = (D', e')) :
    Calls Try.prog 23 #[.pointer (some ⟨db, 0, none⟩), .string (str name), .string (str to_)] w (DoesB B w db D' e' room down) :=
  (rename_any h hn name to_ hl hl2).mono fun e w' hd => hd.base hB he
theorem start_B (h : DiskAt (B ≤ ·) w db D room down) (hB : B ≤ w.heap.size) :
    Calls Try.prog 17 #[.pointer (some ⟨db, 0, none⟩)] w (DoesB B w db D (if down then 0 else 23) room false) :=
  (start_any h).mono fun e w' hd => hd.base hB rfl
theorem crash_B (h : DiskAt (B ≤ ·) w db D room false) (hB : B ≤ w.heap.size) (keep : Int) (garble : Bool) (hk : -9223372036854775808 ≤ keep ∧ keep ≤ 9223372036854775807) (he : kMap (crashF keep garble) D = D') :
    Calls Try.prog 16 #[.pointer (some ⟨db, 0, none⟩), .int .i64 keep, .bool garble] w fun e w' => e = .returned (.tuple #[]) ∧ DiskAt (B ≤ ·) w' db D' room true ∧ Below B w w' :=
  (crash_any h keep garble hk).mono fun e w' ⟨h1, h2⟩ => by
    rw [if_neg (by simp), he] at h2
    exact ⟨h1, (h2.base hB).1, (h2.base hB).2⟩
theorem room_B (h : DiskAt (B ≤ ·) w db D room down) (hB : B ≤ w.heap.size) (n : Int) :
    Calls Try.prog 19 #[.pointer (some ⟨db, 0, none⟩), .int .i64 n] w fun e w' => e = .returned (.tuple #[]) ∧ DiskAt (B ≤ ·) w' db D (roomD n) down ∧ Below B w w' :=
  (room_any h n).mono fun e w' ⟨h1, h2⟩ => ⟨h1, (h2.base hB).1, (h2.base hB).2⟩
theorem read_B (h : DiskAt (B ≤ ·) w db D room down) (hB : B ≤ w.heap.size) (name : List UInt8) (hl : name.length ≤ maxLen) {b : List UInt8} (he : readD name D down = (b, e')) :
    Calls Try.prog 18 #[.pointer (some ⟨db, 0, none⟩), .string (str name)] w fun e w' => ∃ p c, e = .returned (.tuple #[.slice p b.length c, .int .i64 e']) ∧ Rd8 w' p b ∧ DiskAt (B ≤ ·) w' db D room down ∧ Below w.heap.size w w' :=
  (read_any h name hl).mono fun e w' ⟨v, h1, h2, h3⟩ => by
    rw [he] at h1 h2
    obtain ⟨p, c, rfl, hr, _⟩ := h2.shape
    exact ⟨p, c, h1, hr, h.below h3, h3⟩
theorem read_BC (h : DiskAt (B ≤ ·) w db D room down) (hB : B ≤ w.heap.size) (name : List UInt8) (hl : name.length ≤ maxLen) {b : List UInt8} (he : readD name D down = (b, e')) :
    Calls Try.prog 18 #[.pointer (some ⟨db, 0, none⟩), .string (str name)] w fun e w' => ∃ p c, e = .returned (.tuple #[.slice p b.length c, .int .i64 e']) ∧ Rd8 w' p b ∧ b.length ≤ c ∧ DiskAt (B ≤ ·) w' db D room down ∧ Below w.heap.size w w' :=
  (read_any h name hl).mono fun e w' ⟨v, h1, h2, h3⟩ => by
    rw [he] at h1 h2
    obtain ⟨p, c, rfl, hr, _⟩ := h2.shape
    exact ⟨p, c, h1, hr, h2.txt.2.2.1, h.below h3, h3⟩
theorem new_nat (n : Nat) (w : World) (h : n ≤ 16777216) :
    Calls Try.prog 13 #[.int .i64 (n : Int)] w fun e w' => ∃ db, e = .returned (.tuple #[.pointer (some ⟨db, 0, none⟩), .int .i64 0]) ∧ DiskAt (w.heap.size ≤ ·) w' db [] n false ∧ Below w.heap.size w w' := by
  have := new_any (n : Int) w (by omega) (by omega)
  rwa [Int.toNat_natCast] at this
theorem names_B {S : Nat → Prop} (h : DiskAt S w db D room down) (hn : D.length ≤ 1000000) :
    Calls Try.prog 21 #[.pointer (some ⟨db, 0, none⟩)] w fun e w' => ∃ p c, e = .returned (.slice p D.length c) ∧ RdS w' p (D.map (·.1)) ∧ Below w.heap.size w w' := by
  obtain ⟨mb, E, hd, rfl⟩ := h
  rw [kMap_len] at hn ⊢
  refine (names_any hd hn).mono fun e w' ⟨v, h1, h2, h3⟩ => ?_
  obtain ⟨p, c, rfl, hr, _⟩ := h2.shape
  refine ⟨p, c, h1, ?_, h3⟩
  unfold RdS
  rw [kMap_keys, List.map_map]
  exact hr
end

set_option maxHeartbeats 1000000 in
set_option maxRecDepth 20000 in
theorem told3_any (w : World) : Calls Try.prog 12 #[] w fun e w' => e = .returned (.bool true) ∧ Below w.heap.size w w' := by
  have hcv := fun (w : World) (C : Array Value) (n c : Nat) => Lib.run_convert_bytes_const (P := Try.prog) w 22 5 C n c Try.underlying22 Try.underlying5
  go_enter Try.func12, Try.ntmps12
  go_wp2_with fail
  go_fit (new_any 10 w (by omega) (by omega))
  rintro e w1 ⟨db, rfl, hd1, hb1⟩
  have HD1 := Lib.hid hd1
  have HB1 := Lib.hid hb1
  clear hd1 hb1
  go_wp2_with fail
  go_fit (new_bad (-1) w1 (by omega))
  rintro e w1' ⟨rfl, rfl⟩
  go_wp2_with fail
  go_fit (append_B (HD1.out.below ((Below.refl _ _).alloc (Nat.le_refl _) _)) (Nat.le_trans HB1.out.size (by simp)) (by simp) [102] [97, 98, 99, 100] (by decide) (Rd8.new _ [97, 98, 99, 100] _ _ _ ⟨[], rfl⟩) rfl (by simp) told3_1)
  rintro e w2 ⟨rfl, hd2, hb2⟩
  have HD2 := Lib.hid hd2
  have HB2 := Lib.hid ((HB1.out.alloc HB1.out.size _).trans hb2)
  clear hd2 hb2
  go_wp2_with fail
  go_fit (sync_B HD2.out HB2.out.size [102] (by decide) told3_2)
  rintro e w3 ⟨rfl, hd3, hb3⟩
  have HD3 := Lib.hid hd3
  have HB3 := Lib.hid (HB2.out.trans hb3)
  clear hd3 hb3
  go_wp2_with fail
  go_fit (append_B (HD3.out.below ((Below.refl _ _).alloc (Nat.le_refl _) _)) (Nat.le_trans HB3.out.size (by simp)) (by simp) [102] [101, 102, 103, 104] (by decide) (Rd8.new _ [101, 102, 103, 104] _ _ _ ⟨[], rfl⟩) rfl (by simp) told3_3)
  rintro e w4 ⟨rfl, hd4, hb4⟩
  have HD4 := Lib.hid hd4
  have HB4 := Lib.hid ((HB3.out.alloc HB3.out.size _).trans hb4)
  clear hd4 hb4
  go_wp2_with fail
  go_fit (append_B (HD4.out.below ((Below.refl _ _).alloc (Nat.le_refl _) _)) (Nat.le_trans HB4.out.size (by simp)) (by simp) [102] [120, 121, 122] (by decide) (Rd8.new _ [120, 121, 122] _ _ _ ⟨[], rfl⟩) rfl (by simp) told3_4)
  rintro e w5 ⟨rfl, hd5, hb5⟩
  have HD5 := Lib.hid hd5
  have HB5 := Lib.hid ((HB4.out.alloc HB4.out.size _).trans hb5)
  clear hd5 hb5
  go_wp2_with fail
  go_fit (crash_B HD5.out HB5.out.size 2 false (by omega) told3_5)
  rintro e w6 ⟨rfl, hd6, hb6⟩
  have HD6 := Lib.hid hd6
  have HB6 := Lib.hid (HB5.out.trans hb6)
  clear hd6 hb6
  go_wp2_with fail
  go_fit (start_B HD6.out HB6.out.size)
  rintro e w7 ⟨rfl, hd7, hb7⟩
  have HD7 := Lib.hid hd7
  have HB7 := Lib.hid (HB6.out.trans hb7)
  clear hd7 hb7
  rw [if_pos rfl]
  go_wp2_with fail
  go_fit (read_B HD7.out HB7.out.size [102] (by decide) told3_6)
  rintro e w8 ⟨p, c, rfl, hr8, hd8, hb8⟩
  have HR8 := Lib.hid hr8
  have HB8 := Lib.hid (HB7.out.trans (hb8.mono HB7.out.size))
  clear hr8 hb8 hd8 hcv
  have hl6 : [(97 : UInt8), 98, 99, 100, 101, 102].length = 6 := rfl
  rw [hl6]
  clear hl6
  go_wp2_with ((with_reducible refine L_b2s slB isB isS HR8.out ?_ ?_ ?_); (focus rfl); (focus exact ⟨_, _, rfl, rfl⟩); simp only [Act.put, List.setIfInBounds_toArray, List.set_cons_zero, List.set_cons_succ])
  go_ret
  exact ⟨rfl, HB8.out⟩
end Go.Proofs.Ytadnabgnbhpijaa
