/- The log's calls, all of it from block B on; told of the log's statements. -/
import Derived.Test.YtblmnaejkdkndaaLogM
set_option linter.unusedSimpArgs false
set_option linter.unusedVariables false
namespace Go.Proofs.Ytblmnaejkdkndaa
open Go.RowKit Go.Maps Rec

section
variable {w w' : World} {db lb r B : Nat} {s s' : LogS}
theorem kGet_none_nil (k : List UInt8) : kGet k ([] : Files0) = none := rfl
theorem append_first (u : List UInt8) (r : Nat) (h : u.length ≤ r) : appendD logName u [] r false = ([(logName, ⟨u, 0⟩)], 0) := by
  unfold appendD
  rw [if_neg (by simp), if_pos (by decide), if_pos (by simpa [usedD] using h)]
  rfl
theorem append_more (u a : List UInt8) (n r : Nat) (h : a.length + u.length ≤ r) : appendD logName u [(logName, ⟨a, n⟩)] r false = ([(logName, ⟨a ++ u, n⟩)], 0) := by
  unfold appendD
  rw [if_neg (by simp), if_pos (by decide), if_pos (by simpa [usedD] using h)]
  rfl
theorem sync_one (a : List UInt8) (n : Nat) : syncD logName [(logName, ⟨a, n⟩)] false = ([(logName, ⟨a, a.length⟩)], 0) := by rfl
theorem read_one (a : List UInt8) (n : Nat) : readD logName [(logName, ⟨a, n⟩)] false = (a, 0) := by rfl

theorem LogAt.disk (h : LogAt B w db lb r s) : ∃ S, DiskAt S w db s.D r false := by
  obtain ⟨S, v, h1, _⟩ := h; exact ⟨S, h1.disk⟩
theorem lsize_at (h : LogAt B w db lb r s) {f : FileV} (hg : s.D = [(logName, f)]) :
    Calls Try.prog 13 #[.pointer (some ⟨db, 0, none⟩), .string (str logName)] w fun e w' => e = .returned (.int .i64 (f.b.length : Int)) ∧ w = w' := by
  obtain ⟨S, mb, E, hd, he⟩ := h.disk
  have hx : kGet logName (kMap FileM.f E) = some f := by rw [← he, hg]; rfl
  rw [get_file] at hx
  cases hx2 : kGet logName E with
  | none => rw [hx2] at hx; cases hx
  | some x =>
    rw [hx2] at hx
    cases hx
    exact size_some hd (by decide) hx2
theorem lsize_none (h : LogAt B w db lb r s) (hg : s.D = []) :
    Calls Try.prog 13 #[.pointer (some ⟨db, 0, none⟩), .string (str logName)] w fun e w' => e = .returned (.int .i64 0) ∧ w = w' := by
  obtain ⟨S, mb, E, hd, he⟩ := h.disk
  have hx : kGet logName (kMap FileM.f E) = none := by rw [← he, hg]; rfl
  rw [get_file] at hx
  cases hx2 : kGet logName E with
  | none => exact size_none hd (by decide) hx2
  | some x => rw [hx2] at hx; cases hx
theorem lsynced_at (h : LogAt B w db lb r s) {f : FileV} (hg : s.D = [(logName, f)]) :
    Calls Try.prog 16 #[.pointer (some ⟨db, 0, none⟩), .string (str logName)] w fun e w' => e = .returned (.int .i64 (f.sync : Int)) ∧ w = w' := by
  obtain ⟨S, mb, E, hd, he⟩ := h.disk
  have hx : kGet logName (kMap FileM.f E) = some f := by rw [← he, hg]; rfl
  rw [get_file] at hx
  cases hx2 : kGet logName E with
  | none => rw [hx2] at hx; cases hx
  | some x =>
    rw [hx2] at hx
    cases hx
    exact synced_some hd (by decide) hx2
theorem lread_at (h : LogAt B w db lb r s) {f : FileV} (hg : s.D = [(logName, f)]) :
    Calls Try.prog 17 #[.pointer (some ⟨db, 0, none⟩), .string (str logName)] w fun e w' => ∃ p c, e = .returned (.tuple #[.slice p f.b.length c, .int .i64 0]) ∧ Rd8 w' p f.b ∧ f.b.length ≤ c ∧ c ≤ maxLen ∧ Below w.heap.size w w' := by
  obtain ⟨S, hd⟩ := h.disk
  refine (read_any hd logName (by decide)).mono fun e w' ⟨v, h1, h2, h3⟩ => ?_
  have e1 : readD logName s.D false = (f.b, 0) := by rw [hg]; rfl
  rw [e1] at h1 h2
  obtain ⟨p, c, rfl, hr, _⟩ := h2.shape
  exact ⟨p, c, h1, hr, h2.txt.2.2.1, h2.txt.2.2.2.1, h3⟩
theorem lunits_B (h : LogAt B w db lb r s) : Calls Try.prog 19 #[.pointer (some ⟨lb, 0, none⟩)] w fun e w' => e = .returned (.int .i64 s.units) ∧ w = w' := by
  obtain ⟨S, v, h1, _⟩ := h; exact lunits_any h1
theorem lgathered_B (h : LogAt B w db lb r s) (hg : s.g.length ≤ 1000000) : Calls Try.prog 20 #[.pointer (some ⟨lb, 0, none⟩)] w fun e w' => ∃ p c, e = .returned (.slice p s.g.length c) ∧ Rd8 w' p s.g ∧ Below w.heap.size w w' := by
  obtain ⟨S, v, h1, _⟩ := h; exact lgathered_any h1 hg
theorem ladd_B (k : List UInt8) (hk1 : 1 ≤ k.length) (hk2 : k.length ≤ 16) (h : LogAt B w db lb r s) (hB : B ≤ w.heap.size) (hp : s.pol = 1 ∨ s.pol = 2) (hu : 0 ≤ s.units ∧ s.units ≤ 1000000) (hn : s.D.length ≤ 1000000) (hg : s.g.length ≤ 1000000)
    {p : Option Addr} {c : Nat} (hr : Rd w p (effC k)) {D' : Files0} (he : appendD logName (unitB k) s.D r false = (D', 0)) :
    Calls Try.prog 14 #[.pointer (some ⟨lb, 0, none⟩), .slice p 1 c] w fun e w' => e = .returned (.int .i64 0) ∧ LogAt B w' db lb r ⟨s.pol, s.units + 1, 1, s.side, if s.side then s.g ++ unitB k else s.g, D'⟩ ∧ Below B w w' := by
  obtain ⟨S, v, h1, h2, h3, h4⟩ := h
  refine (ladd_one k hk1 hk2 h1 hp hu hn hg p c hr he).mono fun e w' ⟨e1, S', v', hm, hS, hv, hc⟩ => ⟨e1, ⟨S', v', hm, fun k hk => ?_, h3, fun k hk => ?_⟩, hc.below hB fun k hk => ?_⟩
  · rcases hS k hk with h | h
    · exact h2 k h
    · omega
  · rcases hv k hk with h | h
    · exact h4 k h
    · omega
  · rcases hk with h | h | h
    · exact h2 k h
    · omega
    · exact h4 k h
theorem ladd_safeB (k : List UInt8) (hk1 : 1 ≤ k.length) (hk2 : k.length ≤ 16) {units st : Int} {g : List UInt8} {D : Files0} (h : LogAt B w db lb r ⟨0, units, st, false, g, D⟩) (hB : B ≤ w.heap.size) (hu : 0 ≤ units ∧ units ≤ 1000000) (hn : D.length ≤ 1000000)
    {p : Option Addr} {c : Nat} (hr : Rd w p (effC k)) {D' D2 : Files0} (he : appendD logName (unitB k) D r false = (D', 0)) (he2 : syncD logName D' false = (D2, 0)) :
    Calls Try.prog 14 #[.pointer (some ⟨lb, 0, none⟩), .slice p 1 c] w fun e w' => e = .returned (.int .i64 0) ∧ LogAt B w' db lb r ⟨0, units + 1, 0, false, g, D2⟩ ∧ Below B w w' := by
  obtain ⟨S, v, h1, h2, h3, h4⟩ := h
  refine (ladd_safe k hk1 hk2 h1 hu hn p c hr he he2).mono fun e w' ⟨e1, S', hm, hS, hc⟩ => ⟨e1, ⟨S', v, hm, fun k hk => ?_, h3, h4⟩, hc.below hB fun k hk => ?_⟩
  · rcases hS k hk with h | h
    · exact h2 k h
    · omega
  · rcases hk with h | h
    · exact h2 k h
    · omega
theorem ltick_B {units : Int} {side : Bool} {g : List UInt8} {D D' : Files0} (h : LogAt B w db lb r ⟨1, units, 1, side, g, D⟩) (hB : B ≤ w.heap.size) (he : syncD logName D false = (D', 0)) : Calls Try.prog 15 #[.pointer (some ⟨lb, 0, none⟩)] w fun e w' => e = .returned (.int .i64 0) ∧ LogAt B w' db lb r ⟨1, units, 0, side, g, D'⟩ ∧ Below B w w' := by
  obtain ⟨S, v, h1, h2, h3, h4⟩ := h
  refine (ltick_ticks h1 he).mono fun e w' ⟨e1, hm, hsz, hc⟩ => ⟨e1, ⟨_, v, hm, fun k hk => ?_, h3, h4⟩, hc.below hB fun k hk => ?_⟩
  · rcases hk.1 with h | h
    · exact h2 k h
    · omega
  · rcases hk with h | h
    · exact h2 k h
    · omega
theorem ltick_neverB {units st : Int} {side : Bool} {g : List UInt8} {D : Files0} (h : LogAt B w db lb r ⟨2, units, st, side, g, D⟩) : Calls Try.prog 15 #[.pointer (some ⟨lb, 0, none⟩)] w fun e w' => e = .returned (.int .i64 0) ∧ w = w' := by
  obtain ⟨S, v, h1, h2, h3, h4⟩ := h
  exact ltick_never h1
theorem lside_B (h : LogAt B w db lb r s) (hB : B ≤ w.heap.size) : Calls Try.prog 12 #[.pointer (some ⟨lb, 0, none⟩), .bool true] w fun e w' => e = .returned (.tuple #[]) ∧ LogAt B w' db lb r { s with side := true, g := [] } ∧ Below B w w' := by
  obtain ⟨S, v, h1, h2, h3, h4⟩ := h
  exact (lside_on h1).mono fun e w' ⟨e1, hm, hsz, hc⟩ => ⟨e1, ⟨_, _, hm, h2, h3, fun k hk => by simp [Value.ownBlock] at hk⟩, hc.below hB fun k hk => by omega⟩
theorem new_nat (n : Nat) (w : World) (h : n ≤ 16777216) :
    Calls Try.prog 10 #[.int .i64 (n : Int)] w fun e w' => ∃ db, e = .returned (.tuple #[.pointer (some ⟨db, 0, none⟩), .int .i64 0]) ∧ DiskAt (w.heap.size ≤ ·) w' db [] n false ∧ Below w.heap.size w w' := by
  have := new_any (n : Int) w (by omega) (by omega)
  rwa [Int.toNat_natCast] at this
theorem LogAt.made (h : DiskAt (B ≤ ·) w db [] r false) (hB : B ≤ w.heap.size) (p : Int) : LogAt B (w.alloc (.cells (logRow db (.slice none 0 0) ⟨p, 0, 0, false, [], []⟩) 82)) db w.heap.size r ⟨p, 0, 0, false, [], []⟩ := by
  refine ⟨fun k => B ≤ k ∧ k < w.heap.size, .slice none 0 0, ⟨h.lt.below ((Below.refl _ _).alloc (Nat.le_refl _) _), heap_alloc_new w _, OwnS.none, fun h => by omega, fun k hk => by simp [Value.ownBlock] at hk, fun k hk => ?_⟩, fun k hk => hk.1, hB, fun k hk => by simp [Value.ownBlock] at hk⟩
  have := hk.2
  simp; omega
theorem lnew_B (h : DiskAt (B ≤ ·) w db [] r false) (hB : B ≤ w.heap.size) (p : Int) (hp : p = 0 ∨ p = 1 ∨ p = 2) : Calls Try.prog 11 #[.pointer (some ⟨db, 0, none⟩), .int .i64 p] w fun e w' => ∃ lb, e = .returned (.tuple #[.pointer (some ⟨lb, 0, none⟩), .int .i64 0]) ∧ LogAt B w' db lb r ⟨p, 0, 0, false, [], []⟩ ∧ Below B w w' :=
  (lnew_any p hp w).mono fun e w' ⟨e1, e2⟩ => ⟨_, e1, by subst e2; exact LogAt.made h hB p, by subst e2; exact (Below.refl _ _).alloc hB _⟩
end
theorem told_len : (unitB [97]).length = 48 := by rw [unitB_len]; rfl
set_option maxHeartbeats 2000000 in
set_option maxRecDepth 20000 in
theorem told34_any (w : World) : Calls Try.prog 18 #[] w fun e w' => e = .returned (.bool true) ∧ Below w.heap.size w w' := by
  go_enter Try.func18, Try.ntmps18
  go_wp2_with fail
  go_fit (new_nat 1000 w (by omega))
  rintro e w1 ⟨db, rfl, hd1, hb1⟩
  have HD1 := Lib.hid hd1
  have HB1 := Lib.hid hb1
  clear hd1 hb1
  go_wp2_with fail
  go_fit (lnew_B HD1.out HB1.out.size 0 (.inl rfl))
  rintro e w2 ⟨lb, rfl, hl2, hb2⟩
  have HL2 := Lib.hid hl2
  have HB2 := Lib.hid (HB1.out.trans hb2)
  clear hl2 hb2
  go_wp2_with fail
  go_fit (lnew_nil w2)
  rintro e w3 ⟨rfl, rfl⟩
  go_wp2_with fail
  have ha := (Below.refl w2.heap.size w2).alloc (Nat.le_refl _) (.cells #[.string ⟨#[97]⟩, .int .i64 0, .string ⟨#[]⟩, .slice none 0 0, .slice none 0 0, .slice none 0 0, .slice none 0 0, .int .i64 0] 55)
  go_fit (ladd_safeB [97] (by decide) (by decide) (HL2.out.below ha) (Nat.le_trans HB2.out.size ha.size) (by omega) (by decide) (Rd.of_row (heap_alloc_new w2 _) 0 ⟨[], rfl⟩) (append_first _ _ (by rw [told_len]; omega)) (sync_one _ _))
  rintro e w4 ⟨rfl, hl4, hb4⟩
  have HB4 := Lib.hid (HB2.out.trans ((ha.mono HB2.out.size).trans hb4))
  have g1 := lsynced_at hl4 (f := ⟨unitB [97], (unitB [97]).length⟩) rfl
  have g2 := lsize_at hl4 (f := ⟨unitB [97], (unitB [97]).length⟩) rfl
  have g3 := lunits_B hl4
  have g4 := ladd_nil (lb := lb) w4
  dsimp only at g1 g2 g3 g4
  rw [told_len] at g1 g2
  have G1 := Lib.hid g1
  have G2 := Lib.hid g2
  have G3 := Lib.hid g3
  have G4 := Lib.hid g4
  clear g1 g2 g3 g4 hl4 hb4 ha
  go_wp2_with (first
    | (refine G1.out.mono ?_; rintro e w5 ⟨rfl, rfl⟩)
    | (refine G2.out.mono ?_; rintro e w5 ⟨rfl, rfl⟩)
    | (refine G3.out.mono ?_; rintro e w5 ⟨rfl, rfl⟩)
    | (refine G4.out.mono ?_; rintro e w5 ⟨rfl, rfl⟩))
  go_ret
  exact ⟨rfl, HB4.out⟩
end Go.Proofs.Ytblmnaejkdkndaa
