/- The walks over the document's disk: looking for a file, its reading, its room, its start. -/
import Derived.Test.YtadnabgnbhpijaaDRefRep
set_option linter.unusedSimpArgs false
set_option linter.unusedVariables false
namespace Go.Proofs.Ytadnabgnbhpijaa
open Go.RowKit Go.Maps
section
variable {S T : Nat → Prop} {w w' : World} {xb room : Nat} {D : Files0} {down : Bool} {v : Value} {name : List UInt8}
theorem named_any (name : List UInt8) (w : World) (hl : name.length ≤ maxLen) :
    Calls Try.prog 73 #[.string (str name)] w fun e w' => e = .returned (.bool (mayN name)) ∧ w = w' := by
  unfold maxLen at hl
  unfold mayN
  by_cases h1 : 1 ≤ name.length
  · by_cases h2 : name.length ≤ 64
    · have d1 : decide ((1 : Int) ≤ (name.length : Int)) = true := by simp; omega
      have d2 : decide ((name.length : Int) ≤ 64) = true := by simp; omega
      have d3 : decide (1 ≤ name.length ∧ name.length ≤ 64) = true := by simp [h1, h2]
      rw [d3]
      clear h1 h2 d3
      go_enter Try.func73, Try.ntmps73
      go_wp2_with fail
      go_ret
      exact ⟨rfl, rfl⟩
    · have d1 : decide ((1 : Int) ≤ (name.length : Int)) = true := by simp; omega
      have d2 : decide ((name.length : Int) ≤ 64) = false := by simp; omega
      have d3 : decide (1 ≤ name.length ∧ name.length ≤ 64) = false := by simp [h2]
      rw [d3]
      clear h1 h2 d3
      go_enter Try.func73, Try.ntmps73
      go_wp2_with fail
      go_ret
      exact ⟨rfl, rfl⟩
  · have d1 : decide ((1 : Int) ≤ (name.length : Int)) = false := by simp; omega
    have d3 : decide (1 ≤ name.length ∧ name.length ≤ 64) = false := by simp [h1]
    rw [d3]
    clear h1 d3
    go_enter Try.func73, Try.ntmps73
    go_wp2_with fail
    go_ret
    exact ⟨rfl, rfl⟩
/-- the place of a name, or none -/
def FindDoes (D : Files0) (name : List UInt8) (r : Int) : Prop := (kGet name D = none ∧ r = -1) ∨ ∃ k : Nat, ∃ h : k < D.length, D[k].1 = name ∧ r = (k : Int)
set_option maxRecDepth 20000 in
theorem find3_any (h : DRef S w xb D room down) (hl : name.length ≤ maxLen) (hm : D.length ≤ 100000) :
    Calls Try.prog 90 #[.pointer (some ⟨xb, 0, none⟩), .string (str name)] w fun e w' => ∃ r, e = .returned (.int .i64 r) ∧ FindDoes D name r ∧ w = w' := by
  obtain ⟨v, h⟩ := h
  obtain ⟨c0, c1, c2⟩ := h.cells
  obtain ⟨p, cap, rfl, hr, _⟩ := h.own.shape
  have HR := Lib.hid hr
  clear h hr
  go_enter Try.func90, Try.ntmps90
  go_wp2_with fail
  go_loopw [5] (fun i wr => ∃ k, k ≤ D.length ∧ i = .int .i64 (k : Int) ∧ NoF D name k ∧ wr = w) (fun i _ => D.length - (intOf i).toNat)
  case atStart => exact ⟨0, Nat.zero_le _, rfl, fun j _ hj => absurd hj (by omega), rfl⟩
  case round =>
    obtain ⟨k, hk, rfl, hno, hwr⟩ := hrel
    have HN := Lib.hid hno
    have hwr' := hwr.symm
    subst hwr'
    clear hno hwr
    by_cases hkl : k < D.length
    · obtain ⟨b, o, rfl, hcc⟩ := HR.out.at (k := k * 3) (by rw [fls_len]; omega)
      have e0 := hcc (k * 3) (by rw [fls_len]; omega)
      rw [fls_get0 _ _ hkl] at e0
      clear hcc
      have k0 : (0 : Int) ≤ (k : Int) := by omega
      have k1 : (k : Int) < (D.length : Int) := by omega
      by_cases he : D[k].1 = name
      · have HE := Lib.hid he
        have hq : (D[k].1 == name) = true := by simpa using he
        clear he
        go_wp2_with fail
        go_ret
        exact ⟨(k : Int), rfl, .inr ⟨k, hkl, HE.out, rfl⟩, rfl⟩
      · have HN2 := Lib.hid (HN.out.step hkl he)
        have hq : (D[k].1 == name) = false := by simpa using he
        go_wp2_with fail
        exact ⟨⟨k + 1, by omega, by go_num, HN2.out, by trivial⟩, by simp [intOf]; omega⟩
    · obtain rfl : k = D.length := by omega
      go_wp2_with fail
      go_ret
      exact ⟨-1, rfl, .inl ⟨HN.out.get, rfl⟩, rfl⟩
/-- what a file that there must be is told as -/
def HaveDoes (D : Files0) (name : List UInt8) (down : Bool) (k : Nat) (e : Int) : Prop :=
  (down = true ∧ k = 0 ∧ e = 23) ∨ (down = false ∧ kGet name D = none ∧ k = 0 ∧ e = 25) ∨ (down = false ∧ e = 0 ∧ ∃ h : k < D.length, D[k].1 = name)
set_option maxRecDepth 20000 in
theorem have_any (h : DRef S w xb D room down) (hl : name.length ≤ maxLen) (hm : D.length ≤ 100000) :
    Calls Try.prog 75 #[.pointer (some ⟨xb, 0, none⟩), .string (str name)] w fun e w' => ∃ k r, e = .returned (.tuple #[.int .i64 ((k : Nat) : Int), .int .i64 r]) ∧ HaveDoes D name down k r ∧ w = w' := by
  have hf := find3_any (name := name) h hl hm
  have HF := Lib.hid hf
  obtain ⟨v, h⟩ := h
  obtain ⟨c0, c1, c2⟩ := h.cells
  clear h hf
  cases down
  · go_enter Try.func75, Try.ntmps75
    go_wp2_with fail
    go_fit HF.out
    rintro e w1 ⟨r, rfl, hd, rfl⟩
    rcases hd with ⟨h1, rfl⟩ | ⟨k, hk, h1, rfl⟩
    · go_wp2_with fail
      go_ret2
      exact ⟨0, 25, rfl, .inr (.inl ⟨rfl, h1, rfl, rfl⟩), rfl⟩
    · have d0 : decide ((k : Int) < 0) = false := by simp
      go_wp2_with fail
      go_ret2
      exact ⟨k, 0, rfl, .inr (.inr ⟨rfl, rfl, hk, h1⟩), rfl⟩
  · go_enter Try.func75, Try.ntmps75
    go_wp2_with fail
    go_ret2
    exact ⟨0, 23, rfl, .inl ⟨rfl, rfl, rfl⟩, rfl⟩
theorem usedD_take (D : Files0) (k : Nat) (h : k < D.length) : usedD (D.take (k + 1)) = usedD (D.take k) + D[k].2.b.length := by
  unfold usedD
  rw [List.take_succ_eq_append_getElem h, List.map_append, List.sum_append]; simp
theorem usedD_take_le (D : Files0) (k : Nat) : usedD (D.take k) ≤ usedD D := by
  unfold usedD
  conv => rhs; rw [← List.take_append_drop k D]
  rw [List.map_append, List.sum_append]; omega
set_option maxRecDepth 20000 in
theorem rused_any (h : DRef S w xb D room down) (hm : D.length ≤ 100000) :
    Calls Try.prog 62 #[.pointer (some ⟨xb, 0, none⟩)] w fun e w' => e = .returned (.int .i64 (usedD D : Int)) ∧ w = w' := by
  obtain ⟨v, h⟩ := h
  obtain ⟨c0, c1, c2⟩ := h.cells
  obtain ⟨p, cap, rfl, hr, _⟩ := h.own.shape
  have HR := Lib.hid hr
  have hus := h.used
  clear h hr
  go_enter Try.func62, Try.ntmps62
  go_wp2_with fail
  go_loopw [3, 4] (fun n i wr => ∃ k, k ≤ D.length ∧ i = .int .i64 (k : Int) ∧ n = .int .i64 (usedD (D.take k) : Int) ∧ wr = w) (fun _ i _ => D.length - (intOf i).toNat)
  case atStart => exact ⟨0, Nat.zero_le _, rfl, rfl, rfl⟩
  case round =>
    obtain ⟨k, hk, rfl, rfl, hwr⟩ := hrel
    have hwr' := hwr.symm
    subst hwr'
    clear hwr
    by_cases hkl : k < D.length
    · obtain ⟨b, o, rfl, hcc⟩ := HR.out.at (k := k * 3) (by rw [fls_len]; omega)
      have e1 := hcc (k * 3 + 1) (by rw [fls_len]; omega)
      rw [fls_get1 _ _ hkl, ← Nat.add_assoc] at e1
      clear hcc
      have k0 : (0 : Int) ≤ (k : Int) := by omega
      have k1 : (k : Int) < (D.length : Int) := by omega
      have hst := usedD_take D k hkl
      have hle := usedD_take_le D (k + 1)
      obtain ⟨u1, hu1⟩ : ∃ u, u = usedD (D.take k) := ⟨_, rfl⟩
      obtain ⟨u2, hu2⟩ : ∃ u, u = usedD (D.take (k + 1)) := ⟨_, rfl⟩
      rw [← hu1, ← hu2] at hst
      rw [← hu2] at hle
      rw [← hu1]
      have HU2 := Lib.hid hu2
      clear hu1 hu2
      go_wp2_with fail
      exact ⟨⟨k + 1, by omega, by go_num, by rw [← HU2.out, hst]; go_num, by trivial⟩, by simp [intOf]; omega⟩
    · obtain rfl : k = D.length := by omega
      rw [List.take_length]
      go_wp2_with fail
      go_ret
      exact ⟨rfl, rfl⟩
set_option maxRecDepth 20000 in
theorem rread_any (h : DRef S w xb D room down) (hl : name.length ≤ maxLen) (hm : D.length ≤ 100000) :
    Calls Try.prog 63 #[.pointer (some ⟨xb, 0, none⟩), .string (str name)] w fun e w' => e = .returned (.tuple #[.string (str (readD name D down).1), .int .i64 (readD name D down).2]) ∧ w = w' := by
  have hf := have_any (name := name) h hl hm
  have HF := Lib.hid hf
  obtain ⟨v, h⟩ := h
  obtain ⟨c0, c1, c2⟩ := h.cells
  obtain ⟨p, cap, rfl, hr, _⟩ := h.own.shape
  have HR := Lib.hid hr
  have HS := Lib.hid h.srt
  clear h hf hr
  go_enter Try.func63, Try.ntmps63
  go_wp2_with fail
  go_fit HF.out
  rintro e w1 ⟨k, r, rfl, hd, rfl⟩
  rcases hd with ⟨h1, rfl, rfl⟩ | ⟨h1, h2, rfl, rfl⟩ | ⟨h1, rfl, hk, rfl⟩
  · go_wp2_with fail
    go_ret2
    subst h1
    exact ⟨rfl, rfl⟩
  · go_wp2_with fail
    go_ret2
    subst h1
    refine ⟨?_, rfl⟩
    unfold readD; rw [h2]; rfl
  · obtain ⟨b, o, rfl, hcc⟩ := HR.out.at (k := k * 3) (by rw [fls_len]; omega)
    have e1 := hcc (k * 3 + 1) (by rw [fls_len]; omega)
    rw [fls_get1 _ _ hk, ← Nat.add_assoc] at e1
    clear hcc
    have k0 : (0 : Int) ≤ (k : Int) := by omega
    have k1 : (k : Int) < (D.length : Int) := by omega
    have hg := get_at HS.out hk
    have HG := Lib.hid hg
    clear hg
    go_wp2_with fail
    go_ret2
    subst h1
    refine ⟨?_, rfl⟩
    unfold readD; rw [HG.out]; rfl
theorem rstart_any (h : DRef S w xb D room down) :
    Calls Try.prog 61 #[.pointer (some ⟨xb, 0, none⟩)] w fun e w' => e = .returned (.int .i64 (if down then 0 else 23)) ∧ DRef (Up S w) w' xb D room false ∧ Chg S w w' := by
  obtain ⟨v, h⟩ := h
  obtain ⟨c0, c1, c2⟩ := h.cells
  have z2 := h.free 2
  have HH := Lib.hid h
  clear h
  cases down
  · go_enter Try.func61, Try.ntmps61
    go_wp2_with fail
    go_ret
    exact ⟨rfl, ⟨_, HH.out.mono fun _ h => .inl h⟩, Chg.refl _ _⟩
  · go_enter Try.func61, Try.ntmps61
    go_wp2_with fail
    go_ret
    have h5 := HH.out.setOwn (i := 2) (u := .bool false) (room' := room) (down' := false) rfl HH.out.room_le
    exact ⟨rfl, ⟨_, h5.1.mono fun _ h => .inl h⟩, h5.2⟩
theorem rroom_any (h : DRef S w xb D room down) (n : Int) :
    Calls Try.prog 59 #[.pointer (some ⟨xb, 0, none⟩), .int .i64 n] w fun e w' => e = .returned (.tuple #[]) ∧ DRef (Up S w) w' xb D (roomD n) down ∧ Chg S w w' := by
  obtain ⟨v, h⟩ := h
  obtain ⟨c0, c1, c2⟩ := h.cells
  have z1 := h.free 1
  have HH := Lib.hid h
  clear h
  have hn : max (0 : Int) (min n 16777216) = (roomD n : Int) := by unfold roomD; omega
  have hle : roomD n ≤ 16777216 := by unfold roomD; omega
  have h5 := HH.out.setOwn (i := 1) (u := .int .i64 (roomD n : Int)) (room' := roomD n) (down' := down) rfl hle
  have H5 := Lib.hid h5
  generalize roomD n = r at *
  clear h5
  go_enter Try.func59, Try.ntmps59
  go_wp2_with fail
  go_end0
  exact ⟨rfl, ⟨_, H5.out.1.mono fun _ h => .inl h⟩, H5.out.2⟩
end
end Go.Proofs.Ytadnabgnbhpijaa
