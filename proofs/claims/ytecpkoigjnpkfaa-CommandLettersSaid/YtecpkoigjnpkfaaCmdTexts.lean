/- The walk over scriptoriumref3.Texts, of two equal lists. -/
import Derived.Test.YtecpkoigjnpkfaaCmdFits
set_option linter.unusedSimpArgs false
set_option linter.unusedVariables false
namespace Go.Proofs.Ytecpkoigjnpkfaa
open Go.RowKit Cmd

theorem stc_len (ss : List (List UInt8)) : (stc ss).length = ss.length * 1 := by simp [stc]
theorem stc_append (a b : List (List UInt8)) : stc (a ++ b) = stc a ++ stc b := by simp [stc]
theorem stc_one (ss : List (List UInt8)) : ∀ u ∈ stc ss, u.oneCell' = true := by
  intro u hu
  obtain ⟨_, _, rfl⟩ := List.mem_map.1 hu
  rfl
theorem below_drewN {a b : World} {B : Nat} (h : Below B a b) (n : Nat) : Below B a (b.drewN n) := h.trans ⟨rfl, rfl, rfl, Nat.le_refl _, fun _ _ => rfl⟩
set_option maxRecDepth 20000 in
theorem texts_eq {w : World} {p q : Option Addr} {c d : Nat} {L : List (List UInt8)} (h1 : Rd w p (stc L)) (h2 : Rd w q (stc L)) (hl : L.length ≤ 100000) :
    Calls Try.prog 9 #[.slice p L.length c, .slice q L.length d] w fun e w' => e = .returned (.bool true) ∧ Below w.heap.size w w' := by
  have H1 := Lib.hid h1
  have H2 := Lib.hid h2
  clear h1 h2
  go_enter Try.func9, Try.ntmps9
  go_wp2_with fail
  go_loopw [5] (fun i wr => ∃ k, k ≤ L.length ∧ i = .int .i64 (k : Int) ∧ Below w.heap.size w wr) (fun i _ => L.length - (intOf i).toNat)
  case atStart => exact ⟨0, Nat.zero_le _, rfl, Below.refl _ _⟩
  case round =>
    obtain ⟨k, hk, rfl, hb⟩ := hrel
    have HB := Lib.hid hb
    clear hb
    by_cases hkl : k < L.length
    · obtain ⟨b, o, rfl, hc1⟩ := (H1.out.below HB.out).at (k := k) (by rw [stc_len]; omega)
      obtain ⟨b2, o2, rfl, hc2⟩ := (H2.out.below HB.out).at (k := k) (by rw [stc_len]; omega)
      have e1 := hc1 k (by rw [stc_len]; omega)
      have e2 := hc2 k (by rw [stc_len]; omega)
      simp only [stc, List.getElem_map] at e1 e2
      have k0 : (0 : Int) ≤ (k : Int) := by omega
      have k1 : (k : Int) < (L.length : Int) := by omega
      clear hc1 hc2
      go_wp2_with fail
      go_quiet (fail)
      all_goals (go_wp2_with fail)
      all_goals exact ⟨⟨k + 1, by omega, by go_num, below_drewN HB.out _⟩, by simp [intOf]; omega⟩
    · obtain rfl : k = L.length := by omega
      go_wp2_with fail
      go_ret
      exact ⟨rfl, HB.out⟩
end Go.Proofs.Ytecpkoigjnpkfaa
