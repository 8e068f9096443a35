/- The walk of the law ShaSums. -/
import Derived.Test.YtfeefpaclaonfaaRShaHex
import Derived.Test.YtfeefpaclaonfaaRShaKnownWalk
set_option linter.unusedSimpArgs false
set_option linter.unusedVariables false
namespace Go.Proofs.YtfeefpaclaonfaaR
open Go.RowKit Go.BigFrame Sha Wire

theorem and3 (a : Int) : ∃ m : Nat, m ≤ 3 ∧ bits .and .i64 a 3 = (m : Int) := by
  refine ⟨(BitVec.ofInt 64 a &&& BitVec.ofInt 64 3).toNat, ?_, ?_⟩
  · rw [BitVec.toNat_and]; exact Nat.and_le_right
  · show IntKind.i64.wrap ((BitVec.ofInt 64 a &&& BitVec.ofInt 64 3).toNat : Int) = _
    have h : (BitVec.ofInt 64 a &&& BitVec.ofInt 64 3).toNat ≤ 3 := by rw [BitVec.toNat_and]; exact Nat.and_le_right
    exact IntWalk.i64_in _ (by omega)

set_option maxRecDepth 20000 in
set_option maxHeartbeats 1000000 in
theorem shaSums_walk (l : List UInt8) (a : Int) (w : World) (hl63 : l.length ≤ maxLen) :
    Calls Try.prog 11 #[.string (str l), .int .i64 a] w fun e w' => e = .returned (.bool true) ∧ Below w.heap.size w w' := by
  obtain ⟨m, hm, hma⟩ := and3 a
  have hl9 : l.length ≤ 9223372036854775807 := by unfold maxLen at hl63; omega
  clear hl63
  by_cases hbig : 300 < l.length
  · have d1 : decide ((300 : Int) < (l.length : Int)) = true := by simp; omega
    go_enter Try.func11, Try.ntmps11
    go_wp2_with (go_at_call 25; go_fit (told22_any _); rintro e w1 ⟨rfl, hb1⟩)
    go_ret
    exact ⟨rfl, hb1⟩
  · have d1 : decide ((300 : Int) < (l.length : Int)) = false := by simp; omega
    go_enter Try.func11, Try.ntmps11
    go_wp2_with fail
    go_loopw [5, 6] (fun t i wr => ∃ (k : Nat) (x : List UInt8), k ≤ m ∧ i = .int .i64 k ∧ t = .string (str x) ∧ x.length ≤ 300 * (k + 1) ∧ Below w.heap.size w wr) (fun _ i _ => m - (intOf i).toNat)
    case atStart => exact ⟨0, l, by omega, rfl, rfl, by omega, Below.refl _ _⟩
    case round =>
      obtain ⟨k, x, hk, rfl, rfl, hx, hbel⟩ := hrel
      by_cases hlt : k < m
      · go_wp2_with fail
        exact ⟨⟨k + 1, _, by omega, by go_num, rfl, by rw [List.length_append]; omega, hbel⟩, by simp [intOf]; omega⟩
      · obtain rfl : k = m := by omega
        go_wp2_with fail
        go_fit (told22_any wr)
        rintro e w1 ⟨rfl, hb1⟩
        go_wp2_with fail
        go_fit (sum_any x w1 (by omega))
        rintro e w2 ⟨rfl, hb2⟩
        go_wp2_with fail
        go_fit (refSum_any x w2 (by omega))
        rintro e w3 ⟨rfl, hb3⟩
        go_wp2_with fail
        go_ret
        exact ⟨rfl, hbel.trans ((grew (grew hb1 hb2) hb3).mono hbel.size)⟩
end Go.Proofs.YtfeefpaclaonfaaR
