/- Walks over package sha: turns. -/
import Derived.Test.YtfeefpaclaonfaaRBase
import Derived.Test.YtfeefpaclaonfaaRShaPlain
import Derived.Test.YtfeefpaclaonfaaRWireWalks
set_option linter.unusedSimpArgs false
set_option linter.unusedVariables false
namespace Go.Proofs.YtfeefpaclaonfaaR
open Go.RowKit Go.BigFrame Sha

theorem b32_or (x y : BitVec 32) : bits .or .u32 (x.toNat : Int) (y.toNat : Int) = ((x ||| y).toNat : Int) := by
  show IntKind.u32.wrap ((BitVec.ofInt 32 _ ||| BitVec.ofInt 32 _).toNat : Int) = _
  rw [ofInt_bv, ofInt_bv, wrap_u32_bv]
theorem b32_and (x y : BitVec 32) : bits .and .u32 (x.toNat : Int) (y.toNat : Int) = ((x &&& y).toNat : Int) := by
  show IntKind.u32.wrap ((BitVec.ofInt 32 _ &&& BitVec.ofInt 32 _).toNat : Int) = _
  rw [ofInt_bv, ofInt_bv, wrap_u32_bv]
theorem b32_shr (x : BitVec 32) (n : Nat) : (x.toNat : Int) / 2 ^ n = ((x >>> n).toNat : Int) := by
  rw [BitVec.toNat_ushiftRight, Nat.shiftRight_eq_div_pow]; simp
theorem b32_shl (x : BitVec 32) (n : Nat) : (x.toNat : Int) * 2 ^ n % 4294967296 = ((x <<< n).toNat : Int) := by
  rw [BitVec.toNat_shiftLeft, Nat.shiftLeft_eq]; simp

set_option maxRecDepth 20000 in
set_option maxHeartbeats 400000 in
theorem ref_turn (x : BitVec 32) (n : Nat) (w : World) (h0 : 0 < n) (h1 : n < 32) :
    Calls Try.prog 45 #[.int .u32 (x.toNat : Int), .int .i64 (n : Int)] w fun e w' => e = .returned (.int .u32 (rotr x n).toNat) ∧ w = w' := by
  go_enter Try.func45, Try.ntmps45
  go_wp2_with fail
  go_ret
  refine ⟨?_, rfl⟩
  have h := b32_or (x >>> n) (x <<< (32 - n))
  rw [← b32_shr, ← b32_shl] at h
  show _ = Ending.returned (.int .u32 ((x >>> n) ||| (x <<< (32 - n))).toNat)
  rw [← h]; rfl
set_option maxRecDepth 20000 in
set_option maxHeartbeats 400000 in
theorem rotl (x : BitVec 32) (n m : Nat) (w : World) (h0 : 0 < n) (h1 : n < 32) (hm : m < 32) (hmn : 32 - m = n) (hmn' : 32 - n = m) (hb : bits .and .u64 (IntKind.u64.wrap (-(n : Int))) 31 = (m : Int)) :
    Calls Try.prog 43 #[.int .u32 (x.toNat : Int), .int .i64 (-(n : Int))] w fun e w' => e = .returned (.int .u32 (rotr x n).toNat) ∧ w = w' := by
  have HM := Lib.hid hmn
  have HM' := Lib.hid hmn'
  clear hmn hmn'
  go_enter Try.func43, Try.ntmps43
  go_wp2_with fail
  go_ret
  refine ⟨?_, rfl⟩
  have h := b32_or (x <<< m) (x >>> (32 - m))
  rw [← b32_shr, ← b32_shl] at h
  have e : rotr x n = (x <<< m) ||| (x >>> (32 - m)) := by unfold rotr; rw [HM.out, HM'.out, BitVec.or_comm]
  rw [e, ← h]; rfl
theorem rot_fact (n : Nat) (h : n = 2 ∨ n = 6 ∨ n = 7 ∨ n = 11 ∨ n = 13 ∨ n = 17 ∨ n = 18 ∨ n = 19 ∨ n = 22 ∨ n = 25) : bits .and .u64 (IntKind.u64.wrap (-(n : Int))) 31 = ((32 - n : Nat) : Int) := by
  rcases h with rfl | rfl | rfl | rfl | rfl | rfl | rfl | rfl | rfl | rfl <;> decide +kernel
/-- the closure turn of package sha -/
theorem turn_any (x : BitVec 32) (n : Nat) (w : World) (h : n = 2 ∨ n = 6 ∨ n = 7 ∨ n = 11 ∨ n = 13 ∨ n = 17 ∨ n = 18 ∨ n = 19 ∨ n = 22 ∨ n = 25) :
    Calls Try.prog 42 #[.int .u32 (x.toNat : Int), .int .i64 (n : Int)] w fun e w' => e = .returned (.int .u32 (rotr x n).toNat) ∧ w = w' := by
  have h0 : 0 < n := by omega
  have h1 : n < 32 := by omega
  have HB := Lib.hid (rot_fact n h)
  clear h
  go_enter Try.func42, Try.ntmps42
  go_wp2_with fail
  go_fit (rotl x n (32 - n) w h0 h1 (by omega) (by omega) rfl HB.out)
  rintro e w1 ⟨rfl, rfl⟩
  go_wp2_with fail
  go_ret
  exact ⟨rfl, rfl⟩
end Go.Proofs.YtfeefpaclaonfaaR
