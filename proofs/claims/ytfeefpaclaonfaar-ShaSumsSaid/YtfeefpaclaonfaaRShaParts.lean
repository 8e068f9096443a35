/- Walks over package sha: roots' parts, primes, constants. -/
import Derived.Test.YtfeefpaclaonfaaRShaWalks
import Derived.Shelf.Bits.Mul64
import Derived.Shelf.Spec.BitsCarry
set_option linter.unusedSimpArgs false
set_option linter.unusedVariables false
namespace Go.Proofs.YtfeefpaclaonfaaR
open Go.RowKit Go.BigFrame Sha

set_option maxRecDepth 20000 in
set_option maxHeartbeats 1000000 in
theorem mul64_any (x y : Nat) (hx : x < 18446744073709551616) (hy : y < 18446744073709551616) (w : World) :
    Calls Try.prog 47 #[.int .u64 x, .int .u64 y] w fun e w' => e = .returned (.tuple #[.int .u64 ((x * y / 18446744073709551616 : Nat) : Int), .int .u64 ((x * y % 18446744073709551616 : Nat) : Int)]) ∧ w = w' := by
  obtain ⟨bd, bt, bw, hhi⟩ := Lib.mul64_hi x y hx hy
  have ba := Lib.half_mul_le (a := x / 4294967296) (b := y / 4294967296) (by omega) (by omega)
  have bb := Lib.half_mul_le (a := x / 4294967296) (b := y % 4294967296) (by omega) (by omega)
  have bc := Lib.half_mul_le (a := x % 4294967296) (b := y / 4294967296) (by omega) (by omega)
  have ba' : x / 4294967296 * (y / 4294967296) < 18446744073709551616 := by omega
  have bb' : x / 4294967296 * (y % 4294967296) < 18446744073709551616 := by omega
  have bc' : x % 4294967296 * (y / 4294967296) < 18446744073709551616 := by omega
  have bh1 : x / 4294967296 * (y / 4294967296) + (x / 4294967296 * (y % 4294967296) + x % 4294967296 * (y % 4294967296) / 4294967296) / 4294967296 < 18446744073709551616 := by omega
  have bh : x / 4294967296 * (y / 4294967296) + (x / 4294967296 * (y % 4294967296) + x % 4294967296 * (y % 4294967296) / 4294967296) / 4294967296 + ((x / 4294967296 * (y % 4294967296) + x % 4294967296 * (y % 4294967296) / 4294967296) % 4294967296 + x % 4294967296 * (y / 4294967296)) / 4294967296 < 18446744073709551616 := by omega
  go_enter Try.func47, Try.ntmps47
  go_wp2
  simp only [Mul64.maskN x hx, Mul64.maskN y hy, Mul64.divN, Mul64.mulN, Mul64.addN, Mul64.wrapN _ bd, Mul64.wrapN _ bb', Mul64.wrapN _ bt, Mul64.maskN _ bt, Mul64.wrapN _ bc', Mul64.wrapN _ bw, Mul64.wrapN _ ba', Mul64.wrapN _ bh1, Mul64.wrapN _ bh, Mul64.wrapM (x * y)]
  rw [hhi]
  go_ret2
  exact ⟨rfl, rfl⟩
theorem add64_any (x y : Nat) (w : World) (hs : x + y < 18446744073709551616) :
    (callFunc 48 #[.int .u64 (x : Int), .int .u64 (y : Int), .int .u64 0]).run Try.prog w =
      .ok (.value (.tuple #[.int .u64 ((x + y : Nat) : Int), .int .u64 0])) w := by
  have h := run_add64 (P := Try.prog) x y 0 (by omega) (by omega) (by omega) (by omega) (w := w)
  rw [run_callFunc_extern Try.func48 (by kernel_rfl) (by kernel_rfl) (by kernel_rfl) (e := add64Entry) (by kernel_rfl), h]
  simp only [Result.andThen]
  have e1 : ((x : Int) + y + 0) % 18446744073709551616 = ((x + y : Nat) : Int) := by omega
  have e2 : ((x : Int) + y + 0) / 18446744073709551616 = 0 := by omega
  rw [e1, e2]
theorem above_two (r n : Nat) (hn : n < 4294967296) : above r n 2 = (decide (n < r * r / 18446744073709551616) || (r * r / 18446744073709551616 == n && decide (0 < r * r % 18446744073709551616))) := by
  unfold above
  have e : r ^ 2 = r * r := Nat.pow_two r
  have e2 : 4294967296 ^ 2 = 18446744073709551616 := by decide
  rw [e, e2, Bool.eq_iff_iff]
  generalize r * r = q
  simp
  omega
theorem above_three (r n : Nat) (hn : n < 4294967296) : above r n 3 = (decide (n * 4294967296 < r * r / 18446744073709551616 * r + r * r % 18446744073709551616 * r / 18446744073709551616) || (r * r / 18446744073709551616 * r + r * r % 18446744073709551616 * r / 18446744073709551616 == n * 4294967296 && decide (0 < r * r % 18446744073709551616 * r % 18446744073709551616))) := by
  unfold above
  have e : r ^ 3 = (18446744073709551616 * (r * r / 18446744073709551616) + r * r % 18446744073709551616) * r := by rw [Nat.div_add_mod]; exact Nat.pow_succ' .. |>.trans (by rw [Nat.pow_two, Nat.mul_comm])
  have e2 : 4294967296 ^ 3 = 18446744073709551616 * 4294967296 := by decide
  rw [e, e2, Nat.add_mul, Nat.mul_assoc, Bool.eq_iff_iff]
  generalize r * r / 18446744073709551616 * r = b
  generalize r * r % 18446744073709551616 * r = c
  simp
  omega
theorem ret_bool {a b : Bool} (h : a = b) : Ending.returned (.bool a) = .returned (.bool b) := by rw [h]
set_option maxRecDepth 20000 in
set_option maxHeartbeats 1000000 in
theorem above2_any (r n : Nat) (w : World) (hr : r ≤ 68719476736) (hn : n < 4294967296) :
    Calls Try.prog 46 #[.int .u64 (r : Int), .int .u64 (n : Int), .int .i64 2] w fun e w' => e = .returned (.bool (above r n 2)) ∧ w = w' := by
  have HA := Lib.hid (above_two r n hn)
  go_enter Try.func46, Try.ntmps46
  go_wp2_with fail
  go_fit (mul64_any r r (by omega) (by omega) w)
  rintro e w1 ⟨rfl, rfl⟩
  generalize r * r / 18446744073709551616 = hi at *
  generalize r * r % 18446744073709551616 = lo at *
  go_wp2_with fail
  all_goals
    go_ret
    exact ⟨ret_bool (by rw [HA.out, Bool.eq_iff_iff]; simp; omega), rfl⟩
theorem mul64_nm (x y hi lo : Nat) (hx : x < 18446744073709551616) (hy : y < 18446744073709551616) (h1 : x * y / 18446744073709551616 = hi) (h2 : x * y % 18446744073709551616 = lo) (w : World) :
    Calls Try.prog 47 #[.int .u64 x, .int .u64 y] w fun e w' => e = .returned (.tuple #[.int .u64 (hi : Int), .int .u64 (lo : Int)]) ∧ w = w' := by
  subst h1 h2; exact mul64_any x y hx hy w
theorem add64_nm (x y s : Nat) (w : World) (hs : x + y = s) (h : s < 18446744073709551616) :
    (callFunc 48 #[.int .u64 (x : Int), .int .u64 (y : Int), .int .u64 0]).run Try.prog w = .ok (.value (.tuple #[.int .u64 (s : Int), .int .u64 0])) w := by
  subst hs; exact add64_any x y w h
set_option maxRecDepth 20000 in
set_option maxHeartbeats 2000000 in
theorem above3_walk (r n hi lo b c d s : Nat) (w : World) (hn : n < 4294967296)
    (k1 : Calls Try.prog 47 #[.int .u64 r, .int .u64 r] w fun e w' => e = .returned (.tuple #[.int .u64 (hi : Int), .int .u64 (lo : Int)]) ∧ w = w')
    (k2 : Calls Try.prog 47 #[.int .u64 hi, .int .u64 r] w fun e w' => e = .returned (.tuple #[.int .u64 0, .int .u64 (b : Int)]) ∧ w = w')
    (k3 : Calls Try.prog 47 #[.int .u64 lo, .int .u64 r] w fun e w' => e = .returned (.tuple #[.int .u64 (c : Int), .int .u64 (d : Int)]) ∧ w = w')
    (k4 : (callFunc 48 #[.int .u64 (b : Int), .int .u64 (c : Int), .int .u64 0]).run Try.prog w = .ok (.value (.tuple #[.int .u64 (s : Int), .int .u64 0])) w) :
    Calls Try.prog 46 #[.int .u64 (r : Int), .int .u64 (n : Int), .int .i64 3] w fun e w' => e = .returned (.bool (decide (n * 4294967296 < s) || (s == n * 4294967296 && decide (0 < d)))) ∧ w = w' := by
  have K1 := Lib.hid k1
  have K2 := Lib.hid k2
  have K3 := Lib.hid k3
  clear k1 k2 k3
  have hov : (n : Int) / 4294967296 = 0 := by omega
  have hwn : IntKind.u64.wrap ((n : Int) * 4294967296) = (n : Int) * 4294967296 := by rw [IntKind.wrap_u64]; omega
  go_enter Try.func46, Try.ntmps46
  go_wp2_with fail
  refine K1.out.mono ?_
  rintro e w1 ⟨rfl, rfl⟩
  go_wp2_with fail
  refine K2.out.mono ?_
  rintro e w1 ⟨rfl, rfl⟩
  go_wp2_with fail
  refine K3.out.mono ?_
  rintro e w1 ⟨rfl, rfl⟩
  go_upto_region 9 with (fail)
  have hf : ∀ W : Int, (n : Int) * 4294967296 = W → (decide (n * 4294967296 < s) || (s == n * 4294967296 && decide (0 < d))) = (decide (W < (s : Int)) || ((s : Int) == W && decide (0 < d))) := by
    intro W hW; rw [Bool.eq_iff_iff]; simp; omega
  have HF := Lib.hid hf
  clear hf hwn hov
  obtain ⟨W, hW⟩ : ∃ W : Int, (n : Int) * 4294967296 = W := ⟨_, rfl⟩
  rw [hW]
  have HW := Lib.hid (HF.out W hW)
  clear HF hW
  go_wp2_with fail
  all_goals
    go_ret
    refine ⟨?_, rfl⟩
    rw [HW.out]
    exact ret_bool (by rw [Bool.eq_iff_iff]; simp; omega)
theorem above3_any (r n : Nat) (w : World) (hr : r ≤ 68719476736) (hn : n < 4294967296) :
    Calls Try.prog 46 #[.int .u64 (r : Int), .int .u64 (n : Int), .int .i64 3] w fun e w' => e = .returned (.bool (above r n 3)) ∧ w = w' := by
  have hq : r * r ≤ 68719476736 * 68719476736 := Nat.mul_le_mul hr hr
  have hlo : r * r % 18446744073709551616 < 18446744073709551616 := Nat.mod_lt _ (by omega)
  have hhi : r * r / 18446744073709551616 ≤ 256 := by omega
  have hb : r * r / 18446744073709551616 * r ≤ 256 * 68719476736 := Nat.mul_le_mul hhi hr
  have hc : r * r % 18446744073709551616 * r ≤ 18446744073709551615 * 68719476736 := Nat.mul_le_mul (by omega) hr
  rw [above_three r n hn]
  exact above3_walk r n _ _ _ _ _ _ w hn (mul64_nm r r _ _ (by omega) (by omega) rfl rfl w)
    (mul64_nm _ r 0 (r * r / 18446744073709551616 * r) (by omega) (by omega) (by omega) (by omega) w) (mul64_nm _ r _ _ hlo (by omega) rfl rfl w) (add64_nm _ _ _ w rfl (by omega))
end Go.Proofs.YtfeefpaclaonfaaR
