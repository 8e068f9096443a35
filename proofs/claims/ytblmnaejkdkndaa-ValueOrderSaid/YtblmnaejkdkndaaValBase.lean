/- The walks over the parts of value.May: points, the orders, the texts. -/
import Derived.Test.YtblmnaejkdkndaaBase
import Derived.Laws.Externs
import Derived.Deep.RegionHeld3
import Derived.Laws.EntriesVeiled
set_option linter.unusedSimpArgs false
set_option linter.unusedVariables false
namespace Go.Proofs.Ytblmnaejkdkndaa
open Go.RowKit

theorem bless : ∀ (x y : List UInt8), Op.bytesLess x y = decide (x < y)
  | [], [] => by simp [Op.bytesLess]
  | [], _ :: _ => by simp [Op.bytesLess]
  | _ :: _, [] => by simp [Op.bytesLess]
  | a :: r, b :: s => by
    have ih := bless r s
    simp only [Op.bytesLess, ih, List.cons_lt_cons_iff]
    by_cases h : a < b <;> by_cases h2 : a = b <;> simp_all
theorem run_trunc0 (w : World) : (callFunc 73 #[.float .f64 0]).run Try.prog w = .ok (.value (.float .f64 0)) w := by
  rw [run_callFunc_extern Try.func73 (by kernel_rfl) (by kernel_rfl) (by kernel_rfl) (by kernel_rfl) (e := Go.Extern.MathFloor.toIntegral "math.archTrunc" .zero) #[.float .f64 0] w]
  rfl
theorem run_bits (n : Nat) (w : World) : (callFunc 47 #[.float .f64 n]).run Try.prog w = .ok (.value (.int .u64 (n : Int))) w := by
  rw [run_callFunc_extern Try.func47 (by kernel_rfl) (by kernel_rfl) (by kernel_rfl) (by kernel_rfl) (e := Go.Extern.MathFloatBits.float64bits) #[.float .f64 n] w]
  rfl
theorem run_frombits (n : Nat) (w : World) : (callFunc 75 #[.int .u64 (n : Int)]).run Try.prog w = .ok (.value (.float .f64 n)) w := by
  rw [run_callFunc_extern Try.func75 (by kernel_rfl) (by kernel_rfl) (by kernel_rfl) (by kernel_rfl) (e := Go.Extern.MathFloatBits.float64frombits) #[.int .u64 (n : Int)] w]
  rfl
set_option maxRecDepth 20000 in
theorem trunc_zero (w : World) : Calls Try.prog 64 #[.float .f64 0] w fun e w' => e = .returned (.float .f64 0) ∧ w = w' := by
  have hT := run_trunc0 w
  go_enter Try.func64, Try.ntmps64
  go_wp2_with fail
  exact ⟨rfl, .float .f64 0, results_tmp (t := 2) rfl _ _ _, rfl, rfl⟩
set_option maxRecDepth 20000 in
theorem abs_zero (w : World) : Calls Try.prog 65 #[.float .f64 0] w fun e w' => e = .returned (.float .f64 0) ∧ w = w' := by
  have hT : (callFunc 47 #[.float .f64 0]).run Try.prog w = .ok (.value (.int .u64 0)) w := run_bits 0 w
  have hF : (callFunc 75 #[.int .u64 0]).run Try.prog w = .ok (.value (.float .f64 0)) w := run_frombits 0 w
  have hb : bits .andNot .u64 0 9223372036854775808 = 0 := by decide +kernel
  go_enter Try.func65, Try.ntmps65
  go_wp2_with fail
  go_ret
  exact ⟨rfl, rfl⟩
set_option maxRecDepth 20000 in
theorem sign_zero (w : World) : Calls Try.prog 66 #[.float .f64 0] w fun e w' => e = .returned (.bool false) ∧ w = w' := by
  have hT : (callFunc 47 #[.float .f64 0]).run Try.prog w = .ok (.value (.int .u64 0)) w := run_bits 0 w
  go_enter Try.func66, Try.ntmps66
  go_wp2_with fail
  go_ret
  exact ⟨rfl, rfl⟩
set_option maxRecDepth 20000 in
theorem whole_zero (w : World) : Calls Try.prog 54 #[.float .f64 0] w fun e w' => e = .returned (.bool true) ∧ w = w' := by
  go_enter Try.func54, Try.ntmps54
  go_wp2_with fail
  go_fit (trunc_zero _)
  rintro e w1 ⟨rfl, rfl⟩
  go_wp2_with fail
  go_fit (abs_zero _)
  rintro e w1 ⟨rfl, rfl⟩
  go_wp2_with fail
  go_fit (sign_zero _)
  rintro e w1 ⟨rfl, rfl⟩
  go_wp2_with fail
  go_ret
  exact ⟨rfl, rfl⟩
set_option maxRecDepth 20000 in
theorem pmay_zero (w : World) : Calls Try.prog 27 #[.complex .f64 0 0] w fun e w' => e = .returned (.bool true) ∧ w = w' := by
  go_enter Try.func27, Try.ntmps27
  go_wp2_with fail
  go_fit (whole_zero _)
  rintro e w1 ⟨rfl, rfl⟩
  go_wp2_with fail
  go_fit (whole_zero _)
  rintro e w1 ⟨rfl, rfl⟩
  go_wp2_with fail
  go_ret
  exact ⟨rfl, rfl⟩
/-! ### the closures -/
theorem less_f (a : List UInt8) (b : Value) (c : List UInt8) (d : Value) (hb : b.oneCell' = true) (hd : d.oneCell' = true) (w : World) : Calls Try.prog 29 #[.agg #[.string (str a), b], .agg #[.string (str c), d]] w fun e w' => e = .returned (.bool (decide (a < c))) ∧ Below w.heap.size w w' := by
  go_enter Try.func29, Try.ntmps29
  go_wp2_with fail
  go_ret
  refine ⟨?_, ?_⟩
  · rw [← bless]; rfl
  · repeat (first | exact Below.refl _ _ | refine grewA ?_ _ | refine Below.drew ?_ | refine grew ?_ (by assumption))
theorem less_p (a : List UInt8) (b : Value) (c : List UInt8) (d : Value) (hb : b.oneCell' = true) (hd : d.oneCell' = true) (w : World) : Calls Try.prog 31 #[.agg #[.string (str a), b], .agg #[.string (str c), d]] w fun e w' => e = .returned (.bool (decide (a < c))) ∧ Below w.heap.size w w' := by
  go_enter Try.func31, Try.ntmps31
  go_wp2_with fail
  go_ret
  refine ⟨?_, ?_⟩
  · rw [← bless]; rfl
  · repeat (first | exact Below.refl _ _ | refine grewA ?_ _ | refine Below.drew ?_ | refine grew ?_ (by assumption))
theorem less_s (a : List UInt8) (c : List UInt8) (n : Int) (w : World) : Calls Try.prog 33 #[.agg #[.string (str a), .int .i64 n], .agg #[.string (str c), .int .i64 n]] w fun e w' => e = .returned (.bool (decide (a < c))) ∧ Below w.heap.size w w' := by
  have hn : decide (n < n) = false := by simp
  go_enter Try.func33, Try.ntmps33
  go_wp2_with fail
  go_ret
  refine ⟨?_, ?_⟩
  · rw [← bless]; rfl
  · repeat (first | exact Below.refl _ _ | refine grewA ?_ _ | refine Below.drew ?_ | refine grew ?_ (by assumption))
end Go.Proofs.Ytblmnaejkdkndaa
