/- The walks over an effect that takes a key away: whether it may be. -/
import Derived.Test.YtblmnaejkdkndaaBase
import Derived.Deep.RegionHeld3
import Derived.Laws.EntriesVeiled
set_option linter.unusedSimpArgs false
set_option linter.unusedVariables false
namespace Go.Proofs.Ytblmnaejkdkndaa
open Go.RowKit

theorem eqfunc_nil (w : World) (f : Value) : Calls Try.prog 48 #[.slice none 0 0, .slice none 0 0, f] w fun e w' => e = .returned (.bool true) ∧ w = w' := by
  go_enter Try.func48, Try.ntmps48
  go_wp2_with fail
  go_loopw [17] (fun i wr => i = .int .i64 0 ∧ wr = w) (fun _ _ => 0)
  case atStart => exact ⟨rfl, rfl⟩
  case round =>
    obtain ⟨rfl, hwr⟩ := hrel
    have hwr' := hwr.symm
    subst hwr'
    clear hwr
    go_wp2_with fail
    go_ret
    exact ⟨rfl, rfl⟩
theorem equal_str_nil (w : World) : Calls Try.prog 50 #[.slice none 0 0, .slice none 0 0] w fun e w' => e = .returned (.bool true) ∧ w = w' := by
  go_enter Try.func50, Try.ntmps50
  go_wp2_with fail
  go_loopw [13] (fun i wr => i = .int .i64 0 ∧ wr = w) (fun _ _ => 0)
  case atStart => exact ⟨rfl, rfl⟩
  case round =>
    obtain ⟨rfl, hwr⟩ := hrel
    have hwr' := hwr.symm
    subst hwr'
    clear hwr
    go_wp2_with fail
    go_ret
    exact ⟨rfl, rfl⟩
theorem equal_fld_nil (w : World) : Calls Try.prog 51 #[.slice none 0 0, .slice none 0 0] w fun e w' => e = .returned (.bool true) ∧ w = w' := by
  go_enter Try.func51, Try.ntmps51
  go_wp2_with fail
  go_loopw [13] (fun i wr => i = .int .i64 0 ∧ wr = w) (fun _ _ => 0)
  case atStart => exact ⟨rfl, rfl⟩
  case round =>
    obtain ⟨rfl, hwr⟩ := hrel
    have hwr' := hwr.symm
    subst hwr'
    clear hwr
    go_wp2_with fail
    go_ret
    exact ⟨rfl, rfl⟩
theorem equal_scr_nil (w : World) : Calls Try.prog 52 #[.slice none 0 0, .slice none 0 0] w fun e w' => e = .returned (.bool true) ∧ w = w' := by
  go_enter Try.func52, Try.ntmps52
  go_wp2_with fail
  go_loopw [13] (fun i wr => i = .int .i64 0 ∧ wr = w) (fun _ _ => 0)
  case atStart => exact ⟨rfl, rfl⟩
  case round =>
    obtain ⟨rfl, hwr⟩ := hrel
    have hwr' := hwr.symm
    subst hwr'
    clear hwr
    go_wp2_with fail
    go_ret
    exact ⟨rfl, rfl⟩
/-- the value that is none -/
def zeroV : Value := .agg #[.int .i64 0, .string ⟨#[]⟩, .slice none 0 0, .slice none 0 0, .slice none 0 0, .slice none 0 0]
set_option maxHeartbeats 1000000 in
set_option maxRecDepth 20000 in
theorem same_zero (w : World) : Calls Try.prog 23 #[zeroV, zeroV] w fun e w' => e = .returned (.bool true) ∧ Below w.heap.size w w' := by
  unfold zeroV
  have hone : (Value.func (Fn.func 46) #[] #[]).oneCell' = true := rfl
  go_enter Try.func23, Try.ntmps23
  go_wp2_with fail
  go_fit (eqfunc_nil _ _)
  rintro e w1 ⟨rfl, rfl⟩
  go_wp2_with fail
  go_fit (equal_str_nil _)
  rintro e w1 ⟨rfl, rfl⟩
  go_wp2_with fail
  go_fit (equal_fld_nil _)
  rintro e w1 ⟨rfl, rfl⟩
  go_wp2_with fail
  go_fit (equal_scr_nil _)
  rintro e w1 ⟨rfl, rfl⟩
  go_wp2_with fail
  go_ret
  refine ⟨rfl, ?_⟩
  repeat (first | exact Below.refl _ _ | refine grewA ?_ _ | refine Below.drew ?_ | refine grew ?_ (by assumption))
end Go.Proofs.Ytblmnaejkdkndaa
