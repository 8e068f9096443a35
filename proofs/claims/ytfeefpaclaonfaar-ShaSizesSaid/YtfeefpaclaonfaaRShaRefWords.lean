/- The walk over the document's words of SHA. -/
import Derived.Test.YtfeefpaclaonfaaRShaSum
set_option linter.unusedSimpArgs false
set_option linter.unusedVariables false
namespace Go.Proofs.YtfeefpaclaonfaaR
open Go.RowKit Go.BigFrame Sha Wire

set_option maxRecDepth 100000 in
set_option maxHeartbeats 1000000 in
theorem words22_any (w : World) :
    Calls Try.prog 44 #[] w fun e w' => e = .returned (.agg (wordsTo K 64 64)) ∧ Below w.heap.size w w' := by
  obtain ⟨hz, hsz⟩ := zero_of_info zero64
  have E64 : Hid ((Try.prog.info? 62).map (·.size) = some (wordsTo K 64 64).size) := by rw [wordsTo_size]; exact Lib.hid hsz
  have hu := Try.underlying62
  clear hsz
  go_enter Try.func44, Try.ntmps44
  go_wp2_with ((with_reducible refine L_store_row (cs := wordsTo K 64 64) ?_ ?_ (heap_alloc_new _ _) E64.out ?_ (wordsTo_one _ _ _) ?_); (focus rfl); (focus rfl); (focus simp [wordsTo_size]); simp only [Act.put, List.setIfInBounds_toArray, List.set_cons_zero, List.set_cons_succ]; rw [World.setRow_alloc_new])
  refine bodyPost_ret (results_cell_row (P := Try.prog) rfl _ _ w.heap.size 62 (wordsTo K 64 64) (0, 0) _ rfl (heap_alloc_new _ _) hu rfl E64.out) rfl ⟨rfl, ?_⟩
  exact (Below.refl _ _).alloc (Nat.le_refl _) _
end Go.Proofs.YtfeefpaclaonfaaR
