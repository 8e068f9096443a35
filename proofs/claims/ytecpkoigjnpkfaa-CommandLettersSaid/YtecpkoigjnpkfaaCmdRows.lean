/- The walk over command.rows. Printed by wip/gen_cmdrows.py. -/
import Derived.Test.YtecpkoigjnpkfaaCmdPlain
import Derived.Test.YtecpkoigjnpkfaaBase
set_option linter.unusedSimpArgs false
set_option linter.unusedVariables false
namespace Go.Proofs.Ytecpkoigjnpkfaa
open Go.RowKit Cmd

/-- a row's cells -/
def cellsR (r : CRow) : List Value := [.string (str r.name), .int .i64 r.least, .int .i64 r.most, .bool r.write, .int .i64 r.first, .int .i64 r.last, .int .i64 r.step]
def cellsRs (l : List CRow) : List Value := l.flatMap cellsR
/-- an operation that yields a value and leaves the world -/
theorem L_pure {P : Program} {ops : Array Oper} {rest : List Oper} {o : Oper} {a : Act} {w : World} {Q : Exit → Act → World → Prop} (v : Value) (hg : o.guard = none)
    (hrun : ∀ (a : Act) (w : World), (execOp a.eval o).run P w = .ok (.value v) w) (h : wpList P ops Q rest (a.put o.dst v) w) : wpList P ops Q (o :: rest) a w :=
  wpList_plain hg fun K hK => by unfold Oper.wp; rw [hrun]; exact hK _ _ h
theorem L_runw {P : Program} {ops : Array Oper} {rest : List Oper} {o : Oper} {a : Act} {w : World} {Q : Exit → Act → World → Prop} (v : Value) (w' : World) (hg : o.guard = none)
    (hrun : (execOp a.eval o).run P w = .ok (.value v) w') (h : wpList P ops Q rest (a.put o.dst v) w') : wpList P ops Q (o :: rest) a w :=
  wpList_plain hg fun K hK => by unfold Oper.wp; rw [hrun]; exact hK _ _ h
/-- row k of the table, as a value -/
def rowV (k : Nat) : Value := .agg (cellsR (rowsL.getD k ⟨[], 0, 0, false, 0, 0, 0⟩)).toArray
set_option maxHeartbeats 4000000 in
set_option maxRecDepth 100000 in
theorem rows_any (w : World) : Calls Try.prog 12 #[] w fun e w' => e = .returned (.slice (some ⟨w.heap.size, 0, none⟩) 82 82) ∧ w' = w.alloc (.cells (cellsRs rowsL).toArray 27) := by
  go_enter Try.func12, Try.ntmps12
  go_upto_region 1 with (fail)
  refine wp_region_lit ?_
  refine L_pure (rowV 0) rfl (fun _ _ => by kernel_rfl) ?_
  refine L_pure (rowV 1) rfl (fun _ _ => by kernel_rfl) ?_
  refine L_pure (rowV 2) rfl (fun _ _ => by kernel_rfl) ?_
  refine L_pure (rowV 3) rfl (fun _ _ => by kernel_rfl) ?_
  refine L_pure (rowV 4) rfl (fun _ _ => by kernel_rfl) ?_
  refine L_pure (rowV 5) rfl (fun _ _ => by kernel_rfl) ?_
  refine L_pure (rowV 6) rfl (fun _ _ => by kernel_rfl) ?_
  refine L_pure (rowV 7) rfl (fun _ _ => by kernel_rfl) ?_
  refine L_pure (rowV 8) rfl (fun _ _ => by kernel_rfl) ?_
  refine L_pure (rowV 9) rfl (fun _ _ => by kernel_rfl) ?_
  refine L_pure (rowV 10) rfl (fun _ _ => by kernel_rfl) ?_
  refine L_pure (rowV 11) rfl (fun _ _ => by kernel_rfl) ?_
  refine L_pure (rowV 12) rfl (fun _ _ => by kernel_rfl) ?_
  refine L_pure (rowV 13) rfl (fun _ _ => by kernel_rfl) ?_
  refine L_pure (rowV 14) rfl (fun _ _ => by kernel_rfl) ?_
  refine L_pure (rowV 15) rfl (fun _ _ => by kernel_rfl) ?_
  refine L_pure (rowV 16) rfl (fun _ _ => by kernel_rfl) ?_
  refine L_pure (rowV 17) rfl (fun _ _ => by kernel_rfl) ?_
  refine L_pure (rowV 18) rfl (fun _ _ => by kernel_rfl) ?_
  refine L_pure (rowV 19) rfl (fun _ _ => by kernel_rfl) ?_
  refine L_pure (rowV 20) rfl (fun _ _ => by kernel_rfl) ?_
  refine L_pure (rowV 21) rfl (fun _ _ => by kernel_rfl) ?_
  refine L_pure (rowV 22) rfl (fun _ _ => by kernel_rfl) ?_
  refine L_pure (rowV 23) rfl (fun _ _ => by kernel_rfl) ?_
  refine L_pure (rowV 24) rfl (fun _ _ => by kernel_rfl) ?_
  refine L_pure (rowV 25) rfl (fun _ _ => by kernel_rfl) ?_
  refine L_pure (rowV 26) rfl (fun _ _ => by kernel_rfl) ?_
  refine L_pure (rowV 27) rfl (fun _ _ => by kernel_rfl) ?_
  refine L_pure (rowV 28) rfl (fun _ _ => by kernel_rfl) ?_
  refine L_pure (rowV 29) rfl (fun _ _ => by kernel_rfl) ?_
  refine L_pure (rowV 30) rfl (fun _ _ => by kernel_rfl) ?_
  refine L_pure (rowV 31) rfl (fun _ _ => by kernel_rfl) ?_
  refine L_pure (rowV 32) rfl (fun _ _ => by kernel_rfl) ?_
  refine L_pure (rowV 33) rfl (fun _ _ => by kernel_rfl) ?_
  refine L_pure (rowV 34) rfl (fun _ _ => by kernel_rfl) ?_
  refine L_pure (rowV 35) rfl (fun _ _ => by kernel_rfl) ?_
  refine L_pure (rowV 36) rfl (fun _ _ => by kernel_rfl) ?_
  refine L_pure (rowV 37) rfl (fun _ _ => by kernel_rfl) ?_
  refine L_pure (rowV 38) rfl (fun _ _ => by kernel_rfl) ?_
  refine L_pure (rowV 39) rfl (fun _ _ => by kernel_rfl) ?_
  refine L_pure (rowV 40) rfl (fun _ _ => by kernel_rfl) ?_
  refine L_pure (rowV 41) rfl (fun _ _ => by kernel_rfl) ?_
  refine L_pure (rowV 42) rfl (fun _ _ => by kernel_rfl) ?_
  refine L_pure (rowV 43) rfl (fun _ _ => by kernel_rfl) ?_
  refine L_pure (rowV 44) rfl (fun _ _ => by kernel_rfl) ?_
  refine L_pure (rowV 45) rfl (fun _ _ => by kernel_rfl) ?_
  refine L_pure (rowV 46) rfl (fun _ _ => by kernel_rfl) ?_
  refine L_pure (rowV 47) rfl (fun _ _ => by kernel_rfl) ?_
  refine L_pure (rowV 48) rfl (fun _ _ => by kernel_rfl) ?_
  refine L_pure (rowV 49) rfl (fun _ _ => by kernel_rfl) ?_
  refine L_pure (rowV 50) rfl (fun _ _ => by kernel_rfl) ?_
  refine L_pure (rowV 51) rfl (fun _ _ => by kernel_rfl) ?_
  refine L_pure (rowV 52) rfl (fun _ _ => by kernel_rfl) ?_
  refine L_pure (rowV 53) rfl (fun _ _ => by kernel_rfl) ?_
  refine L_pure (rowV 54) rfl (fun _ _ => by kernel_rfl) ?_
  refine L_pure (rowV 55) rfl (fun _ _ => by kernel_rfl) ?_
  refine L_pure (rowV 56) rfl (fun _ _ => by kernel_rfl) ?_
  refine L_pure (rowV 57) rfl (fun _ _ => by kernel_rfl) ?_
  refine L_pure (rowV 58) rfl (fun _ _ => by kernel_rfl) ?_
  refine L_pure (rowV 59) rfl (fun _ _ => by kernel_rfl) ?_
  refine L_pure (rowV 60) rfl (fun _ _ => by kernel_rfl) ?_
  refine L_pure (rowV 61) rfl (fun _ _ => by kernel_rfl) ?_
  refine L_pure (rowV 62) rfl (fun _ _ => by kernel_rfl) ?_
  refine L_pure (rowV 63) rfl (fun _ _ => by kernel_rfl) ?_
  refine L_pure (rowV 64) rfl (fun _ _ => by kernel_rfl) ?_
  refine L_pure (rowV 65) rfl (fun _ _ => by kernel_rfl) ?_
  refine L_pure (rowV 66) rfl (fun _ _ => by kernel_rfl) ?_
  refine L_pure (rowV 67) rfl (fun _ _ => by kernel_rfl) ?_
  refine L_pure (rowV 68) rfl (fun _ _ => by kernel_rfl) ?_
  refine L_pure (rowV 69) rfl (fun _ _ => by kernel_rfl) ?_
  refine L_pure (rowV 70) rfl (fun _ _ => by kernel_rfl) ?_
  refine L_pure (rowV 71) rfl (fun _ _ => by kernel_rfl) ?_
  refine L_pure (rowV 72) rfl (fun _ _ => by kernel_rfl) ?_
  refine L_pure (rowV 73) rfl (fun _ _ => by kernel_rfl) ?_
  refine L_pure (rowV 74) rfl (fun _ _ => by kernel_rfl) ?_
  refine L_pure (rowV 75) rfl (fun _ _ => by kernel_rfl) ?_
  refine L_pure (rowV 76) rfl (fun _ _ => by kernel_rfl) ?_
  refine L_pure (rowV 77) rfl (fun _ _ => by kernel_rfl) ?_
  refine L_pure (rowV 78) rfl (fun _ _ => by kernel_rfl) ?_
  refine L_pure (rowV 79) rfl (fun _ _ => by kernel_rfl) ?_
  refine L_pure (rowV 80) rfl (fun _ _ => by kernel_rfl) ?_
  refine L_pure (rowV 81) rfl (fun _ _ => by kernel_rfl) ?_
  refine L_runw (.slice (some ⟨w.heap.size, 0, none⟩) 82 82) (w.alloc (.cells (cellsRs rowsL).toArray 27)) rfl (by kernel_rfl) ?_
  refine L_runw (.slice (some ⟨w.heap.size, 0, none⟩) 82 82) (w.alloc (.cells (cellsRs rowsL).toArray 27)) rfl (by kernel_rfl) ?_
  refine wpList_nil ?_
  refine ‹∀ (a : Act) (w : World), Code.wp _ Code.ret _ a w → _› _ _ ?_
  refine wp_ret ?_
  refine bodyPost_ret (v := .slice (some ⟨w.heap.size, 0, none⟩) 82 82) ?_ (by kernel_rfl) ⟨rfl, rfl⟩
  rw [results_tmp rfl]
  kernel_rfl
end Go.Proofs.Ytecpkoigjnpkfaa
