/-
  No cell of these rows narrows 'for every input' (looked for: loops, veiled, ifaces, maps, wideKeys, modest, calm, conditions, laid).
  DERIVED. THE GIVEN ROWS OF THIS SEAT. 3 by the template 'for every input the law returns true; each argument reads behind the call as it read before'; 0 by the template 'total and deterministic' (their statements: YtblmnaejkdkndaaTotals.lean).
  GIVEN WITH THE SEED: the statements are not yours to turn. If you find one false, say at which input.
  Laid BY PROGRAM, IN A SANDBOX (cutbox-rows.mjs): the forced cells as the released guide's own fill.sh prints them over the translation 1e6fff584b96f7fc… (all of the seat's roots in one cut). By AI agents, Wed Nov 11 2026. No macro, syntax, notation, axiom, sorry.
-/
import Derived.Test.YtblmnaejkdkndaaChecked
import GoSem.Claim
import GoSem.ClaimJoined
import GoSem.ClaimMapViews
import Derived.JoinedTies
import Derived.KernelRfl
namespace Go.Proofs.Ytblmnaejkdkndaa
/- THE CELL 'sum', in the pinned program and in every row, IS THE sha256 OF THE DUMP (.gsa) THAT YtblmnaejkdkndaaProg.lean LOADS. Nothing in Lean hashes anything: it is a label: what it is worth is what the hold of that sum in a sandbox is worth. -/
noncomputable def Try.pinned : Pinned := { name := "ytblmnaejkdkndaa", sum := "1e6fff584b96f7fcdd377109e90654974d208b49a9b2fd291feb27a5376f1267", checked := Try.checked }
namespace Rows
def none {H : Type} : Left H := { results := [], args := [] }

/-- 'scriptoriumlaw9.ValueOrder': WHATEVER THE INPUT: true; the input reads as it did. -/
def valueOrderSpec : ChangeSpec := { name := "valueOrder", fn := fun _ => fun
  | [d] => { results := [.lit (.bool true)], args := [d] }
  | _ => none }
def valueOrderRow : OpenClaim := { program := "ytblmnaejkdkndaa", sum := "1e6fff584b96f7fcdd377109e90654974d208b49a9b2fd291feb27a5376f1267", func := "scriptorium/scriptoriumlaw9.ValueOrder", spec := "valueOrder", inPlace := ["math.archTrunc", "math.Float64bits", "math.Float64frombits"], unfollowed := true, recurses := true, apart := false }
def ValueOrderSaid : Prop := valueOrderRow.holds Try.pinned (OpenSpec.ofChange valueOrderSpec)

/-- ITS FALSE NEIGHBOUR: 'it returns false'. Refute it at one input. -/
def valueOrderWrong : ChangeSpec := { name := "valueOrder", fn := fun _ => fun
  | [d] => { results := [.lit (.bool false)], args := [d] }
  | _ => none }
def ValueOrderWrongFalsely : Prop := valueOrderRow.holds Try.pinned (OpenSpec.ofChange valueOrderWrong)

/-- 'scriptoriumlaw9.ValueBounds': WHATEVER THE INPUT: true; the input reads as it did. -/
def valueBoundsSpec : ChangeSpec := { name := "valueBounds", fn := fun _ => fun
  | [d] => { results := [.lit (.bool true)], args := [d] }
  | _ => none }
def valueBoundsRow : OpenClaim := { program := "ytblmnaejkdkndaa", sum := "1e6fff584b96f7fcdd377109e90654974d208b49a9b2fd291feb27a5376f1267", func := "scriptorium/scriptoriumlaw9.ValueBounds", spec := "valueBounds", inPlace := ["math.archTrunc", "math.Float64bits", "math.Float64frombits"], unfollowed := true, recurses := true, apart := false }
def ValueBoundsSaid : Prop := valueBoundsRow.holds Try.pinned (OpenSpec.ofChange valueBoundsSpec)

/-- ITS FALSE NEIGHBOUR: 'it returns false'. Refute it at one input. -/
def valueBoundsWrong : ChangeSpec := { name := "valueBounds", fn := fun _ => fun
  | [d] => { results := [.lit (.bool false)], args := [d] }
  | _ => none }
def ValueBoundsWrongFalsely : Prop := valueBoundsRow.holds Try.pinned (OpenSpec.ofChange valueBoundsWrong)

/-- 'scriptoriumlaw34.LogTicks': WHATEVER THE INPUT: true; the input reads as it did. -/
def logTicksSpec : ChangeSpec := { name := "logTicks", fn := fun _ => fun
  | [d1, d2, d3, d4] => { results := [.lit (.bool true)], args := [d1, d2, d3, d4] }
  | _ => none }
def logTicksRow : OpenClaim := { program := "ytblmnaejkdkndaa", sum := "1e6fff584b96f7fcdd377109e90654974d208b49a9b2fd291feb27a5376f1267", func := "scriptorium/scriptoriumlaw34.LogTicks", spec := "logTicks", inPlace := ["math.archTrunc", "math.Float64bits", "math.Float64frombits"], unfollowed := true, recurses := true, apart := false }
def LogTicksSaid : Prop := logTicksRow.holds Try.pinned (OpenSpec.ofChange logTicksSpec)

/-- ITS FALSE NEIGHBOUR: 'it returns false'. Refute it at one input. -/
def logTicksWrong : ChangeSpec := { name := "logTicks", fn := fun _ => fun
  | [d1, d2, d3, d4] => { results := [.lit (.bool false)], args := [d1, d2, d3, d4] }
  | _ => none }
def LogTicksWrongFalsely : Prop := logTicksRow.holds Try.pinned (OpenSpec.ofChange logTicksWrong)

/- THE SECOND FORM. 'bulk': how many values and letters a reading holds, each counted each time it is reached (what is shared counts as often as it is met; a slice's spare places count too). A statement '..UptoSaid' is the law's where the arguments, and the package variables that the reading takes, are together of bulk at most 1048576: NARROWER than '..Said'. Prove '..Said' where nothing that the law and all that it calls make is longer than what came in: it says more and counts as full. Else prove '..UptoSaid'. A law counts once. -/
mutual
def uptoBulk {H : Type} : DataW H → Nat
  | .lit (.string bytes) => bytes.length + 1
  | .lit _ => 1
  | .nil => 1
  | .ptr d => uptoBulk d + 1
  | .slice elems spare => uptoBulkAll elems + uptoBulkAll spare + 1
  | .agg parts => uptoBulkAll parts + 1
  | .iface _ d => uptoBulk d + 1
  | .map entries => uptoBulkEntries entries + 1
  | .held _ => 1
def uptoBulkAll {H : Type} : List (DataW H) → Nat
  | [] => 0
  | d :: r => uptoBulk d + uptoBulkAll r
def uptoBulkEntries {H : Type} : List (Lit × DataW H) → Nat
  | [] => 0
  | x :: r => uptoBulkEntry x + uptoBulkEntries r
def uptoBulkEntry {H : Type} : Lit × DataW H → Nat
  | (.string bytes, d) => bytes.length + uptoBulk d + 1
  | (_, d) => uptoBulk d + 1
 end
def uptoSmall : (H : Type) → List (DataW H) → Bool := fun _ ds => decide (uptoBulkAll ds ≤ 1048576)
def OpenSpec.upto (s : _root_.Go.ChangeSpec) : _root_.Go.OpenSpec := { _root_.Go.OpenSpec.ofChange s with cond := some uptoSmall }

/-- 'scriptoriumlaw9.ValueOrder', WHERE WHAT IT READS IS OF BULK AT MOST 1048576: true; the input reads as it did. -/
def valueOrderUptoRow : OpenClaim := { program := "ytblmnaejkdkndaa", sum := "1e6fff584b96f7fcdd377109e90654974d208b49a9b2fd291feb27a5376f1267", func := "scriptorium/scriptoriumlaw9.ValueOrder", spec := "valueOrder", inPlace := ["math.archTrunc", "math.Float64bits", "math.Float64frombits"], unfollowed := true, recurses := true, apart := false, narrowed := true }
def ValueOrderUptoSaid : Prop := valueOrderUptoRow.holds Try.pinned (OpenSpec.upto valueOrderSpec)

/-- 'scriptoriumlaw9.ValueBounds', WHERE WHAT IT READS IS OF BULK AT MOST 1048576: true; the input reads as it did. -/
def valueBoundsUptoRow : OpenClaim := { program := "ytblmnaejkdkndaa", sum := "1e6fff584b96f7fcdd377109e90654974d208b49a9b2fd291feb27a5376f1267", func := "scriptorium/scriptoriumlaw9.ValueBounds", spec := "valueBounds", inPlace := ["math.archTrunc", "math.Float64bits", "math.Float64frombits"], unfollowed := true, recurses := true, apart := false, narrowed := true }
def ValueBoundsUptoSaid : Prop := valueBoundsUptoRow.holds Try.pinned (OpenSpec.upto valueBoundsSpec)

/-- 'scriptoriumlaw34.LogTicks', WHERE WHAT IT READS IS OF BULK AT MOST 1048576: true; the input reads as it did. -/
def logTicksUptoRow : OpenClaim := { program := "ytblmnaejkdkndaa", sum := "1e6fff584b96f7fcdd377109e90654974d208b49a9b2fd291feb27a5376f1267", func := "scriptorium/scriptoriumlaw34.LogTicks", spec := "logTicks", inPlace := ["math.archTrunc", "math.Float64bits", "math.Float64frombits"], unfollowed := true, recurses := true, apart := false, narrowed := true }
def LogTicksUptoSaid : Prop := logTicksUptoRow.holds Try.pinned (OpenSpec.upto logTicksSpec)

end Rows
end Go.Proofs.Ytblmnaejkdkndaa
