/- How a slice of a table's ops is opened. -/
import Derived.Test.YtadnabgnbhpijaaLawStructs
import Derived.Test.YtadnabgnbhpijaaTabPlaysWalk
set_option linter.unusedSimpArgs false
set_option linter.unusedVariables false
namespace Go.Proofs.Ytadnabgnbhpijaa
open Go.ChangeShapes Go.WideShapes Go.ChangeAt Go.RowKit
set_option maxRecDepth 100000 in
theorem trod_ops6 {H : Type} {enc : TypeId × Value → H} {W : World} {b0 base : Nat} {v : Value} {d : DataW H} {ps : List MemPlace} {r : Reach} (hval : Value.okWide Try.prog W r b0 61 v) (h : DataW.Trod enc Try.prog W base (fun _ => true) true 61 v d ps) :
    ∃ p cap L, v = .slice p L.length cap ∧ RdOp W p L ∧ L.length ≤ cap ∧ cap ≤ maxLen := by
  obtain ⟨p, len, cap, rfl, h1, h2, h3⟩ := trod_structs Try.underlying61 Try.underlying67 (by kernel_rfl) (by kernel_rfl) (Nat.succ_pos _) hval h
  rcases h3 with rfl | ⟨b, o, rfl, hc⟩
  · exact ⟨p, cap, [], rfl, .inl rfl, h1, h2⟩
  · obtain ⟨L, hL, hR⟩ := list_of_all (R := fun i (x : OpT) => W.cell? ⟨b, o + i * 3, none⟩ = some (.int .i64 x.1) ∧ W.cell? ⟨b, o + i * 3 + 1, none⟩ = some (.int .i64 x.2.1) ∧ W.cell? ⟨b, o + i * 3 + 2, none⟩ = some (.string (str x.2.2))) len fun i hi => by
      obtain ⟨x, hx, _⟩ := (hc i hi 0 _ rfl).int Try.underlying3
      obtain ⟨y, hy, _⟩ := (hc i hi 1 _ rfl).int Try.underlying3
      obtain ⟨z, hz, _⟩ := (hc i hi 2 _ rfl).str Try.underlying9
      exact ⟨(x, y, z), hx, hy, hz⟩
    subst hL
    exact ⟨some ⟨b, o, none⟩, cap, L, rfl, .inr ⟨b, o, rfl, hR⟩, h1, h2⟩
end Go.Proofs.Ytadnabgnbhpijaa
