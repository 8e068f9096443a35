/- How a slice of a disk's ops is opened. -/
import Derived.Test.YtadnabgnbhpijaaLawStructs
import Derived.Test.YtadnabgnbhpijaaDPlaysWalk
set_option linter.unusedSimpArgs false
set_option linter.unusedVariables false
namespace Go.Proofs.Ytadnabgnbhpijaa
open Go.ChangeShapes Go.WideShapes Go.ChangeAt Go.RowKit
set_option maxRecDepth 100000 in
theorem trod_ops3 {H : Type} {enc : TypeId × Value → H} {W : World} {b0 base : Nat} {v : Value} {d : DataW H} {ps : List MemPlace} {r : Reach} (hval : Value.okWide Try.prog W r b0 51 v) (h : DataW.Trod enc Try.prog W base (fun _ => true) true 51 v d ps) :
    ∃ p cap L, v = .slice p L.length cap ∧ RdOpD W p L ∧ L.length ≤ cap ∧ cap ≤ maxLen ∧ ∀ o ∈ L, -9223372036854775808 ≤ o.n ∧ o.n ≤ 9223372036854775807 := by
  obtain ⟨p, len, cap, rfl, h1, h2, h3⟩ := trod_structs Try.underlying51 Try.underlying57 (by kernel_rfl) (by kernel_rfl) (Nat.succ_pos _) hval h
  rcases h3 with rfl | ⟨b, o, rfl, hc⟩
  · exact ⟨p, cap, [], rfl, .inl rfl, h1, h2, by simp⟩
  · obtain ⟨L, hL, hR⟩ := list_of_all (R := fun i (x : OpD) => (W.cell? ⟨b, o + i * 6, none⟩ = some (.int .i64 x.kind) ∧ W.cell? ⟨b, o + i * 6 + 1, none⟩ = some (.int .i64 x.n) ∧ W.cell? ⟨b, o + i * 6 + 2, none⟩ = some (.string (str x.name)) ∧ W.cell? ⟨b, o + i * 6 + 3, none⟩ = some (.string (str x.to_)) ∧ W.cell? ⟨b, o + i * 6 + 4, none⟩ = some (.string (str x.b)) ∧ W.cell? ⟨b, o + i * 6 + 5, none⟩ = some (.bool x.garble)) ∧ -9223372036854775808 ≤ x.n ∧ x.n ≤ 9223372036854775807) len fun i hi => by
      obtain ⟨x0, hx0, _⟩ := (hc i hi 0 _ rfl).int Try.underlying3
      obtain ⟨x1, hx1, w1⟩ := (hc i hi 1 _ rfl).int Try.underlying3
      obtain ⟨x2, hx2, _⟩ := (hc i hi 2 _ rfl).str Try.underlying9
      obtain ⟨x3, hx3, _⟩ := (hc i hi 3 _ rfl).str Try.underlying9
      obtain ⟨x4, hx4, _⟩ := (hc i hi 4 _ rfl).str Try.underlying9
      obtain ⟨x5, hx5⟩ := (hc i hi 5 _ rfl).bool Try.underlying4
      exact ⟨⟨x0, x1, x2, x3, x4, x5⟩, ⟨hx0, hx1, hx2, hx3, hx4, hx5⟩, i64_of w1⟩
    subst hL
    refine ⟨some ⟨b, o, none⟩, cap, L, rfl, .inr ⟨b, o, rfl, fun i hi => (hR i hi).1⟩, h1, h2, fun x hx => ?_⟩
    obtain ⟨i, hi, rfl⟩ := List.getElem_of_mem hx
    exact (hR i hi).2
end Go.Proofs.Ytadnabgnbhpijaa
