/- How a slice of truth values is opened. -/
import Derived.Test.YtadnabgnbhpijaaLawKit
import Derived.Deep.Grids
set_option linter.unusedSimpArgs false
set_option linter.unusedVariables false
namespace Go.Proofs.Ytadnabgnbhpijaa
open Go.ChangeShapes Go.WideShapes Go.ChangeAt Go.RowKit
theorem trod_bools {H : Type} {enc : TypeId × Value → H} {P : Program} {W : World} {b0 base : Nat} {t e : TypeId} {v : Value} {d : DataW H} {ps : List MemPlace} {r : Reach}
    (ht : P.underlying t = some (.slice e)) (he : P.underlying e = some .bool) (hc : P.cellsOf e = 1) (hval : Value.okWide P W r b0 t v) (h : DataW.Trod enc P W base (fun _ => true) true t v d ps) :
    ∃ (p : Option Addr) (cap : Nat) (l : List Bool), v = .slice p l.length cap ∧ Rd W p (l.map Value.bool) ∧ l.length ≤ cap ∧ cap ≤ maxLen := by
  obtain ⟨fuel, hf⟩ := h
  have hcells : v.cells.toList = [v] := by
    rcases okWide_slice ht hval with ⟨a, n, c, rfl⟩
    rfl
  rw [hcells] at hf
  rcases Go.Deep.open_bools ht he hc hf with ⟨hv, _⟩ | ⟨a, len, cap, B, hv, _, hlc, hcm, hz, hcell⟩
  · simp only [List.cons.injEq, and_true] at hv
    subst hv
    exact ⟨none, 0, [], rfl, .inl rfl, Nat.zero_le _, Nat.zero_le _⟩
  · simp only [List.cons.injEq, and_true] at hv
    subst hv
    refine ⟨some a, cap, (List.range len).map B, by simp, ?_, by simpa using hlc, hcm⟩
    by_cases h0 : len = 0
    · subst h0; exact .inl (by simp)
    · have hsp := spot_none (hcell 0 (by omega))
      have hsp' : a.spot = none := by
        have : a.add 0 = a := rfl
        rwa [this] at hsp
      obtain ⟨b, o, sp⟩ := a
      simp only at hsp'
      subst hsp'
      refine .inr ⟨b, o, rfl, fun i hi => ?_⟩
      have hi' : i < len := by simpa using hi
      have := hcell i (by omega)
      rw [Addr.add_mid] at this
      rw [this]
      simp
end Go.Proofs.Ytadnabgnbhpijaa
