/- How a slice of structs of one-cell fields is opened. -/
import Derived.Test.YtadnabgnbhpijaaLawKit
import Derived.Deep.Slices
import Derived.Deep.Fields
set_option linter.unusedSimpArgs false
set_option linter.unusedVariables false
namespace Go.Proofs.Ytadnabgnbhpijaa
open Go.ChangeShapes Go.WideShapes Go.ChangeAt Go.RowKit
/-- one thing for each number below n: a list of them -/
theorem list_of_all {α : Type} {R : Nat → α → Prop} : ∀ (n : Nat), (∀ i, i < n → ∃ x, R i x) → ∃ l : List α, l.length = n ∧ ∀ i (h : i < l.length), R i l[i]
  | 0, _ => ⟨[], rfl, fun i h => by simp at h⟩
  | n + 1, h => by
    obtain ⟨l, hl, hR⟩ := list_of_all n fun i hi => h i (by omega)
    obtain ⟨x, hx⟩ := h n (by omega)
    refine ⟨l ++ [x], by simp [hl], fun i hi => ?_⟩
    by_cases hin : i < l.length
    · rw [List.getElem_append_left hin]; exact hR i hin
    · have e : i = n := by simp at hi; omega
      subst e
      have : (l ++ [x])[l.length]'(by simp) = x := by simp
      have e2 : (l ++ [x])[i]'hi = (l ++ [x])[l.length]'(by simp) := by congr 1; exact hl.symm
      rw [e2, this]; exact hx
section
variable {H : Type} {enc : TypeId × Value → H} {P : Program} {W : World} {b0 base : Nat} {t e : TypeId} {v : Value} {d : DataW H} {ps : List MemPlace} {r : Reach} {fs : Array Field}
/-- the cell that bears field j of element i, and how it is read -/
def FieldAt (enc : TypeId × Value → H) (P : Program) (W : World) (base : Nat) (fs : Array Field) (b o i j : Nat) (ty : TypeId) : Prop :=
  ∃ (u : Value) (y : DataW H × List MemPlace) (n : Nat), W.cell? ⟨b, o + (i * fs.size + j), none⟩ = some u ∧ DataW.trod enc P W base (fun _ => true) true n ty [u] = some y
theorem trod_structs (ht : P.underlying t = some (.slice e)) (he : P.underlying e = some (.struct fs)) (hone : Go.Deep.oneCellFields P fs = true) (hC : P.cellsOf e = fs.size) (hpos : 0 < fs.size) (hval : Value.okWide P W r b0 t v)
    (h : DataW.Trod enc P W base (fun _ => true) true t v d ps) :
    ∃ (p : Option Addr) (len cap : Nat), v = .slice p len cap ∧ len ≤ cap ∧ cap ≤ maxLen ∧ (len = 0 ∨ ∃ b o, p = some ⟨b, o, none⟩ ∧ ∀ i, i < len → ∀ j f, fs[j]? = some f → FieldAt enc P W base fs b o i j f.type) := by
  obtain ⟨fuel, hf⟩ := h
  have hcells : v.cells.toList = [v] := by
    rcases okWide_slice ht hval with ⟨a, n, c, rfl⟩
    rfl
  rw [hcells] at hf
  rcases Go.Deep.open_slice ht hf with ⟨hv, _⟩ | ⟨a, len, cap, m, n, D, Pl, hv, _, hl, hm, hmm, _, hi⟩
  · simp only [List.cons.injEq, and_true] at hv
    subst hv
    exact ⟨none, 0, 0, rfl, Nat.le_refl _, Nat.zero_le _, .inl rfl⟩
  · simp only [List.cons.injEq, and_true] at hv
    subst hv
    refine ⟨some a, len, cap, rfl, hl, hm, ?_⟩
    by_cases h0 : len = 0
    · exact .inl h0
    · right
      have hcell : ∀ i, i < len → ∀ j f, fs[j]? = some f → ∃ (u : Value) (y : DataW H × List MemPlace) (n : Nat), W.cell? (a.add (i * fs.size + j)) = some u ∧ DataW.trod enc P W base (fun _ => true) true n f.type [u] = some y := fun i hil j f hj => by
        have him : i < m := by rw [hmm]; simp only [if_true]; omega
        obtain ⟨cs, hcs, htr⟩ := hi i him
        obtain ⟨xs, n', _, _, hlen, hxl, hfld⟩ := DataW.trod_struct he htr
        obtain ⟨_, hcl, hat⟩ := World.cells?_some hcs
        obtain ⟨ho, hk⟩ := Go.Deep.hone_of hone j f hj
        have hjl : j < fs.size := (Array.getElem?_eq_some_iff.1 hj).1
        have h1 := hfld f.offset f (by rw [ho]; exact hj)
        rw [ho, hk] at h1
        have hjc : j < cs.length := by rw [hcl, hC]; exact hjl
        rw [List.drop_eq_getElem_cons hjc, List.take_succ_cons, List.take_zero] at h1
        have h2 := hat j (by rw [hC]; exact hjl)
        rw [hC, List.getElem?_eq_getElem hjc] at h2
        have hxj : xs[j]? = some (xs[j]'(by omega)) := List.getElem?_eq_getElem (by omega)
        refine ⟨cs[j], xs[j]'(by omega), n', ?_, h1.trans hxj⟩
        rw [← Go.Deep.add_add]
        exact h2
      obtain ⟨f0, hf0⟩ : ∃ f, fs[0]? = some f := ⟨fs[0], by simp [hpos]⟩
      obtain ⟨u, _, _, hu, _⟩ := hcell 0 (by omega) 0 f0 hf0
      have e0 : a.add (0 * fs.size + 0) = a := by simp [Addr.add]
      rw [e0] at hu
      have hsp := spot_none hu
      obtain ⟨b, o, sp⟩ := a
      have : sp = none := hsp
      subst this
      refine ⟨b, o, rfl, fun i hil j f hj => ?_⟩
      obtain ⟨u, y, n, h1, h2⟩ := hcell i hil j f hj
      rw [Addr.add_mid] at h1
      exact ⟨u, y, n, h1, h2⟩
theorem FieldAt.int {b o i j : Nat} {ty : TypeId} {k : IntKind} (h : FieldAt enc P W base fs b o i j ty) (ht : P.underlying ty = some (.int k)) : ∃ n, W.cell? ⟨b, o + (i * fs.size + j), none⟩ = some (.int k n) ∧ (Lit.int k n).wf = true := by
  obtain ⟨u, y, n, h1, h2⟩ := h
  obtain ⟨x, hx, _, hw⟩ := DataW.trod_int ht h2
  simp only [List.cons.injEq, and_true] at hx
  subst hx
  exact ⟨x, h1, hw⟩
theorem FieldAt.str {b o i j : Nat} {ty : TypeId} (h : FieldAt enc P W base fs b o i j ty) (ht : P.underlying ty = some .string) : ∃ l : List UInt8, W.cell? ⟨b, o + (i * fs.size + j), none⟩ = some (.string (str l)) ∧ l.length ≤ maxLen := by
  obtain ⟨u, y, n, h1, h2⟩ := h
  obtain ⟨x, hx, _, hw⟩ := DataW.trod_string ht h2
  simp only [List.cons.injEq, and_true] at hx
  subst hx
  obtain ⟨l, rfl⟩ := str_of x
  rw [str_size] at hw
  exact ⟨l, h1, hw⟩
theorem FieldAt.bool {b o i j : Nat} {ty : TypeId} (h : FieldAt enc P W base fs b o i j ty) (ht : P.underlying ty = some .bool) : ∃ x : Bool, W.cell? ⟨b, o + (i * fs.size + j), none⟩ = some (.bool x) := by
  obtain ⟨u, y, n, h1, h2⟩ := h
  obtain ⟨x, hx, _⟩ := DataW.trod_bool ht h2
  simp only [List.cons.injEq, and_true] at hx
  subst hx
  exact ⟨x, h1⟩
end
end Go.Proofs.Ytadnabgnbhpijaa
