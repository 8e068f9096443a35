/- The commands' laws, in plain terms: what the table's rows give. -/
import Derived.Test.YtecpkoigjnpkfaaCmdKeys
set_option linter.unusedSimpArgs false
set_option linter.unusedVariables false
namespace Go.Proofs.Ytecpkoigjnpkfaa
open Go.RowKit Cmd

def sameR (q r : CRow) : Bool := q.name == r.name && decide (q.least = r.least) && decide (q.most = r.most) && (q.write == r.write) && decide (q.first = r.first) && decide (q.last = r.last) && decide (q.step = r.step)
theorem sameR_eq {q r : CRow} (h : sameR q r = true) : q = r := by
  cases q; cases r
  simp [sameR] at h
  simp [h]
theorem rows_found : rowsL.all (fun r => match findP r.name with | some q => sameR q r | none => false) = true := by decide +kernel
theorem row_found {r : CRow} (h : r ∈ rowsL) : findP r.name = some r := by
  have := List.all_eq_true.1 rows_found r h
  cases hf : findP r.name with
  | none => rw [hf] at this; cases this
  | some q => rw [hf] at this; rw [sameR_eq this]
theorem rows_tail : rowsL.all (fun r => decide (0 ≤ r.most) && (decide (r.first = 0 ∧ r.step = 0 ∧ (r.write = false ∨ r.name = FLUSHALL)) || decide (r.first = 1 ∧ 1 ≤ r.step ∧ (r.last < 0 → 1 ≤ r.least + r.last) ∧ (0 ≤ r.last → 1 ≤ r.last ∧ r.last < r.least)))) = true := by decide +kernel
theorem row_tail {r : CRow} (h : r ∈ rowsL) : 0 ≤ r.most ∧ ((r.first = 0 ∧ r.step = 0 ∧ (r.write = false ∨ r.name = FLUSHALL)) ∨ (r.first = 1 ∧ 1 ≤ r.step ∧ (r.last < 0 → 1 ≤ r.least + r.last) ∧ (0 ≤ r.last → 1 ≤ r.last ∧ r.last < r.least))) := by
  have := List.all_eq_true.1 rows_tail r h
  simpa only [Bool.and_eq_true, Bool.or_eq_true, decide_eq_true_iff] using this
theorem keysFrom_at {a : List (List UInt8)} {last step : Nat} : ∀ (fuel i k : Nat) (h : k < (keysFrom a last step fuel i).length), i + k * step ≤ last ∧ (keysFrom a last step fuel i)[k] = a.getD (i + k * step) []
  | 0, i, k, h => by simp [keysFrom] at h
  | fuel + 1, i, k, h => by
    by_cases hi : i ≤ last
    · have e : keysFrom a last step (fuel + 1) i = a.getD i [] :: keysFrom a last step fuel (i + step) := keysFrom_in hi
      simp only [e] at h ⊢
      cases k with
      | zero => simp [hi]
      | succ k =>
        have ih := keysFrom_at fuel (i + step) k (by simpa using h)
        rw [List.getElem_cons_succ, ih.2, Nat.succ_mul]
        exact ⟨by omega, by rw [show i + step + k * step = i + (k * step + step) by omega]⟩
    · rw [keysFrom_out (by omega)] at h; simp at h
/-- what fits has its keys behind the name, one by one -/
theorem keys_law {r : CRow} {a : List (List UInt8)} (hr : r ∈ rowsL) (hf : fitsP (r.name :: a) = 0) :
    r.least ≤ ((a.length + 1 : Nat) : Int) ∧ (r.most = 0 ∨ (0 < r.most ∧ ((a.length + 1 : Nat) : Int) ≤ r.most)) ∧
    ((r.step = 0 ∧ (r.write = false ∨ r.name = FLUSHALL) ∧ keysP (r.name :: a) = []) ∨ (0 < r.step ∧ 0 < (keysP (r.name :: a)).length)) ∧
    ∃ st, 1 ≤ st ∧ ∀ k (h : k < (keysP (r.name :: a)).length), 1 + k * st < (r.name :: a).length ∧ (r.name :: a)[1 + k * st]? = some (keysP (r.name :: a))[k] := by
  have hfd := row_found hr
  have hfr : fitsR r (r.name :: a).length = 0 := by simpa [fitsP, hfd] using hf
  have hk : keysP (r.name :: a) = keysR r (r.name :: a) := by simp only [keysP, hfd]; rw [if_pos hfr]
  obtain ⟨hl, hm⟩ := fitsR_least hfr
  obtain ⟨hm0, ht⟩ := row_tail hr
  rw [List.length_cons] at hl hm
  refine ⟨hl, by omega, ?_⟩
  rw [hk]
  rcases ht with ⟨h1, h2, h3⟩ | ⟨h1, h2, h3, h4⟩
  · have e : keysR r (r.name :: a) = [] := by unfold keysR; rw [if_neg (by omega)]
    rw [e]
    exact ⟨.inl ⟨h2, h3, rfl⟩, 1, Nat.le_refl _, fun k h => by simp at h⟩
  · have e : keysR r (r.name :: a) = keysFrom (r.name :: a) (lastR r (r.name :: a).length).toNat r.step.toNat (r.name :: a).length 1 := by unfold keysR; rw [if_pos (by omega), h1]; rfl
    have hla : 1 ≤ (lastR r (r.name :: a).length).toNat ∧ (lastR r (r.name :: a).length).toNat < (r.name :: a).length := by
      rw [List.length_cons]
      unfold lastR; split
      · have := h3 (by assumption); omega
      · have := h4 (by omega); omega
    rw [e]
    refine ⟨.inr ⟨by omega, ?_⟩, r.step.toNat, by omega, fun k h => ?_⟩
    · show 0 < (keysFrom (r.name :: a) (lastR r (r.name :: a).length).toNat r.step.toNat (a.length + 1) 1).length
      rw [keysFrom_in hla.1]; simp
    · obtain ⟨i1, i2⟩ := keysFrom_at _ _ _ h
      have hlt : 1 + k * r.step.toNat < (r.name :: a).length := by omega
      refine ⟨hlt, ?_⟩
      rw [i2, List.getElem?_eq_getElem hlt, List.getD_eq_getElem?_getD, List.getElem?_eq_getElem hlt]; rfl
end Go.Proofs.Ytecpkoigjnpkfaa
