/- From a walk that ends in 'true' and has only grown the world to the statement of a law; and how arguments are opened. -/
import Derived.Test.YtecpkoigjnpkfaaSl
import Derived.ProofKit
import Derived.OpenShut
import Derived.SizedLaws
import Derived.SliceStrings
set_option linter.unusedSimpArgs false
set_option linter.unusedVariables false
namespace Go.Proofs.Ytecpkoigjnpkfaa
open Go.ChangeShapes Go.WideShapes Go.ChangeAt Go.RowKit
open Go.ChangeMaps (open_string shut_string)

theorem law_args {H : Type} {enc : TypeId × Value → H} {P : Program} (hl : laidOutB P = true) {W W' : World} (hb : Below W.heap.size W W') : ∀ (ts : List TypeId) (vs : List Value) (ds : List (DataW H)) (ps : List MemPlace),
    ts.all (fun t => P.readableRec t && decide (t < P.types.size)) = true → (∀ x ∈ ps, x.block < W.heap.size) → DataW.TrodAll enc P W 0 (fun _ => true) true ts vs ds ps →
    DataW.TrodAll enc P W' 0 (fun b => decide (b < W.heap.size)) true ts vs ds ps
  | [], vs, ds, ps, _, _, h => by
    obtain ⟨rfl, rfl, rfl⟩ := trodAll_nil h
    exact rfl
  | t :: ts, vs, ds, ps, hr, hlt, h => by
    obtain ⟨v, vs', d, ds', p, q, rfl, rfl, rfl, hd, hrest⟩ := trodAll_cons h
    simp only [List.all_cons, Bool.and_eq_true, decide_eq_true_eq] at hr
    exact ⟨p, q, Below.trod hl hr.1.1 hr.1.2 hd hb (fun x hx => hlt x (List.mem_append_left _ hx)),
      law_args hl hb ts vs' ds' q hr.2 (fun x hx => hlt x (List.mem_append_right _ hx)) hrest, rfl⟩

/-- the statement's end, whatever the arguments' shapes -/
theorem law_post {H : Type} {enc : TypeId × Value → H} {P : Program} {f : Func} {s : ChangeSpec} {tb : TypeId} {W W' : World} {args : Array Value} {ds gs : List (DataW H)} {before : List MemPlace}
    (hl : laidOutB P = true) (hr : f.params.toList.all (fun t => P.readableRec t && decide (t < P.types.size)) = true) (hv : s.vars = []) (hrt : f.resultTypes = #[tb]) (htb : P.underlying tb = some .bool)
    (hW : DataW.Whole enc P f.params.toList s.vars false W args.toList ds gs before) (hfn : s.fn H (ds ++ gs) = { results := [.lit (.bool true)], args := ds }) (hb : Below W.heap.size W W') :
    ∃ v, Ending.returned (.bool true) = Ending.returned v ∧ s.post enc P f false true false false W args v W' := by
  have hW' := hW
  obtain ⟨p, q, hA, hV, rfl, hfz, hnd⟩ := hW
  rw [hv] at hV
  obtain ⟨rfl, rfl⟩ := trodVars_none hV
  refine ⟨_, rfl, ds, [], p ++ [], [], p, [], hW', ?_, ?_, ?_, ?_, fun h => by cases h⟩
  · rw [hfn, hrt]
    exact trodAll_mk1 (shut_bool htb true)
  · rw [hfn]
    exact law_args hl hb _ _ _ _ hr (fun x hx => hW'.lt x (by simpa using hx)) hA
  · rw [hfn, hv]
    simp [DataW.TrodVars]
  · exact World.keptBut_mono (fun p hp => hp.elim) (hb.frame fun _ => False)

/-! ### Opening -/
theorem trod_bytes {H : Type} {enc : TypeId × Value → H} {P : Program} {W : World} {b0 base : Nat} {t e : TypeId} {v : Value} {d : DataW H} {ps : List MemPlace} {r : Reach}
    (ht : P.underlying t = some (.slice e)) (he : P.underlying e = some (.int .u8)) (hc : P.cellsOf e = 1) (hval : Value.okWide P W r b0 t v) (h : DataW.Trod enc P W base (fun _ => true) true t v d ps) :
    ∃ p cap l, v = .slice p l.length cap ∧ Rd8 W p l ∧ l.length ≤ cap ∧ cap ≤ maxLen := by
  obtain ⟨fuel, hf⟩ := h
  have hcells : v.cells.toList = [v] := by
    rcases okWide_slice ht hval with ⟨a, n, c, rfl⟩
    rfl
  rw [hcells] at hf
  rcases open_ints ht he hc hf with ⟨hv, _⟩ | ⟨a, len, cap, zs, hv, _, hlc, hcm, hz, _, hcell, hwf⟩
  · simp only [List.cons.injEq, and_true] at hv
    subst hv
    exact ⟨none, 0, [], rfl, .inl rfl, Nat.zero_le _, Nat.zero_le _⟩
  · simp only [List.cons.injEq, and_true] at hv
    subst hv
    simp only [if_true] at hz
    refine ⟨some a, cap, (zs.take len).map fun n => UInt8.ofNat n.toNat, ?_, ?_, ?_, hcm⟩
    · simp; omega
    · rcases a with ⟨b, o, sp⟩
      by_cases h0 : zs.take len = []
      · rw [h0]; exact .inl rfl
      · have hl0 : 0 < len := by
          rcases Nat.eq_zero_or_pos len with h | h
          · subst h; simp at h0
          · exact h
        have hsp : sp = none := by
          have := hcell 0 (by omega)
          have e0 : (⟨b, o, sp⟩ : Addr).add 0 = ⟨b, o, sp⟩ := rfl
          rw [e0] at this
          cases sp with
          | none => rfl
          | some x => simp [World.cell?] at this; split at this <;> cases this
        subst hsp
        refine .inr ⟨b, o, rfl, fun i hi => ?_⟩
        have hi' : i < len := by simp [by8] at hi; omega
        have := hcell i (by omega)
        rw [Addr.add_mid] at this
        rw [this]
        have hw := hwf zs[i] (List.getElem_mem (by omega))
        have hr : 0 ≤ zs[i] ∧ zs[i] ≤ 255 := by simpa [Lit.wf, IntKind.min, IntKind.max, IntKind.signed, IntKind.bits] using hw
        simp only [by8, List.getElem_map, List.getElem_take]
        have hg : zs.getD i 0 = zs[i] := by simp [List.getD, show i < zs.length by omega]
        rw [hg]
        congr 2
        have : (zs[i]).toNat < 256 := by omega
        simp [Nat.mod_eq_of_lt this]
        omega
    · simp; omega

theorem spot_none {w : World} {a : Addr} {v : Value} (h : w.cell? a = some v) : a.spot = none := by
  cases hs : a.spot with
  | none => rfl
  | some x => simp [World.cell?, hs] at h; split at h <;> cases h

theorem trod_strs {H : Type} {enc : TypeId × Value → H} {P : Program} {W : World} {b0 base : Nat} {t e : TypeId} {v : Value} {d : DataW H} {ps : List MemPlace} {r : Reach}
    (ht : P.underlying t = some (.slice e)) (he : P.underlying e = some .string) (hc : P.cellsOf e = 1) (hval : Value.okWide P W r b0 t v) (h : DataW.Trod enc P W base (fun _ => true) true t v d ps) :
    ∃ p cap L, v = .slice p L.length cap ∧ RdS W p L ∧ L.length ≤ cap ∧ cap ≤ maxLen ∧ ∀ l ∈ L, l.length ≤ maxLen := by
  obtain ⟨fuel, hf⟩ := h
  have hcells : v.cells.toList = [v] := by
    rcases okWide_slice ht hval with ⟨a, n, c, rfl⟩
    rfl
  rw [hcells] at hf
  rcases open_strings ht he hc hf with ⟨hv, _⟩ | ⟨a, len, cap, ss, hv, _, hlc, hcm, hz, _, hcell, hwf⟩
  · simp only [List.cons.injEq, and_true] at hv
    subst hv
    exact ⟨none, 0, [], rfl, .inl rfl, Nat.zero_le _, Nat.zero_le _, by simp⟩
  · simp only [List.cons.injEq, and_true] at hv
    subst hv
    simp only [if_true] at hz
    refine ⟨some a, cap, (ss.take len).map fun s => s.data.toList, ?_, ?_, ?_, hcm, ?_⟩
    · simp; omega
    · by_cases h0 : len = 0
      · subst h0; exact .inl (by simp)
      · have hsp := spot_none (hcell 0 (by omega))
        have hsp' : a.spot = none := by
          have : a.add 0 = a := rfl
          rwa [this] at hsp
        obtain ⟨b, o, sp⟩ := a
        simp only at hsp'
        subst hsp'
        refine .inr ⟨b, o, rfl, fun i hi => ?_⟩
        have hi' : i < len := by simp at hi; omega
        have := hcell i (by omega)
        rw [Addr.add_mid] at this
        rw [this]
        have hil : i < ss.length := by omega
        simp [List.getD, hil, str]
    · simp; omega
    · intro l hl
      simp only [List.mem_map] at hl
      obtain ⟨s, hs, rfl⟩ := hl
      have := hwf s (List.mem_of_mem_take hs)
      have e : s.data.toList.length = s.size := by rw [Array.length_toList]; rfl
      omega

theorem trod_ints {H : Type} {enc : TypeId × Value → H} {P : Program} {W : World} {b0 base : Nat} {t e : TypeId} {v : Value} {d : DataW H} {ps : List MemPlace} {r : Reach}
    (ht : P.underlying t = some (.slice e)) (he : P.underlying e = some (.int .i64)) (hc : P.cellsOf e = 1) (hval : Value.okWide P W r b0 t v) (h : DataW.Trod enc P W base (fun _ => true) true t v d ps) :
    ∃ (p : Option Addr) (cap : Nat) (l : List Int), v = .slice p l.length cap ∧ Rd W p (l.map fun x : Int => Value.int .i64 x) ∧ l.length ≤ cap ∧ cap ≤ maxLen ∧ ∀ x ∈ l, (Lit.int .i64 x).wf = true := by
  obtain ⟨fuel, hf⟩ := h
  have hcells : v.cells.toList = [v] := by
    rcases okWide_slice ht hval with ⟨a, n, c, rfl⟩
    rfl
  rw [hcells] at hf
  rcases open_ints ht he hc hf with ⟨hv, _⟩ | ⟨a, len, cap, zs, hv, _, hlc, hcm, hz, _, hcell, hwf⟩
  · simp only [List.cons.injEq, and_true] at hv
    subst hv
    exact ⟨none, 0, [], rfl, .inl rfl, Nat.zero_le _, Nat.zero_le _, by simp⟩
  · simp only [List.cons.injEq, and_true] at hv
    subst hv
    simp only [if_true] at hz
    refine ⟨some a, cap, zs.take len, ?_, ?_, ?_, hcm, ?_⟩
    · simp; omega
    · by_cases h0 : len = 0
      · subst h0; exact .inl (by simp)
      · have hsp := spot_none (hcell 0 (by omega))
        have hsp' : a.spot = none := by
          have : a.add 0 = a := rfl
          rwa [this] at hsp
        obtain ⟨b, o, sp⟩ := a
        simp only at hsp'
        subst hsp'
        refine .inr ⟨b, o, rfl, fun i hi => ?_⟩
        have hi' : i < len := by simp at hi; omega
        have := hcell i (by omega)
        rw [Addr.add_mid] at this
        rw [this]
        have hil : i < zs.length := by omega
        simp [List.getD, hil]
    · simp; omega
    · intro x hx
      exact hwf x (List.mem_of_mem_take hx)
end Go.Proofs.Ytecpkoigjnpkfaa
