/- The walks over command.groups and command.Fits. -/
import Derived.Test.YtecpkoigjnpkfaaCmdFind
set_option linter.unusedSimpArgs false
set_option linter.unusedVariables false
namespace Go.Proofs.Ytecpkoigjnpkfaa
open Go.RowKit Cmd

set_option maxHeartbeats 1000000 in
set_option maxRecDepth 20000 in
theorem groups_any (l : List UInt8) (n : Nat) (hn : n ≤ 1048576) (w : World) : Calls Try.prog 16 #[.string (str l), .int .i64 (n : Int)] w fun e w' => e = .returned (.bool (groupsP l n)) ∧ w = w' := by
  obtain ⟨g, hg⟩ : ∃ g, groupsP l n = g := ⟨_, rfl⟩
  rw [hg]
  have hq : ∀ (m : List UInt8), (l == m) = decide (l = m) := fun m => by by_cases h : l = m <;> simp [h]
  by_cases h0 : l = MSET
  · have e0 : (l == [77, 83, 69, 84]) = true := by rw [hq]; exact decide_eq_true h0
    have hv : (((n : Int) + 1) % 2 == 0) = g := by
      rw [← hg]; unfold groupsP; rw [if_pos h0, Bool.eq_iff_iff, beq_iff_eq, beq_iff_eq]; omega
    clear hq hg h0
    go_enter Try.func16, Try.ntmps16
    go_wp2_with fail
    go_ret
    exact ⟨by rw [← hv]; rfl, rfl⟩
  · skip
    by_cases h1 : l = HSET
    · have e0 : (l == [77, 83, 69, 84]) = false := by rw [hq]; exact decide_eq_false h0
      have e1 : (l == [72, 83, 69, 84]) = true := by rw [hq]; exact decide_eq_true h1
      have hv : ((n : Int) % 2 == 0) = g := by
        rw [← hg]; unfold groupsP; rw [if_neg h0, if_pos (.inl h1), Bool.eq_iff_iff, beq_iff_eq, beq_iff_eq]; omega
      clear hq hg h0 h1
      go_enter Try.func16, Try.ntmps16
      go_wp2_with fail
      go_ret
      exact ⟨by rw [← hv]; rfl, rfl⟩
    · skip
      by_cases h2 : l = ZADD
      · have e0 : (l == [77, 83, 69, 84]) = false := by rw [hq]; exact decide_eq_false h0
        have e1 : (l == [72, 83, 69, 84]) = false := by rw [hq]; exact decide_eq_false h1
        have e2 : (l == [90, 65, 68, 68]) = true := by rw [hq]; exact decide_eq_true h2
        have hv : ((n : Int) % 2 == 0) = g := by
          rw [← hg]; unfold groupsP; rw [if_neg h0, if_pos (.inr h2), Bool.eq_iff_iff, beq_iff_eq, beq_iff_eq]; omega
        clear hq hg h0 h1 h2
        go_enter Try.func16, Try.ntmps16
        go_wp2_with fail
        go_ret
        exact ⟨by rw [← hv]; rfl, rfl⟩
      · skip
        by_cases h3 : l = PADD
        · have e0 : (l == [77, 83, 69, 84]) = false := by rw [hq]; exact decide_eq_false h0
          have e1 : (l == [72, 83, 69, 84]) = false := by rw [hq]; exact decide_eq_false h1
          have e2 : (l == [90, 65, 68, 68]) = false := by rw [hq]; exact decide_eq_false h2
          have e3 : (l == [80, 65, 68, 68]) = true := by rw [hq]; exact decide_eq_true h3
          have hv : ((n : Int) % 3 == 2) = g := by
            rw [← hg]; unfold groupsP; rw [if_neg h0, if_neg (fun h => h.elim h1 h2), if_pos h3, Bool.eq_iff_iff, beq_iff_eq, beq_iff_eq]; omega
          clear hq hg h0 h1 h2 h3
          go_enter Try.func16, Try.ntmps16
          go_wp2_with fail
          go_ret
          exact ⟨by rw [← hv]; rfl, rfl⟩
        · skip
          have e0 : (l == [77, 83, 69, 84]) = false := by rw [hq]; exact decide_eq_false h0
          have e1 : (l == [72, 83, 69, 84]) = false := by rw [hq]; exact decide_eq_false h1
          have e2 : (l == [90, 65, 68, 68]) = false := by rw [hq]; exact decide_eq_false h2
          have e3 : (l == [80, 65, 68, 68]) = false := by rw [hq]; exact decide_eq_false h3
          have hv : true = g := by rw [← hg]; unfold groupsP; rw [if_neg h0, if_neg (fun h => h.elim h1 h2), if_neg h3]
          clear hq hg h0 h1 h2 h3
          go_enter Try.func16, Try.ntmps16
          go_wp2_with fail
          go_ret
          exact ⟨by rw [← hv]; rfl, rfl⟩
/-- strings, as cells -/
def stc (L : List (List UInt8)) : List Value := L.map fun l => .string (str l)
theorem foundR_mem {x : List UInt8} {r : CRow} (h : findP x = some r) : r ∈ rowsL := List.mem_of_find?_eq_some h
theorem rows_small : rowsL.all (fun r => decide (0 ≤ r.least ∧ r.least ≤ 10 ∧ 0 ≤ r.most ∧ r.most ≤ 10)) = true := by decide +kernel
set_option maxHeartbeats 2000000 in
set_option maxRecDepth 20000 in
theorem fits_any (p : Option Addr) (n c : Nat) (a : List (List UInt8)) (hn : n = a.length) (hs : n ≤ 1000) (ht : ∀ x ∈ a.head?, x.length ≤ 1048576) (w : World) (hr : Rd w p (stc a)) :
    Calls Try.prog 7 #[.slice p n c] w fun e w' => e = .returned (.int .i64 (fitsP a)) ∧ Below w.heap.size w w' := by
  cases a with
  | nil =>
    obtain rfl : n = 0 := by simpa using hn
    clear hr ht hn
    go_enter Try.func7, Try.ntmps7
    go_wp2_with fail
    go_ret
    exact ⟨rfl, Below.refl _ _⟩
  | cons x a =>
    obtain ⟨b, o, rfl, hcc⟩ := hr.at (k := 0) (by simp [stc])
    have c0 : w.cell? ⟨b, o, none⟩ = some (.string (str x)) := hcc 0 (by simp [stc])
    have hxl := ht x rfl
    obtain ⟨oF, hoF⟩ : ∃ oF, findP x = oF := ⟨_, rfl⟩
    have hn1 : n = a.length + 1 := by simpa using hn
    have d0 : ((n : Int) == 0) = false := by rw [beq_eq_false_iff_ne]; omega
    have i0 : (0 : Int) < (n : Int) := by omega
    obtain ⟨F, hF⟩ : ∃ F, fitsP (x :: a) = F := ⟨_, rfl⟩
    rw [hF]
    have HFP := Lib.hid hF
    clear hF
    have HFI := Lib.hid (find_any x hxl w)
    have HOF := Lib.hid hoF
    have HN := Lib.hid hn1
    clear hcc hr ht hn hoF hn1
    go_enter Try.func7, Try.ntmps7
    go_wp2_with fail
    go_fit HFI.out
    rintro e w1 ⟨rfl, hb1⟩
    rw [HOF.out]
    have HB1 := Lib.hid hb1
    clear hb1
    have hlen : (x :: a).length = n := by rw [List.length_cons]; exact HN.out.symm
    cases oF with
    | none =>
      have hf : F = 1 := by have h := HFP.out; simp only [fitsP, HOF.out] at h; exact h.symm
      subst hf
      rw [show (cellsR (foundR none)).toArray = #[.string ⟨#[]⟩, .int .i64 0, .int .i64 0, .bool false, .int .i64 0, .int .i64 0, .int .i64 0] from rfl, show Option.isSome (none : Option CRow) = false from rfl]
      go_wp2_with fail
      go_ret
      exact ⟨rfl, HB1.out.alloc HB1.out.size _⟩
    | some r =>
      have hf : F = fitsR r n := by have h := HFP.out; simp only [fitsP, HOF.out] at h; rw [← h, hlen]
      rw [show (cellsR (foundR (some r))).toArray = #[.string (str r.name), .int .i64 r.least, .int .i64 r.most, .bool r.write, .int .i64 r.first, .int .i64 r.last, .int .i64 r.step] from rfl, show Option.isSome (some r) = true from rfl]
      clear hlen
      have HG := Lib.hid (groups_any r.name n (by omega))
      by_cases hA : (n : Int) < r.least
      · have hf2 : F = 2 := by rw [hf]; unfold fitsR; rw [if_pos (.inl hA)]
        subst hf2
        clear hf
        have dA : decide ((n : Int) < r.least) = true := decide_eq_true hA
        go_wp2_with fail
        go_ret
        exact ⟨rfl, HB1.out.alloc HB1.out.size _⟩
      · have dA : decide ((n : Int) < r.least) = false := decide_eq_false hA
        by_cases hB : 0 < r.most ∧ r.most < (n : Int)
        · have hf2 : F = 2 := by rw [hf]; unfold fitsR; rw [if_pos (.inr (.inl hB))]
          subst hf2
          clear hf
          have dB1 : decide ((0 : Int) < r.most) = true := decide_eq_true hB.1
          have dB2 : decide (r.most < (n : Int)) = true := decide_eq_true hB.2
          clear hA hB
          go_wp2_with fail
          go_ret
          exact ⟨rfl, HB1.out.alloc HB1.out.size _⟩
        · have hf2 : F = if groupsP r.name n = false then 2 else 0 := by
            rw [hf]; unfold fitsR
            by_cases hg : groupsP r.name n = false
            · rw [if_pos (.inr (.inr hg)), if_pos hg]
            · rw [if_neg (fun h => h.elim hA fun h => h.elim hB hg), if_neg hg]
          clear hf
          generalize groupsP r.name n = g at HG hf2
          have hB' : (decide ((0 : Int) < r.most) && decide (r.most < (n : Int))) = false := by
            rw [← Bool.not_eq_true, Bool.and_eq_true, decide_eq_true_iff, decide_eq_true_iff]; exact hB
          by_cases hm : (0 : Int) < r.most
          · have dB1 : decide ((0 : Int) < r.most) = true := decide_eq_true hm
            have dB2 : decide (r.most < (n : Int)) = false := decide_eq_false (fun h => hB ⟨hm, h⟩)
            clear hA hB hB' hm
            go_wp2_with fail
            go_fit (HG.out _)
            rintro e w2 ⟨rfl, rfl⟩
            cases g <;> (simp at hf2; subst hf2; go_wp2_with fail; go_ret; exact ⟨rfl, HB1.out.alloc HB1.out.size _⟩)
          · have dB1 : decide ((0 : Int) < r.most) = false := decide_eq_false hm
            clear hA hB hB' hm
            go_wp2_with fail
            go_fit (HG.out _)
            rintro e w2 ⟨rfl, rfl⟩
            cases g <;> (simp at hf2; subst hf2; go_wp2_with fail; go_ret; exact ⟨rfl, HB1.out.alloc HB1.out.size _⟩)
end Go.Proofs.Ytecpkoigjnpkfaa
