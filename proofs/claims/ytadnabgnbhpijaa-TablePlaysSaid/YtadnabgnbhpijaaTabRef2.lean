/- The document's table, as a list: the walk over Del. -/
import Derived.Test.YtadnabgnbhpijaaTabRef
set_option linter.unusedSimpArgs false
set_option linter.unusedVariables false
namespace Go.Proofs.Ytadnabgnbhpijaa
open Go.RowKit Go.Maps
section
variable {S T : Nat → Prop} {w w' : World} {xb : Nat} {m : Slot} {g : Nat} {v : Value} {name : List UInt8}
set_option maxHeartbeats 2000000 in
set_option maxRecDepth 20000 in
theorem rdel_any (h : RefT S w xb m g) (hu : (m.map Prod.fst).Nodup) (hl : name.length ≤ maxLen) (hm : m.length ≤ 100000) :
    Calls Try.prog 66 #[.pointer (some ⟨xb, 0, none⟩), .string (str name)] w fun e w' => e = .returned (ansO (lk m name)) ∧ RefT (Up S w) w' xb (delM m name) g ∧ Chg S w w' := by
  obtain ⟨v, h⟩ := h
  obtain ⟨c0, c1⟩ := h.cells
  have z0 := h.free 0
  obtain ⟨p, cap, rfl, hr, _⟩ := h.own.shape
  have hcap : m.length ≤ cap := by
    rcases h.own.2 with ⟨h0, h1⟩ | ⟨g', cap', cur, fr, h0, _, _, _, h1, _⟩
    · rw [h1]; exact Nat.zero_le _
    · cases h0; exact h1
  have HH := Lib.hid h
  have HR := Lib.hid hr
  have HU := Lib.hid hu
  clear h hr hu
  go_enter Try.func66, Try.ntmps66
  go_wp2_with fail
  go_loopw [6] (fun i wr => ∃ k, k ≤ m.length ∧ i = .int .i64 (k : Int) ∧ NoN m name k ∧ wr = w) (fun i _ => m.length - (intOf i).toNat)
  case atStart => exact ⟨0, Nat.zero_le _, rfl, fun j _ hj => absurd hj (by omega), rfl⟩
  case round =>
    obtain ⟨k, hk, rfl, hno, hwr⟩ := hrel
    have HN := Lib.hid hno
    have hwr' := hwr.symm
    subst hwr'
    clear hno hwr
    by_cases hkl : k < m.length
    · obtain ⟨b, o, rfl, hcc⟩ := HR.out.at (k := k * 2) (by rw [prs_len]; omega)
      have e0 := hcc (k * 2) (by rw [prs_len]; omega)
      have e1 := hcc (k * 2 + 1) (by rw [prs_len]; omega)
      rw [prs_get0 _ _ hkl] at e0
      rw [prs_get1 _ _ hkl, ← Nat.add_assoc] at e1
      clear hcc
      have k0 : (0 : Int) ≤ (k : Int) := by omega
      have k1 : (k : Int) < (m.length : Int) := by omega
      by_cases he : m[k].1 = name
      · have HLK := Lib.hid (lk_here_at HU.out hkl he)
        have hdm : delM m name = m.eraseIdx k := slot_off m HU.out k hkl he
        have HDM := Lib.hid hdm
        have hq : (m[k].1 == name) = true := by simpa using he
        have hs1 := fun u => run_slice_to slPr u (some ⟨b, o, none⟩) m.length cap k (by omega)
        have hs2 : ∀ u, (Instr.slice 63 (.slice (some ⟨b, o, none⟩) m.length cap) (some (.int .i64 ((k : Int) + 1))) none none).run Try.prog u = .ok (.slice (shift (some ⟨b, o, none⟩) (k + 1) cap 2) (m.length - (k + 1)) (cap - (k + 1))) u := fun u => run_slice_from slPr u (some ⟨b, o, none⟩) m.length cap (k + 1) (by omega)
        have hr1 : Rd w (some ⟨b, o, none⟩) (prs (m.take k)) := by rw [← prs_take]; exact HR.out.take _
        have hr2 : Rd w (shift (some ⟨b, o, none⟩) (k + 1) cap 2) (prs (m.drop (k + 1))) := by
          have := HR.out.shift (l := k + 1) (n := m.length) (cap := cap) (sz := 2) (prs_mul m) hcap
          rwa [prs_drop] at this
        have HR1 := Lib.hid hr1
        have HR2 := Lib.hid hr2
        have hxl : xb < w.heap.size := row_lt HH.out.row
        have HXL := Lib.hid hxl
        have l1 : (m.take k).length = k := by rw [List.length_take]; omega
        have l2 : (m.drop (k + 1)).length = m.length - (k + 1) := List.length_drop
        have HL1 := Lib.hid l1
        have HL2 := Lib.hid l2
        have hba : Below w.heap.size w (w.alloc (.cells #[] 103)) := (Below.refl _ _).alloc (Nat.le_refl _) _
        have HBA := Lib.hid hba
        have C0 := Lib.hid c0
        have Z0 := Lib.hid z0
        clear he hdm hr1 hr2 hxl l1 l2 hba
        go_upto_region 6 with (fail)
        clear c0 z0 e0 e1
        have c0 := C0.out
        have z0 := Z0.out
        have qa := cell_below HBA.out C0.out
        have hwk : IntKind.i64.wrap ((k : Int) + 1) = (k : Int) + 1 := IntWalk.i64_in _ (by omega)
        go_region_law (first
          | (refine step_append_S (by rfl) _ _ _ _ (by rfl) slPr Try.underlying63 (base := w.heap.size) (xs := []) (by first | exact OwnS.fresh (Nat.le_refl _) | exact (OwnS.fresh (Nat.le_refl _)).drew) (by rfl) (by first | exact HR1.out.below HBA.out | exact HR1.out.below HBA.out.drew) (prs_one _) (m := k) (by rw [prs_mul, HL1.out]) cap (by rfl) ⟨room1 (by omega), by omega, by simp⟩ ?_; intro v3 w3 ho3 hg3; have hb3 : Below w.heap.size w w3 := hg3.below (by first | exact HBA.out | exact HBA.out.drew) (by simp) (fun k hk => by simp [Value.ownBlock] at hk; omega); have q3 := cell_below hb3 C0.out; have HB3 := Lib.hid hb3; have HO3 := Lib.hid ho3; clear hb3 hg3 ho3)
          | (refine step_append_S (by rfl) _ _ _ _ (by rfl) slPr Try.underlying63 HO3.out (by rfl) (HR2.out.below HB3.out) (prs_one _) (m := m.length - (k + 1)) (by rw [prs_mul, HL2.out]) (cap - (k + 1)) (by rfl) ⟨room1 (by omega), by omega, HB3.out.size⟩ ?_; intro v4 w4 ho4 hg4; have hb4 : Below w.heap.size w w4 := hg4.below HB3.out HB3.out.size (fun k hk => (HO3.out.lt k hk).1); have q4 := cell_below hb4 C0.out; have y4 : w4.frozen? ⟨xb, 0, none⟩ = false := ((Chg.of_below (S := fun _ => False) hb4).frozen (p := ⟨xb, 0, none⟩) HXL.out (fun h => h)).trans Z0.out; obtain ⟨p4, cap4, rfl, _, _⟩ := ho4.shape; have HB4 := Lib.hid hb4; have HO4 := Lib.hid ho4; clear hb4 hg4 ho4))
        all_goals
          go_wp2_with fail
          go_ret2
          have ho5 : OwnS w4 0 103 2 (.slice p4 (k + (m.length - (k + 1))) cap4) (delM m name).length (prs (delM m name)) := by
            have h1 := HO4.out
            rw [List.nil_append, prs_erase m k hkl, Nat.zero_add] at h1
            have h2 : k + (m.length - (k + 1)) = (m.eraseIdx k).length := by rw [List.length_eraseIdx]; simp only [hkl, if_true]; omega
            rw [HDM.out, ← h2]
            exact h1.rebase (Nat.zero_le _)
          have h6 := HH.out.setL (Chg.of_below HB4.out) ho5 fun j hj => .inr (HO4.out.lt j (by simpa [Value.ownBlock] using hj)).1
          exact ⟨by rw [HLK.out]; rfl, ⟨_, h6.1⟩, h6.2⟩
      · have HN2 := Lib.hid (HN.out.step hkl he)
        have hq : (m[k].1 == name) = false := by simpa using he
        go_wp2_with fail
        exact ⟨⟨k + 1, by omega, by go_num, HN2.out, by trivial⟩, by simp [intOf]; omega⟩
    · obtain rfl : k = m.length := by omega
      have HLK := Lib.hid HN.out.lk
      have hdm : delM m name = m := by
        unfold delM
        exact off_same fun q hq e => by
          obtain ⟨j, hj, rfl⟩ := List.getElem_of_mem hq
          exact HN.out j hj hj e
      have HDM := Lib.hid hdm
      clear hdm
      go_wp2_with fail
      go_ret2
      refine ⟨?_, ?_, Chg.refl _ _⟩
      · rw [HLK.out]; rfl
      · rw [HDM.out]; exact ⟨_, HH.out.mono fun _ h => .inl h⟩
end
end Go.Proofs.Ytadnabgnbhpijaa
