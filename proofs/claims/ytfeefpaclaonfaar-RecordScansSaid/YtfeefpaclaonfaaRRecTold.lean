/- The walk of layer 4's told. -/
import Derived.Test.YtfeefpaclaonfaaRRecWalks
set_option linter.unusedSimpArgs false
set_option linter.unusedVariables false
namespace Go.Proofs.YtfeefpaclaonfaaR
open Go.RowKit Go.BigFrame Wire Crc Rec

theorem scan_a : scan (frame [97]) = ([[97]], 9) := by
  have h := scan_all [[97]] (by simp)
  rw [frames_cons, frames_nil, List.append_nil] at h
  rw [h, frame_len]; rfl

set_option maxRecDepth 20000 in
set_option maxHeartbeats 400000 in
theorem told4_any (w : World) :
    Calls Try.prog 19 #[] w fun e w' => e = .returned (.bool true) ∧ Below w.heap.size w w' := by
  have hcv := fun (w : World) (C : Array Value) (n c : Nat) => Lib.run_convert_bytes_const (P := Try.prog) w 23 5 C n c Try.underlying23 Try.underlying5
  go_enter Try.func19, Try.ntmps19
  go_wp2_with fail
  go_fit (frame_any _ 1 1 [97] _ (Rd8.new _ [97] _ _ _ ⟨[], rfl⟩) rfl (by omega))
  rintro e w1 ⟨v1, rfl, ho1, hb1⟩
  obtain ⟨p1, cap1, rfl, hr1, _⟩ := ho1.shape
  obtain ⟨hn1, _, hc1, _, _⟩ := ho1.txt
  rw [show (frame [97]).length = 9 from frame_len _] at hn1 hc1 ⊢
  have H1 := Lib.hid hr1
  have L1 := Lib.hid (show 9 = (frame [97]).length from (frame_len [97]).symm)
  have hb1' : Below w.heap.size w w1 := grew (grewA (Below.refl _ _) _) hb1
  clear ho1 hr1 hn1 hb1 hcv
  go_wp2_with fail
  go_fit (scan_any p1 9 cap1 (frame [97]) w1 H1.out L1.out hc1 (by omega))
  rintro e w2 ⟨q, c, rfl, hrr, hb2⟩
  have hb2' := grew hb1' hb2
  rw [scan_a] at hrr ⊢
  obtain ⟨vs, hrv, hl, hel⟩ := hrr
  have hv0 : vs.length = 1 := hl
  obtain ⟨v, rfl⟩ : ∃ v, vs = [v] := by
    match vs, hv0 with
    | [v], _ => exact ⟨v, rfl⟩
  obtain ⟨p3, c3, rfl, hr3, _⟩ := hel 0 (by simp) (by simp)
  obtain ⟨b, o, rfl, hcc⟩ := hrv.at (k := 0) (by simp)
  have hcell := hcc 0 (by simp)
  simp only [List.getElem_cons_zero, Nat.add_zero] at hcell hr3
  have H3 := Lib.hid hr3
  clear hcc hrv hel hr3 hl hv0 hb1' hb2
  simp only [List.length_cons, List.length_nil] at hcell ⊢
  go_wp2_with ((with_reducible refine L_b2s slB isB isS H3.out ?_ ?_ ?_); (focus rfl); (focus exact ⟨_, _, rfl, rfl⟩); simp only [Act.put, List.setIfInBounds_toArray, List.set_cons_zero, List.set_cons_succ])
  go_ret
  exact ⟨rfl, hb2'⟩
end Go.Proofs.YtfeefpaclaonfaaR
