/- The laws of layer 2, walked: told, CrcSums, CrcBursts, CrcXors. -/
import Derived.Test.YtfeefpaclaonfaaRCrcWalks
set_option linter.unusedSimpArgs false
set_option linter.unusedVariables false
namespace Go.Proofs.YtfeefpaclaonfaaR
open Go.RowKit Crc

/-- the text of the page's example -/
def nine : List UInt8 := [49, 50, 51, 52, 53, 54, 55, 56, 57]
theorem nine_upd : upd 0#32 nine = 0xCBF43926#32 := by decide +kernel
set_option maxRecDepth 20000 in
set_option maxHeartbeats 400000 in
theorem told2_any (w : World) :
    Calls Try.prog 14 #[] w fun e w' => e = .returned (.bool true) ∧ Below w.heap.size w w' := by
  have h1 : ∀ (u : World) (B : Nat), Rd8 u (some ⟨B, 0, none⟩) nine →
      Calls Try.prog 17 #[.slice (some ⟨B, 0, none⟩) 9 9] u fun e w' => e = .returned (.int .u32 3421780262) ∧ Below u.heap.size u w' := by
    intro u B h
    have := sum_any (some ⟨B, 0, none⟩) 9 nine u h (by decide)
    rw [nine_upd] at this
    exact this
  have h2 : ∀ (u : World), Calls Try.prog 17 #[.slice none 0 0] u fun e w' => e = .returned (.int .u32 0) ∧ Below u.heap.size u w' := by
    intro u
    have := sum_any none 0 [] u (.nil _ _) (by decide)
    exact this
  have H1 := Lib.hid h1
  have H2 := Lib.hid h2
  clear h1 h2
  have hcv := fun (w : World) (C : Array Value) (n c : Nat) => Lib.run_convert_bytes_const (P := Try.prog) w 23 5 C n c Try.underlying23 Try.underlying5
  go_enter Try.func14, Try.ntmps14
  go_wp2_with (first
    | (go_at_call 17; go_fit (H1.out _ _ ?_); (focus exact Rd8.new _ _ _ _ _ ⟨[], rfl⟩); rintro e w1 ⟨rfl, hb1⟩)
    | (go_at_call 17; go_fit (H2.out _); rintro e w2 ⟨rfl, hb2⟩))
  go_ret
  refine ⟨rfl, ?_⟩
  repeat (first | exact Below.refl _ _ | refine grewA ?_ _ | refine Below.drew ?_ | refine grew ?_ (by assumption))

theorem upd_append (c : BitVec 32) (a b : List UInt8) : upd c (a ++ b) = upd (upd c a) b := by
  simp [upd, List.foldl_append]

set_option maxRecDepth 20000 in
set_option maxHeartbeats 400000 in
theorem crcSums_walk (c : BitVec 32) (pa pb : Option Addr) (ca cb : Nat) (la lb : List UInt8) (w : World) (ha : Rd8 w pa la) (hb : Rd8 w pb lb) :
    Calls Try.prog 3 #[.int .u32 (c.toNat : Int), .slice pa la.length ca, .slice pb lb.length cb] w fun e w' => e = .returned (.bool true) ∧ Below w.heap.size w w' := by
  by_cases h1 : la.length ≤ 300
  · by_cases h2 : lb.length ≤ 300
    · have HA := Lib.hid ha
      have HB := Lib.hid hb
      clear ha hb
      go_enter Try.func3, Try.ntmps3
      have d1 : decide ((300 : Int) < (la.length : Int)) = false := by simp; omega
      have d2 : decide ((300 : Int) < (lb.length : Int)) = false := by simp; omega
      go_wp2_with (first
        | ((with_reducible refine L_appR slB Try.underlying23 (OwnS.fresh (base := w.heap.size) (Nat.le_refl _)) (HA.out.alloc _) (by8_one _) (by8_mul _) ?_ ?_ ?_ ?_ ?_); (focus rfl); (focus rfl); (focus exact ⟨_, rfl⟩); (focus exact ⟨room1 (by omega), by omega, by simp⟩); intro v1 w1 ho1 hg1 hk1 hn1; clear hn1; have hb1 := Below.grown (grewA (Below.refl _ w) _) hg1 (grewA (Below.refl _ w) _).size hk1; clear hg1 hk1; (try simp only [Nat.zero_add, List.nil_append] at ho1); obtain ⟨p1, cap1, rfl, hr1, _⟩ := ho1.shape; simp only [Act.put, List.setIfInBounds_toArray, List.set_cons_zero, List.set_cons_succ])
        | ((with_reducible refine L_appR slB Try.underlying23 ho1 (HB.out.below hb1) (by8_one _) (by8_mul _) ?_ ?_ ?_ ?_ ?_); (focus rfl); (focus rfl); (focus exact ⟨_, rfl⟩); (focus exact ⟨room1 (by omega), by omega, hb1.size⟩); intro v2 w2 ho2 hg2 hk2 hn2; clear hn2; have hb2 := Below.grown (hb1) hg2 (hb1).size hk2; clear hg2 hk2; (try simp only [Nat.zero_add, List.nil_append] at ho2); obtain ⟨p2, cap2, rfl, hr2, _⟩ := ho2.shape; simp only [Act.put, List.setIfInBounds_toArray, List.set_cons_zero, List.set_cons_succ])
        | fail)
      rw [← by8_append] at hr2
      have L : (la ++ lb).length = la.length + lb.length := List.length_append
      have HL := Lib.hid L.symm
      clear L
      have HR2 := Lib.hid hr2
      clear hr1 hr2 ho1 ho2 hb1
      go_fit (update_n c p2 _ cap2 (la ++ lb) _ HR2.out HL.out (by omega))
      rintro e w3 ⟨rfl, hc3⟩
      have hb3 := grew hb2 hc3
      go_wp2_with fail
      go_fit (told2_any _)
      rintro e w4 ⟨rfl, hd4⟩
      have hb4 := grew hb3 hd4
      have hc4 := grew hc3 hd4
      clear hb3 hc3 hd4
      go_wp2_with fail
      go_fit (ref_n c p2 _ cap2 (la ++ lb) _ (HR2.out.below hc4) HL.out (by omega))
      rintro e _ ⟨rfl, rfl⟩
      go_wp2_with fail
      go_fit (update_n c pa _ ca la _ (HA.out.below hb4) rfl (by omega))
      rintro e w5 ⟨rfl, hd5⟩
      have hb5 := grew hb4 hd5
      have hc5 := grew hc4 hd5
      clear hb4 hc4 hd5
      go_wp2_with fail
      have hu := update_n (upd c la) pb lb.length cb lb _ (HB.out.below hb5) rfl (by omega)
      rw [← upd_append] at hu
      have HU := Lib.hid hu
      clear hu
      go_fit HU.out
      rintro e w6 ⟨rfl, hd6⟩
      have hb6 := grew hb5 hd6
      have hc6 := grew hc5 hd6
      clear hb5 hc5 hd6 HU
      go_wp2_with fail
      go_fit (sum_n p2 _ cap2 (la ++ lb) _ (HR2.out.below hc6) HL.out (by omega))
      rintro e w7 ⟨rfl, hd7⟩
      have hb7 := grew hb6 hd7
      have hc7 := grew hc6 hd7
      clear hb6 hc6 hd7
      go_wp2_with fail
      go_fit (ref_n0 p2 _ cap2 (la ++ lb) _ (HR2.out.below hc7) HL.out (by omega))
      rintro e _ ⟨rfl, rfl⟩
      go_wp2_with (first
        | ((with_reducible refine L_b2s slB isB isS (HR2.out.below hc7) ?_ ?_ ?_); (focus rfl); (focus exact ⟨_, _, rfl, HL.out⟩); simp only [Act.put, List.setIfInBounds_toArray, List.set_cons_zero, List.set_cons_succ])
        | ((with_reducible refine L_b2s slB isB isS (HA.out.below hb7) ?_ ?_ ?_); (focus rfl); (focus exact ⟨_, _, rfl, rfl⟩); simp only [Act.put, List.setIfInBounds_toArray, List.set_cons_zero, List.set_cons_succ])
        | ((with_reducible refine L_b2s slB isB isS (HB.out.below hb7) ?_ ?_ ?_); (focus rfl); (focus exact ⟨_, _, rfl, rfl⟩); simp only [Act.put, List.setIfInBounds_toArray, List.set_cons_zero, List.set_cons_succ]))
      trace_state
      go_ret
      exact ⟨rfl, hb7⟩
    · have h2' : 301 ≤ lb.length := by omega
      go_enter Try.func3, Try.ntmps3
      go_wp2_with (go_at_call 14; go_fit (told2_any _); rintro e w1 ⟨rfl, hb1⟩)
      go_ret
      exact ⟨rfl, hb1⟩
  · have h1' : 301 ≤ la.length := by omega
    go_enter Try.func3, Try.ntmps3
    go_wp2_with (go_at_call 14; go_fit (told2_any _); rintro e w1 ⟨rfl, hb1⟩)
    go_ret
    exact ⟨rfl, hb1⟩
end Go.Proofs.YtfeefpaclaonfaaR
