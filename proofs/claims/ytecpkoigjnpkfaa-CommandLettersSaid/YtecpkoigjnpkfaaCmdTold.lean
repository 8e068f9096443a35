/- The walk over scriptoriumlaw25.told: it answers true. -/
import Derived.Test.YtecpkoigjnpkfaaCmdKeys
set_option linter.unusedSimpArgs false
set_option linter.unusedVariables false
namespace Go.Proofs.Ytecpkoigjnpkfaa
open Go.RowKit Cmd

theorem told_find : findP [103, 101, 116] = some ⟨[71, 69, 84], 2, 2, false, 1, 1, 1⟩ := by kernel_rfl
theorem told_fits0 : fitsP [[71, 69, 84], [107]] = 0 := by decide +kernel
theorem told_fits2 : fitsP [[71, 69, 84]] = 2 := by decide +kernel
theorem told_keys : keysP [[77, 83, 69, 84], [97], [49], [98], [50]] = [[97], [98]] := by decide +kernel
theorem told_c1 (w : World) : Calls Try.prog 8 #[.string ⟨#[103, 101, 116]⟩] w fun e w' => e = .returned (.tuple #[.agg #[.string ⟨#[71, 69, 84]⟩, .int .i64 2, .int .i64 2, .bool false, .int .i64 1, .int .i64 1, .int .i64 1], .bool true]) ∧ Below w.heap.size w w' := by
  have h := find_any [103, 101, 116] (by decide) w
  rw [told_find] at h
  exact h
theorem told_c2 {b : Nat} (w : World) (hb0 : b = w.heap.size) : Calls Try.prog 7 #[.slice (some ⟨b, 0, none⟩) 2 2] (w.alloc (.cells #[.string ⟨#[71, 69, 84]⟩, .string ⟨#[107]⟩] 9)) fun e w' => e = .returned (.int .i64 0) ∧ Below w.heap.size w w' := by
  subst hb0
  have h := fits_any (some ⟨w.heap.size, 0, none⟩) 2 2 [[71, 69, 84], [107]] rfl (by omega) (by simp) (w.alloc (.cells #[.string ⟨#[71, 69, 84]⟩, .string ⟨#[107]⟩] 9)) (Rd.of_row (heap_alloc_new w _) 0 (List.prefix_refl _))
  rw [told_fits0] at h
  exact h.mono fun e w' ⟨he, hb⟩ => ⟨he, box_under hb⟩
theorem told_c3 {b : Nat} (w : World) (hb0 : b = w.heap.size) : Calls Try.prog 7 #[.slice (some ⟨b, 0, none⟩) 1 1] (w.alloc (.cells #[.string ⟨#[71, 69, 84]⟩] 9)) fun e w' => e = .returned (.int .i64 2) ∧ Below w.heap.size w w' := by
  subst hb0
  have h := fits_any (some ⟨w.heap.size, 0, none⟩) 1 1 [[71, 69, 84]] rfl (by omega) (by simp) (w.alloc (.cells #[.string ⟨#[71, 69, 84]⟩] 9)) (Rd.of_row (heap_alloc_new w _) 0 (List.prefix_refl _))
  rw [told_fits2] at h
  exact h.mono fun e w' ⟨he, hb⟩ => ⟨he, box_under hb⟩
theorem told_c4 (w : World) : Calls Try.prog 7 #[.slice none 0 0] w fun e w' => e = .returned (.int .i64 1) ∧ Below w.heap.size w w' :=
  fits_any none 0 0 [] rfl (by omega) (by simp) w (Rd.nil _ _)
theorem told_c5 {b : Nat} (w : World) (hb0 : b = w.heap.size) : Calls Try.prog 10 #[.slice (some ⟨b, 0, none⟩) 5 5] (w.alloc (.cells #[.string ⟨#[77, 83, 69, 84]⟩, .string ⟨#[97]⟩, .string ⟨#[49]⟩, .string ⟨#[98]⟩, .string ⟨#[50]⟩] 9)) fun e w' => ∃ p c, e = .returned (.slice p 2 c) ∧ Rd w' p (stc [[97], [98]]) ∧ Below w.heap.size w w' := by
  subst hb0
  have h := keys_any (some ⟨w.heap.size, 0, none⟩) 5 5 [[77, 83, 69, 84], [97], [49], [98], [50]] rfl (by omega) (by simp) (w.alloc (.cells #[.string ⟨#[77, 83, 69, 84]⟩, .string ⟨#[97]⟩, .string ⟨#[49]⟩, .string ⟨#[98]⟩, .string ⟨#[50]⟩] 9)) (Rd.of_row (heap_alloc_new w _) 0 (List.prefix_refl _))
  rw [told_keys] at h
  refine h.mono fun e w' => ?_
  rintro ⟨v, rfl, ho, hb⟩
  obtain ⟨p, c, rfl, hr, -⟩ := ho.shape
  exact ⟨p, c, rfl, hr, box_under hb⟩
theorem told_c6 {b : Nat} (w : World) (hb0 : b = w.heap.size) {p : Option Addr} {c : Nat} (hr : Rd w p (stc [[97], [98]])) : Calls Try.prog 9 #[.slice p 2 c, .slice (some ⟨b, 0, none⟩) 2 2] (w.alloc (.cells #[.string ⟨#[97]⟩, .string ⟨#[98]⟩] 9)) fun e w' => e = .returned (.bool true) ∧ Below w.heap.size w w' := by
  subst hb0
  have h := texts_eq (c := c) (d := 2) (hr.alloc (.cells #[.string ⟨#[97]⟩, .string ⟨#[98]⟩] 9)) (q := some ⟨w.heap.size, 0, none⟩) (Rd.of_row (heap_alloc_new w _) 0 (List.prefix_refl _)) (by decide)
  exact h.mono fun e w' ⟨he, hb⟩ => ⟨he, box_under hb⟩
set_option maxHeartbeats 2000000 in
set_option maxRecDepth 20000 in
theorem told_any (w : World) : Calls Try.prog 5 #[] w fun e w' => e = .returned (.bool true) ∧ Below w.heap.size w w' := by
  go_enter Try.func5, Try.ntmps5
  go_wp2_with fail
  go_fit (told_c1 _)
  rintro e w1 ⟨rfl, hb1⟩
  have HB1 := Lib.hid hb1
  clear hb1
  go_wp2_with fail
  go_fit (told_c2 (w1.alloc (.cells #[.string ⟨#[71, 69, 84]⟩, .int .i64 2, .int .i64 2, .bool false, .int .i64 1, .int .i64 1, .int .i64 1] 27)) (by go_simp))
  rintro e w2 ⟨rfl, hb2⟩
  have HB2 := Lib.hid (hb2.mono (by have := HB1.out.size; go_simp; omega) |> (((HB1.out.alloc HB1.out.size _)).trans ·))
  clear hb2 HB1
  go_wp2_with fail
  go_fit (told_c3 w2 rfl)
  rintro e w3 ⟨rfl, hb3⟩
  have HB3 := Lib.hid (HB2.out.trans (hb3.mono HB2.out.size))
  clear hb3 HB2
  go_wp2_with fail
  go_fit (told_c4 w3)
  rintro e w4 ⟨rfl, hb4⟩
  have HB4 := Lib.hid (HB3.out.trans (hb4.mono HB3.out.size))
  clear hb4 HB3
  go_wp2_with fail
  go_fit (told_c5 w4 rfl)
  rintro e w5 ⟨p, c, rfl, hr5, hb5⟩
  have HB5 := Lib.hid (HB4.out.trans (hb5.mono HB4.out.size))
  have HR5 := Lib.hid hr5
  clear hb5 HB4 hr5
  go_wp2_with fail
  go_fit (told_c6 w5 rfl HR5.out)
  rintro e w6 ⟨rfl, hb6⟩
  have HB6 := Lib.hid (HB5.out.trans (hb6.mono HB5.out.size))
  clear hb6 HB5
  go_wp2_with fail
  go_ret
  exact ⟨rfl, HB6.out⟩
end Go.Proofs.Ytecpkoigjnpkfaa
