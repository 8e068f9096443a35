/- The walk over what the law's package tells of a few values. -/
import Derived.Test.YtblmnaejkdkndaaValGet2
set_option linter.unusedSimpArgs false
set_option linter.unusedVariables false
namespace Go.Proofs.Ytblmnaejkdkndaa
open Go.RowKit Wire

set_option maxRecDepth 20000 in
theorem name_hash (w : World) : Calls Try.prog 24 #[.int .i64 3] w fun e w' => e = .returned (.string ⟨#[104, 97, 115, 104]⟩) ∧ w = w' := by
  go_enter Try.func24, Try.ntmps24
  go_wp2_with fail
  go_ret
  exact ⟨rfl, rfl⟩
set_option maxRecDepth 20000 in
theorem eqf_nil (f : Value) (w : World) : Calls Try.prog 48 #[.slice none 0 0, .slice none 0 0, f] w fun e w' => e = .returned (.bool true) ∧ w = w' := by
  go_enter Try.func48, Try.ntmps48
  go_wp2_with fail
  go_loop [17] (fun i => i = .int .i64 0) (fun _ => 0)
  case atStart => rfl
  case round =>
    obtain rfl := hrel
    go_wp2_with fail
    go_ret
    exact ⟨rfl, rfl⟩
set_option maxRecDepth 20000 in
theorem eq_nil_s (w : World) : Calls Try.prog 50 #[.slice none 0 0, .slice none 0 0] w fun e w' => e = .returned (.bool true) ∧ w = w' := by
  go_enter Try.func50, Try.ntmps50
  go_wp2_with fail
  go_loop [13] (fun i => i = .int .i64 0) (fun _ => 0)
  case atStart => rfl
  case round =>
    obtain rfl := hrel
    go_wp2_with fail
    go_ret
    exact ⟨rfl, rfl⟩
set_option maxRecDepth 20000 in
theorem eq_nil_f (w : World) : Calls Try.prog 51 #[.slice none 0 0, .slice none 0 0] w fun e w' => e = .returned (.bool true) ∧ w = w' := by
  go_enter Try.func51, Try.ntmps51
  go_wp2_with fail
  go_loop [13] (fun i => i = .int .i64 0) (fun _ => 0)
  case atStart => rfl
  case round =>
    obtain rfl := hrel
    go_wp2_with fail
    go_ret
    exact ⟨rfl, rfl⟩
set_option maxRecDepth 20000 in
theorem eq_nil_c (w : World) : Calls Try.prog 52 #[.slice none 0 0, .slice none 0 0] w fun e w' => e = .returned (.bool true) ∧ w = w' := by
  go_enter Try.func52, Try.ntmps52
  go_wp2_with fail
  go_loop [13] (fun i => i = .int .i64 0) (fun _ => 0)
  case atStart => rfl
  case round =>
    obtain rfl := hrel
    go_wp2_with fail
    go_ret
    exact ⟨rfl, rfl⟩
abbrev valA : Array Value := valC 1 (str [97]) (.slice none 0 0) (.slice none 0 0) (.slice none 0 0) (.slice none 0 0)
set_option maxHeartbeats 1000000 in
set_option maxRecDepth 20000 in
theorem same_a (w : World) : Calls Try.prog 23 #[.agg valA, .agg valA] w fun e w' => e = .returned (.bool true) ∧ Below w.heap.size w w' := by
  go_enter Try.func23, Try.ntmps23
  go_wp2_with fail
  go_fit (eqf_nil _ _)
  rintro e w1 ⟨rfl, rfl⟩
  go_wp2_with fail
  go_fit (eq_nil_s _)
  rintro e w1 ⟨rfl, rfl⟩
  go_wp2_with fail
  go_fit (eq_nil_f _)
  rintro e w1 ⟨rfl, rfl⟩
  go_wp2_with fail
  go_fit (eq_nil_c _)
  rintro e w1 ⟨rfl, rfl⟩
  go_wp2_with fail
  go_ret
  exact ⟨rfl, by repeat (first | exact Below.refl _ _ | refine grewA ?_ _ | refine Below.drew ?_ | refine grew ?_ (by assumption))⟩
set_option maxHeartbeats 2000000 in
set_option maxRecDepth 20000 in
theorem told9 (w : World) : Calls Try.prog 6 #[] w fun e w' => e = .returned (.bool true) ∧ Below w.heap.size w w' := by
  go_enter Try.func6, Try.ntmps6
  go_wp2_with fail
  go_fit (put_a _)
  rintro e w1 ⟨q, c, rfl, hq, hc, hb1⟩
  have kc := box_cells hb1
  have hbx := box_below hb1
  have HQ := Lib.hid hq
  have HB1 := Lib.hid hbx
  have HKC := Lib.hid kc
  clear hq hb1 hbx kc
  go_wp2_with fail
  go_fit (get_a q c w1 HQ.out hc)
  rintro e w2 ⟨rfl, hb2⟩
  have HB2 := Lib.hid hb2
  clear hb2
  go_wp2_with fail
  go_fit (get_none _)
  rintro e w3 ⟨rfl, hb3⟩
  have kd := box_cells hb3
  have hby := box_below hb3
  have HB3 := Lib.hid hby
  have HKD := Lib.hid kd
  clear hb3 hby kd
  go_upto_region 5 with (fail)
  obtain ⟨wd, hwd⟩ : ∃ v, v = w3.alloc (.cells (valC 0 ⟨#[]⟩ (.slice none 0 0) (.slice none 0 0) (.slice none 0 0) (.slice none 0 0)) 29) := ⟨_, rfl⟩
  rw [← hwd]
  have hbd : Below w3.heap.size w3 wd := by rw [hwd]; exact (Below.refl _ _).alloc (Nat.le_refl _) _
  have hb1d : Below w1.heap.size w1 wd := (HB2.out.trans (HB3.out.mono HB2.out.size)).trans (hbd.mono (Nat.le_trans HB2.out.size HB3.out.size))
  have hwd0 : Below w.heap.size w wd := HB1.out.trans (hb1d.mono HB1.out.size)
  obtain ⟨vb, hvb⟩ : ∃ vb, vb = w2.heap.size := ⟨_, rfl⟩
  obtain ⟨ub, hub⟩ : ∃ ub, ub = w.heap.size := ⟨_, rfl⟩
  rw [← hvb, ← hub]
  have K1 : ∀ u, Below wd.heap.size wd u → ∀ i v, valA[i]? = some v → u.cell? ⟨ub, i, none⟩ = some v := by
    intro u hu i v hv
    refine cell_below hu (cell_below hb1d ?_)
    rw [hub, HKC.out i]; exact hv
  have K2 : ∀ u, Below wd.heap.size wd u → ∀ i v, valA[i]? = some v → u.cell? ⟨vb, i, none⟩ = some v := by
    intro u hu i v hv
    refine cell_below hu (cell_below hbd ?_)
    rw [hvb, HKD.out i]; exact hv
  have hk : ∀ u, Below wd.heap.size wd u → (u.cell? ⟨ub, 0, none⟩ = some (.int .i64 1) ∧ u.cell? ⟨ub, 1, none⟩ = some (.string (str [97])) ∧ u.cell? ⟨ub, 2, none⟩ = some (.slice none 0 0) ∧ u.cell? ⟨ub, 3, none⟩ = some (.slice none 0 0) ∧ u.cell? ⟨ub, 4, none⟩ = some (.slice none 0 0) ∧ u.cell? ⟨ub, 5, none⟩ = some (.slice none 0 0)) ∧ (u.cell? ⟨vb, 0, none⟩ = some (.int .i64 1) ∧ u.cell? ⟨vb, 1, none⟩ = some (.string (str [97])) ∧ u.cell? ⟨vb, 2, none⟩ = some (.slice none 0 0) ∧ u.cell? ⟨vb, 3, none⟩ = some (.slice none 0 0) ∧ u.cell? ⟨vb, 4, none⟩ = some (.slice none 0 0) ∧ u.cell? ⟨vb, 5, none⟩ = some (.slice none 0 0)) :=
    fun u hu => ⟨⟨K1 u hu 0 _ rfl, K1 u hu 1 _ rfl, K1 u hu 2 _ rfl, K1 u hu 3 _ rfl, K1 u hu 4 _ rfl, K1 u hu 5 _ rfl⟩, ⟨K2 u hu 0 _ rfl, K2 u hu 1 _ rfl, K2 u hu 2 _ rfl, K2 u hu 3 _ rfl, K2 u hu 4 _ rfl, K2 u hu 5 _ rfl⟩⟩
  have HK := Lib.hid hk
  have HBD := Lib.hid hwd0
  have HQD := Lib.hid (HQ.out.below hb1d)
  clear hwd hbd hb1d hwd0 hvb hub K1 K2 hk
  obtain ⟨⟨p0, p1, p2, p3, p4, p5⟩, ⟨r0, r1, r2, r3, r4, r5⟩⟩ := HK.out wd (Below.refl _ _)
  go_wp2_with (((with_reducible refine L_b2s slB isB isS HQD.out ?_ ?_ ?_); (focus rfl); (focus exact ⟨_, _, rfl, rfl⟩); simp only [Act.put, List.setIfInBounds_toArray, List.set_cons_zero, List.set_cons_succ]))
  go_fit (same_a _)
  rintro e w4 ⟨rfl, hb4⟩
  clear p0 p1 p2 p3 p4 p5 r0 r1 r2 r3 r4 r5
  obtain ⟨⟨p0, p1, p2, p3, p4, p5⟩, ⟨r0, r1, r2, r3, r4, r5⟩⟩ := HK.out w4 hb4
  have HB4 := Lib.hid hb4
  clear hb4
  go_wp2_with fail
  go_fit (size_text [97] (by simp) _)
  rintro e w5 ⟨rfl, hb5⟩
  have hb5' := HB4.out.trans (hb5.mono HB4.out.size)
  clear p0 p1 p2 p3 p4 p5 r0 r1 r2 r3 r4 r5
  obtain ⟨⟨p0, p1, p2, p3, p4, p5⟩, ⟨r0, r1, r2, r3, r4, r5⟩⟩ := HK.out w5 hb5'
  have HB5 := Lib.hid hb5'
  clear hb5 hb5'
  go_wp2_with fail
  go_fit (may_text [97] (by simp) true (by simp) _)
  rintro e w6 ⟨rfl, hb6⟩
  have hb6' := HB5.out.trans (hb6.mono HB5.out.size)
  clear p0 p1 p2 p3 p4 p5 r0 r1 r2 r3 r4 r5
  have HB6 := Lib.hid hb6'
  clear hb6 hb6'
  go_wp2_with fail
  go_fit (may_zero _)
  rintro e w7 ⟨rfl, hb7⟩
  have HB7 := Lib.hid (HB6.out.trans (hb7.mono HB6.out.size))
  clear hb7
  go_wp2_with fail
  go_fit (name_hash _)
  rintro e w8 ⟨rfl, rfl⟩
  go_wp2_with fail
  go_ret
  exact ⟨rfl, HBD.out.trans (HB7.out.mono HBD.out.size)⟩
end Go.Proofs.Ytblmnaejkdkndaa
