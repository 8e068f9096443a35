/- The walks over an effect that takes a key away: whether it may be, and its bytes. -/
import Derived.Test.YtblmnaejkdkndaaEffZero
import Derived.Test.YtblmnaejkdkndaaWireWalks
import Derived.Deep.RegionHeld3
import Derived.Laws.EntriesVeiled
set_option linter.unusedSimpArgs false
set_option linter.unusedVariables false
namespace Go.Proofs.Ytblmnaejkdkndaa
open Go.RowKit Wire

/-- the effect that takes the key k away -/
def effV (k : List UInt8) : Value := .agg #[.string (str k), .int .i64 0, .string ⟨#[]⟩, .slice none 0 0, .slice none 0 0, .slice none 0 0, .slice none 0 0, .int .i64 0]
set_option maxHeartbeats 1000000 in
set_option maxRecDepth 20000 in
theorem takes_any (k : List UInt8) (w : World) : Calls Try.prog 68 #[effV k] w fun e w' => e = .returned (.bool true) ∧ w.alloc (.cells #[.string (str k), .int .i64 0, .string ⟨#[]⟩, .slice none 0 0, .slice none 0 0, .slice none 0 0, .slice none 0 0, .int .i64 0] 55) = w' := by
  unfold effV
  go_enter Try.func68, Try.ntmps68
  go_wp2_with fail
  go_ret
  exact ⟨rfl, rfl⟩
set_option maxHeartbeats 1000000 in
set_option maxRecDepth 20000 in
theorem eight_zero (w : World) : Calls Try.prog 41 #[.slice none 0 0, .int .i64 0] w fun e w' => ∃ v, e = .returned v ∧ OwnS w' w.heap.size 5 1 v 8 (by8 (beB 0 8)) ∧ Below w.heap.size w w' := by
  go_enter Try.func41, Try.ntmps41
  go_wp2_with fail
  go_fit (put8 w.heap.size (.slice none 0 0) 0 [] 0 w OwnS.none (by omega) (by omega) (Nat.le_refl _))
  rintro e w1 ⟨v1, rfl, ho1, ha1⟩
  have hb1 := ha1.below (Below.refl w.heap.size w) (Nat.le_refl _) (by simp [Value.ownBlock])
  simp only [Nat.zero_add, List.nil_append] at ho1
  have H1 := Lib.hid ho1
  clear ho1 ha1
  go_wp2_with fail
  go_ret
  exact ⟨v1, rfl, H1.out, hb1⟩
set_option maxHeartbeats 1000000 in
set_option maxRecDepth 20000 in
theorem emay_any (k : List UInt8) (hk1 : 1 ≤ k.length) (hk2 : k.length ≤ 16) (w : World) : Calls Try.prog 67 #[effV k] w fun e w' => e = .returned (.bool true) ∧ Below w.heap.size w w' := by
  have h1 : (1 : Int) ≤ (k.length : Int) := by omega
  have h2 : (k.length : Int) ≤ 512 := by omega
  unfold effV
  go_enter Try.func67, Try.ntmps67
  go_wp2_with fail
  go_fit (takes_any k _)
  rintro e w1 ⟨rfl, rfl⟩
  go_wp2_with fail
  go_fit (same_zero _)
  rintro e w1 ⟨rfl, hb1⟩
  go_wp2_with fail
  go_ret
  refine ⟨rfl, ?_⟩
  refine Below.trans ?_ (hb1.mono (by go_simp; omega))
  repeat (first | exact Below.refl _ _ | refine grewA ?_ _ | refine Below.drew ?_ | refine grew ?_ (by assumption))
set_option maxHeartbeats 2000000 in
set_option maxRecDepth 20000 in
theorem eput_any (k : List UInt8) (hk1 : 1 ≤ k.length) (hk2 : k.length ≤ 16) (w : World) : Calls Try.prog 56 #[effV k] w fun e w' => ∃ v, e = .returned (.tuple #[v, .int .i64 0]) ∧ OwnS w' w.heap.size 5 1 v (12 + k.length) (by8 (beB 0 8 ++ beB k.length 4 ++ k)) ∧ Below w.heap.size w w' := by
  have h1 : (1 : Int) ≤ (k.length : Int) := by omega
  unfold effV
  go_enter Try.func56, Try.ntmps56
  go_wp2_with fail
  go_fit (emay_any k hk1 hk2 _)
  rintro e w1 ⟨rfl, hb1⟩
  obtain ⟨w0, hw0⟩ : ∃ v, v = w.alloc (.cells #[.string (str k), .int .i64 0, .string ⟨#[]⟩, .slice none 0 0, .slice none 0 0, .slice none 0 0, .slice none 0 0, .int .i64 0] 55) := ⟨_, rfl⟩
  have hb0 : Below w.heap.size w w0 := by subst hw0; repeat (first | exact Below.refl _ _ | refine grewA ?_ _ | refine Below.drew ?_ | refine grew ?_ (by assumption))
  have hs0 : w0.heap.size = w.heap.size + 1 := by subst hw0; go_simp
  have hrow : w0.heap[w.heap.size]? = some (.cells #[.string (str k), .int .i64 0, .string ⟨#[]⟩, .slice none 0 0, .slice none 0 0, .slice none 0 0, .slice none 0 0, .int .i64 0] 55 (0, 0)) := by rw [hw0]; exact heap_alloc_new w _
  rw [← hw0] at hb1
  clear hw0
  have hk : ∀ u, Below w1.heap.size w1 u → u.cell? ⟨w.heap.size, 0, none⟩ = some (.string (str k)) ∧ u.cell? ⟨w.heap.size, 1, none⟩ = some (.int .i64 0) ∧ u.cell? ⟨w.heap.size, 7, none⟩ = some (.int .i64 0) := by
    intro u hu
    have hb := hb1.trans (hu.mono hb1.size)
    have hlt : w.heap.size < w0.heap.size := by omega
    refine ⟨?_, ?_, ?_⟩ <;> (rw [hb.cell hlt]; simp [World.cell?, hrow])
  have hA0 : ∀ u, Below w1.heap.size w1 u → u.cell? ⟨w.heap.size, 0, none⟩ = some (.string (str k)) ∧ u.cell? ⟨w.heap.size, 1, none⟩ = some (.int .i64 0) ∧ u.cell? ⟨w.heap.size, 2, none⟩ = some (.string ⟨#[]⟩) ∧ u.cell? ⟨w.heap.size, 3, none⟩ = some (.slice none 0 0) ∧ u.cell? ⟨w.heap.size, 4, none⟩ = some (.slice none 0 0) ∧ u.cell? ⟨w.heap.size, 5, none⟩ = some (.slice none 0 0) ∧ u.cell? ⟨w.heap.size, 6, none⟩ = some (.slice none 0 0) ∧ u.cell? ⟨w.heap.size, 7, none⟩ = some (.int .i64 0) := by
    intro u hu
    have hb := hb1.trans (hu.mono hb1.size)
    have hlt : w.heap.size < w0.heap.size := by omega
    refine ⟨?_, ?_, ?_, ?_, ?_, ?_, ?_, ?_⟩ <;> (rw [hb.cell hlt]; simp [World.cell?, hrow])
  have HA := Lib.hid hA0
  clear hA0
  have HK := Lib.hid hk
  clear hk
  have HB1 := Lib.hid (Below.trans hb0 (hb1.mono (by omega)))
  clear hb0 hb1 hrow
  go_upto_region 3 with (fail)
  go_region_held3 (fun u => u.cell? ⟨w.heap.size, 0, none⟩ = some (.string (str k)) ∧ u.cell? ⟨w.heap.size, 7, none⟩ = some (.int .i64 0)) ((first | exact ⟨(HK.out _ hk3).1, (HK.out _ hk3).2.2⟩ | exact ⟨(HK.out _ hk2).1, (HK.out _ hk2).2.2⟩ | exact ⟨(HK.out _ (Below.refl _ _).drew).1, (HK.out _ (Below.refl _ _).drew).2.2⟩ | exact ⟨(HK.out _ (Below.refl _ _)).1, (HK.out _ (Below.refl _ _)).2.2⟩))
      (first
      | (go_at_call 41; refine (eight_zero _).mono ?_; rintro e w2 ⟨v2, rfl, ho2, hq2⟩; have hk2 : Below w1.heap.size w1 w2 := Below.trans ((Below.refl w1.heap.size w1).drew) hq2; have HO2 := Lib.hid ho2; clear ho2 hq2)
      | (go_at_call 40; refine (four_any w1.heap.size v2 8 _ k.length w2 HO2.out (by omega) (by omega) hk2.size).mono ?_; rintro e w3 ⟨v3, rfl, ho3, ha3⟩; have hk3 : Below w1.heap.size w1 w3 := ha3.below hk2 hk2.size (fun j hj => (HO2.out.lt j hj).1); have HO3 := Lib.hid ho3; clear ho3 ha3))
  have q0 : w3.cell? ⟨w.heap.size, 0, none⟩ = some (.string (str k)) := (HK.out _ hk3).1
  clear hk2
  obtain ⟨p3, cap3, rfl, _, _⟩ := HO3.out.shape
  have hall : ∀ u, Below w1.heap.size w1 u → u.cell? ⟨w.heap.size, 0, none⟩ = some (.string (str k)) ∧ u.cell? ⟨w.heap.size, 1, none⟩ = some (.int .i64 0) ∧ u.cell? ⟨w.heap.size, 2, none⟩ = some (.string ⟨#[]⟩) ∧ u.cell? ⟨w.heap.size, 3, none⟩ = some (.slice none 0 0) ∧ u.cell? ⟨w.heap.size, 4, none⟩ = some (.slice none 0 0) ∧ u.cell? ⟨w.heap.size, 5, none⟩ = some (.slice none 0 0) ∧ u.cell? ⟨w.heap.size, 6, none⟩ = some (.slice none 0 0) ∧ u.cell? ⟨w.heap.size, 7, none⟩ = some (.int .i64 0) := HA.out
  have HALL := Lib.hid hall
  clear hall
  go_wp2_with ((with_reducible refine L_appStr slB Try.underlying9 HO3.out k ?_ ?_ ?_ ?_ ?_); (focus rfl); (focus rfl); (focus rfl); (focus exact ⟨room1 (by omega), by omega, hk3.size⟩); intro v4 w4 ho4 hg4 hk4 hn4; clear hn4; have hb4 : Below w1.heap.size w1 w4 := hg4.below hk3 hk3.size hk4; obtain ⟨c0, c1, c2, c3, c4, c5, c6, c7⟩ := HALL.out _ hb4; have HO4 := Lib.hid ho4; clear ho4 hg4 hk4; simp only [Act.put, List.setIfInBounds_toArray, List.set_cons_zero, List.set_cons_succ])
  go_fit (takes_any k _)
  rintro e w5 ⟨rfl, hw5⟩
  have hb5 : Below w1.heap.size w1 w5 := by subst hw5; exact hb4.alloc hb4.size _
  have h5 := HO4.out.alloc (.cells #[.string (str k), .int .i64 0, .string ⟨#[]⟩, .slice none 0 0, .slice none 0 0, .slice none 0 0, .slice none 0 0, .int .i64 0] 55)
  rw [hw5] at h5
  have HO5 := Lib.hid h5
  clear h5 hw5
  go_wp2_with fail
  go_ret2
  refine ⟨v4, rfl, ?_, HB1.out.trans (hb5.mono HB1.out.size)⟩
  have h := HO5.out.rebase (base' := w.heap.size) HB1.out.size
  rw [← by8_append, ← by8_append] at h
  exact h
end Go.Proofs.Ytblmnaejkdkndaa
