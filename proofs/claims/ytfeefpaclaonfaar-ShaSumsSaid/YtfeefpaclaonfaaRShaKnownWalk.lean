/- Layer 22's told, and the walk of the law ShaKnown. -/
import Derived.Test.YtfeefpaclaonfaaRShaSum
import Derived.Test.YtfeefpaclaonfaaRShaKnownPlain
set_option linter.unusedSimpArgs false
set_option linter.unusedVariables false
namespace Go.Proofs.YtfeefpaclaonfaaR
open Go.RowKit Go.BigFrame Sha Wire

set_option maxRecDepth 20000 in
set_option maxHeartbeats 1000000 in
theorem told22_any (w : World) :
    Calls Try.prog 25 #[] w fun e w' => e = .returned (.bool true) ∧ Below w.heap.size w w' := by
  go_enter Try.func25, Try.ntmps25
  go_wp2_with fail
  have h0 := sum_any [] w (by simp)
  rw [known0] at h0
  go_fit h0
  rintro e w1 ⟨rfl, hb1⟩
  go_wp2_with fail
  go_ret
  exact ⟨rfl, hb1⟩

def txt0 : ByteArray := ⟨#[]⟩
def hsh0 : ByteArray := ⟨#[101, 51, 98, 48, 99, 52, 52, 50, 57, 56, 102, 99, 49, 99, 49, 52, 57, 97, 102, 98, 102, 52, 99, 56, 57, 57, 54, 102, 98, 57, 50, 52, 50, 55, 97, 101, 52, 49, 101, 52, 54, 52, 57, 98, 57, 51, 52, 99, 97, 52, 57, 53, 57, 57, 49, 98, 55, 56, 53, 50, 98, 56, 53, 53]⟩
def txt1 : ByteArray := ⟨#[97, 98, 99]⟩
def hsh1 : ByteArray := ⟨#[98, 97, 55, 56, 49, 54, 98, 102, 56, 102, 48, 49, 99, 102, 101, 97, 52, 49, 52, 49, 52, 48, 100, 101, 53, 100, 97, 101, 50, 50, 50, 51, 98, 48, 48, 51, 54, 49, 97, 51, 57, 54, 49, 55, 55, 97, 57, 99, 98, 52, 49, 48, 102, 102, 54, 49, 102, 50, 48, 48, 49, 53, 97, 100]⟩
def txt2 : ByteArray := ⟨#[97, 98, 99, 100, 98, 99, 100, 101, 99, 100, 101, 102, 100, 101, 102, 103, 101, 102, 103, 104, 102, 103, 104, 105, 103, 104, 105, 106, 104, 105, 106, 107, 105, 106, 107, 108, 106, 107, 108, 109, 107, 108, 109, 110, 108, 109, 110, 111, 109, 110, 111, 112, 110, 111, 112, 113]⟩
def hsh2 : ByteArray := ⟨#[50, 52, 56, 100, 54, 97, 54, 49, 100, 50, 48, 54, 51, 56, 98, 56, 101, 53, 99, 48, 50, 54, 57, 51, 48, 99, 51, 101, 54, 48, 51, 57, 97, 51, 51, 99, 101, 52, 53, 57, 54, 52, 102, 102, 50, 49, 54, 55, 102, 54, 101, 99, 101, 100, 100, 52, 49, 57, 100, 98, 48, 54, 99, 49]⟩
theorem sumk0 (u : World) : Calls Try.prog 26 #[.string txt0] u fun e w' => e = .returned (.string hsh0) ∧ Below u.heap.size u w' := by
  have h := sum_any [] u (by simp)
  rw [known0] at h
  exact h
theorem sumk1 (u : World) : Calls Try.prog 26 #[.string txt1] u fun e w' => e = .returned (.string hsh1) ∧ Below u.heap.size u w' := by
  have h := sum_any [97, 98, 99] u (by simp)
  rw [known1] at h
  exact h
theorem sumk2 (u : World) : Calls Try.prog 26 #[.string txt2] u fun e w' => e = .returned (.string hsh2) ∧ Below u.heap.size u w' := by
  have h := sum_any [97, 98, 99, 100, 98, 99, 100, 101, 99, 100, 101, 102, 100, 101, 102, 103, 101, 102, 103, 104, 102, 103, 104, 105, 103, 104, 105, 106, 104, 105, 106, 107, 105, 106, 107, 108, 106, 107, 108, 109, 107, 108, 109, 110, 108, 109, 110, 111, 109, 110, 111, 112, 110, 111, 112, 113] u (by simp)
  rw [known2] at h
  exact h
theorem tmod3 (a : Int) : -2 ≤ a.tmod 3 ∧ a.tmod 3 ≤ 2 := by
  rcases Int.le_total 0 a with h | h
  · rw [Int.tmod_eq_emod_of_nonneg h]; omega
  · have e : a.tmod 3 = -((-a).tmod 3) := by rw [Int.neg_tmod, Int.neg_neg]
    rw [e, Int.tmod_eq_emod_of_nonneg (by omega)]; omega
set_option maxRecDepth 20000 in
set_option maxHeartbeats 1000000 in
theorem shaKnown_walk (a : Int) (w : World) (h64 : -9223372036854775808 ≤ a ∧ a ≤ 9223372036854775807) :
    Calls Try.prog 13 #[.int .i64 a] w fun e w' => e = .returned (.bool true) ∧ Below w.heap.size w w' := by
  obtain ⟨t, ht, ht1, ht2⟩ : ∃ t : Int, a.tmod 3 = t ∧ -2 ≤ t ∧ t ≤ 2 := ⟨_, rfl, (tmod3 a).1, (tmod3 a).2⟩
  obtain ⟨h1, h2⟩ := h64
  obtain ⟨m, hm⟩ : ∃ m, (t + 3) % 3 = m := ⟨_, rfl⟩
  have hm3 : m = 0 ∨ m = 1 ∨ m = 2 := by omega
  rcases hm3 with rfl | rfl | rfl
  · -- text 0
    go_enter Try.func13, Try.ntmps13
    go_wp2_with fail
    obtain ⟨wq, hwq⟩ : ∃ v, v = ((w.alloc (.cells #[.string txt0, .string txt1, .string txt2] 9)).alloc (.cells #[.string hsh0, .string hsh1, .string hsh2] 9)) := ⟨_, rfl⟩
    have c0 : wq.cell? ⟨w.heap.size, 0, none⟩ = some (.string txt0) := by rw [hwq, cell_of_row _ _ _ _ _ _ (heap_alloc2_old _ _ _)]; rfl
    have c1 : wq.cell? ⟨w.heap.size + 1, 0, none⟩ = some (.string hsh0) := by rw [hwq, cell_of_row _ _ _ _ _ _ (heap_alloc2_new _ _ _)]; rfl
    have qb : Below w.heap.size w wq := by rw [hwq]; exact ((Below.refl _ _).alloc (Nat.le_refl _) _).alloc (by simp) _
    change (Code.region _ _ _).wp _ _ _ ((w.alloc (.cells #[.string txt0, .string txt1, .string txt2] 9)).alloc (.cells #[.string hsh0, .string hsh1, .string hsh2] 9))
    rw [← hwq, hm]
    clear hwq
    have hkeep : ∀ u, Below wq.heap.size wq u → Below wq.heap.size wq u ∧ u.cell? ⟨w.heap.size, 0, none⟩ = some (.string txt0) ∧ u.cell? ⟨w.heap.size + 1, 0, none⟩ = some (.string hsh0) := fun u hu => ⟨hu, by rw [hu.cell (p := ⟨w.heap.size, 0, none⟩) (block_lt_of_cell c0)]; exact c0, by rw [hu.cell (p := ⟨w.heap.size + 1, 0, none⟩) (block_lt_of_cell c1)]; exact c1⟩
    have HK := Lib.hid hkeep
    clear hkeep
    go_region_held3 (fun u => Below wq.heap.size wq u ∧ u.cell? ⟨w.heap.size, 0, none⟩ = some (.string txt0) ∧ u.cell? ⟨w.heap.size + 1, 0, none⟩ = some (.string hsh0)) ((refine HK.out _ ?_; first | exact hbs | exact hbt | exact (Below.refl _ _).drew))
      (first
        | ((go_at_call 25; refine (told22_any _).mono ?_; rintro e w2 ⟨rfl, hb⟩; have hbt : Below wq.heap.size wq w2 := ⟨hb.os, hb.tape, hb.output, hb.size, hb.block⟩))
        | ((go_at_call 26; refine (sumk0 _).mono ?_; rintro e w3 ⟨rfl, hb⟩; have hbs : Below wq.heap.size wq w3 := grew hbt hb)))
    go_wp2_with fail
    go_ret
    exact ⟨rfl, qb.trans (hbs.mono qb.size)⟩
  · -- text 1
    go_enter Try.func13, Try.ntmps13
    go_wp2_with fail
    obtain ⟨wq, hwq⟩ : ∃ v, v = ((w.alloc (.cells #[.string txt0, .string txt1, .string txt2] 9)).alloc (.cells #[.string hsh0, .string hsh1, .string hsh2] 9)) := ⟨_, rfl⟩
    have c0 : wq.cell? ⟨w.heap.size, 1, none⟩ = some (.string txt1) := by rw [hwq, cell_of_row _ _ _ _ _ _ (heap_alloc2_old _ _ _)]; rfl
    have c1 : wq.cell? ⟨w.heap.size + 1, 1, none⟩ = some (.string hsh1) := by rw [hwq, cell_of_row _ _ _ _ _ _ (heap_alloc2_new _ _ _)]; rfl
    have qb : Below w.heap.size w wq := by rw [hwq]; exact ((Below.refl _ _).alloc (Nat.le_refl _) _).alloc (by simp) _
    change (Code.region _ _ _).wp _ _ _ ((w.alloc (.cells #[.string txt0, .string txt1, .string txt2] 9)).alloc (.cells #[.string hsh0, .string hsh1, .string hsh2] 9))
    rw [← hwq, hm]
    clear hwq
    have hkeep : ∀ u, Below wq.heap.size wq u → Below wq.heap.size wq u ∧ u.cell? ⟨w.heap.size, 1, none⟩ = some (.string txt1) ∧ u.cell? ⟨w.heap.size + 1, 1, none⟩ = some (.string hsh1) := fun u hu => ⟨hu, by rw [hu.cell (p := ⟨w.heap.size, 1, none⟩) (block_lt_of_cell c0)]; exact c0, by rw [hu.cell (p := ⟨w.heap.size + 1, 1, none⟩) (block_lt_of_cell c1)]; exact c1⟩
    have HK := Lib.hid hkeep
    clear hkeep
    go_region_held3 (fun u => Below wq.heap.size wq u ∧ u.cell? ⟨w.heap.size, 1, none⟩ = some (.string txt1) ∧ u.cell? ⟨w.heap.size + 1, 1, none⟩ = some (.string hsh1)) ((refine HK.out _ ?_; first | exact hbs | exact hbt | exact (Below.refl _ _).drew))
      (first
        | ((go_at_call 25; refine (told22_any _).mono ?_; rintro e w2 ⟨rfl, hb⟩; have hbt : Below wq.heap.size wq w2 := ⟨hb.os, hb.tape, hb.output, hb.size, hb.block⟩))
        | ((go_at_call 26; refine (sumk1 _).mono ?_; rintro e w3 ⟨rfl, hb⟩; have hbs : Below wq.heap.size wq w3 := grew hbt hb)))
    go_wp2_with fail
    go_ret
    exact ⟨rfl, qb.trans (hbs.mono qb.size)⟩
  · -- text 2
    go_enter Try.func13, Try.ntmps13
    go_wp2_with fail
    obtain ⟨wq, hwq⟩ : ∃ v, v = ((w.alloc (.cells #[.string txt0, .string txt1, .string txt2] 9)).alloc (.cells #[.string hsh0, .string hsh1, .string hsh2] 9)) := ⟨_, rfl⟩
    have c0 : wq.cell? ⟨w.heap.size, 2, none⟩ = some (.string txt2) := by rw [hwq, cell_of_row _ _ _ _ _ _ (heap_alloc2_old _ _ _)]; rfl
    have c1 : wq.cell? ⟨w.heap.size + 1, 2, none⟩ = some (.string hsh2) := by rw [hwq, cell_of_row _ _ _ _ _ _ (heap_alloc2_new _ _ _)]; rfl
    have qb : Below w.heap.size w wq := by rw [hwq]; exact ((Below.refl _ _).alloc (Nat.le_refl _) _).alloc (by simp) _
    change (Code.region _ _ _).wp _ _ _ ((w.alloc (.cells #[.string txt0, .string txt1, .string txt2] 9)).alloc (.cells #[.string hsh0, .string hsh1, .string hsh2] 9))
    rw [← hwq, hm]
    clear hwq
    have hkeep : ∀ u, Below wq.heap.size wq u → Below wq.heap.size wq u ∧ u.cell? ⟨w.heap.size, 2, none⟩ = some (.string txt2) ∧ u.cell? ⟨w.heap.size + 1, 2, none⟩ = some (.string hsh2) := fun u hu => ⟨hu, by rw [hu.cell (p := ⟨w.heap.size, 2, none⟩) (block_lt_of_cell c0)]; exact c0, by rw [hu.cell (p := ⟨w.heap.size + 1, 2, none⟩) (block_lt_of_cell c1)]; exact c1⟩
    have HK := Lib.hid hkeep
    clear hkeep
    go_region_held3 (fun u => Below wq.heap.size wq u ∧ u.cell? ⟨w.heap.size, 2, none⟩ = some (.string txt2) ∧ u.cell? ⟨w.heap.size + 1, 2, none⟩ = some (.string hsh2)) ((refine HK.out _ ?_; first | exact hbs | exact hbt | exact (Below.refl _ _).drew))
      (first
        | ((go_at_call 25; refine (told22_any _).mono ?_; rintro e w2 ⟨rfl, hb⟩; have hbt : Below wq.heap.size wq w2 := ⟨hb.os, hb.tape, hb.output, hb.size, hb.block⟩))
        | ((go_at_call 26; refine (sumk2 _).mono ?_; rintro e w3 ⟨rfl, hb⟩; have hbs : Below wq.heap.size wq w3 := grew hbt hb)))
    go_wp2_with fail
    go_ret
    exact ⟨rfl, qb.trans (hbs.mono qb.size)⟩
end Go.Proofs.YtfeefpaclaonfaaR
