/- The walks over value.May, of values that are none, of texts, of lists without elements. -/
import Derived.Test.YtblmnaejkdkndaaValSize
import Derived.Test.YtblmnaejkdkndaaValRise
set_option linter.unusedSimpArgs false
set_option linter.unusedVariables false
namespace Go.Proofs.Ytblmnaejkdkndaa
open Go.RowKit

theorem box_cells {w w1 : World} {C : Array Value} {t : TypeId} (hb : Below (w.alloc (.cells C t)).heap.size (w.alloc (.cells C t)) w1) (i : Nat) : w1.cell? ⟨w.heap.size, i, none⟩ = C[i]? := by
  rw [hb.cell (p := ⟨w.heap.size, i, none⟩) (by go_simp)]
  exact cell_of_row _ _ _ _ _ _ (heap_alloc_new _ _)
theorem box_below {w w1 : World} {o : Obj} (hb : Below (w.alloc o).heap.size (w.alloc o) w1) : Below w.heap.size w w1 :=
  ((Below.refl _ _).alloc (Nat.le_refl _) o).trans (hb.mono (by go_simp))
theorem cell_alloc {w : World} {a : Addr} {v : Value} (h : w.cell? a = some v) (o : Obj) : (w.alloc o).cell? a = some v :=
  cell_below ((Below.refl _ _).alloc (Nat.le_refl _) o) h
set_option maxHeartbeats 1000000 in
set_option maxRecDepth 20000 in
theorem may_zero (w : World) :
    Calls Try.prog 7 #[.agg (valC 0 ⟨#[]⟩ (.slice none 0 0) (.slice none 0 0) (.slice none 0 0) (.slice none 0 0))] w fun e w' => e = .returned (.bool false) ∧ Below w.heap.size w w' := by
  go_enter Try.func7, Try.ntmps7
  go_wp2_with fail
  go_fit (count_any 0 ⟨#[]⟩ none none none none 0 0 0 0 0 0 0 0 _)
  rintro e w1 ⟨rfl, hb1⟩
  have k0 := box_cells hb1 0
  simp at k0
  have k0a := cell_alloc k0
  have HB := Lib.hid (box_below hb1)
  clear hb1
  go_wp2_with fail
  go_ret
  exact ⟨rfl, HB.out.alloc HB.out.size _⟩
set_option maxHeartbeats 1000000 in
set_option maxRecDepth 20000 in
theorem may_none (w : World) :
    Calls Try.prog 7 #[.agg (valC 2 ⟨#[]⟩ (.slice none 0 0) (.slice none 0 0) (.slice none 0 0) (.slice none 0 0))] w fun e w' => e = .returned (.bool false) ∧ Below w.heap.size w w' := by
  go_enter Try.func7, Try.ntmps7
  go_wp2_with fail
  go_fit (count_any 2 ⟨#[]⟩ none none none none 0 0 0 0 0 0 0 0 _)
  rintro e w1 ⟨rfl, hb1⟩
  have k0 := box_cells hb1 0
  have k1 := box_cells hb1 1
  simp at k0 k1
  have k0a := cell_alloc k0
  have k1a := cell_alloc k1
  have HB := Lib.hid (box_below hb1)
  clear hb1
  go_wp2_with fail
  go_ret
  exact ⟨rfl, HB.out.alloc HB.out.size _⟩
set_option maxHeartbeats 1000000 in
set_option maxRecDepth 20000 in
theorem may_text (l : List UInt8) (hl : l.length ≤ 1048576) (b : Bool) (hb : b = true ↔ l.length ≤ 4096) (w : World) :
    Calls Try.prog 7 #[.agg (valC 1 (str l) (.slice none 0 0) (.slice none 0 0) (.slice none 0 0) (.slice none 0 0))] w fun e w' => e = .returned (.bool b) ∧ Below w.heap.size w w' := by
  have hd : decide ((l.length : Int) ≤ 4096) = b := by
    by_cases h : l.length ≤ 4096
    · rw [hb.2 h, decide_eq_true_iff]; omega
    · cases b
      · rw [decide_eq_false_iff_not]; omega
      · exact absurd (hb.1 rfl) h
  clear hb hl
  go_enter Try.func7, Try.ntmps7
  go_wp2_with fail
  go_fit (count_any 1 (str l) none none none none 0 0 0 0 0 0 0 0 _)
  rintro e w1 ⟨rfl, hb1⟩
  have k0 := box_cells hb1 0
  have k1 := box_cells hb1 1
  simp at k0 k1
  have k0a := cell_alloc k0
  have k1a := cell_alloc k1
  have HB := Lib.hid (box_below hb1)
  clear hb1
  go_wp2_with fail
  go_ret
  exact ⟨by first | exact hd | (rw [← hd]; simp), HB.out.alloc HB.out.size _⟩
end Go.Proofs.Ytblmnaejkdkndaa
