/- The walks over value.Put, of one text and of nothing. -/
import Derived.Test.YtblmnaejkdkndaaValMay0
import Derived.Test.YtblmnaejkdkndaaWireWalks
import Derived.Deep.DeepCutAuto
import Derived.Deep.CutBlock
import Derived.Lib.QuietBelow
set_option linter.unusedSimpArgs false
set_option linter.unusedVariables false
namespace Go.Proofs.Ytblmnaejkdkndaa
open Go.RowKit Wire

set_option maxHeartbeats 1000000 in
set_option maxRecDepth 20000 in
theorem putText_any (base : Nat) (v : Value) (n : Nat) (xs : List Value) (l : List UInt8) (w : World) (ho : OwnS w base 5 1 v n xs) (hl : l.length ≤ 4096) (hn : n ≤ 1048576) (hb : base ≤ w.heap.size) :
    Calls Try.prog 39 #[v, .string (str l)] w (Puts base 5 v (n + 4 + l.length) (xs ++ by8 (beB l.length 4) ++ by8 l) w) := by
  have HF := Lib.hid (four_any base v n xs l.length w ho (by omega) (by omega) hb)
  have HL := Lib.hid hl
  clear ho hl
  go_enter Try.func39, Try.ntmps39
  go_wp2_with fail
  go_fit HF.out
  rintro e w1 ⟨v1, rfl, ho1, ha1⟩
  have H1 := Lib.hid ho1
  have H2 := Lib.hid ha1
  have hb1 : base ≤ w1.heap.size := Nat.le_trans hb ha1.by_.size
  clear ho1 ha1
  go_wp2_with ((with_reducible refine L_appStr slB Try.underlying9 H1.out l ?_ ?_ ?_ ?_ ?_); (focus rfl); (focus rfl); (focus rfl); (focus exact ⟨room1 (by have := HL.out; omega), by have := HL.out; omega, hb1⟩); intro v4 w4 ho4 hg4 hk4 hn4; clear hn4; have HO4 := Lib.hid ho4; have HG4 := Lib.hid hg4; clear ho4 hg4 hk4; simp only [Act.put, List.setIfInBounds_toArray, List.set_cons_zero, List.set_cons_succ])
  go_ret
  exact ⟨v4, rfl, HO4.out, H2.out.trans HG4.out⟩
/-- what Put writes of the text "a" -/
def putA : List UInt8 := [1, 0, 0, 0, 1, 97]
set_option maxHeartbeats 1000000 in
set_option maxRecDepth 20000 in
theorem put_zero (w : World) :
    Calls Try.prog 21 #[.agg (valC 0 ⟨#[]⟩ (.slice none 0 0) (.slice none 0 0) (.slice none 0 0) (.slice none 0 0))] w fun e w' => e = .returned (.tuple #[.slice none 0 0, .int .i64 24]) ∧ Below w.heap.size w w' := by
  go_enter Try.func21, Try.ntmps21
  go_wp2_with fail
  go_fit (may_zero _)
  rintro e w1 ⟨rfl, hb1⟩
  have HB := Lib.hid (box_below hb1)
  clear hb1
  go_wp2_with fail
  go_ret2
  exact ⟨rfl, HB.out⟩
set_option maxHeartbeats 1000000 in
set_option maxRecDepth 20000 in
theorem put_a (w : World) :
    Calls Try.prog 21 #[.agg (valC 1 (str [97]) (.slice none 0 0) (.slice none 0 0) (.slice none 0 0) (.slice none 0 0))] w fun e w' => ∃ q c, e = .returned (.tuple #[.slice q 6 c, .int .i64 0]) ∧ Rd8 w' q putA ∧ 6 ≤ c ∧ Below w.heap.size w w' := by
  go_enter Try.func21, Try.ntmps21
  go_wp2_with fail
  go_fit (may_text [97] (by simp) true (by simp) _)
  rintro e w1 ⟨rfl, hb1⟩
  have k0 := box_cells hb1 0
  have k1 := box_cells hb1 1
  simp at k0 k1
  have k0a := cell_alloc k0
  have k1a := cell_alloc k1
  have HB := Lib.hid (box_below hb1)
  clear hb1
  go_wp2_with fail
  have ho := OwnS.new (w := w1) (base := w1.heap.size) (e := 5) (sz := 1) (n := 1) #[Value.int .u8 1] 1 (0, 0) (Nat.le_refl _) (.inl rfl) (by omega) (by unfold maxLen; omega) rfl
  go_fit (putText_any w1.heap.size _ 1 _ [97] _ ho (by simp) (by omega) (by go_simp))
  rintro e w2 ⟨v2, rfl, ho2, ha2⟩
  obtain ⟨q, c, rfl, _⟩ := ho2.shape
  have ht := OwnS.txt (l := putA) (n := 6) ho2
  have hb2 : Below w1.heap.size w1 w2 := ha2.below ((Below.refl _ _).alloc (Nat.le_refl _) _) (by go_simp) (fun k hk => by simp [Value.ownBlock] at hk; omega)
  have HT := Lib.hid ht
  have HB2 := Lib.hid hb2
  clear ho ho2 ha2 ht hb2 k0 k1 k0a k1a
  go_wp2_with fail
  go_ret2
  exact ⟨q, c, rfl, HT.out.2.1, HT.out.2.2.1, HB.out.trans (HB2.out.mono HB.out.size)⟩
end Go.Proofs.Ytblmnaejkdkndaa
