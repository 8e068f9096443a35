/- The walk over TableNobody. -/
import Derived.Test.YtadnabgnbhpijaaTabPut
set_option linter.unusedSimpArgs false
set_option linter.unusedVariables false
namespace Go.Proofs.Ytadnabgnbhpijaa
open Go.RowKit Go.Maps

/-- block tb is a table that reads as t -/
def TabA (S : Nat → Prop) (w : World) (tb : Nat) (t : Tab) : Prop := ∃ T, TabM S w tb T ∧ absT T = t
def TabSmall (t : Tab) : Prop := t.len ≤ 100000 ∧ (∀ L ∈ t.old, L.length ≤ 100000) ∧ ∀ L ∈ t.new, L.length ≤ 100000
theorem small_of {T : TabS} {t : Tab} (h : absT T = t) (hs : TabSmall t) : T.len ≤ 100000 ∧ ∀ s ∈ T.all, s.L.length ≤ 100000 := by
  subst h
  refine ⟨hs.1, fun s hm => ?_⟩
  rcases List.mem_append.1 hm with h | h
  · exact hs.2.1 _ (List.mem_map_of_mem h)
  · exact hs.2.2 _ (List.mem_map_of_mem h)
section
variable {B : Nat} {w : World} {tb : Nat} {t : Tab}
theorem TabA.below {S : Nat → Prop} {w' : World} (h : TabA S w tb t) (hb : Below w.heap.size w w') : TabA S w' tb t := by
  obtain ⟨T, hT, ht⟩ := h; exact ⟨T, hT.below hb, ht⟩
theorem TabTo.base {w' : World} {T : TabS} (h : TabTo (B ≤ ·) w w' tb T) (hB : B ≤ w.heap.size) (ht : absT T = t) : TabA (B ≤ ·) w' tb t ∧ Below B w w' :=
  ⟨⟨T, h.1.mono fun k hk => Up.ge hB hk, ht⟩, h.2.below hB fun _ h => h⟩
theorem rest_moves {S : Nat → Prop} {T : TabS} (h : TabM S w tb T) (hm : T.moving = false) : Moves S w tb (fun T' => T' = { T with work := 0 }) :=
  (move_rest h hm).mono fun e w' ⟨he, hT⟩ => ⟨he, _, rfl, hT⟩
theorem put_rest (h : TabA (B ≤ ·) w tb t) (hB : B ≤ w.heap.size) (hm : t.moving = false) (hs : TabSmall t) (name : List UInt8) (n : Int) (hl : name.length ≤ maxLen) {t' : Tab} {v : Value} (ht : putP { t with work := 0 } name n = t') (hv : ansO (getP { t with work := 0 } name) = v) :
    Calls Try.prog 28 #[.pointer (some ⟨tb, 0, none⟩), .string (str name), .int .i64 n] w fun e w' => e = .returned v ∧ TabA (B ≤ ·) w' tb t' ∧ Below B w w' := by
  obtain ⟨T, hT, rfl⟩ := h
  refine (put_any (rest_moves hT hm) (fun T1 h1 => by subst h1; exact small_of rfl hs) name n hl).mono fun e w' ⟨T1, T2, h1, h2, he, hto⟩ => ?_
  subst h1
  have := hto.base hB (h2.trans ht)
  exact ⟨he.trans (congrArg Ending.returned hv), this⟩
theorem get_rest (h : TabA (B ≤ ·) w tb t) (hB : B ≤ w.heap.size) (hm : t.moving = false) (name : List UInt8) (hl : name.length ≤ maxLen) {v : Value} (hv : ansO (getP { t with work := 0 } name) = v) :
    Calls Try.prog 32 #[.pointer (some ⟨tb, 0, none⟩), .string (str name)] w fun e w' => e = .returned v ∧ TabA (B ≤ ·) w' tb { t with work := 0 } ∧ Below B w w' := by
  obtain ⟨T, hT, rfl⟩ := h
  refine (get_any (rest_moves hT hm) name hl).mono fun e w' ⟨T1, h1, he, hto⟩ => ?_
  subst h1
  have hg := get_abs hto.1 name
  have := hto.base hB (t := { absT T with work := 0 }) rfl
  exact ⟨he.trans (congrArg Ending.returned (hg.trans hv)), this⟩
theorem tlen_any {S : Nat → Prop} (h : TabA S w tb t) : Calls Try.prog 29 #[.pointer (some ⟨tb, 0, none⟩)] w fun e w' => e = .returned (.int .i64 (t.len : Int)) ∧ w = w' := by
  obtain ⟨T, hT, rfl⟩ := h
  obtain ⟨c0, c1, c2, c3, c4⟩ := hT.cells
  clear hT
  go_enter Try.func29, Try.ntmps29
  go_wp2_with fail
  go_ret
  exact ⟨rfl, rfl⟩
theorem new_A (w : World) : Calls Try.prog 26 #[] w fun e w' => ∃ tb, e = .returned (.pointer (some ⟨tb, 0, none⟩)) ∧ TabA (w.heap.size ≤ ·) w' tb ⟨List.replicate 8 [], [], false, 0, 0, 0⟩ ∧ Below w.heap.size w w' :=
  (tab_new w).mono fun e w' ⟨tb, ob, he, hT, hb⟩ => ⟨tb, he, ⟨_, hT, by simp [absT, List.map_replicate]⟩, hb⟩
end

abbrev tA0 : Tab := ⟨List.replicate 8 [], [], false, 0, 0, 0⟩
abbrev tA1 : Tab := putP tA0 [97] 1
abbrev tA2 : Tab := putP { tA1 with work := 0 } [97] 2
set_option maxRecDepth 20000 in
theorem tA1_eq : tA1 = ⟨[[], [], [], [], [([97], 1)], [], [], []], [], false, 0, 1, 0⟩ := by rfl
set_option maxRecDepth 20000 in
theorem tA2_eq : tA2 = ⟨[[], [], [], [], [([97], 2)], [], [], []], [], false, 0, 1, 0⟩ := by rfl
theorem told6_any (w : World) : Calls Try.prog 34 #[] w fun e w' => e = .returned (.bool true) ∧ Below w.heap.size w w' := by
  have h1 : ansO (getP { tA0 with work := 0 } [97]) = .tuple #[.int .i64 0, .bool false] := by rfl
  have h2 : ansO (getP { tA1 with work := 0 } [97]) = .tuple #[.int .i64 1, .bool true] := by rfl
  have h3 : ansO (getP { tA2 with work := 0 } [97]) = .tuple #[.int .i64 2, .bool true] := by rfl
  have H1 := Lib.hid h1
  have H2 := Lib.hid h2
  have H3 := Lib.hid h3
  have S0 : Hid (TabSmall tA0) := ⟨by decide, by decide, by decide⟩
  have S1 : Hid (TabSmall tA1) := by rw [tA1_eq]; exact ⟨by decide, by decide, by decide⟩
  clear h1 h2 h3
  go_enter Try.func34, Try.ntmps34
  go_wp2_with fail
  go_fit (new_A w)
  rintro e w1 ⟨tb, rfl, hd1, hb1⟩
  have HD1 := Lib.hid hd1
  have HB1 := Lib.hid hb1
  clear hd1 hb1
  go_wp2_with fail
  go_fit (put_rest HD1.out HB1.out.size rfl S0.out [97] 1 (by decide) rfl H1.out)
  rintro e w2 ⟨rfl, hd2, hb2⟩
  have HD2 := Lib.hid hd2
  have HB2 := Lib.hid (HB1.out.trans hb2)
  clear hd2 hb2
  go_wp2_with fail
  go_fit (put_rest (t := tA1) HD2.out HB2.out.size (by rfl) S1.out [97] 2 (by decide) rfl H2.out)
  rintro e w3 ⟨rfl, hd3, hb3⟩
  have HD3 := Lib.hid hd3
  have HB3 := Lib.hid (HB2.out.trans hb3)
  clear hd3 hb3
  go_wp2_with fail
  go_fit (get_rest (t := tA2) HD3.out HB3.out.size (by rfl) [97] (by decide) H3.out)
  rintro e w4 ⟨rfl, hd4, hb4⟩
  have HD4 := Lib.hid hd4
  have HB4 := Lib.hid (HB3.out.trans hb4)
  clear hd4 hb4
  go_wp2_with fail
  go_fit (tlen_any HD4.out)
  rw [show (({ tA2 with work := 0 } : Tab).len : Int) = 1 from by rfl]
  rintro e w5 ⟨rfl, rfl⟩
  go_wp2_with fail
  go_ret
  exact ⟨rfl, HB4.out⟩
theorem nil_Put (w : World) (s : ByteArray) (n : Int) : Calls Try.prog 28 #[.pointer none, .string s, .int .i64 n] w fun e w' => e = .returned (.tuple #[.int .i64 0, .bool false]) ∧ w = w' := by
  go_enter Try.func28, Try.ntmps28
  go_wp2_with fail
  go_ret2
  exact ⟨rfl, rfl⟩
theorem nil_Get (w : World) (s : ByteArray) : Calls Try.prog 32 #[.pointer none, .string s] w fun e w' => e = .returned (.tuple #[.int .i64 0, .bool false]) ∧ w = w' := by
  go_enter Try.func32, Try.ntmps32
  go_wp2_with fail
  go_ret2
  exact ⟨rfl, rfl⟩
theorem nil_Del (w : World) (s : ByteArray) : Calls Try.prog 33 #[.pointer none, .string s] w fun e w' => e = .returned (.tuple #[.int .i64 0, .bool false]) ∧ w = w' := by
  go_enter Try.func33, Try.ntmps33
  go_wp2_with fail
  go_ret2
  exact ⟨rfl, rfl⟩
theorem nil_Len (w : World) : Calls Try.prog 29 #[.pointer none] w fun e w' => e = .returned (.int .i64 0) ∧ w = w' := by
  go_enter Try.func29, Try.ntmps29
  go_wp2_with fail
  go_ret
  exact ⟨rfl, rfl⟩
theorem nil_Names (w : World) : Calls Try.prog 30 #[.pointer none] w fun e w' => e = .returned (.slice none 0 0) ∧ w = w' := by
  go_enter Try.func30, Try.ntmps30
  go_wp2_with fail
  go_ret
  exact ⟨rfl, rfl⟩
theorem nil_Slots (w : World) : Calls Try.prog 35 #[.pointer none] w fun e w' => e = .returned (.int .i64 0) ∧ w = w' := by
  go_enter Try.func35, Try.ntmps35
  go_wp2_with fail
  go_ret
  exact ⟨rfl, rfl⟩
theorem nil_Moving (w : World) : Calls Try.prog 42 #[.pointer none] w fun e w' => e = .returned (.bool false) ∧ w = w' := by
  go_enter Try.func42, Try.ntmps42
  go_wp2_with fail
  go_ret
  exact ⟨rfl, rfl⟩
theorem nil_Work (w : World) : Calls Try.prog 39 #[.pointer none] w fun e w' => e = .returned (.int .i64 0) ∧ w = w' := by
  go_enter Try.func39, Try.ntmps39
  go_wp2_with fail
  go_ret
  exact ⟨rfl, rfl⟩
set_option maxRecDepth 20000 in
theorem tableNobody_walk (l : List UInt8) (n : Int) (w : World) : Calls Try.prog 10 #[.string (str l), .int .i64 n] w fun e w' => e = .returned (.bool true) ∧ Below w.heap.size w w' := by
  go_enter Try.func10, Try.ntmps10
  go_wp2_with fail
  go_fit (nil_Put w _ _)
  rintro e w1 ⟨rfl, rfl⟩
  go_wp2_with fail
  go_fit (nil_Get w _)
  rintro e w1 ⟨rfl, rfl⟩
  go_wp2_with fail
  go_fit (nil_Del w _)
  rintro e w1 ⟨rfl, rfl⟩
  go_wp2_with fail
  go_fit (told6_any w)
  rintro e w1 ⟨rfl, hb⟩
  have HB := Lib.hid hb
  clear hb
  go_wp2_with (first
    | (go_at_call 29; refine (nil_Len _).mono ?_; rintro e w2 ⟨rfl, rfl⟩)
    | (go_at_call 30; refine (nil_Names _).mono ?_; rintro e w2 ⟨rfl, rfl⟩)
    | (go_at_call 35; refine (nil_Slots _).mono ?_; rintro e w2 ⟨rfl, rfl⟩)
    | (go_at_call 42; refine (nil_Moving _).mono ?_; rintro e w2 ⟨rfl, rfl⟩)
    | (go_at_call 39; refine (nil_Work _).mono ?_; rintro e w2 ⟨rfl, rfl⟩))
  go_ret
  exact ⟨rfl, HB.out⟩
end Go.Proofs.Ytadnabgnbhpijaa
