/- The walks over package table: New, a resting table's move, Put, Get, Len. -/
import Derived.Test.YtadnabgnbhpijaaTabFind
set_option linter.unusedSimpArgs false
set_option linter.unusedVariables false
namespace Go.Proofs.Ytadnabgnbhpijaa
open Go.RowKit Go.Maps

theorem slP : SlT Try.prog 93 92 2 24 := SlT.of (z := .agg #[.string .empty, .int .i64 0]) (by kernel_rfl) rfl (by decide) Try.underlying93
/-- from w to w' the table in S has become T -/
def TabTo (S : Nat → Prop) (w w' : World) (tb : Nat) (T : TabS) : Prop := TabM (Up S w) w' tb T ∧ Chg S w w'
/-- 'make([][]pair, k)' -/
theorem run_make_slots (u : World) (k : Nat) (hk : k ≤ 4194304) : (Instr.makeSlice 85 (.int .i64 (k : Int)) (.int .i64 (k : Int))).run Try.prog u =
    .ok (.slice (some ⟨u.heap.size, 0, none⟩) k k) (u.alloc (.cells (List.replicate k (Value.slice none 0 0)).toArray 93)) := by
  have hi' : (Try.prog.info? 93).map (fun i => (i.zero, i.size, i.bytes)) = some (some (.slice none 0 0), 1, 24) := by kernel_rfl
  obtain ⟨i0, hi0, hz0, hs0, hb0⟩ := info_parts hi'
  have h := run_make (P := Try.prog) u 85 93 i0 (.slice none 0 0) Try.underlying85 hi0 hz0 .i64 .i64 (k : Int) (k : Int) (by omega) (Int.le_refl _) (by rw [hb0]; omega) (by omega)
  rw [h]
  simp only [Int.toNat_natCast, hs0, Nat.mul_one]
  have e : madeCells (Value.slice none 0 0).cells k = (List.replicate k (Value.slice none 0 0)).toArray := by
    show madeCells #[_] k = _
    rw [madeCells_one]
    simp
  rw [e]
section
variable {S : Nat → Prop} {w : World} {tb : Nat} {T : TabS}
theorem TabM.to_same (h : TabM S w tb T) : TabTo S w w tb T := ⟨h.mono fun k hk => .inl hk, Chg.refl _ _⟩
theorem empty_slots (n : Nat) : ∀ s ∈ List.replicate n noSlot, s = noSlot := fun s h => List.eq_of_mem_replicate h
theorem empty_at (s : SlotM) (h : s = noSlot) : SlotAt S w s := by
  subst h
  exact ⟨OwnS.none, fun k hk => by simp [Value.ownBlock] at hk⟩
theorem empty_row (n : Nat) : (List.replicate n noSlot).map SlotM.v = List.replicate n (Value.slice none 0 0) := by simp [List.map_replicate]

theorem tab_new (w : World) : Calls Try.prog 26 #[] w fun e w' => ∃ tb ob, e = .returned (.pointer (some ⟨tb, 0, none⟩)) ∧ TabM (w.heap.size ≤ ·) w' tb ⟨ob, List.replicate 8 noSlot, 0, [], false, 0, 0, 0⟩ ∧ Below w.heap.size w w' := by
  have hmk := fun u => run_make_slots u 8 (by omega)
  have HMK := Lib.hid hmk
  have hm8 : ∀ u : World, (Instr.makeSlice 85 (.int .i64 8) (.int .i64 8)).run Try.prog u =
    .ok (.slice (some ⟨u.heap.size, 0, none⟩) 8 8) (u.alloc (.cells (List.replicate 8 (Value.slice none 0 0)).toArray 93)) := fun u => HMK.out u
  clear hmk
  go_enter Try.func26, Try.ntmps26
  go_wp2_with fail
  go_ret
  have hb : Below w.heap.size w ((w.alloc (.cells (List.replicate 8 (Value.slice none 0 0)).toArray 93)).alloc (.cells #[rowV w.heap.size 8, .slice none 0 0, .int .i64 0, .int .i64 0, .int .i64 0] 87)) := ((Below.refl _ _).alloc (Nat.le_refl _) _).alloc (by simp) _
  refine ⟨_, w.heap.size, rfl, ?_, hb⟩
  have e : (w.alloc (.cells (List.replicate 8 (Value.slice none 0 0)).toArray 93)).heap.size = w.heap.size + 1 := by simp
  refine ⟨by simp, ?_, ⟨Nat.le_refl _, ?_⟩, fun h => by simp at h, fun h => by simp at h, fun _ => rfl, fun s hs => empty_at s (empty_slots 8 s (by simpa [TabS.all] using hs)), ?_, by simp, by simp, fun h => by simp at h, by simp, fun h => by simp at h⟩
  · rw [← e]; exact heap_alloc_new _ _
  · rw [empty_row]; exact heap_alloc2_old _ _ _
  · simp only [TabS.all, List.append_nil]
    exact List.pairwise_replicate.2 (.inr fun k hk => by simp [Value.ownBlock] at hk)
theorem move_rest (h : TabM S w tb T) (hm : T.moving = false) :
    Calls Try.prog 48 #[.pointer (some ⟨tb, 0, none⟩)] w fun e w' => e = .returned (.tuple #[]) ∧ TabTo S w w' tb { T with work := 0 } := by
  obtain ⟨c0, c1, c2, c3, c4⟩ := h.cells
  have hv : T.newV = .slice none 0 0 := by unfold TabS.newV; rw [hm]; rfl
  rw [hv] at c1
  have f4 := h.free 4
  have HT := Lib.hid h
  have HV := Lib.hid hv
  clear h hv hm
  go_enter Try.func48, Try.ntmps48
  go_wp2_with fail
  refine wp_loop_rounds 1 ?_
  rw [rounds_succ]
  go_wp2_with fail
  go_end0
  refine ⟨rfl, ?_⟩
  have hs := HT.out.setTab (T2 := { T with work := 0 }) ⟨rfl, rfl, rfl, rfl, rfl⟩ (Chg.setCell w ⟨tb, 4, none⟩ (.int .i64 0) rfl) (setCell_row HT.out.row 4 (.int .i64 0)) HT.out.atle
  exact ⟨hs.1.mono fun k hk => .inl hk, hs.2⟩
/-- a move, whatever it does: R tells of the table that it leaves -/
def Moves (S : Nat → Prop) (w : World) (tb : Nat) (R : TabS → Prop) : Prop :=
  Calls Try.prog 48 #[.pointer (some ⟨tb, 0, none⟩)] w fun e w' => e = .returned (.tuple #[]) ∧ ∃ T, R T ∧ TabTo S w w' tb T
/-- the slot at a place that the search told -/
def slotM (T : TabS) (r : Nat × Nat × Option Nat) : SlotM := if r.1 = T.ob then T.old.getD r.2.1 noSlot else T.new.getD r.2.1 noSlot
theorem find_loc (h : TabM S w tb T) (name : List UInt8) : w.cell? ⟨(findM T name).1, (findM T name).2.1, none⟩ = some (slotM T (findM T name)).v ∧ w.frozen? ⟨(findM T name).1, (findM T name).2.1, none⟩ = false ∧
    SlotAt S w (slotM T (findM T name)) ∧ (findM T name).2.2 = ixOf (slotM T (findM T name)).L name := by
  have hlt := placeN_lt T.old.length name h.pos
  have hget : T.old.getD (placeN T.old.length name) noSlot = T.old[placeN T.old.length name] := by simp [List.getD, hlt]
  unfold findM
  simp only
  cases hx : ixOf (T.old.getD (placeN T.old.length name) noSlot).L name with
  | some j =>
    simp only [slotM, if_true]
    rw [hx, hget]
    exact ⟨h.old.cell hlt, h.old.free _, h.slots _ (List.mem_append_left _ (List.getElem_mem hlt)), rfl⟩
  | none =>
    simp only
    by_cases hm : T.moving = true
    · have hpos2 : 0 < T.new.length := by rw [h.dbl hm]; have := h.pos; omega
      have hlt2 := placeN_lt T.new.length name hpos2
      have hget2 : T.new.getD (placeN T.new.length name) noSlot = T.new[placeN T.new.length name] := by simp [List.getD, hlt2]
      rw [if_pos hm]
      simp only [slotM, if_neg (h.ne hm)]
      rw [hget2]
      exact ⟨(h.new hm).cell hlt2, (h.new hm).free _, h.slots _ (List.mem_append_right _ (List.getElem_mem hlt2)), by trivial⟩
    · rw [if_neg hm]
      simp only [slotM, if_true]
      rw [hx, hget]
      exact ⟨h.old.cell hlt, h.old.free _, h.slots _ (List.mem_append_left _ (List.getElem_mem hlt)), rfl⟩
theorem ix_lt {L : Slot} {name : List UInt8} {j : Nat} (h : ixOf L name = some j) : ∃ hj : j < L.length, L[j].1 = name := by
  unfold ixOf at h
  rw [List.findIdx?_eq_some_iff_getElem] at h
  obtain ⟨hj, h1, _⟩ := h
  exact ⟨hj, by simpa using h1⟩
/-- what Get tells -/
def ansGet (s : SlotM) : Option Nat → Value
  | some j => .tuple #[.int .i64 (s.L.getD j ([], 0)).2, .bool true]
  | none => .tuple #[.int .i64 0, .bool false]
theorem get_any {R : TabS → Prop} (h : Moves S w tb R) (name : List UInt8) (hl : name.length ≤ maxLen) :
    Calls Try.prog 32 #[.pointer (some ⟨tb, 0, none⟩), .string (str name)] w fun e w' =>
      ∃ T, R T ∧ e = .returned (ansGet (slotM T (findM T name)) (findM T name).2.2) ∧ TabTo S w w' tb T := by
  have HM := Lib.hid h
  clear h
  go_enter Try.func32, Try.ntmps32
  go_wp2_with (go_at_call 48; refine HM.out.mono ?_; rintro e w1 ⟨rfl, T, hR, hT⟩)
  have HR := Lib.hid hR
  have HT := Lib.hid hT
  have hf := find_any hT.1 name hl
  obtain ⟨c1, z1, hs, hix⟩ := find_loc hT.1 name
  have HIX := Lib.hid hix
  clear hR hT
  generalize hfm : findM T name = r at *
  obtain ⟨rb, i, o⟩ := r
  have HFM0 := Lib.hid hfm
  generalize hsm : slotM T (rb, i, o) = s at *
  have HFM : Hid (ansGet (slotM T (findM T name)) (findM T name).2.2 = ansGet s o) := by show _ = _; rw [HFM0.out]; simp only; rw [hsm]
  clear hfm hsm
  obtain ⟨p, cap, hsv, hrd, hsl⟩ := hs.own.shape
  rw [hsv] at c1
  have HRD := Lib.hid hrd
  have HC1 := Lib.hid c1
  unfold maxLen at hsl
  clear hsv hrd hs hix c1
  cases o with
  | none =>
    have hf2 : Calls Try.prog 49 #[.pointer (some ⟨tb, 0, none⟩), .string (str name)] w1 fun e w' => e = .returned (.tuple #[.pointer (some ⟨rb, i, none⟩), .int .i64 (-1)]) ∧ Below w1.heap.size w1 w' := hf
    have HF := Lib.hid hf2
    clear hf hf2
    go_fit HF.out
    rintro e w2 ⟨rfl, hb⟩
    have hto : TabTo S w w2 tb T := ⟨HT.out.1.below hb, HT.out.2.trans (Chg.of_below (S := S) hb) fun _ _ h => h⟩
    have HTO := Lib.hid hto
    clear hb hto
    go_wp2_with fail
    go_ret2
    exact ⟨T, HR.out, by rw [HFM.out]; rfl, HTO.out⟩
  | some j =>
    have hf2 : Calls Try.prog 49 #[.pointer (some ⟨tb, 0, none⟩), .string (str name)] w1 fun e w' => e = .returned (.tuple #[.pointer (some ⟨rb, i, none⟩), .int .i64 (j : Int)]) ∧ Below w1.heap.size w1 w' := hf
    have HF := Lib.hid hf2
    clear hf hf2
    go_fit HF.out
    rintro e w2 ⟨rfl, hb⟩
    have hto : TabTo S w w2 tb T := ⟨HT.out.1.below hb, HT.out.2.trans (Chg.of_below (S := S) hb) fun _ _ h => h⟩
    have HTO := Lib.hid hto
    obtain ⟨hj, hjn⟩ := ix_lt HIX.out.symm
    obtain ⟨b, o, rfl, hcc⟩ := (HRD.out.below hb).at (k := j * 2) (by rw [prs_len]; omega)
    have c1 := cell_below hb HC1.out
    have e1 := hcc (j * 2 + 1) (by rw [prs_len]; omega)
    rw [prs_get1 _ _ hj, ← Nat.add_assoc] at e1
    have k0 : (0 : Int) ≤ (j : Int) := by omega
    have k1 : (j : Int) < (s.L.length : Int) := by omega
    have hgd : ansGet s (some j) = .tuple #[.int .i64 s.L[j].2, .bool true] := by simp [ansGet, List.getD, hj]
    have HGD := Lib.hid hgd
    clear hcc hgd hjn hb hto
    go_wp2_with fail
    go_ret2
    exact ⟨T, HR.out, by rw [HFM.out]; exact (congrArg Ending.returned HGD.out).symm, HTO.out⟩
end
end Go.Proofs.Ytadnabgnbhpijaa
