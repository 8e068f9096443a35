/- The walk over Table.find. -/
import Derived.Test.YtadnabgnbhpijaaTabWalks
import Derived.Deep.CutBlock
set_option linter.unusedSimpArgs false
set_option linter.unusedVariables false
namespace Go.Proofs.Ytadnabgnbhpijaa
open Go.RowKit Go.Maps Go.BigFrame

/-- where a name stands in a slot -/
def ixOf (L : Slot) (name : List UInt8) : Option Nat := L.findIdx? fun p => p.1 == name
theorem ix_some {L : Slot} {name : List UInt8} {k : Nat} (hk : k < L.length) (h : L[k].1 = name) (hb : ∀ j (hj : j < L.length), j < k → L[j].1 ≠ name) : ixOf L name = some k := by
  unfold ixOf
  rw [List.findIdx?_eq_some_iff_getElem]
  refine ⟨hk, by simpa using h, fun j hj => by simpa using hb j (by omega) hj⟩
theorem ix_none {L : Slot} {name : List UInt8} (hb : ∀ j (hj : j < L.length), j < L.length → L[j].1 ≠ name) : ixOf L name = none := by
  unfold ixOf
  rw [List.findIdx?_eq_none_iff]
  intro p hp
  obtain ⟨j, hj, rfl⟩ := List.getElem_of_mem hp
  simpa using hb j hj hj
/-- what the search tells: the slot's place, the name's place there or -1 -/
def Told (rb i : Nat) (o : Option Nat) (w : World) (e : Ending) (w' : World) : Prop :=
  e = .returned (.tuple #[.pointer (some ⟨rb, i, none⟩), .int .i64 (match o with | some j => (j : Int) | none => -1)]) ∧ Below w.heap.size w w'
def FindRel (L : Slot) (name : List UInt8) (w : World) (i : Value) (wr : World) : Prop :=
  ∃ k : Nat, k ≤ L.length ∧ i = .int .i64 k ∧ (∀ j (hj : j < L.length), j < k → L[j].1 ≠ name) ∧ Below w.heap.size w wr

set_option maxHeartbeats 1000000 in
set_option maxRecDepth 20000 in
theorem find_rest {S : Nat → Prop} {w : World} {tb : Nat} {T : TabS} (h : TabM S w tb T) (hm : T.moving = false) (name : List UInt8) (hl : name.length ≤ maxLen) :
    Calls Try.prog 49 #[.pointer (some ⟨tb, 0, none⟩), .string (str name)] w
      (Told T.ob (placeN T.old.length name) (ixOf (T.old.getD (placeN T.old.length name) ⟨.slice none 0 0, []⟩).L name) w) := by
  have hlt := placeN_lt T.old.length name h.pos
  generalize hpl : placeN T.old.length name = pl at *
  have hget : T.old.getD pl ⟨.slice none 0 0, []⟩ = T.old[pl] := by simp [List.getD, hlt]
  rw [hget]
  have hc := h.cells
  have hv : T.newV = .slice none 0 0 := by unfold TabS.newV; rw [hm]; rfl
  rw [hv] at hc
  obtain ⟨c0, c1, c2, c3, c4⟩ := hc
  have hs : SlotAt S w T.old[pl] := h.slots _ (List.mem_append_left _ (List.getElem_mem hlt))
  have cs := h.old.cell hlt
  generalize T.old[pl] = s at *
  obtain ⟨p, cap, hsv, hrd, hsl⟩ := hs.own.shape
  rw [hsv] at cs
  have hpc := place_any (some ⟨T.ob, 0, none⟩) T.old.length T.old.length name w hl h.pos (by have := h.small; omega)
  rw [hpl] at hpc
  have HP := Lib.hid hpc
  have HR := Lib.hid hrd
  have HSV := Lib.hid hsv
  have hsm := h.small
  have i0 : (0 : Int) ≤ (pl : Int) := by omega
  have i1 : (pl : Int) < (T.old.length : Int) := by omega
  unfold maxLen at hsl
  clear hget hpl hv hpc hrd hsv hs hm h
  go_enter Try.func49, Try.ntmps49
  go_wp2_with fail
  go_step3
  go_wp2_with fail
  go_step3
  go_wp2_with (refine HP.out.mono ?_; rintro e w' ⟨rfl, rfl⟩)
  go_loopw [23] (fun i wr => FindRel s.L name w i wr) (fun i _ => s.L.length - (intOf i).toNat)
  case atStart => exact ⟨0, Nat.zero_le _, rfl, fun j _ hj => absurd hj (by omega), Below.refl _ _⟩
  case round =>
    obtain ⟨k, hk, rfl, hno, hb⟩ := hrel
    have HN := Lib.hid hno
    have HB := Lib.hid hb
    clear hno hb
    by_cases hkl : k < s.L.length
    · obtain ⟨b, o, rfl, hcc⟩ := (HR.out.below HB.out).at (k := k * 2) (by rw [prs_len]; omega)
      have e0 := hcc (k * 2) (by rw [prs_len]; omega)
      have e1 := hcc (k * 2 + 1) (by rw [prs_len]; omega)
      rw [prs_get0 _ _ hkl] at e0
      rw [prs_get1 _ _ hkl, ← Nat.add_assoc] at e1
      clear hcc
      have k0 : (0 : Int) ≤ (k : Int) := by omega
      have k1 : (k : Int) < (s.L.length : Int) := by omega
      by_cases he : s.L[k].1 = name
      · have hix := ix_some hkl he HN.out
        have HIX := Lib.hid hix
        have hq : (s.L[k].1 == name) = true := by simpa using he
        clear he hix
        go_wp2_with fail
        rw [Exit.noGoto_ret]
        go_ret2
        refine ⟨?_, HB.out.alloc HB.out.size _⟩
        rw [HIX.out]; rfl
      · have hno2 : ∀ j (hj : j < s.L.length), j < k + 1 → s.L[j].1 ≠ name := fun j hj h => by
          rcases Nat.lt_succ_iff_lt_or_eq.1 h with h | rfl
          · exact HN.out j hj h
          · exact he
        have HN2 := Lib.hid hno2
        have hq : (s.L[k].1 == name) = false := by simpa using he
        clear hno2
        go_wp2_with fail
        exact ⟨⟨k + 1, by omega, by go_num, HN2.out, HB.out.alloc HB.out.size _⟩, by simp [intOf]; omega⟩
    · obtain rfl : k = s.L.length := by omega
      have b0 := cell_below HB.out c0
      have b1 := cell_below HB.out c1
      have hix := ix_none (name := name) HN.out
      have HIX := Lib.hid hix
      clear c0 c1 hix
      go_wp2_with fail
      rw [Exit.noGoto_ret]
      go_ret2
      refine ⟨?_, HB.out⟩
      rw [HIX.out]; rfl

abbrev noSlot : SlotM := ⟨.slice none 0 0, []⟩
/-- where the search of a table ends: the row's block, the slot's place, the name's place there -/
def findM (T : TabS) (name : List UInt8) : Nat × Nat × Option Nat :=
  let i := placeN T.old.length name
  match ixOf (T.old.getD i noSlot).L name with
  | some j => (T.ob, i, some j)
  | none =>
    if T.moving then
      let k := placeN T.new.length name
      (T.nb, k, ixOf (T.new.getD k noSlot).L name)
    else (T.ob, i, none)

set_option maxHeartbeats 2000000 in
set_option maxRecDepth 20000 in
theorem find_mov {S : Nat → Prop} {w : World} {tb : Nat} {T : TabS} (h : TabM S w tb T) (hm : T.moving = true) (name : List UInt8) (hl : name.length ≤ maxLen) :
    Calls Try.prog 49 #[.pointer (some ⟨tb, 0, none⟩), .string (str name)] w
      (Told (findM T name).1 (findM T name).2.1 (findM T name).2.2 w) := by
  have hlt := placeN_lt T.old.length name h.pos
  have hpos2 : 0 < T.new.length := by rw [h.dbl hm]; have := h.pos; omega
  have hlt2 := placeN_lt T.new.length name hpos2
  have hdb := h.dbl hm
  generalize hpl : placeN T.old.length name = pl at *
  generalize hpl2 : placeN T.new.length name = pl2 at *
  have hget : T.old.getD pl noSlot = T.old[pl] := by simp [List.getD, hlt]
  have hget2 : T.new.getD pl2 noSlot = T.new[pl2] := by simp [List.getD, hlt2]
  have hc := h.cells
  have hv : T.newV = rowV T.nb T.new.length := by unfold TabS.newV; rw [hm]; rfl
  rw [hv] at hc
  obtain ⟨c0, c1, c2, c3, c4⟩ := hc
  have hs : SlotAt S w T.old[pl] := h.slots _ (List.mem_append_left _ (List.getElem_mem hlt))
  have hs2 : SlotAt S w T.new[pl2] := h.slots _ (List.mem_append_right _ (List.getElem_mem hlt2))
  have cs := h.old.cell hlt
  have cs2 := (h.new hm).cell hlt2
  generalize T.old[pl] = s at *
  generalize T.new[pl2] = s2 at *
  obtain ⟨p, cap, hsv, hrd, hsl⟩ := hs.own.shape
  obtain ⟨p2, cap2, hsv2, hrd2, hsl2⟩ := hs2.own.shape
  rw [hsv] at cs
  rw [hsv2] at cs2
  have hpc := place_any (some ⟨T.ob, 0, none⟩) T.old.length T.old.length name w hl h.pos (by have := h.small; omega)
  have hpc2 := fun u => place_any (some ⟨T.nb, 0, none⟩) T.new.length T.new.length name u hl hpos2 (by have := h.small; omega)
  rw [hpl] at hpc
  rw [hpl2] at hpc2
  have HP := Lib.hid hpc
  have HP2 := Lib.hid hpc2
  have HR := Lib.hid hrd
  have HR2 := Lib.hid hrd2
  have HPO := Lib.hid hpl
  have HPN := Lib.hid hpl2
  have HGO := Lib.hid hget
  have HGN := Lib.hid hget2
  have HM := Lib.hid hm
  have hsm := h.small
  have hpos := h.pos
  have i0 : (0 : Int) ≤ (pl : Int) := by omega
  have i1 : (pl : Int) < (T.old.length : Int) := by omega
  have j0 : (0 : Int) ≤ (pl2 : Int) := by omega
  have j1 : (pl2 : Int) < (T.new.length : Int) := by omega
  have dq : (T.new.length == T.old.length) = false := by rw [beq_eq_false_iff_ne]; omega
  have dq' : ((T.new.length : Int) == (T.old.length : Int)) = false := by rw [beq_eq_false_iff_ne]; omega
  unfold maxLen at hsl hsl2
  clear hget hget2 hpl hpl2 hv hpc hpc2 hrd hrd2 hsv hsv2 hs hs2 hm h hdb
  go_enter Try.func49, Try.ntmps49
  go_wp2_with fail
  refine wp_scope_jumps 0 (fun a w' => ∃ u0 u1 u2 u3 u4 u5 u6 u7 u8 u9 u10 u11 u12 u13 u14 u15 u16 u17 u18 u19 u20 u21 u22 u23 u24 u25 u26 u27 u28 u29 u30 u31 u32 u33 u34 u35 u36 u37 u38 u39 u40 u41 u42 u43 u44 u45 u46 u47 u48 u49 u50 u51 u52 u53 u54, (Below w.heap.size w w' ∧ ixOf s.L name = none ∧ u0 = .pointer (some ⟨tb, 0, none⟩) ∧ u1 = .string (str name) ∧ u6 = rowV T.nb T.new.length) ∧ a = { tmps := #[u0, u1, u2, u3, u4, u5, u6, u7, u8, u9, u10, u11, u12, u13, u14, u15, u16, u17, u18, u19, u20, u21, u22, u23, u24, u25, u26, u27, u28, u29, u30, u31, u32, u33, u34, u35, u36, u37, u38, u39, u40, u41, u42, u43, u44, u45, u46, u47, u48, u49, u50, u51, u52, u53, u54], defers := [] }) (fun _ _ => 0) (by rfl) ?_ ?_
  · go_wp2_with fail
    go_step3
    go_wp2_with (refine HP.out.mono ?_; rintro e w' ⟨rfl, rfl⟩)
    go_loopw [23] (fun i wr => FindRel s.L name w i wr) (fun i _ => s.L.length - (intOf i).toNat)
    case atStart => exact ⟨0, Nat.zero_le _, rfl, fun j _ hj => absurd hj (by omega), Below.refl _ _⟩
    case round =>
      obtain ⟨k, hk, rfl, hno, hb⟩ := hrel
      have HN := Lib.hid hno
      have HB := Lib.hid hb
      clear hno hb
      by_cases hkl : k < s.L.length
      · obtain ⟨b, o, rfl, hcc⟩ := (HR.out.below HB.out).at (k := k * 2) (by rw [prs_len]; omega)
        have e0 := hcc (k * 2) (by rw [prs_len]; omega)
        have e1 := hcc (k * 2 + 1) (by rw [prs_len]; omega)
        rw [prs_get0 _ _ hkl] at e0
        rw [prs_get1 _ _ hkl, ← Nat.add_assoc] at e1
        clear hcc
        have k0 : (0 : Int) ≤ (k : Int) := by omega
        have k1 : (k : Int) < (s.L.length : Int) := by omega
        by_cases he : s.L[k].1 = name
        · have hix := ix_some hkl he HN.out
          have HIX := Lib.hid hix
          have hq : (s.L[k].1 == name) = true := by simpa using he
          clear he hix
          go_wp2_with fail
          rw [jump_ret]
          go_ret2
          refine ⟨?_, HB.out.alloc HB.out.size _⟩
          unfold findM; simp only [HPO.out, HGO.out, HIX.out]; rfl
        · have hno2 : ∀ j (hj : j < s.L.length), j < k + 1 → s.L[j].1 ≠ name := fun j hj h => by
            rcases Nat.lt_succ_iff_lt_or_eq.1 h with h | rfl
            · exact HN.out j hj h
            · exact he
          have HN2 := Lib.hid hno2
          have hq : (s.L[k].1 == name) = false := by simpa using he
          clear hno2
          go_wp2_with fail
          exact ⟨⟨k + 1, by omega, by go_num, HN2.out, HB.out.alloc HB.out.size _⟩, by simp [intOf]; omega⟩
      · obtain rfl : k = s.L.length := by omega
        have b0 := cell_below HB.out c0
        have b1 := cell_below HB.out c1
        have hix := ix_none (name := name) HN.out
        have HIX := Lib.hid hix
        clear c0 c1 hix
        go_wp2_with fail
        go_step3
        refine ⟨rfl, _, _, _, _, _, _, _, _, _, _, _, _, _, _, _, _, _, _, _, _, _, _, _, _, _, _, _, _, _, _, _, _, _, _, _, _, _, _, _, _, _, _, _, _, _, _, _, _, _, _, _, _, _, _, _,  ⟨HB.out, HIX.out, rfl, rfl, rfl⟩, rfl⟩
        
  · rintro a w' ⟨u0, u1, u2, u3, u4, u5, u6, u7, u8, u9, u10, u11, u12, u13, u14, u15, u16, u17, u18, u19, u20, u21, u22, u23, u24, u25, u26, u27, u28, u29, u30, u31, u32, u33, u34, u35, u36, u37, u38, u39, u40, u41, u42, u43, u44, u45, u46, u47, u48, u49, u50, u51, u52, u53, u54, ⟨hbw, hixo, rfl, rfl, rfl⟩, rfl⟩
    have HIXO := Lib.hid hixo
    have HBW := Lib.hid hbw
    have q2 := cell_below hbw cs2
    clear hixo cs
    go_wp2_with (refine (HP2.out _).mono ?_; rintro e w2 ⟨rfl, rfl⟩)
    go_loopw [23] (fun i wr => FindRel s2.L name w i wr) (fun i _ => s2.L.length - (intOf i).toNat)
    case atStart => exact ⟨0, Nat.zero_le _, rfl, fun j _ hj => absurd hj (by omega), HBW.out⟩
    case round =>
      obtain ⟨k, hk, rfl, hno, hb⟩ := hrel
      have HN := Lib.hid hno
      have HB := Lib.hid hb
      clear hno hb
      by_cases hkl : k < s2.L.length
      · obtain ⟨b, o, rfl, hcc⟩ := (HR2.out.below HB.out).at (k := k * 2) (by rw [prs_len]; omega)
        have e0 := hcc (k * 2) (by rw [prs_len]; omega)
        have e1 := hcc (k * 2 + 1) (by rw [prs_len]; omega)
        rw [prs_get0 _ _ hkl] at e0
        rw [prs_get1 _ _ hkl, ← Nat.add_assoc] at e1
        clear hcc
        have k0 : (0 : Int) ≤ (k : Int) := by omega
        have k1 : (k : Int) < (s2.L.length : Int) := by omega
        by_cases he : s2.L[k].1 = name
        · have hix := ix_some hkl he HN.out
          have HIX := Lib.hid hix
          have hq : (s2.L[k].1 == name) = true := by simpa using he
          clear he hix
          go_wp2_with fail
          rw [jump_ret]
          go_ret2
          refine ⟨?_, HB.out.alloc HB.out.size _⟩
          unfold findM; simp only [HPO.out, HGO.out, HIXO.out, HPN.out, HGN.out, HIX.out, HM.out, if_true]; rfl
        · have hno2 : ∀ j (hj : j < s2.L.length), j < k + 1 → s2.L[j].1 ≠ name := fun j hj h => by
            rcases Nat.lt_succ_iff_lt_or_eq.1 h with h | rfl
            · exact HN.out j hj h
            · exact he
          have HN2 := Lib.hid hno2
          have hq : (s2.L[k].1 == name) = false := by simpa using he
          clear hno2
          go_wp2_with fail
          exact ⟨⟨k + 1, by omega, by go_num, HN2.out, HB.out.alloc HB.out.size _⟩, by simp [intOf]; omega⟩
      · obtain rfl : k = s2.L.length := by omega
        have b0 := cell_below HB.out c0
        have b1 := cell_below HB.out c1
        have hix := ix_none (name := name) HN.out
        have HIX := Lib.hid hix
        clear c0 c1 hix
        go_wp2_with fail
        rw [jump_ret]
        go_ret2
        refine ⟨?_, HB.out⟩
        unfold findM; simp only [HPO.out, HGO.out, HIXO.out, HPN.out, HGN.out, HIX.out, HM.out, if_true]; rfl
theorem find_any {S : Nat → Prop} {w : World} {tb : Nat} {T : TabS} (h : TabM S w tb T) (name : List UInt8) (hl : name.length ≤ maxLen) :
    Calls Try.prog 49 #[.pointer (some ⟨tb, 0, none⟩), .string (str name)] w (Told (findM T name).1 (findM T name).2.1 (findM T name).2.2 w) := by
  cases hm : T.moving
  · have := find_rest h hm name hl
    unfold findM
    simp only [hm]
    cases hx : ixOf (T.old.getD (placeN T.old.length name) noSlot).L name with
    | none => rw [hx] at this; exact this
    | some j => rw [hx] at this; exact this
  · exact find_mov h hm name hl
end Go.Proofs.Ytadnabgnbhpijaa
