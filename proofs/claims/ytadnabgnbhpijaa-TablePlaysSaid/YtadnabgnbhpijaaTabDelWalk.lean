/- The walk over Table.Del. -/
import Derived.Test.YtadnabgnbhpijaaTabDel
set_option linter.unusedSimpArgs false
set_option linter.unusedVariables false
namespace Go.Proofs.Ytadnabgnbhpijaa
open Go.RowKit Go.Maps

/-- a table without names is a new one -/
def restP (t : Tab) : Tab := if t.len = 0 then { t with old := List.replicate 8 [], new := [], moving := false, at_ := 0 } else t
def delP (t : Tab) (name : List UInt8) : Tab :=
  let r := findP t name
  match r.2.2 with
  | some j => restP { setP t r ((slotP t r).eraseIdx j) with len := t.len - 1 }
  | none => t
theorem delP_some (t : Tab) (name : List UInt8) (j : Nat) (h : (findP t name).2.2 = some j) : delP t name = restP { setP t (findP t name) ((slotP t (findP t name)).eraseIdx j) with len := t.len - 1 } := by
  unfold delP
  simp only [h]
section
variable {S : Nat → Prop} {w w' : World} {tb : Nat} {T : TabS}
abbrev slots8 : Array Value := #[.slice none 0 0, .slice none 0 0, .slice none 0 0, .slice none 0 0, .slice none 0 0, .slice none 0 0, .slice none 0 0, .slice none 0 0]
theorem TabM.fresh (h : TabM S w tb T) :
    TabM (Up S w) ((((w.setCell ⟨tb, 0, none⟩ (.slice (some ⟨w.heap.size, 0, none⟩) 8 8)).setCell ⟨tb, 1, none⟩ (.slice none 0 0)).setCell ⟨tb, 2, none⟩ (.int .i64 0)).alloc (.cells slots8 93)) tb
      { T with ob := w.heap.size, old := List.replicate 8 noSlot, nb := 0, new := [], moving := false, at_ := 0 } ∧
    Chg S w ((((w.setCell ⟨tb, 0, none⟩ (.slice (some ⟨w.heap.size, 0, none⟩) 8 8)).setCell ⟨tb, 1, none⟩ (.slice none 0 0)).setCell ⟨tb, 2, none⟩ (.int .i64 0)).alloc (.cells slots8 93)) := by
  have hlt := row_lt h.row
  have hc : Chg (fun j => j = tb) w (((w.setCell ⟨tb, 0, none⟩ (.slice (some ⟨w.heap.size, 0, none⟩) 8 8)).setCell ⟨tb, 1, none⟩ (.slice none 0 0)).setCell ⟨tb, 2, none⟩ (.int .i64 0)) :=
    Chg.trans (S := fun j => j = tb) (T := fun j => j = tb) (Chg.trans (S := fun j => j = tb) (T := fun j => j = tb) (Chg.setCell _ ⟨tb, 0, none⟩ _ rfl) (Chg.setCell _ ⟨tb, 1, none⟩ _ rfl) fun _ _ h => h) (Chg.setCell _ ⟨tb, 2, none⟩ _ rfl) fun _ _ h => h
  have hrow := setCell_row (setCell_row (setCell_row h.row 0 (.slice (some ⟨w.heap.size, 0, none⟩) 8 8)) 1 (.slice none 0 0)) 2 (.int .i64 0)
  have hsz : (((w.setCell ⟨tb, 0, none⟩ (.slice (some ⟨w.heap.size, 0, none⟩) 8 8)).setCell ⟨tb, 1, none⟩ (.slice none 0 0)).setCell ⟨tb, 2, none⟩ (.int .i64 0)).heap.size = w.heap.size := by simp [World.setCell]
  generalize ((w.setCell ⟨tb, 0, none⟩ (.slice (some ⟨w.heap.size, 0, none⟩) 8 8)).setCell ⟨tb, 1, none⟩ (.slice none 0 0)).setCell ⟨tb, 2, none⟩ (.int .i64 0) = w1 at *
  have hb : Below w1.heap.size w1 (w1.alloc (.cells slots8 93)) := (Below.refl _ _).alloc (Nat.le_refl _) _
  have hnewrow : (w1.alloc (.cells slots8 93)).heap[w.heap.size]? = some (.cells slots8 93) := by rw [← hsz]; exact heap_alloc_new _ _
  generalize w1.alloc (.cells slots8 93) = w2 at *
  refine ⟨⟨.inl h.st, below_row hb hrow, ⟨.inr (Nat.le_refl _), ?_⟩, fun e => by simp at e, fun e => by simp at e, fun _ => rfl, fun s hs => empty_at s (empty_slots 8 s (by simpa [TabS.all] using hs)), ?_, by simp, by simp, fun e => by simp at e, Nat.zero_le _, fun e => by simp at e⟩, ?_⟩
  · rw [empty_row]
    exact hnewrow
  · simp only [TabS.all, List.append_nil]
    exact List.pairwise_replicate.2 (.inr fun k hk => by simp [Value.ownBlock] at hk)
  · exact (hc.mono fun k _ e => (by rw [e]; exact h.st : S k)).trans (Chg.of_below (S := S) hb) fun _ _ h => h
def DelDoes (S : Nat → Prop) (w : World) (tb : Nat) (R : TabS → Prop) (name : List UInt8) (e : Ending) (w' : World) : Prop :=
  ∃ T T', R T ∧ absT T' = delP (absT T) name ∧ e = .returned (ansO (getP (absT T) name)) ∧ TabTo S w w' tb T'
set_option maxHeartbeats 1000000 in
set_option maxRecDepth 20000 in
theorem del_any {R : TabS → Prop} (h : Moves S w tb R) (hR : ∀ T, R T → T.len ≤ 100000 ∧ ∀ s ∈ T.all, s.L.length ≤ 100000) (name : List UInt8) (hl : name.length ≤ maxLen) (hR2 : ∀ T, R T → (findP (absT T) name).2.2 ≠ none → 0 < T.len) :
    Calls Try.prog 33 #[.pointer (some ⟨tb, 0, none⟩), .string (str name)] w fun e w' =>
      DelDoes S w tb R name e w' := by
  have HM := Lib.hid h
  have HRR := Lib.hid hR
  have HR2 := Lib.hid hR2
  have HMK : Hid (∀ u : World, (Instr.makeSlice 85 (.int .i64 8) (.int .i64 8)).run Try.prog u =
    .ok (.slice (some ⟨u.heap.size, 0, none⟩) 8 8) (u.alloc (.cells (List.replicate 8 (Value.slice none 0 0)).toArray 93))) := fun u => run_make_slots u 8 (by omega)
  clear h hR hR2
  go_enter Try.func33, Try.ntmps33
  go_wp2_with (go_at_call 48; refine HM.out.mono ?_; rintro e w1 ⟨rfl, T, hR, hT⟩)
  have HR := Lib.hid hR
  have HT := Lib.hid hT
  have hf := find_any hT.1 name hl
  obtain ⟨c1, z1, hs, hix⟩ := find_loc hT.1 name
  have HIX := Lib.hid hix
  have HG := Lib.hid (get_abs hT.1 name)
  have HSL := Lib.hid (slot_abs hT.1 name)
  have HFX := Lib.hid (show (findM T name).2.2 = (findP (absT T) name).2.2 by rw [find_abs])
  clear hR hT
  generalize hfm : findM T name = r at *
  obtain ⟨rb, i, o⟩ := r
  have HFM := Lib.hid hfm
  generalize hsm : slotM T (rb, i, o) = s at *
  have HSM := Lib.hid hsm
  clear hfm hsm
  have HS := Lib.hid hs
  obtain ⟨p, cap, hsv, hrd, hsl⟩ := hs.own.shape
  rw [hsv] at c1
  have HSV := Lib.hid hsv
  have HC1 := Lib.hid c1
  have HZ1 := Lib.hid z1
  unfold maxLen at hsl
  clear hsv hrd hs hix c1 z1
  cases o with
  | none =>
    have hf2 : Calls Try.prog 49 #[.pointer (some ⟨tb, 0, none⟩), .string (str name)] w1 fun e w' => e = .returned (.tuple #[.pointer (some ⟨rb, i, none⟩), .int .i64 (-1)]) ∧ Below w1.heap.size w1 w' := hf
    have HF := Lib.hid hf2
    clear hf hf2
    go_fit HF.out
    rintro e w2 ⟨rfl, hb⟩
    have hto : TabTo S w w2 tb T := ⟨HT.out.1.below hb, HT.out.2.trans (Chg.of_below (S := S) hb) fun _ _ h => h⟩
    have HTO := Lib.hid hto
    clear hb hto
    go_wp2_with fail
    go_ret2
    refine ⟨T, T, HR.out, ?_, by rw [← HG.out]; rfl, HTO.out⟩
    unfold delP
    simp only [← HFX.out]
  | some j =>
    have hf2 : Calls Try.prog 49 #[.pointer (some ⟨tb, 0, none⟩), .string (str name)] w1 fun e w' => e = .returned (.tuple #[.pointer (some ⟨rb, i, none⟩), .int .i64 (j : Int)]) ∧ Below w1.heap.size w1 w' := hf
    have HF := Lib.hid hf2
    clear hf hf2
    go_fit HF.out
    rintro e w2 ⟨rfl, hb⟩
    obtain ⟨hj, hjn⟩ := ix_lt HIX.out.symm
    have hown := HS.out.own.below hb
    rw [HSV.out] at hown
    obtain ⟨g, cg, hp, _, _⟩ := hown.head (by omega)
    obtain ⟨rfl, rfl⟩ : p = some ⟨g, 0, none⟩ ∧ cap = cg := by simpa using hp
    have hd2 := HT.out.1.below hb
    have HD2 := Lib.hid hd2
    have hsm2 : slotM T (findM T name) = s := by rw [HFM.out]; exact HSM.out
    have hsl1 : s.L.length ≤ 100000 := by
      obtain ⟨hrow, hi, hs⟩ := find_row hd2 name
      rw [← hsm2, ← hs]
      refine (HRR.out T HR.out).2 _ ?_
      have := List.getElem_mem hi
      unfold rowM at this ⊢
      split at this
      · rename_i h1; simp only [if_pos h1]; exact List.mem_append_left _ this
      · rename_i h1; simp only [if_neg h1]; exact List.mem_append_right _ this
    have c1 := cell_below hb HC1.out
    obtain ⟨e1, y1⟩ := hown.get (j := j * 2 + 1) (by rw [prs_len]; omega)
    rw [prs_get1 _ _ hj] at e1
    have k0 : (0 : Int) ≤ (j : Int) := by omega
    have k1 : (j : Int) < (s.L.length : Int) := by omega
    have hjw : IntKind.i64.wrap ((j : Int) + 1) = (j : Int) + 1 := IntWalk.i64_in _ (by omega)
    have hdl := delete_pairs hown hj hsl1
    have HDL := Lib.hid hdl
    have HB := Lib.hid hb
    have hans : ansO (getP (absT T) name) = .tuple #[.int .i64 s.L[j].2, .bool true] := by rw [← HG.out]; simp [ansGet, List.getD, hj]
    have HANS := Lib.hid hans
    have hlen0 : 0 < T.len := HR2.out T HR.out (by rw [← HFX.out]; simp)
    clear hp hown hb hjn hd2 hdl hsm2 y1 hans
    go_wp2_with fail
    go_fit HDL.out
    rintro e w3 ⟨rfl, ho3, hg3⟩
    have hbd : Below w2.heap.size w2 w2 := Below.refl _ _
    have hga : App w2 w3 (.slice (some ⟨g, 0, none⟩) s.L.length cap) (.slice (some ⟨g, 0, none⟩) (s.L.length - 1) cap) := ⟨hg3, .inl rfl⟩
    have hra := row_app HD2.out name (show (slotM T (findM T name)).v = _ by rw [HFM.out]; rw [HSM.out]; exact HSV.out) hga
    rw [HFM.out] at hra
    obtain ⟨c6, z6⟩ := hra
    have HO3 := Lib.hid ho3
    have HG3 := Lib.hid hga
    clear ho3 hg3 hga hbd c1 e1
    go_upto_region 9 with (fail)
    have hsm2 : slotM T (findM T name) = s := by rw [HFM.out]; exact HSM.out
    have hle : (s.L.eraseIdx j).length = s.L.length - 1 := by rw [List.length_eraseIdx]; simp [hj]
    have h4 := HD2.out.setApp name (L' := s.L.eraseIdx j) (v' := .slice (some ⟨g, 0, none⟩) (s.L.length - 1) cap) (w1 := w3) (by rw [hsm2, HSV.out]; exact HG3.out) (by rw [hle]; exact HO3.out)
    rw [show (findM T name).1 = rb by rw [HFM.out], show (findM T name).2.1 = i by rw [HFM.out]] at h4
    have hab := set_abs HT.out.1 name ⟨.slice (some ⟨g, 0, none⟩) (s.L.length - 1) cap, s.L.eraseIdx j⟩
    generalize Go.Proofs.Ytadnabgnbhpijaa.setM T (findM T name) ⟨.slice (some ⟨g, 0, none⟩) (s.L.length - 1) cap, s.L.eraseIdx j⟩ = T1 at *
    obtain ⟨wA, hA⟩ : ∃ v, v = w3.setCell ⟨rb, i, none⟩ (.slice (some ⟨g, 0, none⟩) (s.L.length - 1) cap) := ⟨_, rfl⟩
    rw [← hA] at h4
    simp only [← hA]
    have hT4 : TabTo S w wA tb T1 := by
      refine ⟨h4.1.mono fun k hk => Up.up ?_ hk, (HT.out.2.trans (Chg.of_below (S := S) HB.out) fun _ _ h => h).trans h4.2 fun k hk hu => ?_⟩
      · exact Nat.le_trans HT.out.2.size HB.out.size
      · rcases hu with hu | hu
        · exact hu
        · omega
    have hsp := setP_len (absT T) (findP (absT T) name) (s.L.eraseIdx j)
    simp only at hab
    rw [← hab] at hsp
    have hlen1 : T1.len = T.len := hsp.1
    have hlenb : T1.len ≤ 100000 := by rw [hlen1]; exact (HRR.out T HR.out).1
    obtain ⟨b0, b1, b2, b3, b4⟩ := hT4.1.cells
    have z3 := hT4.1.free 3
    have HAB := Lib.hid hab
    have HT4 := Lib.hid hT4
    have HL1 := Lib.hid hlen1
    have hl1p : 0 < T1.len := by omega
    obtain ⟨n1, hn1⟩ : ∃ n, T1.len = n + 1 := ⟨T1.len - 1, by omega⟩
    have hsub : (T1.len : Int) - 1 = (n1 : Int) := by rw [hn1]; omega
    have hlw : IntKind.i64.wrap ((T1.len : Int) - 1) = (n1 : Int) := by rw [hsub]; exact IntWalk.i64_in _ (by omega)
    clear hab hT4 h4 hsp hlen1 hsm2 hA c6 z6 hsub b0 b1 b2 b4
    go_upto_region 10 with (fail)
    have h5 := HT4.out.1.setTab (T2 := { T1 with len := n1 }) ⟨rfl, rfl, rfl, rfl, rfl⟩ (Chg.setCell wA ⟨tb, 3, none⟩ (.int .i64 (n1 : Int)) rfl) (setCell_row HT4.out.1.row 3 (.int .i64 (n1 : Int))) HT4.out.1.atle
    obtain ⟨wB, hB⟩ : ∃ v, v = wA.setCell ⟨tb, 3, none⟩ (.int .i64 (n1 : Int)) := ⟨_, rfl⟩
    rw [← hB] at h5
    simp only [← hB]
    have hn1' : n1 = (absT T).len - 1 := by show n1 = T.len - 1; rw [← HL1.out, hn1]; rfl
    have hab5 : absT { T1 with len := n1 } = { setP (absT T) (findP (absT T) name) ((slotP (absT T) (findP (absT T) name)).eraseIdx j) with len := (absT T).len - 1 } := by
      rw [← HSL.out, ← HAB.out, ← hn1']
      simp only [absT]
    have hT5 : TabTo S w wB tb { T1 with len := n1 } := ⟨h5.1, HT4.out.2.trans h5.2 fun k hk hu => by
      rcases hu with hu | hu
      · exact hu
      · omega⟩
    have hp := delP_some (absT T) name j HFX.out.symm
    rw [← hab5] at hp
    generalize hT2 : ({ T1 with len := n1 } : TabS) = T2 at *
    have hlen2 : T2.len = n1 := by rw [← hT2]
    obtain ⟨b0, b1, b2, b3, b4⟩ := hT5.1.cells
    rw [hlen2] at b3
    have HP := Lib.hid hp
    have HT5 := Lib.hid hT5
    have HL2 := Lib.hid hlen2
    clear hlen2 hT2 h5 hab5 hp hB hT5 hlw z3 hn1'
    have y0 : wB.frozen? ⟨tb, 0, none⟩ = false := HT5.out.1.free 0
    have y1 : wB.frozen? ⟨tb, 1, none⟩ = false := HT5.out.1.free 1
    have y2 : wB.frozen? ⟨tb, 2, none⟩ = false := HT5.out.1.free 2
    by_cases h0 : n1 = 0
    · have d0 : ((n1 : Int) == 0) = true := by rw [beq_iff_eq]; omega
      have htb : tb < wB.heap.size := row_lt HT5.out.1.row
      have hm8 : ∀ u : World, (Instr.makeSlice 85 (.int .i64 8) (.int .i64 8)).run Try.prog u =
        .ok (.slice (some ⟨u.heap.size, 0, none⟩) 8 8) (u.alloc (.cells (List.replicate 8 (Value.slice none 0 0)).toArray 93)) := fun u => HMK.out u
      go_wp2_with fail
      go_ret2
      have h6 := HT5.out.1.fresh
      refine ⟨T, _, HR.out, ?_, by rw [HANS.out]; rfl, ⟨h6.1.mono fun k hk => Up.up HT5.out.2.size hk, HT5.out.2.trans h6.2 fun k hk hu => ?_⟩⟩
      · rw [HP.out]
        unfold restP
        have e : (absT T2).len = 0 := by show T2.len = 0; rw [HL2.out]; exact h0
        rw [if_pos e]
        simp [absT, List.map_replicate]
      · rcases hu with hu | hu
        · exact hu
        · omega
    · have d0 : ((n1 : Int) == 0) = false := by rw [beq_eq_false_iff_ne]; omega
      go_wp2_with fail
      go_ret2
      refine ⟨T, T2, HR.out, ?_, by rw [HANS.out]; rfl, HT5.out⟩
      rw [HP.out]
      unfold restP
      rw [if_neg]
      show ¬ T2.len = 0
      rw [HL2.out]; exact h0
end
end Go.Proofs.Ytadnabgnbhpijaa
