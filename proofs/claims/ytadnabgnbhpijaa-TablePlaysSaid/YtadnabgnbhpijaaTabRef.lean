/- The document's table, as a list: contracts on Put, Get, Del. -/
import Derived.Test.YtadnabgnbhpijaaTabOk
import Derived.Deep.RegionHeld3
import Derived.Lib.MinMax
set_option linter.unusedSimpArgs false
set_option linter.unusedVariables false
namespace Go.Proofs.Ytadnabgnbhpijaa
open Go.RowKit Go.Maps

theorem slPr : SlT Try.prog 63 103 2 24 := SlT.of (z := .agg #[.string .empty, .int .i64 0]) (by kernel_rfl) rfl (by decide) Try.underlying63
/-- block xb is the document's table with the list m; v is its slice -/
structure RefV (S : Nat → Prop) (w : World) (xb : Nat) (m : Slot) (g : Nat) (v : Value) : Prop where
  st : S xb
  row : w.heap[xb]? = some (.cells #[v, .int .i64 (g : Int)] 65 (0, 0))
  own : OwnS w 0 103 2 v m.length (prs m)
  ob : ∀ k, v.ownBlock = some k → S k
def RefT (S : Nat → Prop) (w : World) (xb : Nat) (m : Slot) (g : Nat) : Prop := ∃ v, RefV S w xb m g v
section
variable {S T : Nat → Prop} {w w' : World} {xb : Nat} {m : Slot} {g : Nat} {v : Value} {name : List UInt8}
theorem RefV.ne (h : RefV S w xb m g v) : ∀ k, v.ownBlock = some k → k ≠ xb := fun k hk e => by
  obtain ⟨cur, fr, hr⟩ := h.own.rowOf hk
  exact row_ne hr h.row (by simp only [ne_eq, Obj.cells.injEq, not_and]; intro _ h; exact absurd h (by decide)) e
theorem RefV.keep (h : RefV S w xb m g v) (hc : Chg T w w') (hn : ∀ k, S k → ¬ T k) : RefV S w' xb m g v :=
  ⟨h.st, hc.row h.row (hn _ h.st), h.own.chg hc fun k hk => hn k (h.ob k hk), h.ob⟩
theorem RefV.below (h : RefV S w xb m g v) (hb : Below w.heap.size w w') : RefV S w' xb m g v := h.keep (T := fun _ => False) (Chg.of_below hb) fun _ _ h => h
theorem RefV.mono (h : RefV S w xb m g v) (hS : ∀ k, S k → T k) : RefV T w xb m g v := ⟨hS _ h.st, h.row, h.own, fun k hk => hS k (h.ob k hk)⟩
theorem RefV.cells (h : RefV S w xb m g v) : w.cell? ⟨xb, 0, none⟩ = some v ∧ w.cell? ⟨xb, 1, none⟩ = some (.int .i64 (g : Int)) := by
  constructor <;> simp [World.cell?, h.row]
theorem RefV.free (h : RefV S w xb m g v) (i : Nat) : w.frozen? ⟨xb, i, none⟩ = false := by simp [World.frozen?, h.row]
theorem RefT.keep (h : RefT S w xb m g) (hc : Chg T w w') (hn : ∀ k, S k → ¬ T k) : RefT S w' xb m g := by obtain ⟨v, hv⟩ := h; exact ⟨v, hv.keep hc hn⟩
theorem RefT.below (h : RefT S w xb m g) (hb : Below w.heap.size w w') : RefT S w' xb m g := by obtain ⟨v, hv⟩ := h; exact ⟨v, hv.below hb⟩
theorem RefT.mono (h : RefT S w xb m g) (hS : ∀ k, S k → T k) : RefT T w xb m g := by obtain ⟨v, hv⟩ := h; exact ⟨v, hv.mono hS⟩
/-- the number's cell is written -/
theorem RefV.setG (h : RefV S w xb m g v) (g' : Nat) : RefV S (w.setCell ⟨xb, 1, none⟩ (.int .i64 (g' : Int))) xb m g' v ∧ Chg S w (w.setCell ⟨xb, 1, none⟩ (.int .i64 (g' : Int))) := by
  have hc : Chg (fun j => j = xb) w (w.setCell ⟨xb, 1, none⟩ (.int .i64 (g' : Int))) := Chg.setCell _ _ _ rfl
  refine ⟨⟨h.st, ?_, h.own.chg hc h.ne, h.ob⟩, hc.mono fun k _ e => by rw [e]; exact h.st⟩
  rw [setCell_row h.row 1 (.int .i64 (g' : Int))]
  rfl
/-- another slice of the call's own is laid into the table -/
theorem RefV.setL (h : RefV S w xb m g v) {w1 : World} {v' : Value} {m' : Slot} (hc : Chg (fun j => v.ownBlock = some j) w w1) (hown : OwnS w1 0 103 2 v' m'.length (prs m')) (hob : ∀ k, v'.ownBlock = some k → v.ownBlock = some k ∨ w.heap.size ≤ k) :
    RefV (Up S w) (w1.setCell ⟨xb, 0, none⟩ v') xb m' g v' ∧ Chg S w (w1.setCell ⟨xb, 0, none⟩ v') := by
  have hlt := row_lt h.row
  have hne : ∀ k, v'.ownBlock = some k → ¬ k = xb := fun k hk e => by
    rcases hob k hk with h1 | h1
    · exact h.ne k h1 e
    · omega
  have hc2 : Chg (fun j => j = xb) w1 (w1.setCell ⟨xb, 0, none⟩ v') := Chg.setCell _ _ _ rfl
  refine ⟨⟨.inl h.st, ?_, hown.chg hc2 hne, fun k hk => ?_⟩, Chg.trans (S := S) (T := fun j => j = xb) (hc.mono fun k _ hk => h.ob k hk) hc2 fun k _ e => by rw [e]; exact h.st⟩
  · rw [setCell_row (hc.row h.row (fun e => h.ne _ e rfl)) 0 v']
    rfl
  · rcases hob k hk with h1 | h1
    · exact .inl (h.ob k h1)
    · exact .inr h1
def NoN (m : Slot) (name : List UInt8) (k : Nat) : Prop := ∀ j (hj : j < m.length), j < k → m[j].1 ≠ name
theorem NoN.step {k : Nat} (h : NoN m name k) (hk : k < m.length) (he : m[k].1 ≠ name) : NoN m name (k + 1) := fun j hj hl => by
  rcases Nat.lt_succ_iff_lt_or_eq.1 hl with h1 | rfl
  · exact h j hj h1
  · exact he
theorem NoN.lk (h : NoN m name m.length) : lk m name = none := lk_none fun p hp => by
  obtain ⟨j, hj, rfl⟩ := List.getElem_of_mem hp
  exact h j hj hj
theorem lk_here_at (hu : (m.map Prod.fst).Nodup) {k : Nat} (hk : k < m.length) (he : m[k].1 = name) : Go.Proofs.Ytadnabgnbhpijaa.lk m name = some m[k].2 := by
  rw [← he]; exact lk_some hu (List.getElem_mem hk)
set_option maxRecDepth 20000 in
theorem rget_any (h : RefT S w xb m g) (hu : (m.map Prod.fst).Nodup) (hl : name.length ≤ maxLen) (hm : m.length ≤ 100000) :
    Calls Try.prog 65 #[.pointer (some ⟨xb, 0, none⟩), .string (str name)] w fun e w' => e = .returned (ansO (lk m name)) ∧ w = w' := by
  obtain ⟨v, h⟩ := h
  obtain ⟨c0, c1⟩ := h.cells
  obtain ⟨p, cap, rfl, hr, _⟩ := h.own.shape
  have HR := Lib.hid hr
  have HU := Lib.hid hu
  clear h hr hu
  go_enter Try.func65, Try.ntmps65
  go_wp2_with fail
  go_loopw [6] (fun i wr => ∃ k, k ≤ m.length ∧ i = .int .i64 (k : Int) ∧ NoN m name k ∧ wr = w) (fun i _ => m.length - (intOf i).toNat)
  case atStart => exact ⟨0, Nat.zero_le _, rfl, fun j _ hj => absurd hj (by omega), rfl⟩
  case round =>
    obtain ⟨k, hk, rfl, hno, rfl⟩ := hrel
    have HN := Lib.hid hno
    clear hno
    by_cases hkl : k < m.length
    · obtain ⟨b, o, rfl, hcc⟩ := HR.out.at (k := k * 2) (by rw [prs_len]; omega)
      have e0 := hcc (k * 2) (by rw [prs_len]; omega)
      have e1 := hcc (k * 2 + 1) (by rw [prs_len]; omega)
      rw [prs_get0 _ _ hkl] at e0
      rw [prs_get1 _ _ hkl, ← Nat.add_assoc] at e1
      clear hcc
      have k0 : (0 : Int) ≤ (k : Int) := by omega
      have k1 : (k : Int) < (m.length : Int) := by omega
      by_cases he : m[k].1 = name
      · have hlk := lk_here_at HU.out hkl he
        have HLK := Lib.hid hlk
        have hq : (m[k].1 == name) = true := by simpa using he
        clear he hlk
        go_wp2_with fail
        go_ret2
        refine ⟨?_, rfl⟩
        rw [HLK.out]; rfl
      · have HN2 := Lib.hid (HN.out.step hkl he)
        have hq : (m[k].1 == name) = false := by simpa using he
        go_wp2_with fail
        exact ⟨⟨k + 1, by omega, by go_num, HN2.out, by trivial⟩, by simp [intOf]; omega⟩
    · obtain rfl : k = m.length := by omega
      have HLK := Lib.hid HN.out.lk
      go_wp2_with fail
      go_ret2
      refine ⟨?_, rfl⟩
      rw [HLK.out]; rfl
/-- how great the list has been, behind Put -/
def gP (m : Slot) (name : List UInt8) (g : Nat) : Nat := if lk m name = none then max (if m.length = 0 then 0 else g) (m.length + 1) else g
theorem news_ref (name : List UInt8) (n : Int) (u : World) : Rd (u.alloc (.cells #[.string (str name), .int .i64 n] 103)) (some ⟨u.heap.size, 0, none⟩) (prs [(name, n)]) :=
  Rd.of_row (heap_alloc_new u _) 0 (by simp [prs])
set_option maxHeartbeats 1000000 in
set_option maxRecDepth 20000 in
theorem rput_any (h : RefT S w xb m g) (hu : (m.map Prod.fst).Nodup) (hl : name.length ≤ maxLen) (hm : m.length ≤ 100000) (hg : g ≤ 100000) (n : Int) :
    Calls Try.prog 64 #[.pointer (some ⟨xb, 0, none⟩), .string (str name), .int .i64 n] w fun e w' => e = .returned (ansO (lk m name)) ∧ RefT (Up S w) w' xb (putM m name n) (gP m name g) ∧ Chg S w w' := by
  obtain ⟨v, h⟩ := h
  obtain ⟨c0, c1⟩ := h.cells
  have z1 := h.free 1
  have z0 := h.free 0
  obtain ⟨p, cap, rfl, hr, _⟩ := h.own.shape
  have HH := Lib.hid h
  have HR := Lib.hid hr
  have HU := Lib.hid hu
  clear h hr hu
  go_enter Try.func64, Try.ntmps64
  go_wp2_with fail
  go_loopw [8] (fun i wr => ∃ k, k ≤ m.length ∧ i = .int .i64 (k : Int) ∧ NoN m name k ∧ wr = w) (fun i _ => m.length - (intOf i).toNat)
  case atStart => exact ⟨0, Nat.zero_le _, rfl, fun j _ hj => absurd hj (by omega), rfl⟩
  case round =>
    obtain ⟨k, hk, rfl, hno, hwr⟩ := hrel
    have HN := Lib.hid hno
    have hwr' := hwr.symm
    subst hwr'
    clear hno hwr
    by_cases hkl : k < m.length
    · obtain ⟨b, cg, hp, _, _⟩ := HH.out.own.head (by omega)
      obtain ⟨rfl, rfl⟩ : p = some ⟨b, 0, none⟩ ∧ cap = cg := by simpa using hp
      clear hp
      have hown := HH.out.own
      obtain ⟨e0, y0⟩ := hown.get (j := k * 2) (by rw [prs_len]; omega)
      obtain ⟨e1, y1⟩ := hown.get (j := k * 2 + 1) (by rw [prs_len]; omega)
      rw [prs_get0 _ _ hkl] at e0
      rw [prs_get1 _ _ hkl] at e1
      have k0 : (0 : Int) ≤ (k : Int) := by omega
      have k1 : (k : Int) < (m.length : Int) := by omega
      by_cases he : m[k].1 = name
      · have hlk := lk_here_at HU.out hkl he
        have hset := hown.set (j := k * 2 + 1) (by rw [prs_len]; omega) (.int .i64 n)
        rw [prs_set _ _ hkl, ← slot_upd (n := n) m HU.out k hkl he] at hset
        have HSET := Lib.hid hset
        have HLK := Lib.hid hlk
        have hq : (m[k].1 == name) = true := by simpa using he
        clear he hlk hown hset
        go_wp2_with fail
        go_ret2
        have hch : Chg (fun j => j = b) w (w.setCell ⟨b, k * 2 + 1, none⟩ (.int .i64 n)) := Chg.setCell _ _ _ rfl
        have hbs : S b := HH.out.ob b rfl
        refine ⟨by rw [HLK.out]; rfl, ⟨.slice (some ⟨b, 0, none⟩) m.length cap, ?_⟩, hch.mono fun j _ e => by rw [e]; exact hbs⟩
        unfold putM gP
        rw [if_neg (by rw [HLK.out]; simp), if_neg (by rw [HLK.out]; simp)]
        refine ⟨.inl HH.out.st, hch.row HH.out.row (fun e => HH.out.ne b rfl e.symm), ?_, fun j hj => .inl (HH.out.ob j hj)⟩
        rw [List.length_map]
        exact HSET.out
      · have HN2 := Lib.hid (HN.out.step hkl he)
        have hq : (m[k].1 == name) = false := by simpa using he
        clear hown
        go_wp2_with fail
        exact ⟨⟨k + 1, by omega, by go_num, HN2.out, by trivial⟩, by simp [intOf]; omega⟩
    · obtain rfl : k = m.length := by omega
      have hlk : lk m name = none := HN.out.lk
      have HLK := Lib.hid hlk
      clear hlk
      by_cases h0 : m.length = 0
      · have d0 : ((m.length : Int) == 0) = true := by rw [beq_iff_eq]; omega
        have HZ := Lib.hid h0
        clear h0
        have hA := HH.out.setG 0
        go_upto_region 10 with (fail)
        obtain ⟨wA, hAw⟩ : ∃ v, v = w.setCell ⟨xb, 1, none⟩ (.int .i64 0) := ⟨_, rfl⟩
        rw [show ((0 : Nat) : Int) = 0 from rfl, ← hAw] at hA
        simp only [← hAw]
        have HA := Lib.hid hA.1
        have HCA := Lib.hid hA.2
        clear hA hAw c0 c1 z0 z1
        obtain ⟨c0, c1⟩ := HA.out.cells
        have HO := Lib.hid HA.out.own
        go_wp2_with (at_builtin; refine mkp ?_)
        unfold Mkp
        refine L_appR slPr Try.underlying63 (HO.out.alloc _) (news_ref name n _) (prs_one _) (show (prs [(name, n)]).length = 1 * 2 from rfl) ?_ ?_ ?_ ?_ ?_
        · rfl
        · rfl
        · exact ⟨_, rfl⟩
        · exact ⟨room1 (by omega), by omega, Nat.zero_le _⟩
        intro v3 w3 ho3 hg3 hk3 hn3; clear hn3 hk3; obtain ⟨p3, cap3, rfl, _, _⟩ := ho3.shape
        have hbal : Below wA.heap.size wA (wA.alloc (.cells #[.string (str name), .int .i64 n] 103)) := (Below.refl _ _).alloc (Nat.le_refl _) _
        have hcg : Chg (fun j => (Value.slice p m.length cap).ownBlock = some j) wA w3 := (Chg.of_below hbal).trans (Chg.of_grown hg3.by_ fun k e => e) fun _ _ h => h
        have hrow3 := hcg.row HA.out.row (fun e => HA.out.ne _ e rfl)
        have q0 : w3.cell? ⟨xb, 0, none⟩ = some (.slice p m.length cap) := by simp [World.cell?, hrow3]
        have y0 : w3.frozen? ⟨xb, 0, none⟩ = false := by simp [World.frozen?, hrow3]
        have hob : ∀ k, (Value.slice p3 (m.length + 1) cap3).ownBlock = some k → (Value.slice p m.length cap).ownBlock = some k ∨ wA.heap.size ≤ k := fun k hk => by
          rcases hg3.new with hn | hn
          · exact .inl (by rw [← hn]; exact hk)
          · have := hn k hk; simp at this; exact .inr (by omega)
        have ho4 : OwnS w3 0 103 2 (.slice p3 (m.length + 1) cap3) (m ++ [(name, n)]).length (prs (m ++ [(name, n)])) := by rw [prs_append, List.length_append]; exact ho3
        have h4 := HA.out.setL hcg ho4 hob
        have H4 := Lib.hid h4
        clear ho3 hg3 hbal hcg hrow3 hob ho4 h4 c0 c1
        simp only [Act.put, List.setIfInBounds_toArray, List.set_cons_zero, List.set_cons_succ]
        go_upto_region 11 with (fail)
        obtain ⟨wB, hB⟩ : ∃ v, v = w3.setCell ⟨xb, 0, none⟩ (.slice p3 (m.length + 1) cap3) := ⟨_, rfl⟩
        have h4 := H4.out
        rw [← hB] at h4
        simp only [← hB]
        have b0 := h4.1.cells.1
        have b1 : wB.cell? ⟨xb, 1, none⟩ = some (.int .i64 0) := h4.1.cells.2
        have z1 := h4.1.free 1
        have HB4 := Lib.hid h4
        have hgm : (max (0 : Int) ((m.length : Int) + 1) : Int) = ((gP m name g : Nat) : Int) := by unfold gP; rw [if_pos HLK.out, if_pos HZ.out]; omega
        clear H4 h4 hB q0 y0
        go_region_with (fail)
        all_goals
          go_wp2_with fail
          go_ret2
          have h5 := HB4.out.1.setG (gP m name g)
          have hpm : putM m name n = m ++ [(name, n)] := by unfold putM; rw [if_pos HLK.out]
          rw [hpm]
          exact ⟨by rw [HLK.out]; rfl, RefT.mono (RefT.below ⟨_, h5.1⟩ ((Below.refl _ _).drew)) (fun k hk => hk.imp id (Nat.le_trans HCA.out.size)), (HCA.out.trans (HB4.out.2.trans h5.2 fun k hk hu => hu.elim id fun h => absurd h (by omega)) fun _ _ h => h).trans (Chg.of_below (S := S) ((Below.refl _ _).drew)) fun _ _ h => h⟩
      · have d0 : ((m.length : Int) == 0) = false := by rw [beq_eq_false_iff_ne]; omega
        have HZ := Lib.hid h0
        clear h0
        go_upto_region 10 with (fail)
        obtain ⟨wA, hAw⟩ : ∃ v, v = w := ⟨_, rfl⟩
        subst hAw
        have HA := HH
        have HCA := Lib.hid (Chg.refl S wA)
        clear c0 c1 z0 z1 HH
        obtain ⟨c0, c1⟩ := HA.out.cells
        have HO := Lib.hid HA.out.own
        go_wp2_with (at_builtin; refine mkp ?_)
        unfold Mkp
        refine L_appR slPr Try.underlying63 (HO.out.alloc _) (news_ref name n _) (prs_one _) (show (prs [(name, n)]).length = 1 * 2 from rfl) ?_ ?_ ?_ ?_ ?_
        · rfl
        · rfl
        · exact ⟨_, rfl⟩
        · exact ⟨room1 (by omega), by omega, Nat.zero_le _⟩
        intro v3 w3 ho3 hg3 hk3 hn3; clear hn3 hk3; obtain ⟨p3, cap3, rfl, _, _⟩ := ho3.shape
        have hbal : Below wA.heap.size wA (wA.alloc (.cells #[.string (str name), .int .i64 n] 103)) := (Below.refl _ _).alloc (Nat.le_refl _) _
        have hcg : Chg (fun j => (Value.slice p m.length cap).ownBlock = some j) wA w3 := (Chg.of_below hbal).trans (Chg.of_grown hg3.by_ fun k e => e) fun _ _ h => h
        have hrow3 := hcg.row HA.out.row (fun e => HA.out.ne _ e rfl)
        have q0 : w3.cell? ⟨xb, 0, none⟩ = some (.slice p m.length cap) := by simp [World.cell?, hrow3]
        have y0 : w3.frozen? ⟨xb, 0, none⟩ = false := by simp [World.frozen?, hrow3]
        have hob : ∀ k, (Value.slice p3 (m.length + 1) cap3).ownBlock = some k → (Value.slice p m.length cap).ownBlock = some k ∨ wA.heap.size ≤ k := fun k hk => by
          rcases hg3.new with hn | hn
          · exact .inl (by rw [← hn]; exact hk)
          · have := hn k hk; simp at this; exact .inr (by omega)
        have ho4 : OwnS w3 0 103 2 (.slice p3 (m.length + 1) cap3) (m ++ [(name, n)]).length (prs (m ++ [(name, n)])) := by rw [prs_append, List.length_append]; exact ho3
        have h4 := HA.out.setL hcg ho4 hob
        have H4 := Lib.hid h4
        clear ho3 hg3 hbal hcg hrow3 hob ho4 h4 c0 c1
        simp only [Act.put, List.setIfInBounds_toArray, List.set_cons_zero, List.set_cons_succ]
        go_upto_region 11 with (fail)
        obtain ⟨wB, hB⟩ : ∃ v, v = w3.setCell ⟨xb, 0, none⟩ (.slice p3 (m.length + 1) cap3) := ⟨_, rfl⟩
        have h4 := H4.out
        rw [← hB] at h4
        simp only [← hB]
        have b0 := h4.1.cells.1
        have b1 := h4.1.cells.2
        have z1 := h4.1.free 1
        have HB4 := Lib.hid h4
        have hgm : (max (g : Int) ((m.length : Int) + 1) : Int) = ((gP m name g : Nat) : Int) := by unfold gP; rw [if_pos HLK.out, if_neg HZ.out]; omega
        clear H4 h4 hB q0 y0
        go_region_with (fail)
        all_goals
          go_wp2_with fail
          go_ret2
          have h5 := HB4.out.1.setG (gP m name g)
          have hpm : putM m name n = m ++ [(name, n)] := by unfold putM; rw [if_pos HLK.out]
          rw [hpm]
          exact ⟨by rw [HLK.out]; rfl, RefT.mono (RefT.below ⟨_, h5.1⟩ ((Below.refl _ _).drew)) (fun k hk => hk.imp id (Nat.le_trans HCA.out.size)), (HCA.out.trans (HB4.out.2.trans h5.2 fun k hk hu => hu.elim id fun h => absurd h (by omega)) fun _ _ h => h).trans (Chg.of_below (S := S) ((Below.refl _ _).drew)) fun _ _ h => h⟩
end
end Go.Proofs.Ytadnabgnbhpijaa
