/- A table in plain words; the walk over Table.Put. -/
import Derived.Test.YtadnabgnbhpijaaTabOps
import Derived.Deep.DeepCutAuto
import Derived.Deep.Cut
import Derived.Lib.BufferMore
set_option linter.unusedSimpArgs false
set_option linter.unusedVariables false
namespace Go.Proofs.Ytadnabgnbhpijaa
open Go.RowKit Go.Maps

/-- a table: the elder row; the newer one while it moves; the first slot that is not moved; how many names; how many were moved last -/
structure Tab where
  old : List Slot
  new : List Slot
  moving : Bool
  at_ : Nat
  len : Nat
  work : Nat
def absT (T : TabS) : Tab := ⟨T.old.map SlotM.L, T.new.map SlotM.L, T.moving, T.at_, T.len, T.work⟩
/-- where the search ends: in the newer row?, the slot's place, the name's place -/
def findP (t : Tab) (name : List UInt8) : Bool × Nat × Option Nat :=
  let i := placeN t.old.length name
  match ixOf (t.old.getD i []) name with
  | some j => (false, i, some j)
  | none =>
    if t.moving then
      let k := placeN t.new.length name
      (true, k, ixOf (t.new.getD k []) name)
    else (false, i, none)
def slotP (t : Tab) (r : Bool × Nat × Option Nat) : Slot := if r.1 then t.new.getD r.2.1 [] else t.old.getD r.2.1 []
def setP (t : Tab) (r : Bool × Nat × Option Nat) (L : Slot) : Tab := if r.1 then { t with new := t.new.set r.2.1 L } else { t with old := t.old.set r.2.1 L }
/-- with a name that was not there, a table may grow -/
def growP (t : Tab) : Tab := if !t.moving && decide (2 * t.old.length < t.len) then { t with new := List.replicate (2 * t.old.length) [], moving := true, at_ := 0 } else t
def putP (t : Tab) (name : List UInt8) (n : Int) : Tab :=
  let r := findP t name
  match r.2.2 with
  | some j => setP t r ((slotP t r).set j (((slotP t r).getD j ([], 0)).1, n))
  | none => growP { setP t r (slotP t r ++ [(name, n)]) with len := t.len + 1 }
def getP (t : Tab) (name : List UInt8) : Option Int :=
  let r := findP t name
  match r.2.2 with
  | some j => some ((slotP t r).getD j ([], 0)).2
  | none => none
/-- what Get, Put and Del tell -/
def ansO : Option Int → Value
  | some n => .tuple #[.int .i64 n, .bool true]
  | none => .tuple #[.int .i64 0, .bool false]

def rowM (T : TabS) (r : Nat × Nat × Option Nat) : List SlotM := if r.1 = T.ob then T.old else T.new
def setM (T : TabS) (r : Nat × Nat × Option Nat) (s : SlotM) : TabS := if r.1 = T.ob then { T with old := T.old.set r.2.1 s } else { T with new := T.new.set r.2.1 s }
theorem map_getD (R : List SlotM) (i : Nat) : (R.map SlotM.L).getD i [] = (R.getD i noSlot).L := by
  simp only [List.getD, List.getElem?_map]
  cases R[i]? <;> rfl
section
variable {S : Nat → Prop} {w w' : World} {tb : Nat} {T : TabS}
theorem find_abs (T : TabS) (name : List UInt8) : findM T name = ((if (findP (absT T) name).1 then T.nb else T.ob), (findP (absT T) name).2.1, (findP (absT T) name).2.2) := by
  unfold findM findP absT
  simp only [List.length_map, map_getD]
  cases ixOf (T.old.getD (placeN T.old.length name) noSlot).L name with
  | some j => rfl
  | none =>
    simp only
    cases T.moving <;> rfl
theorem find_new (h : TabM S w tb T) (name : List UInt8) (hr : (findP (absT T) name).1 = true) : T.moving = true := by
  unfold findP absT at hr
  simp only at hr
  split at hr
  · cases hr
  · split at hr
    · assumption
    · cases hr
theorem slot_abs (h : TabM S w tb T) (name : List UInt8) : (slotM T (findM T name)).L = slotP (absT T) (findP (absT T) name) := by
  rw [find_abs]
  unfold slotM slotP
  cases hr : (findP (absT T) name).1
  · simp only [if_true, Bool.false_eq_true, if_false]
    exact (map_getD _ _).symm
  · have hm := find_new h name hr
    simp only [if_true, if_neg (h.ne hm)]
    exact (map_getD _ _).symm
theorem set_abs (h : TabM S w tb T) (name : List UInt8) (s : SlotM) : absT (setM T (findM T name) s) = setP (absT T) (findP (absT T) name) s.L := by
  rw [find_abs]
  unfold setM setP absT
  cases hr : (findP (absT T) name).1
  · have hr' := hr
    unfold absT at hr'
    simp only [hr', if_true, Bool.false_eq_true, if_false, List.map_set]
  · have hm := find_new h name hr
    have hr' := hr
    unfold absT at hr'
    simp only [hr', if_true, if_neg (h.ne hm), List.map_set]
theorem get_abs (h : TabM S w tb T) (name : List UInt8) : ansGet (slotM T (findM T name)) (findM T name).2.2 = ansO (getP (absT T) name) := by
  have e := slot_abs h name
  have e2 : (findM T name).2.2 = (findP (absT T) name).2.2 := by rw [find_abs]
  rw [e2]
  unfold getP
  simp only
  cases (findP (absT T) name).2.2 with
  | none => rfl
  | some j => simp only [ansGet, ansO, e]
theorem TabM.setM {S' : Nat → Prop} (h : TabM S w tb T) (name : List UInt8) {s' : SlotM} (hSS : ∀ k, S k → S' k) (hc : Chg (fun j => j = (findM T name).1 ∨ (slotM T (findM T name)).v.ownBlock = some j) w w')
    (hrow : w'.heap[(findM T name).1]? = some (.cells (((rowM T (findM T name)).set (findM T name).2.1 s').map SlotM.v).toArray 93 (0, 0))) (hy : SlotAt S' w' s')
    (ho : ∀ j, s'.v.ownBlock = some j → (slotM T (findM T name)).v.ownBlock = some j ∨ w.heap.size ≤ j) : TabM S' w' tb (Go.Proofs.Ytadnabgnbhpijaa.setM T (findM T name) s') ∧ Chg S w w' := by
  have hlt := placeN_lt T.old.length name h.pos
  rw [find_abs] at *
  have hi : (findP (absT T) name).1 = false → (findP (absT T) name).2.1 < T.old.length := fun hr => by
    unfold findP absT at hr ⊢
    simp only [List.length_map] at hr ⊢
    cases hx : ixOf ((T.old.map SlotM.L).getD (placeN T.old.length name) []) name with
    | some j => simp only; exact hlt
    | none =>
      rw [hx] at hr
      simp only
      cases hm : T.moving
      · simp only [Bool.false_eq_true, if_false]; exact hlt
      · rw [hm] at hr; simp at hr
  cases hr : (findP (absT T) name).1
  · have hi := hi hr
    have hg : T.old.getD (findP (absT T) name).2.1 noSlot = T.old[(findP (absT T) name).2.1] := by simp [List.getD, hi]
    simp only [hr, Bool.false_eq_true, if_false, slotM, rowM, Go.Proofs.Ytadnabgnbhpijaa.setM, if_true, hg] at hc hrow ho ⊢
    exact h.setOld hi hSS hc hrow hy ho
  · have hm := find_new h name hr
    have hi : (findP (absT T) name).2.1 < T.new.length := by
      have hpos2 : 0 < T.new.length := by rw [h.dbl hm]; have := h.pos; omega
      have hlt2 := placeN_lt T.new.length name hpos2
      unfold findP absT at hr ⊢
      simp only [List.length_map, hm, if_true] at hr ⊢
      split
      · rename_i j h1; rw [h1] at hr; cases hr
      · exact hlt2
    have hg : T.new.getD (findP (absT T) name).2.1 noSlot = T.new[(findP (absT T) name).2.1] := by simp [List.getD, hi]
    simp only [hr, if_true, slotM, rowM, Go.Proofs.Ytadnabgnbhpijaa.setM, if_neg (h.ne hm), hg] at hc hrow ho ⊢
    exact h.setNew hm hi hSS hc hrow hy ho

theorem TabM.grow (h : TabM S w tb T) (hm : T.moving = false) (h2 : 2 * T.old.length ≤ 1048576) :
    TabM (Up S w) (((w.setCell ⟨tb, 1, none⟩ (rowV w.heap.size (2 * T.old.length))).setCell ⟨tb, 2, none⟩ (.int .i64 0)).alloc (.cells (Array.replicate (2 * T.old.length) (Value.slice none 0 0)) 93)) tb
      { T with nb := w.heap.size, new := List.replicate (2 * T.old.length) noSlot, moving := true, at_ := 0 } ∧
    Chg S w (((w.setCell ⟨tb, 1, none⟩ (rowV w.heap.size (2 * T.old.length))).setCell ⟨tb, 2, none⟩ (.int .i64 0)).alloc (.cells (Array.replicate (2 * T.old.length) (Value.slice none 0 0)) 93)) := by
  have hc : Chg (fun j => j = tb) w ((w.setCell ⟨tb, 1, none⟩ (rowV w.heap.size (2 * T.old.length))).setCell ⟨tb, 2, none⟩ (.int .i64 0)) := Chg.trans (S := fun j => j = tb) (T := fun j => j = tb) (Chg.setCell _ ⟨tb, 1, none⟩ _ rfl) (Chg.setCell _ ⟨tb, 2, none⟩ _ rfl) fun _ _ h => h
  have hrow := setCell_row (setCell_row h.row 1 (rowV w.heap.size (2 * T.old.length))) 2 (.int .i64 0)
  have hsz : ((w.setCell ⟨tb, 1, none⟩ (rowV w.heap.size (2 * T.old.length))).setCell ⟨tb, 2, none⟩ (.int .i64 0)).heap.size = w.heap.size := by simp [World.setCell]
  generalize (w.setCell ⟨tb, 1, none⟩ (rowV w.heap.size (2 * T.old.length))).setCell ⟨tb, 2, none⟩ (.int .i64 0) = w1 at *
  have hb : Below w1.heap.size w1 (w1.alloc (.cells (Array.replicate (2 * T.old.length) (Value.slice none 0 0)) 93)) := (Below.refl _ _).alloc (Nat.le_refl _) _
  have hnewrow : (w1.alloc (.cells (Array.replicate (2 * T.old.length) (Value.slice none 0 0)) 93)).heap[w.heap.size]? = some (.cells (Array.replicate (2 * T.old.length) (Value.slice none 0 0)) 93) := by rw [← hsz]; exact heap_alloc_new _ _
  generalize w1.alloc (.cells (Array.replicate (2 * T.old.length) (Value.slice none 0 0)) 93) = w2 at *
  have hob := row_lt h.old.row
  have hne : ¬ T.ob = tb := fun e => row_ne h.old.row h.row (by simp only [ne_eq, Obj.cells.injEq, not_and]; intro _ h; exact absurd h (by decide)) e
  have hall : T.all = T.old := by unfold TabS.all; rw [h.no hm]; simp
  have hst : ∀ k, Up S w k → Up S w k := fun k hk => hk
  refine ⟨⟨.inl h.st, ?_, ⟨.inl h.old.sb, below_row hb (hc.row h.old.row hne)⟩, fun _ => ⟨.inr (Nat.le_refl _), ?_⟩, fun _ => by simp only; omega, fun e => by simp at e, ?_, ?_, h.pos, h.small, fun _ => by simp, Nat.zero_le _, fun _ => h2⟩, ?_⟩
  · have e : TabS.newV { T with nb := w.heap.size, new := List.replicate (2 * T.old.length) noSlot, moving := true, at_ := 0 } = rowV w.heap.size (2 * T.old.length) := by simp [TabS.newV]
    rw [e]
    exact below_row hb hrow
  · rw [empty_row]
    simpa using hnewrow
  · intro s hs
    simp only [TabS.all] at hs
    rcases List.mem_append.1 hs with hs | hs
    · have h1 := h.slots s (by rw [hall]; exact hs)
      have h3 := h1.chg hc fun k hk e => by
        obtain ⟨cur, fr, hr⟩ := h1.own.rowOf hk
        exact row_ne hr h.row (by simp only [ne_eq, Obj.cells.injEq, not_and]; intro _ h; exact absurd h (by decide)) e
      exact ⟨h3.own.below hb, fun k hk => .inl (h3.ob k hk)⟩
    · exact empty_at s (empty_slots _ s hs)
  · simp only [TabS.all]
    refine List.pairwise_append.2 ⟨by have := h.apart; rwa [hall] at this, List.pairwise_replicate.2 (.inr fun k hk => by simp [Value.ownBlock] at hk), fun a _ b hb k _ hk => ?_⟩
    rw [empty_slots _ b hb] at hk
    simp [Value.ownBlock] at hk
  · exact (hc.mono fun k _ e => (by rw [e]; exact h.st : S k)).trans (Chg.of_below (S := S) hb) fun _ _ h => h
theorem absT_grow (T : TabS) (nb : Nat) : absT { T with nb := nb, new := List.replicate (2 * T.old.length) noSlot, moving := true, at_ := 0 } = { absT T with new := List.replicate (2 * (absT T).old.length) [], moving := true, at_ := 0 } := by
  unfold absT
  simp [List.map_replicate]

theorem find_row (h : TabM S w tb T) (name : List UInt8) : w.heap[(findM T name).1]? = some (.cells ((rowM T (findM T name)).map SlotM.v).toArray 93 (0, 0)) ∧
    ∃ hi : (findM T name).2.1 < (rowM T (findM T name)).length, (rowM T (findM T name))[(findM T name).2.1] = slotM T (findM T name) := by
  have hlt := placeN_lt T.old.length name h.pos
  rw [find_abs]
  cases hr : (findP (absT T) name).1
  · have hi : (findP (absT T) name).2.1 < T.old.length := by
      unfold findP absT at hr ⊢
      simp only [List.length_map] at hr ⊢
      cases hx : ixOf ((T.old.map SlotM.L).getD (placeN T.old.length name) []) name with
      | some j => simp only; exact hlt
      | none =>
        rw [hx] at hr
        simp only
        cases hm : T.moving
        · simp only [Bool.false_eq_true, if_false]; exact hlt
        · rw [hm] at hr; simp at hr
    simp only [Bool.false_eq_true, if_false, rowM, slotM, if_true]
    exact ⟨h.old.row, hi, by simp [List.getD, hi]⟩
  · have hm := find_new h name hr
    have hi : (findP (absT T) name).2.1 < T.new.length := by
      have hpos2 : 0 < T.new.length := by rw [h.dbl hm]; have := h.pos; omega
      have hlt2 := placeN_lt T.new.length name hpos2
      unfold findP absT at hr ⊢
      simp only [List.length_map, hm, if_true] at hr ⊢
      split
      · rename_i j h1; rw [h1] at hr; cases hr
      · exact hlt2
    simp only [if_true, rowM, slotM, if_neg (h.ne hm)]
    exact ⟨(h.new hm).row, hi, by simp [List.getD, hi]⟩
theorem map_set_same {R : List SlotM} {i : Nat} (hi : i < R.length) {s' : SlotM} (hv : s'.v = (R[i]).v) : (R.set i s').map SlotM.v = R.map SlotM.v := by
  rw [List.map_set, hv]
  apply List.ext_getElem
  · simp
  · intro j h1 h2
    rw [List.getElem_set]
    split
    · rename_i e; subst e; simp
    · rfl
/-- the slot that the search told has other pairs, in its own cells -/
theorem TabM.setIn (h : TabM S w tb T) (name : List UInt8) {L' : Slot} {g j : Nat} {u : Value} (hg : (slotM T (findM T name)).v.ownBlock = some g) (hown : OwnS (w.setCell ⟨g, j, none⟩ u) 0 92 2 (slotM T (findM T name)).v L'.length (prs L')) :
    TabM S (w.setCell ⟨g, j, none⟩ u) tb (Go.Proofs.Ytadnabgnbhpijaa.setM T (findM T name) ⟨(slotM T (findM T name)).v, L'⟩) ∧ Chg S w (w.setCell ⟨g, j, none⟩ u) := by
  obtain ⟨hrow, hi, hs⟩ := find_row h name
  obtain ⟨_, _, hsl, _⟩ := find_loc h name
  have hc : Chg (fun k => k = g) w (w.setCell ⟨g, j, none⟩ u) := Chg.setCell _ _ _ rfl
  refine h.setM name (fun _ h => h) (hc.mono fun k _ e => .inr (by rw [e]; exact hg)) ?_ ⟨hown, hsl.ob⟩ (fun j hj => .inl hj)
  rw [map_set_same hi (by rw [hs])]
  refine hc.row hrow fun e => ?_
  obtain ⟨cur, fr, hr⟩ := hsl.own.rowOf hg
  rw [e] at hrow
  exact row_ne hrow hr (by simp only [ne_eq, Obj.cells.injEq, not_and]; intro _ h; exact absurd h (by decide)) rfl
/-- the slot that the search told has been appended to, and is laid back -/
theorem TabM.setApp (h : TabM S w tb T) (name : List UInt8) {v' : Value} {L' : Slot} {w1 : World} (ha : App w w1 (slotM T (findM T name)).v v') (hown : OwnS w1 0 92 2 v' L'.length (prs L')) :
    TabM (Up S w) (w1.setCell ⟨(findM T name).1, (findM T name).2.1, none⟩ v') tb (Go.Proofs.Ytadnabgnbhpijaa.setM T (findM T name) ⟨v', L'⟩) ∧ Chg S w (w1.setCell ⟨(findM T name).1, (findM T name).2.1, none⟩ v') := by
  obtain ⟨hrow, hi, hs⟩ := find_row h name
  obtain ⟨_, _, hsl, _⟩ := find_loc h name
  generalize hr : findM T name = r at *
  have hne : ∀ k, (slotM T r).v.ownBlock = some k → k ≠ r.1 := fun k hk e => by
    obtain ⟨cur, fr, hr⟩ := hsl.own.rowOf hk
    exact row_ne hrow hr (by simp only [ne_eq, Obj.cells.injEq, not_and]; intro _ h; exact absurd h (by decide)) e.symm
  have hlt := row_lt hrow
  have hne' : ∀ k, v'.ownBlock = some k → ¬ k = r.1 := fun k hk e => by
    rcases ha.new with hn | hn
    · exact hne k (by rw [← hn]; exact hk) e
    · have := hn k hk; omega
  have hc1 : Chg (fun j => j = r.1 ∨ (slotM T r).v.ownBlock = some j) w w1 := Chg.of_grown ha.by_ fun k e => .inr e
  have hc2 : Chg (fun j => j = r.1) w1 (w1.setCell ⟨r.1, r.2.1, none⟩ v') := Chg.setCell _ _ _ rfl
  have hrow1 : w1.heap[r.1]? = some (.cells ((rowM T r).map SlotM.v).toArray 93 (0, 0)) := by
    rw [ha.by_.block r.1 hlt (fun e => hne _ e.symm rfl)]; exact hrow
  subst hr
  refine h.setM name (S' := Up S w) (fun k hk => .inl hk) (hc1.trans hc2 fun k _ e => .inl e) ?_ ⟨hown.chg hc2 hne', fun k hk => ?_⟩ (fun j hj => ?_)
  · have := setCell_row hrow1 (findM T name).2.1 v'
    rw [this]
    simp [List.map_set]
  · rcases ha.new with hn | hn
    · exact .inl (hsl.ob k (by rw [← hn]; exact hk))
    · exact .inr (hn k hk)
  · rcases ha.new with hn | hn
    · exact .inl (by rw [← hn]; exact hj)
    · exact .inr (hn j hj)
theorem row_app (h : TabM S w tb T) (name : List UInt8) {v0 v' : Value} {w1 : World} (hv : (slotM T (findM T name)).v = v0) (ha : App w w1 v0 v') :
    w1.cell? ⟨(findM T name).1, (findM T name).2.1, none⟩ = some v0 ∧ w1.frozen? ⟨(findM T name).1, (findM T name).2.1, none⟩ = false := by
  obtain ⟨hrow, hi, hs⟩ := find_row h name
  obtain ⟨_, _, hsl, _⟩ := find_loc h name
  subst hv
  have hne : (slotM T (findM T name)).v.ownBlock ≠ some (findM T name).1 := fun e => by
    obtain ⟨cur, fr, hr⟩ := hsl.own.rowOf e
    exact row_ne hrow hr (by simp only [ne_eq, Obj.cells.injEq, not_and]; intro _ h; exact absurd h (by decide)) rfl
  have hrow1 : w1.heap[(findM T name).1]? = some (.cells ((rowM T (findM T name)).map SlotM.v).toArray 93 (0, 0)) := by
    rw [ha.by_.block _ (row_lt hrow) (fun e => hne e.symm)]; exact hrow
  refine ⟨?_, by simp [World.frozen?, hrow1]⟩
  rw [cell_of_row _ _ _ _ _ _ hrow1]
  simp [hi, hs]
theorem setP_len (t : Tab) (r : Bool × Nat × Option Nat) (L : Slot) : (setP t r L).len = t.len ∧ (setP t r L).moving = t.moving ∧ (setP t r L).old.length = t.old.length ∧ (setP t r L).at_ = t.at_ ∧ (setP t r L).work = t.work := by
  unfold setP
  split <;> simp
theorem putP_none (t : Tab) (name : List UInt8) (n : Int) (h : (findP t name).2.2 = none) : putP t name n = growP { setP t (findP t name) (slotP t (findP t name) ++ [(name, n)]) with len := t.len + 1 } := by
  unfold putP
  simp only [h]
theorem news_of (name : List UInt8) (n : Int) (u : World) : Rd (u.alloc (.cells #[.string (str name), .int .i64 n] 92)) (some ⟨u.heap.size, 0, none⟩) (prs [(name, n)]) :=
  Rd.of_row (heap_alloc_new u _) 0 (by simp [prs])
def PutDoes (S : Nat → Prop) (w : World) (tb : Nat) (R : TabS → Prop) (name : List UInt8) (n : Int) (e : Ending) (w' : World) : Prop :=
  ∃ T T', R T ∧ absT T' = putP (absT T) name n ∧ e = .returned (ansO (getP (absT T) name)) ∧ TabTo S w w' tb T'
set_option maxHeartbeats 1000000 in
set_option maxRecDepth 20000 in
theorem put_any {R : TabS → Prop} (h : Moves S w tb R) (hR : ∀ T, R T → T.len ≤ 100000 ∧ ∀ s ∈ T.all, s.L.length ≤ 100000) (name : List UInt8) (n : Int) (hl : name.length ≤ maxLen) :
    Calls Try.prog 28 #[.pointer (some ⟨tb, 0, none⟩), .string (str name), .int .i64 n] w fun e w' =>
      PutDoes S w tb R name n e w' := by
  have HM := Lib.hid h
  have HRR := Lib.hid hR
  clear h hR
  go_enter Try.func28, Try.ntmps28
  go_wp2_with (go_at_call 48; refine HM.out.mono ?_; rintro e w1 ⟨rfl, T, hR, hT⟩)
  have HR := Lib.hid hR
  have HT := Lib.hid hT
  have hf := find_any hT.1 name hl
  obtain ⟨c1, z1, hs, hix⟩ := find_loc hT.1 name
  have HIX := Lib.hid hix
  have HG := Lib.hid (get_abs hT.1 name)
  have HSL := Lib.hid (slot_abs hT.1 name)
  have HFX := Lib.hid (show (findM T name).2.2 = (findP (absT T) name).2.2 by rw [find_abs])
  clear hR hT
  generalize hfm : findM T name = r at *
  obtain ⟨rb, i, o⟩ := r
  have HFM := Lib.hid hfm
  generalize hsm : slotM T (rb, i, o) = s at *
  have HSM := Lib.hid hsm
  clear hfm hsm
  have HS := Lib.hid hs
  obtain ⟨p, cap, hsv, hrd, hsl⟩ := hs.own.shape
  rw [hsv] at c1
  have HSV := Lib.hid hsv
  have HC1 := Lib.hid c1
  have HZ1 := Lib.hid z1
  unfold maxLen at hsl
  clear hsv hrd hs hix c1 z1
  cases o with
  | some j =>
    have hf2 : Calls Try.prog 49 #[.pointer (some ⟨tb, 0, none⟩), .string (str name)] w1 fun e w' => e = .returned (.tuple #[.pointer (some ⟨rb, i, none⟩), .int .i64 (j : Int)]) ∧ Below w1.heap.size w1 w' := hf
    have HF := Lib.hid hf2
    clear hf hf2
    go_fit HF.out
    rintro e w2 ⟨rfl, hb⟩
    obtain ⟨hj, hjn⟩ := ix_lt HIX.out.symm
    have hown := HS.out.own.below hb
    rw [HSV.out] at hown
    obtain ⟨g, cg, hp, _, _⟩ := hown.head (by omega)
    obtain ⟨rfl, rfl⟩ : p = some ⟨g, 0, none⟩ ∧ cap = cg := by simpa using hp
    have c1 := cell_below hb HC1.out
    obtain ⟨e1, y1⟩ := hown.get (j := j * 2 + 1) (by rw [prs_len]; omega)
    rw [prs_get1 _ _ hj] at e1
    have k0 : (0 : Int) ≤ (j : Int) := by omega
    have k1 : (j : Int) < (s.L.length : Int) := by omega
    have hset := hown.set (j := j * 2 + 1) (by rw [prs_len]; omega) (.int .i64 n)
    rw [prs_set _ _ hj] at hset
    have HSET := Lib.hid hset
    have HB := Lib.hid hb
    clear hp hown hset hb hjn
    go_wp2_with fail
    go_ret2
    have hd2 := HT.out.1.below HB.out
    have hL : (s.L.set j (s.L[j].1, n)).length = s.L.length := by simp
    have hsm2 : slotM T (findM T name) = s := by rw [HFM.out]; exact HSM.out
    have h3 := hd2.setIn name (L' := s.L.set j (s.L[j].1, n)) (g := g) (j := j * 2 + 1) (u := .int .i64 n) (by rw [hsm2, HSV.out]; rfl) (by rw [hL, hsm2, HSV.out]; exact HSET.out)
    refine ⟨T, _, HR.out, ?_, ?_, h3.1, (HT.out.2.trans (Chg.of_below (S := S) HB.out) fun _ _ h => h).trans h3.2 fun k hk hu => ?_⟩
    · rw [set_abs HT.out.1]
      unfold putP
      simp only [← HFX.out, ← HSL.out]
      congr 2
      simp [List.getD, hj]
    · rw [← HG.out]
      simp [ansGet, List.getD, hj]
    · rcases hu with hu | hu
      · exact hu
      · omega
  | none =>
    have hf2 : Calls Try.prog 49 #[.pointer (some ⟨tb, 0, none⟩), .string (str name)] w1 fun e w' => e = .returned (.tuple #[.pointer (some ⟨rb, i, none⟩), .int .i64 (-1)]) ∧ Below w1.heap.size w1 w' := hf
    have HF := Lib.hid hf2
    clear hf hf2
    go_fit HF.out
    rintro e w2 ⟨rfl, hb⟩
    have c1 := cell_below hb HC1.out
    have hown := HS.out.own.below hb
    rw [HSV.out] at hown
    have HO := Lib.hid hown
    have HB := Lib.hid hb
    have hd2 := HT.out.1.below hb
    have HD2 := Lib.hid hd2
    have hrb : rb < w2.heap.size := by have := (find_row hd2 name).1; rw [HFM.out] at this; exact row_lt this
    have hsl1 : s.L.length ≤ 100000 := by
      obtain ⟨hrow, hi, hs⟩ := find_row hd2 name
      have hsm2 : slotM T (findM T name) = s := by rw [HFM.out]; exact HSM.out
      rw [← hsm2, ← hs]
      refine (HRR.out T HR.out).2 _ ?_
      have := List.getElem_mem hi
      unfold rowM at this ⊢
      split at this
      · rename_i h1; simp only [if_pos h1]; exact List.mem_append_left _ this
      · rename_i h1; simp only [if_neg h1]; exact List.mem_append_right _ this
    clear hb hown hd2
    go_wp2_with (at_builtin; refine mkp ?_)
    unfold Mkp
    refine L_appR slP Try.underlying93 (HO.out.alloc _) (news_of name n _) (prs_one _) (show (prs [(name, n)]).length = 1 * 2 from rfl) ?_ ?_ ?_ ?_ ?_
    · rfl
    · rfl
    · exact ⟨_, rfl⟩
    · exact ⟨room1 (by omega), by omega, Nat.zero_le _⟩
    intro v3 w3 ho3 hg3 hk3 hn3; clear hn3 hk3; obtain ⟨p3, cap3, rfl, _, _⟩ := ho3.shape
    have hbal : Below w2.heap.size w2 (w2.alloc (.cells #[.string (str name), .int .i64 n] 92)) := (Below.refl _ _).alloc (Nat.le_refl _) _
    have hra := row_app (HD2.out.below hbal) name (show (slotM T (findM T name)).v = _ by rw [HFM.out]; rw [HSM.out]; exact HSV.out) hg3
    rw [HFM.out] at hra; obtain ⟨c6, z6⟩ := hra; have HO3 := Lib.hid ho3; have HG3 := Lib.hid hg3; clear ho3 hg3 hbal
    simp only [Act.put, List.setIfInBounds_toArray, List.set_cons_zero, List.set_cons_succ]
    go_upto_region 10 with (fail)
    have hsm2 : slotM T (findM T name) = s := by rw [HFM.out]; exact HSM.out
    have hbal : Below w2.heap.size w2 (w2.alloc (.cells #[.string (str name), .int .i64 n] 92)) := (Below.refl _ _).alloc (Nat.le_refl _) _
    have h4 := (HD2.out.below hbal).setApp name (L' := s.L ++ [(name, n)]) (v' := .slice p3 (s.L.length + 1) cap3) (w1 := w3) (by rw [hsm2, HSV.out]; exact HG3.out) (by rw [prs_append, List.length_append]; exact HO3.out)
    rw [show (findM T name).1 = rb by rw [HFM.out], show (findM T name).2.1 = i by rw [HFM.out]] at h4
    have hab := set_abs HT.out.1 name ⟨.slice p3 (s.L.length + 1) cap3, s.L ++ [(name, n)]⟩
    generalize Go.Proofs.Ytadnabgnbhpijaa.setM T (findM T name) ⟨.slice p3 (s.L.length + 1) cap3, s.L ++ [(name, n)]⟩ = T1 at *
    obtain ⟨wA, hA⟩ : ∃ v, v = w3.setCell ⟨rb, i, none⟩ (.slice p3 (s.L.length + 1) cap3) := ⟨_, rfl⟩
    rw [← hA] at h4
    simp only [← hA]
    have hT4 : TabTo S w wA tb T1 := by
      refine ⟨h4.1.mono fun k hk => Up.up ?_ hk, ((HT.out.2.trans (Chg.of_below (S := S) HB.out) fun _ _ h => h).trans (Chg.of_below (S := S) hbal) fun _ _ h => h).trans h4.2 fun k hk hu => ?_⟩
      · exact Nat.le_trans HT.out.2.size (Nat.le_trans HB.out.size hbal.size)
      · rcases hu with hu | hu
        · exact hu
        · omega
    have hsp := setP_len (absT T) (findP (absT T) name) (s.L ++ [(name, n)])
    simp only at hab
    rw [← hab] at hsp
    have hlen1 : T1.len = T.len := hsp.1
    have hmov1 : T1.moving = T.moving := hsp.2.1
    have hold1 : T1.old.length = T.old.length := by have := hsp.2.2.1; simpa [absT] using this
    have hlenb : T1.len ≤ 100000 := by rw [hlen1]; exact (HRR.out T HR.out).1
    obtain ⟨b0, b1, b2, b3, b4⟩ := hT4.1.cells
    have z3 := hT4.1.free 3
    have HAB := Lib.hid hab
    have HT4 := Lib.hid hT4
    have HL1 := Lib.hid hlen1
    have hlw : IntKind.i64.wrap ((T1.len : Int) + 1) = (T1.len : Int) + 1 := IntWalk.i64_in _ (by omega)
    clear hab hT4 h4 hsp hlen1 hmov1 hold1 hsm2 hbal hA c1 c6 z6
    go_upto_region 11 with (fail)
    have h5 := HT4.out.1.setTab (T2 := { T1 with len := T1.len + 1 }) ⟨rfl, rfl, rfl, rfl, rfl⟩ (Chg.setCell wA ⟨tb, 3, none⟩ (.int .i64 ((T1.len : Int) + 1)) rfl) (setCell_row HT4.out.1.row 3 (.int .i64 ((T1.len : Int) + 1))) HT4.out.1.atle
    obtain ⟨wB, hB⟩ : ∃ v, v = wA.setCell ⟨tb, 3, none⟩ (.int .i64 ((T1.len : Int) + 1)) := ⟨_, rfl⟩
    rw [← hB] at h5
    simp only [← hB]
    have hab5 : absT { T1 with len := T1.len + 1 } = { setP (absT T) (findP (absT T) name) (slotP (absT T) (findP (absT T) name) ++ [(name, n)]) with len := (absT T).len + 1 } := by
      rw [← HSL.out, ← HAB.out]
      simp only [absT, HL1.out]
    have hT5 : TabTo S w wB tb { T1 with len := T1.len + 1 } := ⟨h5.1, HT4.out.2.trans h5.2 fun k hk hu => by
      rcases hu with hu | hu
      · exact hu
      · omega⟩
    have hp := putP_none (absT T) name n HFX.out.symm
    rw [← hab5] at hp
    have hans : ansO (getP (absT T) name) = .tuple #[.int .i64 0, .bool false] := by rw [← HG.out]; rfl
    generalize hT2 : ({ T1 with len := T1.len + 1 } : TabS) = T2 at *
    have hlen2 : (T2.len : Int) = (T1.len : Int) + 1 := by rw [← hT2]; simp
    have hlb2 : T2.len ≤ 100001 := by omega
    have hob2 : T2.old.length ≤ 1048576 := hT5.1.small
    obtain ⟨b0, b1, b2, b3, b4⟩ := hT5.1.cells
    have HP := Lib.hid hp
    have HT5 := Lib.hid hT5
    have HANS := Lib.hid hans
    clear hlen2 hT2 h5 hab5 hp hB hT5 hans hlw z3
    have em : IntKind.i64.wrap (2 * (T2.old.length : Int)) = 2 * (T2.old.length : Int) := IntWalk.i64_in _ (by omega)
    have hmul : growP (absT T2) = if !T2.moving && decide (2 * T2.old.length < T2.len) then { absT T2 with new := List.replicate (2 * (absT T2).old.length) [], moving := true, at_ := 0 } else absT T2 := by
      unfold growP
      have e : (absT T2).old.length = T2.old.length := by simp [absT]
      rw [e]; rfl
    cases hmv : T2.moving
    · have hnv : T2.newV = .slice none 0 0 := by unfold TabS.newV; rw [hmv]; rfl
      rw [hnv] at b1
      have hq := fun u => Lib.run_eql_slice_nil_nil (P := Try.prog) u 0 0 Try.underlying85
      have HMV := Lib.hid hmv
      by_cases hgr : 2 * T2.old.length < T2.len
      · have hg : growP (absT T2) = { absT T2 with new := List.replicate (2 * (absT T2).old.length) [], moving := true, at_ := 0 } := by rw [hmul, hmv]; simp [hgr]
        have HGR := Lib.hid hg
        have dg : decide (2 * (T2.old.length : Int) < (T2.len : Int)) = true := by simp; omega
        have hsm5 : 2 * T2.old.length ≤ 1048576 := by omega
        clear hnv hmv hg hgr hmul
        go_quiet (fail)
        clear em
        obtain ⟨wq, hwq⟩ : ∃ v, v = wB.drewN nq := ⟨_, rfl⟩
        rw [← hwq]
        have hbq : Below wB.heap.size wB wq := by rw [hwq]; exact ⟨rfl, rfl, rfl, Nat.le_refl _, fun _ _ => rfl⟩
        have q0 := cell_below hbq b0
        have y1 : wq.frozen? ⟨tb, 1, none⟩ = false := (HT5.out.1.below hbq).free 1
        have y2 : wq.frozen? ⟨tb, 2, none⟩ = false := (HT5.out.1.below hbq).free 2
        have q1 := cell_below hbq b1
        have q2 := cell_below hbq b2
        have HBQ := Lib.hid hbq
        have hmk : (Instr.makeSlice 85 (.int .i64 (2 * (T2.old.length : Int))) (.int .i64 (2 * (T2.old.length : Int)))).run Try.prog wq =
          .ok (.slice (some ⟨wq.heap.size, 0, none⟩) (2 * T2.old.length) (2 * T2.old.length)) (wq.alloc (.cells (List.replicate (2 * T2.old.length) (Value.slice none 0 0)).toArray 93)) := by
            have := run_make_slots wq (2 * T2.old.length) (by omega)
            simpa using this
        have htbq : tb < wq.heap.size := row_lt (HT5.out.1.below hbq).row
        clear hwq hbq b0 b1 b2 b3 b4 hq
        go_wp2_with fail
        go_ret2
        have h6 := (HT5.out.1.below HBQ.out).grow HMV.out hsm5
        refine ⟨T, { T2 with nb := wq.heap.size, new := List.replicate (2 * T2.old.length) noSlot, moving := true, at_ := 0 }, HR.out, ?_, by rw [HANS.out]; rfl, ⟨h6.1.mono fun k hk => Up.up (Nat.le_trans HT5.out.2.size HBQ.out.size) hk, (HT5.out.2.trans (Chg.of_below (S := S) HBQ.out) fun _ _ h => h).trans h6.2 fun k hk hu => ?_⟩⟩
        · rw [HP.out, HGR.out]; exact absT_grow T2 _
        · rcases hu with hu | hu
          · exact hu
          · omega
      · have hg : growP (absT T2) = absT T2 := by rw [hmul, hmv]; simp [hgr]
        have HGR := Lib.hid hg
        have dg : decide (2 * (T2.old.length : Int) < (T2.len : Int)) = false := by simp; omega
        clear hnv hmv hg hgr hmul
        go_quiet (fail)
        go_wp2_with fail
        go_ret2
        exact ⟨T, T2, HR.out, by rw [HP.out, HGR.out], by rw [HANS.out]; rfl, ⟨HT5.out.1.below ⟨rfl, rfl, rfl, Nat.le_refl _, fun _ _ => rfl⟩, HT5.out.2.trans (Chg.of_below (S := S) ⟨rfl, rfl, rfl, Nat.le_refl _, fun _ _ => rfl⟩) fun _ _ h => h⟩⟩
    · have hnv : T2.newV = rowV T2.nb T2.new.length := by unfold TabS.newV; rw [hmv]; rfl
      rw [hnv] at b1
      have hg : growP (absT T2) = absT T2 := by rw [hmul, hmv]; rfl
      have HGR := Lib.hid hg
      have hq := fun u => Lib.run_eql_slice_some_nil (P := Try.prog) u ⟨T2.nb, 0, none⟩ T2.new.length T2.new.length Try.underlying85
      clear hnv hmv hg hmul
      go_quiet (fail)
      go_wp2_with fail
      go_ret2
      exact ⟨T, T2, HR.out, by rw [HP.out, HGR.out], by rw [HANS.out]; rfl, ⟨HT5.out.1.below ⟨rfl, rfl, rfl, Nat.le_refl _, fun _ _ => rfl⟩, HT5.out.2.trans (Chg.of_below (S := S) ⟨rfl, rfl, rfl, Nat.le_refl _, fun _ _ => rfl⟩) fun _ _ h => h⟩⟩
end
end Go.Proofs.Ytadnabgnbhpijaa
