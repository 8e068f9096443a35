/- The walk over Table.move. -/
import Derived.Test.YtadnabgnbhpijaaTabPut
import Derived.Deep.RegionHeld3
import Derived.Deep.RegionLaw
set_option linter.unusedSimpArgs false
set_option linter.unusedVariables false
namespace Go.Proofs.Ytadnabgnbhpijaa
open Go.RowKit Go.Maps

/-- one step of a move, if there is one to make -/
def moveOne (t : Tab) : Option Tab :=
  if t.moving && decide (t.work < 8) then
    if t.at_ = t.old.length then some { t with old := t.new, new := [], moving := false, at_ := 0 }
    else match (t.old.getD t.at_ []).getLast? with
      | none => some { t with at_ := t.at_ + 1 }
      | some x => some { t with old := t.old.set t.at_ (t.old.getD t.at_ []).dropLast, new := t.new.set (placeN t.new.length x.1) (t.new.getD (placeN t.new.length x.1) [] ++ [x]), work := t.work + 1 }
  else none
/-- steps, one behind the other -/
inductive Goes : Tab → Tab → Prop
  | here (t : Tab) : Goes t t
  | step {a b c : Tab} : Goes a b → moveOne b = some c → Goes a c
/-- what a move does -/
def MovesTo (t t' : Tab) : Prop := Goes { t with work := 0 } t' ∧ moveOne t' = none
/-- every name's length in t is one that Go can have -/
def totT (t : Tab) : Nat := ((t.old ++ t.new).map List.length).sum
def NamesOk (t : Tab) : Prop := (∀ L ∈ t.old ++ t.new, ∀ p ∈ L, p.1.length ≤ maxLen) ∧ totT t ≤ 100000
theorem sum_set : ∀ (l : List Nat) (i : Nat) (h : i < l.length) (a : Nat), (l.set i a).sum + l[i] = l.sum + a
  | x :: r, 0, h, a => by simp; omega
  | x :: r, i + 1, h, a => by
    have ih := sum_set r i (by simpa using h) a
    simp only [List.set_cons_succ, List.sum_cons, List.getElem_cons_succ]
    omega
theorem NamesOk.turn {t : Tab} (h : NamesOk t) {t' : Tab} (ho : t'.old = t.new) (hn : t'.new = []) : NamesOk t' := by
  refine ⟨fun L hL => h.1 L ?_, ?_⟩
  · rw [ho, hn, List.append_nil] at hL; exact List.mem_append_right _ hL
  · have := h.2
    unfold totT at this ⊢
    rw [ho, hn, List.append_nil]
    rw [List.map_append, List.sum_append] at this
    omega
theorem NamesOk.moved {t t' : Tab} (h : NamesOk t) {i k : Nat} (hi : i < t.old.length) (hk : k < t.new.length) {L0 : Slot} {x : List UInt8 × Int} (hL : t.old[i] = L0 ++ [x]) (ho : t'.old = t.old.set i L0) (hn : t'.new = t.new.set k (t.new[k] ++ [x])) : NamesOk t' := by
  have hx : ∀ p ∈ t.old[i], p.1.length ≤ maxLen := h.1 _ (List.mem_append_left _ (List.getElem_mem hi))
  refine ⟨fun L hL' p hp => ?_, ?_⟩
  · rw [ho, hn] at hL'
    rcases List.mem_append.1 hL' with h1 | h1
    · rcases List.mem_or_eq_of_mem_set h1 with h1 | rfl
      · exact h.1 L (List.mem_append_left _ h1) p hp
      · exact hx p (by rw [hL]; exact List.mem_append_left _ hp)
    · rcases List.mem_or_eq_of_mem_set h1 with h1 | rfl
      · exact h.1 L (List.mem_append_right _ h1) p hp
      · rcases List.mem_append.1 hp with hp | hp
        · exact h.1 _ (List.mem_append_right _ (List.getElem_mem hk)) p hp
        · simp at hp; subst hp; exact hx p (by rw [hL]; simp)
  · have h2 := h.2
    unfold totT at h2 ⊢
    rw [ho, hn]
    rw [List.map_append, List.sum_append] at h2 ⊢
    rw [List.map_set, List.map_set]
    have s1 := sum_set (t.old.map List.length) i (by simpa using hi) L0.length
    have s2 := sum_set (t.new.map List.length) k (by simpa using hk) (t.new[k] ++ [x]).length
    simp only [List.getElem_map, hL, List.length_append, List.length_singleton] at s1 s2
    simp only [List.length_append, List.length_singleton]
    omega
def leftT (w : World) (tb : Nat) : Nat :=
  match w.heap[tb]? with
  | some (.cells cs _ _) => (8 - (intOf (cs.getD 4 undef)).toNat) + ((match cs.getD 0 undef with | .slice _ n _ => n | _ => 0) - (intOf (cs.getD 2 undef)).toNat)
  | _ => 0
/-- append in a region that draws its order -/
theorem step_append_S {P : Program} {w : World} {ops : Array Oper} {o : Oper} {a : Act} {K : Act → World → Prop} {Q : Exit → Act → World → Prop} {E : Prop} (hgd : o.guard = none) (s x : Operand) (t tx : TypeId)
    (ho : o.op = .call { callee := .builtin .append, args := #[s, x], argTypes := #[t, tx] }) {e e' : TypeId} {sz bytes : Nat} (T : SlT P t e sz bytes) (htx : P.underlying tx = some (.slice e')) {base : Nat} {v : Value} {n : Nat} {xs : List Value}
    (hown : OwnS w base e sz v n xs) (hs : a.eval s = v) {p : Option Addr} {news : List Value} (hr : Rd w p news) (h1 : ∀ u ∈ news, u.oneCell' = true) {m : Nat} (hm : news.length = m * sz) (c : Nat) (hx : a.eval x = .slice p m c)
    (hroom : n + m ≤ maxLen ∧ (n + m) * bytes ≤ 140737488355328 ∧ base ≤ w.heap.size)
    (h : ∀ v' w', OwnS w' base e sz v' (n + m) (xs ++ news) → App w w' v v' → K (a.put o.dst v') w') : if Region.wanted o (yielded ops a.tmps) = true then Oper.wp P o a w K Q else E := by
  have hw : Region.wanted o (yielded ops a.tmps) = true := by simp [Region.wanted, hgd]
  rw [if_pos hw]
  exact wp_append_S s x t tx ho T htx (.inr ⟨_, rfl⟩) hown hs hx (Src.of_rd hr hm) h1 hroom.1 hroom.2.1 hroom.2.2 fun v' w' h2 h3 _ => h v' w' h2 h3
section
variable {S : Nat → Prop} {w : World} {tb : Nat} {T : TabS}
theorem TabM.left (h : TabM S w tb T) : leftT w tb = (8 - T.work) + (T.old.length - T.at_) := by
  unfold leftT
  rw [h.row]
  simp [intOf]

theorem own_less {base sz n m g cap : Nat} {e : TypeId} {xs : List Value} (h : OwnS w base e sz (.slice (some ⟨g, 0, none⟩) n cap) n xs) (hm : m ≤ n) : OwnS w base e sz (.slice (some ⟨g, 0, none⟩) m cap) m (xs.take (m * sz)) := by
  rcases h.2 with ⟨h0, rfl⟩ | ⟨g', cap', cur, fr, h0, hb, hg, hf, hn, hmx, hs, ht⟩
  · simp at h0
  · cases h0
    refine OwnS.mkLe g cap cur fr hb hg hf (Nat.le_trans hm hn) hmx hs ?_
    rw [← ht, List.take_take]
    congr 1
    exact (Nat.min_eq_left (Nat.mul_le_mul_right _ hm)).symm
theorem place_quiet (p : Option Addr) (n c : Nat) (l : List UInt8) (w : World) (hl : l.length ≤ maxLen) (hn : 0 < n) (hm : n ≤ 2097152) :
    Calls Try.prog 69 #[.slice p n c, .string (str l)] w fun e w' => e = .returned (.int .i64 (placeN n l : Int)) ∧ w' = w :=
  (place_any p n c l w hl hn hm).mono fun e w' ⟨h1, h2⟩ => ⟨h1, h2.symm⟩
theorem TabM.turn (h : TabM S w tb T) (hm : T.moving = true) :
    TabM S (((w.setCell ⟨tb, 0, none⟩ (rowV T.nb T.new.length)).setCell ⟨tb, 1, none⟩ (.slice none 0 0)).setCell ⟨tb, 2, none⟩ (.int .i64 0)) tb { T with ob := T.nb, old := T.new, nb := 0, new := [], moving := false, at_ := 0 } ∧
    Chg S w (((w.setCell ⟨tb, 0, none⟩ (rowV T.nb T.new.length)).setCell ⟨tb, 1, none⟩ (.slice none 0 0)).setCell ⟨tb, 2, none⟩ (.int .i64 0)) := by
  have hc : Chg (fun j => j = tb) w (((w.setCell ⟨tb, 0, none⟩ (rowV T.nb T.new.length)).setCell ⟨tb, 1, none⟩ (.slice none 0 0)).setCell ⟨tb, 2, none⟩ (.int .i64 0)) :=
    Chg.trans (S := fun j => j = tb) (T := fun j => j = tb) (Chg.trans (S := fun j => j = tb) (T := fun j => j = tb) (Chg.setCell _ ⟨tb, 0, none⟩ _ rfl) (Chg.setCell _ ⟨tb, 1, none⟩ _ rfl) fun _ _ h => h) (Chg.setCell _ ⟨tb, 2, none⟩ _ rfl) fun _ _ h => h
  have hrow := setCell_row (setCell_row (setCell_row h.row 0 (rowV T.nb T.new.length)) 1 (.slice none 0 0)) 2 (.int .i64 0)
  generalize ((w.setCell ⟨tb, 0, none⟩ (rowV T.nb T.new.length)).setCell ⟨tb, 1, none⟩ (.slice none 0 0)).setCell ⟨tb, 2, none⟩ (.int .i64 0) = w2 at *
  have hnr := h.new hm
  have hne : ¬ T.nb = tb := fun e => row_ne hnr.row h.row (by simp only [ne_eq, Obj.cells.injEq, not_and]; intro _ h; exact absurd h (by decide)) e
  refine ⟨⟨h.st, hrow, ⟨hnr.sb, hc.row hnr.row hne⟩, fun e => by simp at e, fun e => by simp at e, fun _ => rfl, fun s hs => ?_, ?_, by simp only; rw [h.dbl hm]; have := h.pos; omega, by simp only; rw [h.dbl hm]; exact h.small2 hm, fun e => by simp at e, Nat.zero_le _, fun e => by simp at e⟩, hc.mono fun k _ e => by rw [e]; exact h.st⟩
  · have hs' : s ∈ T.all := by
      simp only [TabS.all, List.append_nil] at hs
      exact List.mem_append_right _ hs
    have h1 := h.slots s hs'
    exact h1.chg hc fun k hk e => by
      obtain ⟨cur, fr, hr⟩ := h1.own.rowOf hk
      exact row_ne hr h.row (by simp only [ne_eq, Obj.cells.injEq, not_and]; intro _ h; exact absurd h (by decide)) e
  · simp only [TabS.all, List.append_nil]
    exact (List.pairwise_append.1 h.apart).2.1
theorem one_turn {T : TabS} (hm : T.moving = true) (hw : T.work < 8) (ha : T.at_ = T.old.length) : moveOne (absT T) = some (absT { T with ob := T.nb, old := T.new, nb := 0, new := [], moving := false, at_ := 0 }) := by
  unfold moveOne
  have e1 : (absT T).moving = true := hm
  have e2 : (absT T).work < 8 := hw
  have e3 : (absT T).at_ = (absT T).old.length := by simpa [absT] using ha
  rw [e1, if_pos (by simp [e2]), if_pos e3]
  rfl
theorem one_skip {T : TabS} (hm : T.moving = true) (hw : T.work < 8) (ha : T.at_ < T.old.length) (hL : (T.old[T.at_]).L = []) : moveOne (absT T) = some (absT { T with at_ := T.at_ + 1 }) := by
  unfold moveOne
  have e1 : (absT T).moving = true := hm
  have e2 : (absT T).work < 8 := hw
  have e3 : ¬ (absT T).at_ = (absT T).old.length := by simp [absT]; omega
  have e4 : (absT T).old.getD (absT T).at_ [] = [] := by
    show (T.old.map SlotM.L).getD T.at_ [] = []
    rw [map_getD]
    simp [List.getD, ha, hL]
  rw [e1, if_pos (by simp [e2]), if_neg e3, e4]
  simp [absT, hm]
theorem one_move {T T2 : TabS} {L0 : Slot} {x : List UInt8 × Int} {k : Nat} {v v' : Value} (hm : T.moving = true) (hw : T.work < 8) (ha : T.at_ < T.old.length) (hL : (T.old[T.at_]).L = L0 ++ [x]) (hk : k < T.new.length) (hp : placeN T.new.length x.1 = k)
    (h2 : T2 = { T with old := T.old.set T.at_ ⟨v, L0⟩, new := T.new.set k ⟨v', (T.new[k]).L ++ [x]⟩, work := T.work + 1 }) : moveOne (absT T) = some (absT T2) := by
  subst h2
  unfold moveOne
  have e1 : (absT T).moving = true := hm
  have e2 : (absT T).work < 8 := hw
  have e3 : ¬ (absT T).at_ = (absT T).old.length := by simp [absT]; omega
  have e4 : (absT T).old.getD (absT T).at_ [] = L0 ++ [x] := by
    show (T.old.map SlotM.L).getD T.at_ [] = _
    rw [map_getD]
    simp [List.getD, ha, hL]
  have e5 : (absT T).new.length = T.new.length := by simp [absT]
  have e6 : (absT T).new.getD k [] = (T.new[k]).L := by
    show (T.new.map SlotM.L).getD k [] = _
    rw [map_getD]
    simp [List.getD, hk]
  rw [e1, if_pos (by simp [e2]), if_neg e3, e4]
  simp only [List.getLast?_concat, List.dropLast_concat, e5, hp, e6]
  simp [absT, hm, List.map_set]
theorem TabM.putNew (h : TabM S w tb T) (hm : T.moving = true) {k : Nat} (hk : k < T.new.length) {v' : Value} {L' : Slot} {w1 w3 : World} (hb : Below w.heap.size w w1) (ha : App w1 w3 (T.new[k]).v v') (hown : OwnS w3 0 92 2 v' L'.length (prs L')) :
    TabM (Up S w) (w3.setCell ⟨T.nb, k, none⟩ v') tb { T with new := T.new.set k ⟨v', L'⟩ } ∧ Chg S w (w3.setCell ⟨T.nb, k, none⟩ v') := by
  have hsl := h.slots _ (List.mem_append_right _ (List.getElem_mem hk))
  have hrow := (h.new hm).row
  have hne : ∀ j, (T.new[k]).v.ownBlock = some j → j ≠ T.nb := fun j hj e => by
    obtain ⟨cur, fr, hr⟩ := hsl.own.rowOf hj
    exact row_ne hrow hr (by simp only [ne_eq, Obj.cells.injEq, not_and]; intro _ h; exact absurd h (by decide)) e.symm
  have hlt := row_lt hrow
  have hlt1 : T.nb < w1.heap.size := Nat.lt_of_lt_of_le hlt hb.size
  have hne' : ∀ j, v'.ownBlock = some j → ¬ j = T.nb := fun j hj e => by
    rcases ha.new with hn | hn
    · exact hne j (by rw [← hn]; exact hj) e
    · have := hn j hj; omega
  have hc0 : Chg (fun j => j = T.nb ∨ (T.new[k]).v.ownBlock = some j) w w1 := Chg.of_below hb
  have hc1 : Chg (fun j => j = T.nb ∨ (T.new[k]).v.ownBlock = some j) w1 w3 := Chg.of_grown ha.by_ fun k e => .inr e
  have hc2 : Chg (fun j => j = T.nb) w3 (w3.setCell ⟨T.nb, k, none⟩ v') := Chg.setCell _ _ _ rfl
  have hrow3 : w3.heap[T.nb]? = some (.cells (T.new.map SlotM.v).toArray 93 (0, 0)) := by
    rw [ha.by_.block T.nb hlt1 (fun e => hne _ e.symm rfl)]; exact below_row hb hrow
  refine h.setNew hm hk (S' := Up S w) (fun k hk => .inl hk) ((hc0.trans hc1 fun _ _ h => h).trans hc2 fun k _ e => .inl e) ?_ ⟨hown.chg hc2 hne', fun j hj => ?_⟩ (fun j hj => ?_)
  · rw [setCell_row hrow3 k v']
    simp [List.map_set]
  · rcases ha.new with hn | hn
    · exact .inl (hsl.ob j (by rw [← hn]; exact hj))
    · exact .inr (Nat.le_trans hb.size (hn j hj))
  · rcases ha.new with hn | hn
    · exact .inl (by rw [← hn]; exact hj)
    · exact .inr (Nat.le_trans hb.size (hn j hj))
def MoveRel (S : Nat → Prop) (w : World) (tb : Nat) (t0 : Tab) (wr : World) : Prop := ∃ T, TabTo S w wr tb T ∧ Goes t0 (absT T) ∧ NamesOk (absT T)
def MoveDoes (S : Nat → Prop) (w : World) (tb : Nat) (t0 : Tab) (e : Ending) (w' : World) : Prop :=
  e = .returned (.tuple #[]) ∧ ∃ T, (Goes t0 (absT T) ∧ moveOne (absT T) = none ∧ NamesOk (absT T)) ∧ TabTo S w w' tb T
theorem abs_work (T : TabS) : (absT T).work = T.work := rfl
theorem TabTo.then_ {w1 w2 : World} {T1 T2 : TabS} {S' : Nat → Prop} (h : TabTo S w w1 tb T1) (h2 : TabM S' w2 tb T2) (hc : Chg (Up S w) w1 w2) (hS : ∀ k, S' k → Up S w k) : TabTo S w w2 tb T2 :=
  ⟨h2.mono hS, h.2.trans hc fun k hk hu => by
    rcases hu with hu | hu
    · exact hu
    · omega⟩
/-- a pair has been appended to a slot of the newer row, and the slot laid back -/
def AppDone (wa : World) (nb kk : Nat) (v0 : Value) (L : Slot) (x : List UInt8 × Int) (wc : World) : Prop :=
  ∃ p3 cap3 w3, OwnS w3 0 92 2 (.slice p3 (L.length + 1) cap3) (L.length + 1) (prs L ++ prs [x]) ∧ App (wa.alloc (.cells #[.string (str x.1), .int .i64 x.2] 92)).drew w3 v0 (.slice p3 (L.length + 1) cap3) ∧
    wc = w3.setCell ⟨nb, kk, none⟩ (.slice p3 (L.length + 1) cap3)
set_option maxHeartbeats 4000000 in
set_option maxRecDepth 20000 in
theorem move_any (h : TabM S w tb T) (hn : NamesOk (absT T)) :
    Calls Try.prog 48 #[.pointer (some ⟨tb, 0, none⟩)] w (MoveDoes S w tb { absT T with work := 0 }) := by
  have f4 := h.free 4
  have c4 := h.cells.2.2.2.2
  have HT0 := Lib.hid h
  have HN0 := Lib.hid hn
  clear h hn
  go_enter Try.func48, Try.ntmps48
  go_wp2_with fail
  go_loopw [8] (fun _ wr => MoveRel S w tb { absT T with work := 0 } wr) (fun _ wr => leftT wr tb)
  case atStart =>
    have hs := HT0.out.setTab (T2 := { T with work := 0 }) ⟨rfl, rfl, rfl, rfl, rfl⟩ (Chg.setCell w ⟨tb, 4, none⟩ (.int .i64 0) rfl) (setCell_row HT0.out.row 4 (.int .i64 0)) HT0.out.atle
    exact ⟨{ T with work := 0 }, ⟨hs.1.mono fun k hk => .inl hk, hs.2⟩, Goes.here _, HN0.out⟩
  case round =>
    obtain ⟨T1, hto, hgo, hnm⟩ := hrel
    have hT := hto.1
    have HTO := Lib.hid hto
    have HGO := Lib.hid hgo
    have HNM := Lib.hid hnm
    have HT := Lib.hid hT
    obtain ⟨c0, c1, c2, c3, c4⟩ := hT.cells
    have hat := hT.atle
    have hsm := hT.small
    clear hto hgo hnm hT c4 c3 f4
    have c4 := HT.out.cells.2.2.2.2
    have hleft := HT.out.left
    have HLF := Lib.hid hleft
    clear hleft
    cases hmv : T1.moving
    · have hnv : T1.newV = .slice none 0 0 := by unfold TabS.newV; rw [hmv]; rfl
      rw [hnv] at c1
      have hnone : moveOne (absT T1) = none := by unfold moveOne; simp [absT, hmv]
      have HNO := Lib.hid hnone
      clear hnv hmv hnone
      go_wp2_with fail
      go_end0
      exact ⟨rfl, T1, ⟨HGO.out, HNO.out, HNM.out⟩, HTO.out⟩
    · have hnv : T1.newV = rowV T1.nb T1.new.length := by unfold TabS.newV; rw [hmv]; rfl
      rw [hnv] at c1
      have HMV := Lib.hid hmv
      have hdb := HT.out.dbl hmv
      by_cases hw8 : T1.work < 8
      · have d8 : decide ((T1.work : Int) < 8) = true := by simp; omega
        have HW8 := Lib.hid hw8
        have HDB := Lib.hid hdb
        clear hnv hmv hdb hw8
        go_wp2_with fail
        by_cases hae : T1.at_ = T1.old.length
        · have dq : (T1.at_ == T1.old.length) = true := by rw [beq_iff_eq]; exact hae
          have HAE := Lib.hid hae
          clear hae hat
          go_quiet (fail)
          obtain ⟨wq, hwq⟩ : ∃ v, v = wr.drewN nq := ⟨_, rfl⟩
          rw [← hwq]
          have hbq : Below wr.heap.size wr wq := by rw [hwq]; exact ⟨rfl, rfl, rfl, Nat.le_refl _, fun _ _ => rfl⟩
          have hTq := HT.out.below hbq
          have q1 := cell_below hbq c1
          have q0 := cell_below hbq c0
          have q2 := cell_below hbq c2
          have y0 := hTq.free 0
          have y1 := hTq.free 1
          have y2 := hTq.free 2
          have HTQ := Lib.hid hTq
          have HBQ := Lib.hid hbq
          clear hwq hbq hTq c0 c1 c2 c4
          go_wp2_with fail
          (try simp only [Exit.inBlock, Exit.then])
          refine bodyPost_ret (results_none rfl _ _ _) rfl ?_
          have h5 := HTQ.out.turn HMV.out
          refine ⟨rfl, _, ⟨HGO.out.step (one_turn HMV.out HW8.out HAE.out), ?_, ?_⟩, HTO.out.then_ h5.1 ((Chg.of_below (S := Up S w) HBQ.out).trans h5.2 fun _ _ h => h) fun _ h => h⟩
          · unfold moveOne absT; simp
          · exact HNM.out.turn rfl rfl
        · have dq : (T1.at_ == T1.old.length) = false := by rw [beq_eq_false_iff_ne]; exact hae
          have hlt : T1.at_ < T1.old.length := by omega
          have hcs := HT.out.old.cell hlt
          have hsA := HT.out.slots _ (List.mem_append_left _ (List.getElem_mem hlt))
          generalize hs : T1.old[T1.at_] = s at *
          obtain ⟨p, cap, hsv, hrd, hsl⟩ := hsA.own.shape
          rw [hsv] at hcs
          have HS := Lib.hid hs
          have HSV := Lib.hid hsv
          have HSA := Lib.hid hsA
          have i0 : (0 : Int) ≤ (T1.at_ : Int) := by omega
          have i1 : (T1.at_ : Int) < (T1.old.length : Int) := by omega
          have iw : (T1.at_ : Int).toNat = T1.at_ := by omega
          unfold maxLen at hsl
          clear hs hsv hrd hae
          rcases List.eq_nil_or_concat s.L with hL | ⟨L0, x, hL⟩
          · clear hsA
            go_quiet (fail)
            obtain ⟨wq, hwq⟩ : ∃ v, v = wr.drewN nq := ⟨_, rfl⟩
            rw [← hwq]
            have hbq : Below wr.heap.size wr wq := by rw [hwq]; exact ⟨rfl, rfl, rfl, Nat.le_refl _, fun _ _ => rfl⟩
            have q0 := cell_below hbq c0
            have q1 := cell_below hbq c1
            have q2 := cell_below hbq c2
            have qs := cell_below hbq hcs
            have HBQ := Lib.hid hbq
            clear hwq hbq c0 c1 c2 c4 hcs dq
            go_wp2_with fail
            go_quiet (fail)
            obtain ⟨wp, hwp⟩ : ∃ v, v = wq.drewN nq := ⟨_, rfl⟩
            rw [← hwp]
            have hbp : Below wr.heap.size wr wp := by rw [hwp]; exact HBQ.out.trans ⟨rfl, rfl, rfl, Nat.le_refl _, fun _ _ => rfl⟩
            have HBP := Lib.hid hbp
            have hTp := HT.out.below hbp
            have HTP := Lib.hid hTp
            obtain ⟨p0, p1, p2, p3, p4⟩ := hTp.cells
            have f2 := hTp.free 2
            have f4 := hTp.free 4
            clear hwp hbp q0 q1 q2 qs
            have hw1 : IntKind.i64.wrap ((T1.at_ : Int) + 1) = (T1.at_ : Int) + 1 := IntWalk.i64_in _ (by omega)
            have HL := Lib.hid hL
            have dl : ((s.L.length : Int) == 0) = true := by rw [hL]; rfl
            have dl' : s.L = [] := hL
            clear hL
            go_wp2_with fail
            have h5 := HTP.out.setTab (T2 := { T1 with at_ := T1.at_ + 1 }) ⟨rfl, rfl, rfl, rfl, rfl⟩ (Chg.setCell wp ⟨tb, 2, none⟩ (.int .i64 ((T1.at_ : Int) + 1)) rfl) (setCell_row HTP.out.row 2 (.int .i64 ((T1.at_ : Int) + 1))) (show T1.at_ + 1 ≤ T1.old.length by omega)
            have hone := one_skip HMV.out HW8.out hlt (by rw [HS.out]; exact HL.out)
            refine ⟨⟨_, HTO.out.then_ h5.1 ((Chg.of_below (S := Up S w) HBP.out).trans h5.2 fun _ _ h => h) fun _ h => h, HGO.out.step hone, HNM.out⟩, ?_⟩
            have h6 := h5.1.left
            have h7 := HLF.out
            rw [h6, h7]
            simp only
            omega
          · rw [List.concat_eq_append] at hL
            have hown := hsA.own
            rw [HSV.out] at hown
            obtain ⟨g, cg, hp, _, hcg⟩ := hown.head (by rw [hL]; simp)
            obtain ⟨rfl, rfl⟩ : p = some ⟨g, 0, none⟩ ∧ cap = cg := by simpa using hp
            have hLl : s.L.length = L0.length + 1 := by rw [hL]; simp
            have hxl : x.1.length ≤ maxLen := by
              refine HNM.out.1 s.L ?_ x (by rw [hL]; simp)
              rw [← HS.out]
              exact List.mem_append_left _ (List.mem_map_of_mem (List.getElem_mem hlt))
            rw [hLl] at hcs hown hcg
            have h0 := (hown.get (j := L0.length * 2) (by rw [prs_len, hLl]; omega)).1
            have h1 := (hown.get (j := L0.length * 2 + 1) (by rw [prs_len, hLl]; omega)).1
            have hlast : s.L[L0.length]'(by omega) = x := by simp [hL]
            rw [prs_get0 _ _ (by omega), hlast] at h0
            rw [prs_get1 _ _ (by omega), hlast] at h1
            have HSA2 := Lib.hid (show ∀ k, (Value.slice (some ⟨g, 0, none⟩) L0.length cap).ownBlock = some k → Up S w k from fun k hk => hsA.ob k (by rw [HSV.out]; exact hk))
            have HOWN := Lib.hid hown
            have HL := Lib.hid hL
            have HLL := Lib.hid hLl
            have hm1 : L0.length ≤ 9223372036854775806 := by omega
            have hmc : L0.length ≤ cap := by omega
            clear hsA hown hL hLl hp hlast hsl
            generalize hmm : L0.length = m at *
            have HMM := Lib.hid hmm
            clear hmm
            go_quiet (fail)
            obtain ⟨wq, hwq⟩ : ∃ v, v = wr.drewN nq := ⟨_, rfl⟩
            rw [← hwq]
            have hbq : Below wr.heap.size wr wq := by rw [hwq]; exact ⟨rfl, rfl, rfl, Nat.le_refl _, fun _ _ => rfl⟩
            have q0 := cell_below hbq c0
            have q1 := cell_below hbq c1
            have q2 := cell_below hbq c2
            have qs := cell_below hbq hcs
            have HBQ := Lib.hid hbq
            clear hwq hbq c0 c1 c2 c4 hcs dq
            go_wp2_with fail
            go_quiet (fail)
            obtain ⟨wp, hwp⟩ : ∃ v, v = wq.drewN nq := ⟨_, rfl⟩
            rw [← hwp]
            have hbp : Below wr.heap.size wr wp := by rw [hwp]; exact HBQ.out.trans ⟨rfl, rfl, rfl, Nat.le_refl _, fun _ _ => rfl⟩
            have HBP := Lib.hid hbp
            have hTp := HT.out.below hbp
            have HTP := Lib.hid hTp
            obtain ⟨p0, p1, p2, p3, p4⟩ := hTp.cells
            have f2 := hTp.free 2
            have f4 := hTp.free 4
            clear hwp hbp q0 q1 q2 qs
            have g0 := cell_below HBP.out h0
            have g1 := cell_below HBP.out h1
            clear h0 h1
            have k0 : (0 : Int) ≤ (m : Int) := by omega
            have tbl : tb < wp.heap.size := row_lt HTP.out.row
            go_wp2_with fail
            obtain ⟨w8, hw8⟩ : ∃ v, v = wp.alloc (.cells #[.string (str x.1), .int .i64 x.2] 92) := ⟨_, rfl⟩
            rw [← hw8]
            have hb8 : Below wp.heap.size wp w8 := by rw [hw8]; exact (Below.refl _ _).alloc (Nat.le_refl _) _
            have hx8 : w8.heap[wp.heap.size]? = some (.cells #[.string (str x.1), .int .i64 x.2] 92) := by rw [hw8]; exact heap_alloc_new _ _
            have HB8 := Lib.hid hb8
            have HX8 := Lib.hid hx8
            have hT8 := HTP.out.below hb8
            have r0 := cell_below hb8 p0
            have r2 := cell_below hb8 p2
            have hrc := hT8.old.cell hlt
            have hrf := hT8.old.free T1.at_
            rw [HS.out, HSV.out] at hrc
            have hsl := fun u => run_slice_to slP u (some ⟨g, 0, none⟩) (m + 1) cap m hmc
            have HT8 := Lib.hid hT8
            have hxs : wp.heap.size < w8.heap.size := row_lt hx8
            clear hw8 hb8 hx8 hT8 p0 p1 p2 p3 p4 f2 f4 g0 g1
            go_region
            go_wp2_with fail
            have hown8 := own_less (m := m) ((HOWN.out.below HBP.out).below HB8.out) (by omega)
            rw [prs_take, HL.out, show (L0 ++ [x]).take m = L0 by rw [← HMM.out]; simp] at hown8
            have hob8 : ¬ g = T1.ob := fun e => by
              obtain ⟨cur, fr, hr⟩ := hown8.rowOf (k := g) rfl
              exact row_ne hr HT8.out.old.row (by simp only [ne_eq, Obj.cells.injEq, not_and]; intro _ h; exact absurd h (by decide)) e
            obtain ⟨w9, hw9⟩ : ∃ v, v = (w8.setCell ⟨T1.ob, T1.at_, none⟩ (.slice (some ⟨g, 0, none⟩) m cap)).drew := ⟨_, rfl⟩
            rw [← hw9]
            have hc9 : Chg (fun j => j = T1.ob) w8 w9 := by
              have h1 := Chg.setCell (S := fun j => j = T1.ob) w8 ⟨T1.ob, T1.at_, none⟩ (.slice (some ⟨g, 0, none⟩) m cap) rfl
              rw [hw9]
              exact ⟨h1.os, h1.tape, h1.output, h1.size, h1.block⟩
            have hrow9 : w9.heap[T1.ob]? = some (.cells ((T1.old.map SlotM.v).toArray.setIfInBounds T1.at_ (.slice (some ⟨g, 0, none⟩) m cap)) 93 (0, 0)) := by
              rw [hw9]
              exact setCell_row HT8.out.old.row T1.at_ _
            have h9 := HT8.out.setOld hlt (S' := Up S w) (s' := ⟨.slice (some ⟨g, 0, none⟩) m cap, L0⟩) (fun _ h => h) (hc9.mono fun k _ e => .inl e) (by rw [hrow9]; simp [List.map_set]) ⟨by rw [HMM.out]; exact hown8.chg hc9 (fun k hk e => by simp [Value.ownBlock] at hk; exact hob8 (hk.trans e)), fun k hk => HSA2.out k hk⟩ (fun j hj => .inl (by rw [HS.out, HSV.out]; exact hj))
            have hxob : ¬ wp.heap.size = T1.ob := fun e => row_ne HX8.out HT8.out.old.row (by simp only [ne_eq, Obj.cells.injEq, not_and]; intro _ h; exact absurd h (by decide)) e
            have hx9 := hc9.row HX8.out hxob
            have HX9 := Lib.hid hx9
            have HC9 := Lib.hid hc9
            generalize hTA : ({ T1 with old := T1.old.set T1.at_ ⟨.slice (some ⟨g, 0, none⟩) m cap, L0⟩ } : TabS) = TA at h9
            have hmvA : TA.moving = true := by rw [← hTA]; exact HMV.out
            have hnewA : TA.new = T1.new ∧ TA.nb = T1.nb ∧ TA.work = T1.work ∧ TA.at_ = T1.at_ ∧ TA.old.length = T1.old.length := by rw [← hTA]; simp
            have HNA := Lib.hid hnewA
            have HTA := Lib.hid hTA
            have HT9 := Lib.hid h9
            have HMA := Lib.hid hmvA
            clear hown8 hob8 hw9 hc9 hrow9 h9 hx9 hxob hTA hmvA hnewA r0 r2 hrc hrf hsl
            have t1 := HT9.out.1.cells.2.1
            rw [show TA.newV = rowV TA.nb TA.new.length by unfold TabS.newV; rw [HMA.out]; rfl, HNA.out.1, HNA.out.2.1] at t1
            have x0 : w9.cell? ⟨wp.heap.size, 0, none⟩ = some (.string (str x.1)) := by simp [World.cell?, HX9.out]
            have x1 : w9.cell? ⟨wp.heap.size, 1, none⟩ = some (.int .i64 x.2) := by simp [World.cell?, HX9.out]
            have hn1 : 0 < T1.new.length := by rw [HDB.out]; omega
            have hn2 : T1.new.length ≤ 2097152 := by rw [HDB.out]; omega
            have hpq := fun u => place_quiet (some ⟨T1.nb, 0, none⟩) T1.new.length T1.new.length x.1 u hxl hn1 hn2
            have HPQ := Lib.hid hpq
            clear hpq
            go_quiet ((go_at_call 69; refine Calls.quiet_of_same (v := .int .i64 (placeN T1.new.length x.1 : Int)) ?_; with_reducible exact HPQ.out _))
            go_wp2_with fail
            obtain ⟨wa, hwa⟩ : ∃ v, v = w9.drewN nq := ⟨_, rfl⟩
            rw [← hwa]
            have hba : Below w9.heap.size w9 wa := by rw [hwa]; exact ⟨rfl, rfl, rfl, Nat.le_refl _, fun _ _ => rfl⟩
            have hTa := HT9.out.1.below hba
            have hkk := placeN_lt T1.new.length x.1 hn1
            generalize hpl : placeN T1.new.length x.1 = kk at *
            have HPL := Lib.hid hpl
            have hkA : kk < TA.new.length := by rw [HNA.out.1]; exact hkk
            have hra := (hTa.new HMA.out).row
            have hrc := (hTa.new HMA.out).cell hkA
            have hss := hTa.slots _ (List.mem_append_right _ (List.getElem_mem hkA))
            rw [HNA.out.2.1] at hrc hra
            generalize hs2 : TA.new[kk] = s2 at *
            obtain ⟨pz, cz, hzv, _, hzl⟩ := hss.own.shape
            rw [hzv] at hrc
            have hown2 := hss.own
            rw [hzv] at hown2
            have u1 := cell_below hba t1
            have hxa := below_row hba HX9.out
            have hs2' : T1.new[kk]'hkk = s2 := by have h := hs2; simp only [HNA.out.1] at h; exact h
            have hxn : ∀ j, (Value.slice pz s2.L.length cz).ownBlock = some j → j ≠ wp.heap.size := fun j hj e => by
              obtain ⟨cur, fr, hr⟩ := (HTP.out.slots _ (List.mem_append_right _ (List.getElem_mem hkk))).own.rowOf (k := j) (by rw [hs2', hzv]; exact hj)
              have := row_lt hr
              omega
            have htn : ¬ (Value.slice pz s2.L.length cz).ownBlock = some tb := fun e => by
              obtain ⟨cur, fr, hr⟩ := hown2.rowOf e
              exact row_ne hr hTa.row (by simp only [ne_eq, Obj.cells.injEq, not_and]; intro _ h; exact absurd h (by decide)) rfl
            have hnn : ¬ (Value.slice pz s2.L.length cz).ownBlock = some T1.nb := fun e => by
              obtain ⟨cur, fr, hr⟩ := hown2.rowOf e
              exact row_ne hr hra (by simp only [ne_eq, Obj.cells.injEq, not_and]; intro _ h; exact absurd h (by decide)) rfl
            have hkeep : ∀ u, Chg (fun j => (Value.slice pz s2.L.length cz).ownBlock = some j) wa u → Chg (fun j => (Value.slice pz s2.L.length cz).ownBlock = some j) wa u ∧ u.cell? ⟨tb, 1, none⟩ = some (rowV T1.nb T1.new.length) ∧ u.cell? ⟨T1.nb, kk, none⟩ = some (.slice pz s2.L.length cz) ∧ u.cell? ⟨wp.heap.size, 0, none⟩ = some (.string (str x.1)) ∧ u.cell? ⟨wp.heap.size, 1, none⟩ = some (.int .i64 x.2) := by
              intro u hc
              refine ⟨hc, ?_, ?_, ?_, ?_⟩
              · rw [hc.cell (p := ⟨tb, 1, none⟩) (block_lt_of_cell u1) htn]; exact u1
              · rw [hc.cell (p := ⟨T1.nb, kk, none⟩) (block_lt_of_cell hrc) hnn]; exact hrc
              · rw [hc.cell (p := ⟨wp.heap.size, 0, none⟩) (row_lt hxa) (fun e => hxn _ e rfl)]; simp [World.cell?, hxa]
              · rw [hc.cell (p := ⟨wp.heap.size, 1, none⟩) (row_lt hxa) (fun e => hxn _ e rfl)]; simp [World.cell?, hxa]
            have hkf : ∀ u, Chg (fun j => (Value.slice pz s2.L.length cz).ownBlock = some j) wa u → u.frozen? ⟨T1.nb, kk, none⟩ = false := by
              intro u hc
              rw [hc.frozen (p := ⟨T1.nb, kk, none⟩) (row_lt hra) hnn]
              have := (hTa.new HMA.out).free kk
              rw [HNA.out.2.1] at this
              exact this
            have HKF := Lib.hid hkf
            have HK := Lib.hid hkeep
            have HO2 := Lib.hid hown2
            have HS2 := Lib.hid hs2
            have HZV := Lib.hid hzv
            have HTA2 := Lib.hid hTa
            have HBA := Lib.hid hba
            have hzs : s2.L.length ≤ 100000 := by
              refine Nat.le_trans ?_ HNM.out.2
              unfold totT
              refine le_sum ?_
              refine List.mem_map_of_mem (f := List.length) (a := s2.L) ?_
              refine List.mem_append_right _ ?_
              rw [← hs2']
              exact List.mem_map_of_mem (List.getElem_mem hkk)
            have kk0 : (0 : Int) ≤ (kk : Int) := by omega
            have kk1 : (kk : Int) < (T1.new.length : Int) := by omega
            have HS2B := Lib.hid hs2'
            clear hkf hkeep hown2 hs2 hzv hTa hwa hba hra hss hpl t1 x0 x1 hxa hxn hzl hs2' htn hnn
            have q1 := (HK.out _ (Chg.refl _ _)).2.1
            have q2 := (HK.out _ (Chg.refl _ _)).2.2.1
            have q3 := (HK.out _ (Chg.refl _ _)).2.2.2.1
            have q4 := (HK.out _ (Chg.refl _ _)).2.2.2.2
            have lt1 := block_lt_of_cell q1
            have lt2 := block_lt_of_cell q2
            have lt3 := block_lt_of_cell q3
            simp only at lt1 lt2 lt3
            go_cut [] (fun wc => AppDone wa T1.nb kk (.slice pz s2.L.length cz) s2.L x wc)
            case first =>
              go_region_law ((refine step_append_S (by rfl) _ _ _ _ (by rfl) slP Try.underlying93 ((HO2.out.alloc _).drew) (by rfl) (Rd.drew (news_of x.1 x.2 _)) (prs_one _) (m := 1) (by rfl) 1 (by rfl) ⟨room1 (by omega), by omega, Nat.zero_le _⟩ ?_; intro v3 w3 ho3 hg3; have hap3 : Chg (fun j => (Value.slice pz s2.L.length cz).ownBlock = some j) wa w3 := (Chg.of_below ((Below.refl _ _).alloc (Nat.le_refl _) _).drew).trans (Chg.of_grown hg3.by_ fun k e => e) (fun _ _ h => h); have z3 := HKF.out _ hap3; obtain ⟨_, z5, z6, z7, z8⟩ := HK.out _ hap3; obtain ⟨p3, cap3, rfl, _, _⟩ := ho3.shape))
              all_goals
                go_wp2_with fail
                go_meet
                exact ⟨p3, cap3, w3, ho3, hg3, rfl⟩
            case rest =>
              obtain ⟨p3, cap3, w3, ho3, hg3, hw4⟩ := hcut
              obtain ⟨w4, hwc⟩ : ∃ v, v = wc := ⟨_, rfl⟩
              subst hwc
              have hbal : Below wa.heap.size wa ((wa.alloc (.cells #[.string (str x.1), .int .i64 x.2] 92)).drew) := ((Below.refl _ _).alloc (Nat.le_refl _) _).drew
              have h4 := HTA2.out.putNew HMA.out hkA (L' := s2.L ++ [x]) (v' := .slice p3 (s2.L.length + 1) cap3) hbal (by rw [HS2.out, HZV.out]; exact hg3) (by rw [prs_append, List.length_append]; exact ho3)
              have htoa : TabTo S w wa tb TA := HTO.out.then_ HTA2.out ((((Chg.of_below (S := Up S w) HBP.out).trans (Chg.of_below (S := Up S w) HB8.out) fun _ _ h => h).trans HT9.out.2 fun _ _ h => h).trans (Chg.of_below (S := Up S w) HBA.out) fun _ _ h => h) fun _ h => h
              have hw4' : w3.setCell ⟨TA.nb, kk, none⟩ (.slice p3 (s2.L.length + 1) cap3) = w4 := by rw [HNA.out.2.1]; exact hw4.symm
              rw [hw4'] at h4
              have hto4 : TabTo S w w4 tb { TA with new := TA.new.set kk ⟨.slice p3 (s2.L.length + 1) cap3, s2.L ++ [x]⟩ } := ⟨h4.1.mono fun k hk => Up.up htoa.2.size hk, htoa.2.trans h4.2 fun k hk hu => by
                rcases hu with hu | hu
                · exact hu
                · omega⟩
              have HTO4 := Lib.hid hto4
              have v4 := hto4.1.cells.2.2.2.2
              have z4 := hto4.1.free 4
              simp only at v4
              rw [HNA.out.2.2.1] at v4
              have hwi : IntKind.i64.wrap ((T1.work : Int) + 1) = (T1.work : Int) + 1 := IntWalk.i64_in _ (by have := HW8.out; omega)
              clear h4 htoa hto4 hw4 hw4' hg3 ho3 hbal q1 q2 q3 q4 hrc u1 lt1 lt2 lt3
              go_wp2_with fail
              have h5 := HTO4.out.1.setTab (T2 := { TA with new := TA.new.set kk ⟨.slice p3 (s2.L.length + 1) cap3, s2.L ++ [x]⟩, work := T1.work + 1 }) ⟨rfl, rfl, rfl, rfl, rfl⟩ (Chg.setCell w4 ⟨tb, 4, none⟩ (.int .i64 ((T1.work : Int) + 1)) rfl) (setCell_row HTO4.out.1.row 4 (.int .i64 ((T1.work : Int) + 1))) HTO4.out.1.atle
              have hone : moveOne (absT T1) = some (absT { TA with new := TA.new.set kk ⟨.slice p3 (s2.L.length + 1) cap3, s2.L ++ [x]⟩, work := T1.work + 1 }) := by
                refine one_move (v := .slice (some ⟨g, 0, none⟩) m cap) (v' := .slice p3 (s2.L.length + 1) cap3) HMV.out HW8.out hlt (by rw [HS.out]; exact HL.out) hkk HPL.out ?_
                rw [← HTA.out, HS2B.out]
              refine ⟨⟨_, HTO4.out.then_ h5.1 h5.2 fun _ h => h, HGO.out.step hone, ?_⟩, ?_⟩
              · refine HNM.out.moved (i := T1.at_) (k := kk) (L0 := L0) (x := x) (by simpa [absT] using hlt) (by simpa [absT] using hkk) ?_ ?_ ?_
                · simp only [absT, List.getElem_map]
                  rw [HS.out]; exact HL.out
                · rw [← HTA.out]; simp [absT, List.map_set]
                · rw [← HTA.out]
                  simp only [absT, List.map_set, List.getElem_map]
                  rw [HS2B.out]
              · have h6 := h5.1.left
                have h7 := HLF.out
                rw [h6, h7]
                have h8 := HW8.out
                have h9 := HNA.out
                simp only
                rw [h9.2.2.2.1, h9.2.2.2.2]
                omega
      · have d8 : decide ((T1.work : Int) < 8) = false := by simp; omega
        have hnone : moveOne (absT T1) = none := by unfold moveOne; simp [absT, hmv, hw8]
        have HNO := Lib.hid hnone
        clear hnv hmv hnone hw8
        go_wp2_with fail
        go_end0
        exact ⟨rfl, T1, ⟨HGO.out, HNO.out, HNM.out⟩, HTO.out⟩
end
end Go.Proofs.Ytadnabgnbhpijaa
