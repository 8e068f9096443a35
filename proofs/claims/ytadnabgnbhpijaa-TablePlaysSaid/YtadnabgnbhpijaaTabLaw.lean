/- The plain law of a table: names with numbers, whatever moves. -/
import Derived.Test.YtadnabgnbhpijaaTabMove
import Derived.Test.YtadnabgnbhpijaaTabDelWalk
set_option linter.unusedSimpArgs false
set_option linter.unusedVariables false
namespace Go.Proofs.Ytadnabgnbhpijaa
open Go.RowKit Go.Maps

theorem uniq_eq : ∀ (m : Slot), (m.map Prod.fst).Nodup → ∀ p ∈ m, ∀ q ∈ m, p.1 = q.1 → p = q
  | [], _, p, hp, _, _, _ => by cases hp
  | a :: m, h, p, hp, q, hq, e => by
    rw [List.map_cons, List.nodup_cons] at h
    rcases List.mem_cons.1 hp with e1 | h1 <;> rcases List.mem_cons.1 hq with e2 | h2
    · rw [e1, e2]
    · exact absurd (List.mem_map.2 ⟨q, h2, by rw [← e, e1]⟩) h.1
    · exact absurd (List.mem_map.2 ⟨p, h1, by rw [e, e2]⟩) h.1
    · exact uniq_eq m h.2 p h1 q h2 e
/-- the table reads as m -/
structure Inv (t : Tab) (m : Slot) : Prop where
  pos : 0 < t.old.length
  po : ∀ i (h : i < t.old.length), ∀ p ∈ t.old[i], placeN t.old.length p.1 = i
  pn : ∀ i (h : i < t.new.length), ∀ p ∈ t.new[i], placeN t.new.length p.1 = i
  no : t.moving = false → t.new = []
  dbl : t.moving = true → t.new.length = 2 * t.old.length
  atle : t.at_ ≤ t.old.length
  below : t.moving = true → ∀ i (h : i < t.old.length), i < t.at_ → t.old[i] = []
  perm : ((t.old ++ t.new).flatten).Perm m
  uniq : (m.map Prod.fst).Nodup
  len : t.len = m.length
  zero : m = [] → t.moving = false ∧ t.old.length = 8
def lk (m : Slot) (name : List UInt8) : Option Int := (m.find? (fun p => p.1 == name)).map Prod.snd
theorem lk_some {m : Slot} (h : (m.map Prod.fst).Nodup) {p : List UInt8 × Int} (hp : p ∈ m) : lk m p.1 = some p.2 := by
  unfold lk
  cases hf : m.find? (fun q => q.1 == p.1) with
  | none =>
    rw [List.find?_eq_none] at hf
    exact absurd (hf p hp) (by simp)
  | some q =>
    have h1 := List.mem_of_find?_eq_some hf
    have h2 := List.find?_some hf
    have h3 := uniq_eq m h q h1 p hp (by simpa using h2)
    rw [h3]; rfl
theorem lk_none {m : Slot} {name : List UInt8} (h : ∀ p ∈ m, p.1 ≠ name) : lk m name = none := by
  unfold lk
  have : m.find? (fun q => q.1 == name) = none := by
    rw [List.find?_eq_none]
    intro p hp
    simpa using h p hp
  rw [this]; rfl
theorem ixn_none {L : Slot} {name : List UInt8} (h : ixOf L name = none) : ∀ p ∈ L, p.1 ≠ name := by
  unfold ixOf at h
  rw [List.findIdx?_eq_none_iff] at h
  intro p hp e
  have := h p hp
  simp [e] at this
theorem findP_ix (t : Tab) (name : List UInt8) : (findP t name).2.2 = ixOf (slotP t (findP t name)) name := by
  unfold findP slotP
  simp only
  cases hx : ixOf (t.old.getD (placeN t.old.length name) []) name with
  | some j => simp only [Bool.false_eq_true, if_false]; exact hx.symm
  | none =>
    simp only
    cases t.moving
    · simp only [Bool.false_eq_true, if_false]; exact hx.symm
    · simp only [if_true]
theorem findP_at (t : Tab) (name : List UInt8) : ((findP t name).1 = false ∧ (findP t name).2.1 = placeN t.old.length name) ∨ ((findP t name).1 = true ∧ t.moving = true ∧ (findP t name).2.1 = placeN t.new.length name) := by
  unfold findP
  simp only
  cases hx : ixOf (t.old.getD (placeN t.old.length name) []) name with
  | some j => exact .inl ⟨rfl, rfl⟩
  | none =>
    simp only
    cases t.moving
    · exact .inl ⟨rfl, rfl⟩
    · exact .inr ⟨rfl, rfl, rfl⟩
theorem findP_none (t : Tab) (name : List UInt8) (h : (findP t name).2.2 = none) : ixOf (t.old.getD (placeN t.old.length name) []) name = none ∧ (t.moving = true → ixOf (t.new.getD (placeN t.new.length name) []) name = none) ∧ (findP t name).1 = t.moving := by
  unfold findP at h ⊢
  simp only at h ⊢
  cases hx : ixOf (t.old.getD (placeN t.old.length name) []) name with
  | some j => rw [hx] at h; cases h
  | none =>
    rw [hx] at h
    simp only at h ⊢
    cases hm : t.moving
    · exact ⟨trivial, fun e => (by cases e), rfl⟩
    · rw [hm] at h; exact ⟨trivial, fun _ => h, rfl⟩
theorem getD_of {α : Type} {R : List α} {i : Nat} (h : i < R.length) (d : α) : R.getD i d = R[i] := by simp [List.getD, h]
section
variable {t : Tab} {m : Slot} {name : List UInt8} {n : Int}
theorem Inv.mem (h : Inv t m) (p : List UInt8 × Int) : p ∈ m ↔ (∃ i, ∃ hi : i < t.old.length, p ∈ t.old[i]) ∨ ∃ i, ∃ hi : i < t.new.length, p ∈ t.new[i] := by
  rw [← h.perm.mem_iff, List.mem_flatten]
  constructor
  · rintro ⟨L, hL, hp⟩
    rcases List.mem_append.1 hL with hL | hL
    · obtain ⟨i, hi, rfl⟩ := List.getElem_of_mem hL
      exact .inl ⟨i, hi, hp⟩
    · obtain ⟨i, hi, rfl⟩ := List.getElem_of_mem hL
      exact .inr ⟨i, hi, hp⟩
  · rintro (⟨i, hi, hp⟩ | ⟨i, hi, hp⟩)
    · exact ⟨_, List.mem_append_left _ (List.getElem_mem hi), hp⟩
    · exact ⟨_, List.mem_append_right _ (List.getElem_mem hi), hp⟩
theorem Inv.nodup (h : Inv t m) : (((t.old ++ t.new).flatten).map Prod.fst).Nodup := (h.perm.map Prod.fst).nodup_iff.2 h.uniq
theorem Inv.slot (h : Inv t m) {L : Slot} (hL : L ∈ t.old ++ t.new) : (L.map Prod.fst).Nodup := by
  obtain ⟨A, B, e⟩ := List.append_of_mem hL
  have := h.nodup
  rw [e, List.flatten_append, List.flatten_cons, List.map_append, List.map_append, List.nodup_append, List.nodup_append] at this
  exact this.2.1.1
theorem Inv.both (h : Inv t m) {p q : List UInt8 × Int} {i k : Nat} (hi : i < t.old.length) (hk : k < t.new.length) (hp : p ∈ t.old[i]) (hq : q ∈ t.new[k]) : p.1 ≠ q.1 := by
  have := h.nodup
  rw [List.flatten_append, List.map_append, List.nodup_append] at this
  exact this.2.2 _ (List.mem_map.2 ⟨p, List.mem_flatten.2 ⟨_, List.getElem_mem hi, hp⟩, rfl⟩) _ (List.mem_map.2 ⟨q, List.mem_flatten.2 ⟨_, List.getElem_mem hk, hq⟩, rfl⟩)
theorem Inv.npos (h : Inv t m) (hm : t.moving = true) : 0 < t.new.length := by rw [h.dbl hm]; have := h.pos; omega
/-- the slot that a search tells is one of the rows' -/
theorem Inv.at (h : Inv t m) (name : List UInt8) : (∃ hi : placeN t.old.length name < t.old.length, (findP t name).1 = false ∧ (findP t name).2.1 = placeN t.old.length name ∧ slotP t (findP t name) = t.old[placeN t.old.length name]) ∨
    (∃ hi : placeN t.new.length name < t.new.length, (findP t name).1 = true ∧ t.moving = true ∧ (findP t name).2.1 = placeN t.new.length name ∧ slotP t (findP t name) = t.new[placeN t.new.length name]) := by
  rcases findP_at t name with ⟨h1, h2⟩ | ⟨h1, h2, h3⟩
  · have hi := placeN_lt t.old.length name h.pos
    refine .inl ⟨hi, h1, h2, ?_⟩
    unfold slotP
    rw [h1, h2]
    exact getD_of hi _
  · have hi := placeN_lt t.new.length name (h.npos h2)
    refine .inr ⟨hi, h1, h2, h3, ?_⟩
    unfold slotP
    rw [h1, h3]
    exact getD_of hi _
theorem Inv.slotIn (h : Inv t m) (name : List UInt8) : slotP t (findP t name) ∈ t.old ++ t.new := by
  rcases h.at name with ⟨hi, _, _, e⟩ | ⟨hi, _, _, _, e⟩
  · rw [e]; exact List.mem_append_left _ (List.getElem_mem hi)
  · rw [e]; exact List.mem_append_right _ (List.getElem_mem hi)
theorem Inv.inM (h : Inv t m) {L : Slot} (hL : L ∈ t.old ++ t.new) {p : List UInt8 × Int} (hp : p ∈ L) : p ∈ m := by
  rw [← h.perm.mem_iff, List.mem_flatten]; exact ⟨L, hL, hp⟩
theorem Inv.found (h : Inv t m) {j : Nat} (hf : (findP t name).2.2 = some j) : ∃ hj : j < (slotP t (findP t name)).length, (slotP t (findP t name))[j].1 = name ∧ (slotP t (findP t name))[j] ∈ m := by
  rw [findP_ix] at hf
  obtain ⟨hj, e⟩ := ix_lt hf
  exact ⟨hj, e, h.inM (h.slotIn name) (List.getElem_mem hj)⟩
theorem Inv.lost (h : Inv t m) (hf : (findP t name).2.2 = none) : ∀ p ∈ m, p.1 ≠ name := by
  intro p hp e
  obtain ⟨f1, f2, _⟩ := findP_none t name hf
  rcases (h.mem p).1 hp with ⟨i, hi, hp⟩ | ⟨i, hi, hp⟩
  · have := h.po i hi p hp
    rw [e] at this
    subst this
    rw [getD_of hi] at f1
    exact ixn_none f1 p hp e
  · have hm : t.moving = true := by
      cases hm : t.moving
      · rw [h.no hm] at hi; simp at hi
      · rfl
    have := h.pn i hi p hp
    rw [e] at this
    subst this
    have f2 := f2 hm
    rw [getD_of hi] at f2
    exact ixn_none f2 p hp e
theorem Inv.get (h : Inv t m) (name : List UInt8) : getP t name = lk m name := by
  unfold getP
  simp only
  cases hf : (findP t name).2.2 with
  | none => simp only; exact (lk_none (h.lost hf)).symm
  | some j =>
    obtain ⟨hj, e, hm⟩ := h.found hf
    simp only
    rw [getD_of hj, ← lk_some h.uniq hm, e]

/-- a row with one slot rewritten, name by name -/
theorem row_map (f : Slot → Slot) (R : List Slot) (i : Nat) (hi : i < R.length) (ho : ∀ k (hk : k < R.length), k ≠ i → f R[k] = R[k]) : R.map f = R.set i (f R[i]) := by
  apply List.ext_getElem
  · simp
  · intro k h1 h2
    rw [List.getElem_map, List.getElem_set]
    have hk : k < R.length := by simpa using h1
    split
    · rename_i e; subst e; rfl
    · rename_i e; exact ho k hk (fun e' => e e'.symm)
theorem row_same (f : Slot → Slot) (R : List Slot) (ho : ∀ k (hk : k < R.length), f R[k] = R[k]) : R.map f = R := by
  apply List.ext_getElem
  · simp
  · intro k h1 h2
    rw [List.getElem_map]
    exact ho k (by simpa using h1)
/-- where all slots without the name stay, and the one with it becomes L' -/
theorem Inv.setAll (h : Inv t m) (f : Slot → Slot) (hf : ∀ L, (∀ p ∈ L, p.1 ≠ name) → f L = L) {j : Nat} (hs : (findP t name).2.2 = some j) :
    setP t (findP t name) (f (slotP t (findP t name))) = { t with old := t.old.map f, new := t.new.map f } := by
  obtain ⟨hj, e, hm⟩ := h.found hs
  rcases h.at name with ⟨hi, h1, h2, h3⟩ | ⟨hi, h1, hmv, h2, h3⟩
  · have hin : (slotP t (findP t name))[j] ∈ t.old[placeN t.old.length name] := by rw [← h3]; exact List.getElem_mem hj
    unfold setP
    rw [h1, h2, h3]
    simp only [Bool.false_eq_true, if_false]
    rw [row_map f t.old _ hi fun k hk hne => hf _ fun p hp ep => hne (by have := h.po k hk p hp; rw [ep] at this; exact this.symm)]
    rw [row_same f t.new fun k hk => hf _ fun q hq eq => h.both hi hk hin hq (e.trans eq.symm)]
  · have hin : (slotP t (findP t name))[j] ∈ t.new[placeN t.new.length name] := by rw [← h3]; exact List.getElem_mem hj
    unfold setP
    rw [h1, h2, h3]
    simp only [if_true]
    rw [row_map f t.new _ hi fun k hk hne => hf _ fun p hp ep => hne (by have := h.pn k hk p hp; rw [ep] at this; exact this.symm)]
    rw [row_same f t.old fun k hk => hf _ fun q hq eq => h.both hk hi hq hin (eq.trans e.symm)]
/-- a name's number is another one -/
def updF (name : List UInt8) (n : Int) (p : List UInt8 × Int) : List UInt8 × Int := if p.1 = name then (name, n) else p
theorem updF_fst (name : List UInt8) (n : Int) (p : List UInt8 × Int) : (updF name n p).1 = p.1 := by
  unfold updF; split
  · rename_i e; exact e.symm
  · rfl
theorem slot_upd : ∀ (L : Slot) (_ : (L.map Prod.fst).Nodup) (j : Nat) (hj : j < L.length) (_ : L[j].1 = name), L.map (updF name n) = L.set j (L[j].1, n)
  | [], _, j, hj, _ => by simp at hj
  | p :: L, hn, 0, hj, e => by
    rw [List.map_cons, List.nodup_cons] at hn
    simp only [List.getElem_cons_zero] at e
    simp only [List.map_cons, List.set_cons_zero, List.getElem_cons_zero]
    congr 1
    · unfold updF; rw [if_pos e, e]
    · have : L.map (updF name n) = L.map id := List.map_congr_left fun q hq => by
        unfold updF
        rw [if_neg fun eq => hn.1 (List.mem_map.2 ⟨q, hq, by rw [eq, e]⟩)]; rfl
      rw [this, List.map_id]
  | p :: L, hn, j + 1, hj, e => by
    rw [List.map_cons, List.nodup_cons] at hn
    have hj' : j < L.length := by simpa using hj
    have e' : L[j].1 = name := by simpa using e
    have ih := slot_upd L hn.2 j hj' e'
    simp only [List.map_cons, List.set_cons_succ, List.getElem_cons_succ]
    rw [ih]
    congr 1
    unfold updF
    rw [if_neg fun eq => hn.1 (List.mem_map.2 ⟨L[j], List.getElem_mem hj', by rw [e', eq]⟩)]
theorem upd_same {L : Slot} (h : ∀ p ∈ L, p.1 ≠ name) : L.map (updF name n) = L := by
  have : L.map (updF name n) = L.map id := List.map_congr_left fun q hq => by unfold updF; rw [if_neg (h q hq)]; rfl
  rw [this, List.map_id]
theorem Inv.put_old (h : Inv t m) {j : Nat} (hs : (findP t name).2.2 = some j) : Inv (putP t name n) (m.map (updF name n)) ∧ putP t name n = { t with old := t.old.map (List.map (updF name n)), new := t.new.map (List.map (updF name n)) } := by
  obtain ⟨hj, e, hm⟩ := h.found hs
  have hp : putP t name n = { t with old := t.old.map (List.map (updF name n)), new := t.new.map (List.map (updF name n)) } := by
    rw [← h.setAll (List.map (updF name n)) (fun L hL => upd_same hL) hs]
    unfold putP
    simp only [hs]
    rw [getD_of hj, slot_upd _ (h.slot (h.slotIn name)) j hj e]
  refine ⟨?_, hp⟩
  rw [hp]
  refine ⟨by simpa using h.pos, ?_, ?_, fun e => by simp [h.no e], fun e => by simpa using h.dbl e, by simpa using h.atle, ?_, ?_, ?_, by simpa using h.len, fun e => by simpa using h.zero (by simpa using e)⟩
  · intro i hi p hp
    simp only [List.length_map, List.getElem_map, List.mem_map] at hi hp ⊢
    obtain ⟨q, hq, rfl⟩ := hp
    rw [updF_fst]; exact h.po i hi q hq
  · intro i hi p hp
    simp only [List.length_map, List.getElem_map, List.mem_map] at hi hp ⊢
    obtain ⟨q, hq, rfl⟩ := hp
    rw [updF_fst]; exact h.pn i hi q hq
  · intro hmv i hi ha
    simp only [List.length_map, List.getElem_map] at hi ⊢
    rw [h.below hmv i hi ha]; rfl
  · simp only
    rw [← List.map_append, ← List.map_flatten]
    exact h.perm.map _
  · have : (m.map (updF name n)).map Prod.fst = m.map Prod.fst := by
      rw [List.map_map]
      exact List.map_congr_left fun p _ => updF_fst name n p
    rw [this]; exact h.uniq
/-- a name is taken away -/
def offF (name : List UInt8) (p : List UInt8 × Int) : Bool := !(p.1 == name)
theorem off_same {L : Slot} (h : ∀ p ∈ L, p.1 ≠ name) : L.filter (offF name) = L := List.filter_eq_self.2 fun p hp => by simpa [offF] using h p hp
theorem slot_off : ∀ (L : Slot) (_ : (L.map Prod.fst).Nodup) (j : Nat) (hj : j < L.length) (_ : L[j].1 = name), L.filter (offF name) = L.eraseIdx j
  | [], _, j, hj, _ => by simp at hj
  | p :: L, hn, 0, hj, e => by
    rw [List.map_cons, List.nodup_cons] at hn
    simp only [List.getElem_cons_zero] at e
    rw [List.filter_cons_of_neg (by simp [offF, e]), List.eraseIdx_cons_zero]
    exact off_same fun q hq eq => hn.1 (List.mem_map.2 ⟨q, hq, by rw [eq, e]⟩)
  | p :: L, hn, j + 1, hj, e => by
    rw [List.map_cons, List.nodup_cons] at hn
    have hj' : j < L.length := by simpa using hj
    have e' : L[j].1 = name := by simpa using e
    have hne : p.1 ≠ name := fun eq => hn.1 (List.mem_map.2 ⟨L[j], List.getElem_mem hj', by rw [e', eq]⟩)
    rw [List.filter_cons_of_pos (by simpa [offF] using hne), List.eraseIdx_cons_succ, slot_off L hn.2 j hj' e']
theorem off_len : ∀ (m : Slot) (_ : (m.map Prod.fst).Nodup) (p : List UInt8 × Int) (_ : p ∈ m), (m.filter (offF p.1)).length + 1 = m.length := by
  intro m hn p hp
  obtain ⟨j, hj, rfl⟩ := List.getElem_of_mem hp
  rw [slot_off m hn j hj rfl, List.length_eraseIdx]
  simp only [hj, if_true]
  omega
theorem Inv.del_old (h : Inv t m) {j : Nat} (hs : (findP t name).2.2 = some j) : Inv (delP t name) (m.filter (offF name)) ∧
    delP t name = restP { t with old := t.old.map (List.filter (offF name)), new := t.new.map (List.filter (offF name)), len := t.len - 1 } ∧ (m.filter (offF name)).length + 1 = m.length := by
  obtain ⟨hj, e, hm⟩ := h.found hs
  have hp : delP t name = restP { t with old := t.old.map (List.filter (offF name)), new := t.new.map (List.filter (offF name)), len := t.len - 1 } := by
    rw [delP_some t name j hs, ← slot_off _ (h.slot (h.slotIn name)) j hj e, h.setAll (List.filter (offF name)) (fun L hL => off_same hL) hs]
  have hl : (m.filter (offF name)).length + 1 = m.length := by
    have := off_len m h.uniq _ hm
    rwa [e] at this
  refine ⟨?_, hp, hl⟩
  rw [hp]
  have hlen := h.len
  by_cases h0 : t.len - 1 = 0
  · have hm0 : m.filter (offF name) = [] := List.length_eq_zero_iff.1 (by omega)
    rw [hm0]
    unfold restP
    rw [if_pos (by simpa using h0)]
    refine ⟨by simp, ?_, by simp, fun _ => rfl, by simp, by simp, by simp, ?_, by simp, by simpa using h0, by simp⟩
    · intro i hi p hp
      exact absurd hp (by show ¬ p ∈ (List.replicate 8 ([] : Slot))[i]'hi; rw [List.getElem_replicate]; exact List.not_mem_nil)
    · simp
  · unfold restP
    rw [if_neg (by simpa using h0)]
    refine ⟨by simpa using h.pos, ?_, ?_, fun e => by simp [h.no e], fun e => by simpa using h.dbl e, by simpa using h.atle, ?_, ?_, ?_, by simp only; omega, fun e => ?_⟩
    · intro i hi p hp
      simp only [List.length_map, List.getElem_map, List.mem_filter] at hi hp ⊢
      exact h.po i hi p hp.1
    · intro i hi p hp
      simp only [List.length_map, List.getElem_map, List.mem_filter] at hi hp ⊢
      exact h.pn i hi p hp.1
    · intro hmv i hi ha
      simp only [List.length_map, List.getElem_map] at hi ⊢
      rw [h.below hmv i hi ha]; rfl
    · simp only
      rw [← List.map_append, ← List.filter_flatten]
      exact h.perm.filter _
    · exact List.Sublist.nodup (List.filter_sublist.map Prod.fst) h.uniq
    · rw [e] at hl
      simp at hl
      omega
theorem flat_app (x : List UInt8 × Int) : ∀ (R : List Slot) (i : Nat) (hi : i < R.length), ((R.set i (R[i] ++ [x])).flatten).Perm (x :: R.flatten)
  | L :: R, 0, _ => by
    simp only [List.set_cons_zero, List.getElem_cons_zero, List.flatten_cons, List.append_assoc, List.singleton_append]
    exact List.perm_middle
  | L :: R, i + 1, hi => by
    simp only [List.set_cons_succ, List.getElem_cons_succ, List.flatten_cons]
    exact ((flat_app x R i (by simpa using hi)).append_left L).trans List.perm_middle
theorem Inv.put_new (h : Inv t m) (hf : (findP t name).2.2 = none) : Inv (putP t name n) (m ++ [(name, n)]) := by
  have hnew : (((m ++ [(name, n)])).map Prod.fst).Nodup := by
    rw [List.map_append, List.nodup_append]
    refine ⟨h.uniq, by simp, fun a ha b hb => ?_⟩
    simp only [List.map_cons, List.map_nil, List.mem_singleton] at hb
    subst hb
    obtain ⟨p, hp, rfl⟩ := List.mem_map.1 ha
    exact h.lost hf p hp
  have hto : (m ++ [(name, n)]).Perm ((name, n) :: m) := List.perm_append_comm
  have h1 : Inv { setP t (findP t name) (slotP t (findP t name) ++ [(name, n)]) with len := t.len + 1 } (m ++ [(name, n)]) := by
    rcases h.at name with ⟨hi, h1, h2, h3⟩ | ⟨hi, h1, hmv, h2, h3⟩
    · unfold setP
      rw [h1, h2, h3]
      simp only [Bool.false_eq_true, if_false]
      have hmv : t.moving = false := by have := (findP_none t name hf).2.2; rw [h1] at this; exact this.symm
      refine ⟨by simpa using h.pos, ?_, h.pn, h.no, fun e => by simpa using h.dbl e, by simpa using h.atle, fun e => (by simp only at e; rw [hmv] at e; cases e), ?_, hnew, by simp [h.len], fun e => by simp at e⟩
      · intro i hi' p hp
        simp only [List.length_set, List.getElem_set] at hi' hp ⊢
        split at hp
        · rename_i ei
          rcases List.mem_append.1 hp with hp | hp
          · rw [← ei]; exact h.po _ hi p hp
          · simp at hp; subst hp; exact ei
        · exact h.po i hi' p hp
      · simp only
        rw [List.flatten_append]
        refine List.Perm.trans ((flat_app (name, n) t.old _ hi).append_right _) ?_
        rw [List.cons_append, ← List.flatten_append]
        exact (h.perm.cons _).trans hto.symm
    · unfold setP
      rw [h1, h2, h3]
      simp only [if_true]
      refine ⟨h.pos, h.po, ?_, fun e => (by simp only at e; rw [hmv] at e; cases e), fun e => by simpa using h.dbl e, h.atle, h.below, ?_, hnew, by simp [h.len], fun e => by simp at e⟩
      · intro i hi' p hp
        simp only [List.length_set, List.getElem_set] at hi' hp ⊢
        split at hp
        · rename_i ei
          rcases List.mem_append.1 hp with hp | hp
          · rw [← ei]; exact h.pn _ hi p hp
          · simp at hp; subst hp; exact ei
        · exact h.pn i hi' p hp
      · simp only
        rw [List.flatten_append]
        refine List.Perm.trans ((flat_app (name, n) t.new _ hi).append_left _) ?_
        refine List.Perm.trans List.perm_middle ?_
        rw [← List.flatten_append]
        exact (h.perm.cons _).trans hto.symm
  rw [putP_none t name n hf]
  generalize ({ setP t (findP t name) (slotP t (findP t name) ++ [(name, n)]) with len := t.len + 1 } : Tab) = t1 at h1
  unfold growP
  split
  · rename_i hg
    simp only [Bool.and_eq_true, Bool.not_eq_true', decide_eq_true_eq] at hg
    refine ⟨h1.pos, h1.po, ?_, by simp, by simp, Nat.zero_le _, by simp, ?_, h1.uniq, h1.len, fun e => by simp at e⟩
    · intro i hi p hp; simp at hp
    · have e := h1.no hg.1
      have := h1.perm
      rw [e, List.append_nil] at this
      simp only [List.flatten_append]
      simpa using this
  · exact h1
/-- how many names the elder row has -/
def cntO (t : Tab) : Nat := t.old.flatten.length
theorem flat_less (x : List UInt8 × Int) (L0 : Slot) : ∀ (R : List Slot) (i : Nat) (hi : i < R.length), R[i] = L0 ++ [x] → (R.flatten).Perm (x :: (R.set i L0).flatten)
  | L :: R, 0, _, e => by
    simp only [List.getElem_cons_zero] at e
    simp only [List.set_cons_zero, List.flatten_cons, e, List.append_assoc, List.singleton_append]
    exact List.perm_middle
  | L :: R, i + 1, hi, e => by
    simp only [List.set_cons_succ, List.flatten_cons]
    exact ((flat_less x L0 R i (by simpa using hi) (by simpa using e)).append_left L).trans List.perm_middle
/-- what a step of the move keeps -/
structure Kept (t t' : Tab) : Prop where
  len : t'.len = t.len
  was : t'.moving = true → t.moving = true ∧ t'.old.length = t.old.length ∧ cntO t' + t'.work = cntO t + t.work
  rest : t.moving = false → t'.moving = false
  slots : t'.moving = false → t'.old.length = t.old.length ∨ t.moving = true ∧ t'.old.length = 2 * t.old.length
  work : t.work ≤ 8 → t'.work ≤ 8
theorem Kept.refl (t : Tab) : Kept t t := ⟨rfl, fun h => ⟨h, rfl, rfl⟩, id, fun _ => .inl rfl, id⟩
theorem Inv.one (h : Inv t m) {t' : Tab} (ho : moveOne t = some t') : Inv t' m ∧ Kept t t' := by
  unfold moveOne at ho
  split at ho
  · rename_i hg
    simp only [Bool.and_eq_true, decide_eq_true_eq] at hg
    obtain ⟨hmv, hw⟩ := hg
    split at ho
    · rename_i ha
      cases ho
      have hempty : t.old.flatten = [] := by
        rw [List.flatten_eq_nil_iff]
        intro L hL
        obtain ⟨i, hi, rfl⟩ := List.getElem_of_mem hL
        exact h.below hmv i hi (by omega)
      refine ⟨⟨h.npos hmv, h.pn, by simp, fun _ => rfl, by simp, Nat.zero_le _, by simp, ?_, h.uniq, h.len, fun e => ?_⟩, ⟨rfl, by simp, fun e => rfl, fun _ => .inr ⟨hmv, h.dbl hmv⟩, id⟩⟩
      · have := h.perm
        rw [List.flatten_append, hempty, List.nil_append] at this
        simpa using this
      · have := (h.zero e).1
        rw [hmv] at this; cases this
    · rename_i ha
      have hi : t.at_ < t.old.length := by have := h.atle; omega
      rw [getD_of hi] at ho
      split at ho
      · rename_i hl
        cases ho
        have hL : t.old[t.at_] = [] := List.getLast?_eq_none_iff.1 hl
        refine ⟨⟨h.pos, h.po, h.pn, h.no, h.dbl, hi, fun _ i hi' hlt => ?_, h.perm, h.uniq, h.len, h.zero⟩, ⟨rfl, fun _ => ⟨hmv, rfl, rfl⟩, fun e => e, fun e => .inl rfl, id⟩⟩
        by_cases e : i = t.at_
        · subst e; exact hL
        · exact h.below hmv i hi' (by simp only at hlt; omega)
      · rename_i x hl
        cases ho
        obtain ⟨L0, hL⟩ := List.getLast?_eq_some_iff.1 hl
        have hk := placeN_lt t.new.length x.1 (h.npos hmv)
        rw [getD_of hk]
        have hd : (t.old[t.at_]).dropLast = L0 := by rw [hL]; simp
        rw [hd]
        refine ⟨⟨by simpa using h.pos, ?_, ?_, fun e => (by simp only at e; rw [hmv] at e; cases e), fun e => by simpa using h.dbl e, by simpa using h.atle, fun _ i hi' hlt => ?_, ?_, h.uniq, h.len, fun e => (by have := (h.zero e).1; rw [hmv] at this; cases this)⟩, ⟨rfl, fun _ => ⟨hmv, by simp, ?_⟩, fun e => (by rw [hmv] at e; cases e), fun e => (by simp only at e; rw [hmv] at e; cases e), fun _ => by simp only; omega⟩⟩
        · intro i hi' p hp
          simp only [List.length_set, List.getElem_set] at hi' hp ⊢
          split at hp
          · rename_i ei
            rw [← ei]; exact h.po _ hi p (by rw [hL]; exact List.mem_append_left _ hp)
          · exact h.po i hi' p hp
        · intro i hi' p hp
          simp only [List.length_set, List.getElem_set] at hi' hp ⊢
          split at hp
          · rename_i ei
            rcases List.mem_append.1 hp with hp | hp
            · rw [← ei]; exact h.pn _ hk p hp
            · simp at hp; subst hp; exact ei
          · exact h.pn i hi' p hp
        · simp only [List.length_set, List.getElem_set] at hi' hlt ⊢
          rw [if_neg (by omega)]
          exact h.below hmv i hi' hlt
        · simp only
          rw [List.flatten_append]
          refine List.Perm.trans ((flat_app x t.new _ hk).append_left _) ?_
          refine List.Perm.trans List.perm_middle ?_
          rw [← List.cons_append]
          refine List.Perm.trans ((flat_less x L0 t.old _ hi hL).symm.append_right _) ?_
          rw [← List.flatten_append]
          exact h.perm
        · have := (flat_less x L0 t.old _ hi hL).length_eq
          simp only [cntO, List.length_cons] at this ⊢
          omega
  · cases ho
theorem Kept.trans {a b c : Tab} (h : Kept a b) (k : Kept b c) : Kept a c := by
  refine ⟨k.len.trans h.len, fun e => ?_, fun e => k.rest (h.rest e), fun e => ?_, fun e => k.work (h.work e)⟩
  · obtain ⟨k1, k2, k3⟩ := k.was e
    obtain ⟨h1, h2, h3⟩ := h.was k1
    exact ⟨h1, k2.trans h2, k3.trans h3⟩
  · rcases k.slots e with k1 | ⟨k1, k2⟩
    · cases hb : b.moving
      · rcases h.slots hb with h1 | ⟨h1, h2⟩
        · exact .inl (k1.trans h1)
        · exact .inr ⟨h1, k1.trans h2⟩
      · obtain ⟨h1, h2, _⟩ := h.was hb
        exact .inl (k1.trans h2)
    · obtain ⟨h1, h2, _⟩ := h.was k1
      exact .inr ⟨h1, by rw [k2, h2]⟩
theorem Inv.goes (h : Inv t m) {t' : Tab} (hg : Goes t t') : Inv t' m ∧ Kept t t' := by
  induction hg with
  | here => exact ⟨h, Kept.refl _⟩
  | step _ ho ih =>
    obtain ⟨h1, h2⟩ := ih.1.one ho
    exact ⟨h1, ih.2.trans h2⟩
theorem Inv.work0 (h : Inv t m) (k : Nat) : Inv { t with work := k } m := ⟨h.pos, h.po, h.pn, h.no, h.dbl, h.atle, h.below, h.perm, h.uniq, h.len, h.zero⟩
theorem one_none (h : moveOne t = none) : t.moving = false ∨ 8 ≤ t.work := by
  unfold moveOne at h
  split at h
  · split at h
    · cases h
    · split at h <;> cases h
  · rename_i hg
    cases hm : t.moving
    · exact .inl rfl
    · rw [hm] at hg
      simp at hg
      exact .inr hg
end
end Go.Proofs.Ytadnabgnbhpijaa
