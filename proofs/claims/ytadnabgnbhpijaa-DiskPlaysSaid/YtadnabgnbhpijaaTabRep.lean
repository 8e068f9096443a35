/- What a table is in memory: its block, a block for each row of slots, a row of pairs for each slot. -/
import Derived.Test.YtadnabgnbhpijaaMapV
import Derived.Test.YtadnabgnbhpijaaBase
set_option linter.unusedSimpArgs false
set_option linter.unusedVariables false
namespace Go.Proofs.Ytadnabgnbhpijaa
open Go.RowKit Go.Maps

/-- a slot: names with numbers -/
abbrev Slot := List (List UInt8 × Int)
/-- a number of a name -/
def hashB (l : List UInt8) : BitVec 32 := l.foldl (fun h c => (h ^^^ c.toBitVec.setWidth 32) * 16777619#32) 2166136261#32
/-- a name's slot among n -/
def placeN (n : Nat) (l : List UInt8) : Nat := (hashB l).toNat % n
theorem placeN_lt (n : Nat) (l : List UInt8) (h : 0 < n) : placeN n l < n := Nat.mod_lt _ h

/-- a slot's cells -/
def prs (L : Slot) : List Value := L.flatMap fun p => [Value.string (str p.1), .int .i64 p.2]
theorem prs_nil : prs [] = [] := rfl
theorem prs_cons (p : List UInt8 × Int) (L : Slot) : prs (p :: L) = .string (str p.1) :: .int .i64 p.2 :: prs L := rfl
theorem prs_append (L M : Slot) : prs (L ++ M) = prs L ++ prs M := by simp [prs, List.flatMap_append]
theorem prs_len : ∀ L : Slot, (prs L).length = L.length * 2
  | [] => rfl
  | p :: L => by rw [prs_cons]; simp only [List.length_cons, prs_len L]; omega
theorem prs_mul (L : Slot) : (prs L).length = L.length * 2 := prs_len L
theorem prs_one (L : Slot) : ∀ u ∈ prs L, u.oneCell' = true := by
  intro u hu
  simp only [prs, List.mem_flatMap] at hu
  obtain ⟨p, _, hp⟩ := hu
  simp only [List.mem_cons, List.not_mem_nil, or_false] at hp
  rcases hp with rfl | rfl <;> rfl
theorem prs_get0 : ∀ (L : Slot) (j : Nat) (h : j < L.length), (prs L)[j * 2]'(by rw [prs_len]; omega) = .string (str L[j].1)
  | p :: L, 0, h => rfl
  | p :: L, j + 1, h => by
    have ih := prs_get0 L j (by simpa using h)
    simp only [prs_cons, List.getElem_cons_succ]
    have e : (j + 1) * 2 = j * 2 + 1 + 1 := by omega
    simp only [e, List.getElem_cons_succ]
    exact ih
theorem prs_get1 : ∀ (L : Slot) (j : Nat) (h : j < L.length), (prs L)[j * 2 + 1]'(by rw [prs_len]; omega) = .int .i64 L[j].2
  | p :: L, 0, h => rfl
  | p :: L, j + 1, h => by
    have ih := prs_get1 L j (by simpa using h)
    have e : (j + 1) * 2 + 1 = j * 2 + 1 + 1 + 1 := by omega
    simp only [prs_cons, e, List.getElem_cons_succ]
    exact ih
theorem prs_take : ∀ (L : Slot) (n : Nat), (prs L).take (n * 2) = prs (L.take n)
  | [], n => by simp [prs_nil]
  | p :: L, 0 => by simp [prs_nil]
  | p :: L, n + 1 => by
    have e : (n + 1) * 2 = n * 2 + 1 + 1 := by omega
    rw [e, prs_cons, List.take_succ_cons, List.take_succ_cons, prs_take L n, List.take_succ_cons, prs_cons]
theorem prs_drop : ∀ (L : Slot) (n : Nat), (prs L).drop (n * 2) = prs (L.drop n)
  | [], n => by simp [prs_nil]
  | p :: L, 0 => by simp
  | p :: L, n + 1 => by
    have e : (n + 1) * 2 = n * 2 + 1 + 1 := by omega
    rw [e, prs_cons, List.drop_succ_cons, List.drop_succ_cons, prs_drop L n, List.drop_succ_cons]
theorem prs_set : ∀ (L : Slot) (j : Nat) (h : j < L.length) (n : Int), (prs L).set (j * 2 + 1) (.int .i64 n) = prs (L.set j (L[j].1, n))
  | p :: L, 0, h, n => rfl
  | p :: L, j + 1, h, n => by
    have ih := prs_set L j (by simpa using h) n
    have e : (j + 1) * 2 + 1 = j * 2 + 1 + 1 + 1 := by omega
    simp only [prs_cons, e, List.set_cons_succ, List.getElem_cons_succ, ih]

/-- a slot in memory -/
structure SlotM where
  v : Value
  L : Slot
structure SlotAt (S : Nat → Prop) (w : World) (s : SlotM) : Prop where
  own : OwnS w 0 92 2 s.v s.L.length (prs s.L)
  ob : ∀ k, s.v.ownBlock = some k → S k
def SApart (s t : SlotM) : Prop := ∀ k, s.v.ownBlock = some k → t.v.ownBlock = some k → False
theorem SApart.symm {s t : SlotM} (h : SApart s t) : SApart t s := fun k a b => h k b a
structure RowAt (S : Nat → Prop) (w : World) (rb : Nat) (R : List SlotM) : Prop where
  sb : S rb
  row : w.heap[rb]? = some (.cells (R.map SlotM.v).toArray 93 (0, 0))
/-- a table in memory -/
structure TabS where
  ob : Nat
  old : List SlotM
  nb : Nat
  new : List SlotM
  moving : Bool
  at_ : Nat
  len : Nat
  work : Nat
abbrev rowV (b n : Nat) : Value := .slice (some ⟨b, 0, none⟩) n n
def TabS.newV (T : TabS) : Value := if T.moving then rowV T.nb T.new.length else .slice none 0 0
def TabS.all (T : TabS) : List SlotM := T.old ++ T.new
structure TabM (S : Nat → Prop) (w : World) (tb : Nat) (T : TabS) : Prop where
  st : S tb
  row : w.heap[tb]? = some (.cells #[rowV T.ob T.old.length, T.newV, .int .i64 (T.at_ : Int), .int .i64 (T.len : Int), .int .i64 (T.work : Int)] 87 (0, 0))
  old : RowAt S w T.ob T.old
  new : T.moving = true → RowAt S w T.nb T.new
  ne : T.moving = true → T.nb ≠ T.ob
  no : T.moving = false → T.new = []
  slots : ∀ s ∈ T.all, SlotAt S w s
  apart : T.all.Pairwise SApart
  pos : 0 < T.old.length
  small : T.old.length ≤ 1048576
  dbl : T.moving = true → T.new.length = 2 * T.old.length
  atle : T.at_ ≤ T.old.length
  small2 : T.moving = true → 2 * T.old.length ≤ 1048576

section
variable {S T' : Nat → Prop} {w w' : World} {tb : Nat} {T : TabS}
theorem SlotAt.chg {s : SlotM} (h : SlotAt S w s) (hc : Chg T' w w') (hn : ∀ k, s.v.ownBlock = some k → ¬ T' k) : SlotAt S w' s := ⟨h.own.chg hc hn, h.ob⟩
theorem TabM.keep (h : TabM S w tb T) (hc : Chg T' w w') (hn : ∀ k, S k → ¬ T' k) : TabM S w' tb T :=
  ⟨h.st, hc.row h.row (hn _ h.st), ⟨h.old.sb, hc.row h.old.row (hn _ h.old.sb)⟩, fun hm => ⟨(h.new hm).sb, hc.row (h.new hm).row (hn _ (h.new hm).sb)⟩, h.ne, h.no, fun s hs => (h.slots s hs).chg hc fun k hk => hn k ((h.slots s hs).ob k hk), h.apart, h.pos, h.small, h.dbl, h.atle, h.small2⟩
theorem TabM.below (h : TabM S w tb T) (hb : Below w.heap.size w w') : TabM S w' tb T := h.keep (T' := fun _ => False) (Chg.of_below hb) fun _ _ h => h
theorem TabM.mono (h : TabM S w tb T) (hS : ∀ k, S k → T' k) : TabM T' w tb T :=
  ⟨hS _ h.st, h.row, ⟨hS _ h.old.sb, h.old.row⟩, fun hm => ⟨hS _ (h.new hm).sb, (h.new hm).row⟩, h.ne, h.no, fun s hs => ⟨(h.slots s hs).own, fun k hk => hS k ((h.slots s hs).ob k hk)⟩, h.apart, h.pos, h.small, h.dbl, h.atle, h.small2⟩
theorem TabM.cells (h : TabM S w tb T) : w.cell? ⟨tb, 0, none⟩ = some (rowV T.ob T.old.length) ∧ w.cell? ⟨tb, 1, none⟩ = some T.newV ∧ w.cell? ⟨tb, 2, none⟩ = some (.int .i64 (T.at_ : Int)) ∧ w.cell? ⟨tb, 3, none⟩ = some (.int .i64 (T.len : Int)) ∧ w.cell? ⟨tb, 4, none⟩ = some (.int .i64 (T.work : Int)) := by
  refine ⟨?_, ?_, ?_, ?_, ?_⟩ <;> · simp [World.cell?, h.row]
theorem TabM.free (h : TabM S w tb T) (i : Nat) : w.frozen? ⟨tb, i, none⟩ = false := by simp [World.frozen?, h.row]
theorem RowAt.cell {rb : Nat} {R : List SlotM} (h : RowAt S w rb R) {i : Nat} (hi : i < R.length) : w.cell? ⟨rb, i, none⟩ = some R[i].v := by
  simp [World.cell?, h.row, hi]
theorem RowAt.free {rb : Nat} {R : List SlotM} (h : RowAt S w rb R) (i : Nat) : w.frozen? ⟨rb, i, none⟩ = false := by simp [World.frozen?, h.row]

theorem slots_upd {S' : Nat → Prop} {R : List SlotM} (hs : ∀ s ∈ R, SlotAt S w s) (hp : R.Pairwise SApart) {i : Nat} (hi : i < R.length) {s' : SlotM} (hc : Chg T' w w')
    (hT : ∀ j, T' j → j < w.heap.size → (R[i]).v.ownBlock = some j ∨ ∀ cs fr, w.heap[j]? ≠ some (.cells cs 92 fr)) (hS : ∀ k, S k → S' k) (hy : SlotAt S' w' s')
    (ho : ∀ j, s'.v.ownBlock = some j → (R[i]).v.ownBlock = some j ∨ w.heap.size ≤ j) : (∀ s ∈ R.set i s', SlotAt S' w' s) ∧ (R.set i s').Pairwise SApart := by
  have hap : ∀ j (hj : j < R.length), j ≠ i → SApart R[j] R[i] := fun j hj hne => by
    rcases Nat.lt_or_gt_of_ne hne with h | h
    · exact List.pairwise_iff_getElem.1 hp j i hj hi h
    · exact (List.pairwise_iff_getElem.1 hp i j hi hj h).symm
  have hk : ∀ j (hj : j < R.length), j ≠ i → SlotAt S' w' R[j] := fun j hj hne => by
    have h1 := hs _ (List.getElem_mem hj)
    have h2 := h1.chg hc fun k hk ht => by
      obtain ⟨cur, fr, hr⟩ := h1.own.rowOf hk
      rcases hT k ht (row_lt hr) with e | e
      · exact hap j hj hne k hk e
      · exact e _ _ hr
    exact ⟨h2.own, fun k hk => hS k (h2.ob k hk)⟩
  have hn : ∀ j (hj : j < R.length), j ≠ i → SApart R[j] s' := fun j hj hne k hk hks => by
    rcases ho k hks with e | e
    · exact hap j hj hne k hk e
    · obtain ⟨cur, fr, hr⟩ := (hs _ (List.getElem_mem hj)).own.rowOf hk
      have := row_lt hr
      omega
  refine ⟨fun s hmem => ?_, List.pairwise_iff_getElem.2 fun a b ha hb hab => ?_⟩
  · obtain ⟨j, hj, rfl⟩ := List.getElem_of_mem hmem
    rw [List.getElem_set]
    split
    · exact hy
    · rename_i hne
      exact hk j (by simpa using hj) (fun e => hne e.symm)
  · rw [List.getElem_set, List.getElem_set]
    have ha' : a < R.length := by simpa using ha
    have hb' : b < R.length := by simpa using hb
    split <;> split
    · omega
    · rename_i e1 e2
      exact (hn b hb' (fun e => e2 e.symm)).symm
    · rename_i e1 e2
      exact hn a ha' (fun e => e1 e.symm)
    · exact List.pairwise_iff_getElem.1 hp a b ha' hb' hab

theorem TabM.setOld {S' : Nat → Prop} (h : TabM S w tb T) {i : Nat} (hi : i < T.old.length) {s' : SlotM} (hSS : ∀ k, S k → S' k) (hc : Chg (fun j => j = T.ob ∨ (T.old[i]).v.ownBlock = some j) w w')
    (hrow : w'.heap[T.ob]? = some (.cells ((T.old.set i s').map SlotM.v).toArray 93 (0, 0))) (hy : SlotAt S' w' s') (ho : ∀ j, s'.v.ownBlock = some j → (T.old[i]).v.ownBlock = some j ∨ w.heap.size ≤ j) :
    TabM S' w' tb { T with old := T.old.set i s' } ∧ Chg S w w' := by
  have hmem : T.old[i] ∈ T.all := List.mem_append_left _ (List.getElem_mem hi)
  have hsi := h.slots _ hmem
  have hrw : RowAt S w T.ob T.old := h.old
  have hnp : ∀ cs fr, w.heap[T.ob]? ≠ some (.cells cs 92 fr) := fun cs fr e => by
    rw [hrw.row] at e
    simp only [Option.some.injEq, Obj.cells.injEq] at e
    exact absurd e.2.1 (by decide)
  have hall : T.all[i]'(by simp only [TabS.all, List.length_append]; omega) = T.old[i] := by simp only [TabS.all]; exact List.getElem_append_left hi
  have hu := slots_upd (S := S) (S' := S') (R := T.all) h.slots h.apart (i := i) (by simp only [TabS.all, List.length_append]; omega) (s' := s') hc (fun j hj hlt => by
    rw [hall]
    rcases hj with rfl | hj
    · exact .inr hnp
    · exact .inl hj) hSS hy (fun j hj => by rw [hall]; exact ho j hj)
  have e : T.all.set (i) s' = T.old.set i s' ++ T.new := by simp only [TabS.all]; rw [List.set_append_left _ _ hi]
  rw [e] at hu
  have hnt : ¬ (tb = T.ob ∨ (T.old[i]).v.ownBlock = some tb) := by
    rintro (e | e)
    · exact row_ne h.row hrw.row (by simp only [ne_eq, Obj.cells.injEq, not_and]; intro _ h; exact absurd h (by decide)) e
    · obtain ⟨cur, fr, hr⟩ := hsi.own.rowOf e
      exact row_ne h.row hr (by simp only [ne_eq, Obj.cells.injEq, not_and]; intro _ h; exact absurd h (by decide)) rfl
  have hoth : T.moving = true → ¬ (T.nb = T.ob ∨ (T.old[i]).v.ownBlock = some T.nb) := fun hm => by
    rintro (e | e)
    · exact h.ne hm e
    · obtain ⟨cur, fr, hr⟩ := hsi.own.rowOf e
      exact row_ne (h.new hm).row hr (by simp only [ne_eq, Obj.cells.injEq, not_and]; intro _ h; exact absurd h (by decide)) rfl
  have hl : (T.old.set i s').length = T.old.length := by simp
  refine ⟨⟨hSS _ h.st, by simp only [hl]; exact hc.row h.row hnt, ⟨hSS _ h.old.sb, hrow⟩, fun hm => ⟨hSS _ (h.new hm).sb, hc.row (h.new hm).row (hoth hm)⟩, h.ne, h.no, hu.1, hu.2, by rw [hl]; exact h.pos, by rw [hl]; exact h.small, fun hm => by rw [hl]; exact h.dbl hm, by rw [hl]; exact h.atle, fun hm => by rw [hl]; exact h.small2 hm⟩, hc.mono fun k _ hk => ?_⟩
  rcases hk with rfl | hk
  · exact hrw.sb
  · exact hsi.ob k hk

theorem TabM.setNew {S' : Nat → Prop} (h : TabM S w tb T) (hm : T.moving = true) {i : Nat} (hi : i < T.new.length) {s' : SlotM} (hSS : ∀ k, S k → S' k) (hc : Chg (fun j => j = T.nb ∨ (T.new[i]).v.ownBlock = some j) w w')
    (hrow : w'.heap[T.nb]? = some (.cells ((T.new.set i s').map SlotM.v).toArray 93 (0, 0))) (hy : SlotAt S' w' s') (ho : ∀ j, s'.v.ownBlock = some j → (T.new[i]).v.ownBlock = some j ∨ w.heap.size ≤ j) :
    TabM S' w' tb { T with new := T.new.set i s' } ∧ Chg S w w' := by
  have hmem : T.new[i] ∈ T.all := List.mem_append_right _ (List.getElem_mem hi)
  have hsi := h.slots _ hmem
  have hrw : RowAt S w T.nb T.new := h.new hm
  have hnp : ∀ cs fr, w.heap[T.nb]? ≠ some (.cells cs 92 fr) := fun cs fr e => by
    rw [hrw.row] at e
    simp only [Option.some.injEq, Obj.cells.injEq] at e
    exact absurd e.2.1 (by decide)
  have hall : T.all[T.old.length + i]'(by simp only [TabS.all, List.length_append]; omega) = T.new[i] := by simp only [TabS.all]; rw [List.getElem_append_right (by omega)]; simp
  have hu := slots_upd (S := S) (S' := S') (R := T.all) h.slots h.apart (i := T.old.length + i) (by simp only [TabS.all, List.length_append]; omega) (s' := s') hc (fun j hj hlt => by
    rw [hall]
    rcases hj with rfl | hj
    · exact .inr hnp
    · exact .inl hj) hSS hy (fun j hj => by rw [hall]; exact ho j hj)
  have e : T.all.set (T.old.length + i) s' = T.old ++ T.new.set i s' := by simp only [TabS.all]; rw [List.set_append_right _ _ (by omega)]; simp
  rw [e] at hu
  have hnt : ¬ (tb = T.nb ∨ (T.new[i]).v.ownBlock = some tb) := by
    rintro (e | e)
    · exact row_ne h.row hrw.row (by simp only [ne_eq, Obj.cells.injEq, not_and]; intro _ h; exact absurd h (by decide)) e
    · obtain ⟨cur, fr, hr⟩ := hsi.own.rowOf e
      exact row_ne h.row hr (by simp only [ne_eq, Obj.cells.injEq, not_and]; intro _ h; exact absurd h (by decide)) rfl
  have hoth : ¬ (T.ob = T.nb ∨ (T.new[i]).v.ownBlock = some T.ob) := by
    rintro (e | e)
    · exact h.ne hm e.symm
    · obtain ⟨cur, fr, hr⟩ := hsi.own.rowOf e
      exact row_ne h.old.row hr (by simp only [ne_eq, Obj.cells.injEq, not_and]; intro _ h; exact absurd h (by decide)) rfl
  have hl : (T.new.set i s').length = T.new.length := by simp
  refine ⟨⟨hSS _ h.st, by simp only [TabS.newV, hl]; exact hc.row h.row hnt, ⟨hSS _ h.old.sb, hc.row h.old.row hoth⟩, fun hm => ⟨hSS _ (h.new hm).sb, hrow⟩, h.ne, (fun hf => by simp only at hf; rw [hm] at hf; cases hf), hu.1, hu.2, h.pos, h.small, fun hm => by rw [hl]; exact h.dbl hm, h.atle, h.small2⟩, hc.mono fun k _ hk => ?_⟩
  rcases hk with rfl | hk
  · exact hrw.sb
  · exact hsi.ob k hk

/-- the table's own cells are written -/
theorem TabM.setTab {T2 : TabS} (h : TabM S w tb T) (h1 : T2.ob = T.ob ∧ T2.old = T.old ∧ T2.nb = T.nb ∧ T2.new = T.new ∧ T2.moving = T.moving) (hc : Chg (fun j => j = tb) w w')
    (hrow : w'.heap[tb]? = some (.cells #[rowV T2.ob T2.old.length, T2.newV, .int .i64 (T2.at_ : Int), .int .i64 (T2.len : Int), .int .i64 (T2.work : Int)] 87 (0, 0))) (hat : T2.at_ ≤ T2.old.length) : TabM S w' tb T2 ∧ Chg S w w' := by
  obtain ⟨ob, old, nb, new, moving, at_, len, work⟩ := T2
  obtain ⟨rfl, rfl, rfl, rfl, rfl⟩ := h1
  have hslot : ∀ s ∈ T.all, ∀ k, s.v.ownBlock = some k → ¬ k = tb := fun s hs k hk e => by
    obtain ⟨cur, fr, hr⟩ := (h.slots s hs).own.rowOf hk
    exact row_ne hr h.row (by simp only [ne_eq, Obj.cells.injEq, not_and]; intro _ h; exact absurd h (by decide)) e
  have hne : ∀ {rb : Nat} {R : List SlotM}, RowAt S w rb R → ¬ rb = tb := fun hr e => row_ne hr.row h.row (by simp only [ne_eq, Obj.cells.injEq, not_and]; intro _ h; exact absurd h (by decide)) e
  exact ⟨⟨h.st, hrow, ⟨h.old.sb, hc.row h.old.row (hne h.old)⟩, fun hm => ⟨(h.new hm).sb, hc.row (h.new hm).row (hne (h.new hm))⟩, h.ne, h.no, fun s hs => (h.slots s hs).chg hc (hslot s hs), h.apart, h.pos, h.small, h.dbl, hat, h.small2⟩,
    hc.mono fun k _ e => by rw [e]; exact h.st⟩
end
end Go.Proofs.Ytadnabgnbhpijaa
