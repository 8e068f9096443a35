/- What the document's disk is in memory: a block, and a row of files in the order of their names. -/
import Derived.Test.YtadnabgnbhpijaaDiskMore
import Derived.Test.YtadnabgnbhpijaaDiskCrash
import Derived.Deep.RegionHeld3
import Derived.Lib.MinMax
set_option linter.unusedSimpArgs false
set_option linter.unusedVariables false
namespace Go.Proofs.Ytadnabgnbhpijaa
open Go.RowKit Go.Maps

/-- files, as cells -/
def fls (D : Files0) : List Value := D.flatMap fun p => [Value.string (str p.1), .string (str p.2.b), .int .i64 (p.2.sync : Int)]
theorem fls_nil : fls [] = [] := rfl
theorem fls_cons (p : List UInt8 × FileV) (D : Files0) : fls (p :: D) = .string (str p.1) :: .string (str p.2.b) :: .int .i64 (p.2.sync : Int) :: fls D := rfl
theorem fls_append (D E : Files0) : fls (D ++ E) = fls D ++ fls E := by simp [fls, List.flatMap_append]
theorem fls_len : ∀ D : Files0, (fls D).length = D.length * 3
  | [] => rfl
  | p :: D => by rw [fls_cons]; simp only [List.length_cons, fls_len D]; omega
theorem fls_one (D : Files0) : ∀ u ∈ fls D, u.oneCell' = true := by
  intro u hu
  simp only [fls, List.mem_flatMap] at hu
  obtain ⟨p, _, hp⟩ := hu
  simp only [List.mem_cons, List.not_mem_nil, or_false] at hp
  rcases hp with rfl | rfl | rfl <;> rfl
theorem fls_get0 : ∀ (D : Files0) (j : Nat) (h : j < D.length), (fls D)[j * 3]'(by rw [fls_len]; omega) = .string (str D[j].1)
  | p :: D, 0, h => rfl
  | p :: D, j + 1, h => by
    have ih := fls_get0 D j (by simpa using h)
    have e : (j + 1) * 3 = j * 3 + 1 + 1 + 1 := by omega
    simp only [fls_cons, e, List.getElem_cons_succ]
    exact ih
theorem fls_get1 : ∀ (D : Files0) (j : Nat) (h : j < D.length), (fls D)[j * 3 + 1]'(by rw [fls_len]; omega) = .string (str D[j].2.b)
  | p :: D, 0, h => rfl
  | p :: D, j + 1, h => by
    have ih := fls_get1 D j (by simpa using h)
    have e : (j + 1) * 3 + 1 = j * 3 + 1 + 1 + 1 + 1 := by omega
    simp only [fls_cons, e, List.getElem_cons_succ]
    exact ih
theorem fls_get2 : ∀ (D : Files0) (j : Nat) (h : j < D.length), (fls D)[j * 3 + 2]'(by rw [fls_len]; omega) = .int .i64 (D[j].2.sync : Int)
  | p :: D, 0, h => rfl
  | p :: D, j + 1, h => by
    have ih := fls_get2 D j (by simpa using h)
    have e : (j + 1) * 3 + 2 = j * 3 + 2 + 1 + 1 + 1 := by omega
    simp only [fls_cons, e, List.getElem_cons_succ]
    exact ih
theorem fls_take : ∀ (D : Files0) (n : Nat), (fls D).take (n * 3) = fls (D.take n)
  | [], n => by simp [fls_nil]
  | p :: D, 0 => by simp [fls_nil]
  | p :: D, n + 1 => by
    have e : (n + 1) * 3 = n * 3 + 1 + 1 + 1 := by omega
    rw [e, fls_cons, List.take_succ_cons, List.take_succ_cons, List.take_succ_cons, fls_take D n, List.take_succ_cons, fls_cons]
theorem fls_drop : ∀ (D : Files0) (n : Nat), (fls D).drop (n * 3) = fls (D.drop n)
  | [], n => by simp [fls_nil]
  | p :: D, 0 => by simp
  | p :: D, n + 1 => by
    have e : (n + 1) * 3 = n * 3 + 1 + 1 + 1 := by omega
    rw [e, fls_cons, List.drop_succ_cons, List.drop_succ_cons, List.drop_succ_cons, fls_drop D n, List.drop_succ_cons]
theorem fls_set0 : ∀ (D : Files0) (j : Nat) (h : j < D.length) (s : List UInt8), (fls D).set (j * 3) (.string (str s)) = fls (D.set j (s, D[j].2))
  | p :: D, 0, h, s => rfl
  | p :: D, j + 1, h, s => by
    have ih := fls_set0 D j (by simpa using h) s
    have e : (j + 1) * 3 = j * 3 + 1 + 1 + 1 := by omega
    simp only [fls_cons, e, List.set_cons_succ, List.getElem_cons_succ, ih]
theorem fls_set1 : ∀ (D : Files0) (j : Nat) (h : j < D.length) (s : List UInt8), (fls D).set (j * 3 + 1) (.string (str s)) = fls (D.set j (D[j].1, ⟨s, D[j].2.sync⟩))
  | p :: D, 0, h, s => rfl
  | p :: D, j + 1, h, s => by
    have ih := fls_set1 D j (by simpa using h) s
    have e : (j + 1) * 3 + 1 = j * 3 + 1 + 1 + 1 + 1 := by omega
    simp only [fls_cons, e, List.set_cons_succ, List.getElem_cons_succ, ih]
theorem fls_set2 : ∀ (D : Files0) (j : Nat) (h : j < D.length) (n : Nat), (fls D).set (j * 3 + 2) (.int .i64 (n : Int)) = fls (D.set j (D[j].1, ⟨D[j].2.b, n⟩))
  | p :: D, 0, h, n => rfl
  | p :: D, j + 1, h, n => by
    have ih := fls_set2 D j (by simpa using h) n
    have e : (j + 1) * 3 + 2 = j * 3 + 2 + 1 + 1 + 1 := by omega
    simp only [fls_cons, e, List.set_cons_succ, List.getElem_cons_succ, ih]
theorem slF : SlT Try.prog 53 99 3 40 := SlT.of (z := .agg #[.string .empty, .string .empty, .int .i64 0]) (by kernel_rfl) rfl (by decide) Try.underlying53

/-- block xb is the document's disk with the files D; v is its slice -/
structure DRefV (S : Nat → Prop) (w : World) (xb : Nat) (D : Files0) (room : Nat) (down : Bool) (v : Value) : Prop where
  st : S xb
  row : w.heap[xb]? = some (.cells #[v, .int .i64 (room : Int), .bool down] 55 (0, 0))
  own : OwnS w 0 99 3 v D.length (fls D)
  ob : ∀ k, v.ownBlock = some k → S k
  srt : Srt D
  used : usedD D ≤ 16777216
  room_le : room ≤ 16777216
  sync : ∀ p ∈ D, p.2.sync ≤ p.2.b.length
  names : ∀ p ∈ D, p.1.length ≤ 64
def DRef (S : Nat → Prop) (w : World) (xb : Nat) (D : Files0) (room : Nat) (down : Bool) : Prop := ∃ v, DRefV S w xb D room down v
section
variable {S T : Nat → Prop} {w w' : World} {xb room : Nat} {D : Files0} {down : Bool} {v : Value} {name : List UInt8}
theorem DRefV.ne (h : DRefV S w xb D room down v) : ∀ k, v.ownBlock = some k → k ≠ xb := fun k hk e => by
  obtain ⟨cur, fr, hr⟩ := h.own.rowOf hk
  exact row_ne hr h.row (by simp only [ne_eq, Obj.cells.injEq, not_and]; intro _ h; exact absurd h (by decide)) e
theorem DRefV.keep (h : DRefV S w xb D room down v) (hc : Chg T w w') (hn : ∀ k, S k → ¬ T k) : DRefV S w' xb D room down v :=
  ⟨h.st, hc.row h.row (hn _ h.st), h.own.chg hc fun k hk => hn k (h.ob k hk), h.ob, h.srt, h.used, h.room_le, h.sync, h.names⟩
theorem DRefV.below (h : DRefV S w xb D room down v) (hb : Below w.heap.size w w') : DRefV S w' xb D room down v := h.keep (T := fun _ => False) (Chg.of_below hb) fun _ _ h => h
theorem DRefV.mono (h : DRefV S w xb D room down v) (hS : ∀ k, S k → T k) : DRefV T w xb D room down v := ⟨hS _ h.st, h.row, h.own, fun k hk => hS k (h.ob k hk), h.srt, h.used, h.room_le, h.sync, h.names⟩
theorem DRefV.cells (h : DRefV S w xb D room down v) : w.cell? ⟨xb, 0, none⟩ = some v ∧ w.cell? ⟨xb, 1, none⟩ = some (.int .i64 (room : Int)) ∧ w.cell? ⟨xb, 2, none⟩ = some (.bool down) := by
  refine ⟨?_, ?_, ?_⟩ <;> simp [World.cell?, h.row]
theorem DRefV.free (h : DRefV S w xb D room down v) (i : Nat) : w.frozen? ⟨xb, i, none⟩ = false := by simp [World.frozen?, h.row]
theorem DRef.keep (h : DRef S w xb D room down) (hc : Chg T w w') (hn : ∀ k, S k → ¬ T k) : DRef S w' xb D room down := by obtain ⟨v, hv⟩ := h; exact ⟨v, hv.keep hc hn⟩
theorem DRef.below (h : DRef S w xb D room down) (hb : Below w.heap.size w w') : DRef S w' xb D room down := by obtain ⟨v, hv⟩ := h; exact ⟨v, hv.below hb⟩
theorem DRef.mono (h : DRef S w xb D room down) (hS : ∀ k, S k → T k) : DRef T w xb D room down := by obtain ⟨v, hv⟩ := h; exact ⟨v, hv.mono hS⟩
theorem DRef.lt (h : DRef S w xb D room down) : DRef (fun k => S k ∧ k < w.heap.size) w xb D room down := by
  obtain ⟨v, hv⟩ := h
  exact ⟨v, ⟨hv.st, row_lt hv.row⟩, hv.row, hv.own, fun k hk => ⟨hv.ob k hk, (hv.own.lt k hk).2⟩, hv.srt, hv.used, hv.room_le, hv.sync, hv.names⟩
/-- what is known of a list of files -/
structure GoodD (D : Files0) : Prop where
  srt : Srt D
  used : usedD D ≤ 16777216
  sync : ∀ p ∈ D, p.2.sync ≤ p.2.b.length
  names : ∀ p ∈ D, p.1.length ≤ 64
theorem DRefV.good (h : DRefV S w xb D room down v) : GoodD D := ⟨h.srt, h.used, h.sync, h.names⟩
/-- the disk's own cells are written -/
theorem DRefV.setOwn (h : DRefV S w xb D room down v) {i : Nat} {u : Value} {room' : Nat} {down' : Bool} (hcs : (#[v, .int .i64 (room : Int), .bool down]).setIfInBounds i u = #[v, .int .i64 (room' : Int), .bool down']) (hr : room' ≤ 16777216) :
    DRefV S (w.setCell ⟨xb, i, none⟩ u) xb D room' down' v ∧ Chg S w (w.setCell ⟨xb, i, none⟩ u) := by
  have hc : Chg (fun j => j = xb) w (w.setCell ⟨xb, i, none⟩ u) := Chg.setCell _ _ _ rfl
  have hrow := setCell_row h.row i u
  rw [hcs] at hrow
  exact ⟨⟨h.st, hrow, h.own.chg hc h.ne, h.ob, h.srt, h.used, hr, h.sync, h.names⟩, hc.mono fun k _ e => by rw [e]; exact h.st⟩
/-- another slice of the call's own is laid into the disk -/
theorem DRefV.setL (h : DRefV S w xb D room down v) {w1 : World} {v' : Value} {D' : Files0} (hc : Chg (fun j => v.ownBlock = some j) w w1) (hown : OwnS w1 0 99 3 v' D'.length (fls D')) (hob : ∀ k, v'.ownBlock = some k → v.ownBlock = some k ∨ w.heap.size ≤ k) (hg : GoodD D') :
    DRefV (Up S w) (w1.setCell ⟨xb, 0, none⟩ v') xb D' room down v' ∧ Chg S w (w1.setCell ⟨xb, 0, none⟩ v') := by
  have hlt := row_lt h.row
  have hne : ∀ k, v'.ownBlock = some k → ¬ k = xb := fun k hk e => by
    rcases hob k hk with h1 | h1
    · exact h.ne k h1 e
    · omega
  have hc2 : Chg (fun j => j = xb) w1 (w1.setCell ⟨xb, 0, none⟩ v') := Chg.setCell _ _ _ rfl
  refine ⟨⟨.inl h.st, ?_, hown.chg hc2 hne, fun k hk => ?_, hg.srt, hg.used, h.room_le, hg.sync, hg.names⟩, Chg.trans (S := S) (T := fun j => j = xb) (hc.mono fun k _ hk => h.ob k hk) hc2 fun k _ e => by rw [e]; exact h.st⟩
  · rw [setCell_row (hc.row h.row (fun e => h.ne _ e rfl)) 0 v']
    rfl
  · rcases hob k hk with h1 | h1
    · exact .inl (h.ob k h1)
    · exact .inr h1
/-- a file's cell is written -/
theorem DRefV.setF (h : DRefV S w xb D room down v) {b : Nat} (hv : v.ownBlock = some b) {w1 : World} (hc : Chg (fun j => j = b) w w1) {D' : Files0} (hl : D'.length = D.length) (hown : OwnS w1 0 99 3 v D'.length (fls D')) (hg : GoodD D') :
    DRefV S w1 xb D' room down v ∧ Chg S w w1 :=
  ⟨⟨h.st, hc.row h.row (fun e => h.ne b hv e.symm), hown, h.ob, hg.srt, hg.used, h.room_le, hg.sync, hg.names⟩, hc.mono fun k _ e => by rw [e]; exact h.ob b hv⟩
end
/-! ### The lists -/
def NoF (D : Files0) (name : List UInt8) (k : Nat) : Prop := ∀ j (hj : j < D.length), j < k → D[j].1 ≠ name
theorem NoF.step {D : Files0} {name : List UInt8} {k : Nat} (h : NoF D name k) (hk : k < D.length) (he : D[k].1 ≠ name) : NoF D name (k + 1) := fun j hj hl => by
  rcases Nat.lt_succ_iff_lt_or_eq.1 hl with h1 | rfl
  · exact h j hj h1
  · exact he
theorem NoF.get {D : Files0} {name : List UInt8} (h : NoF D name D.length) : kGet name D = none := by
  unfold kGet
  have : D.find? (fun p => p.1 == name) = none := by
    rw [List.find?_eq_none]
    intro p hp
    obtain ⟨j, hj, rfl⟩ := List.getElem_of_mem hp
    simpa using h j hj hj
  rw [this]; rfl
theorem get_at {D : Files0} (hs : Srt D) {k : Nat} (hk : k < D.length) : kGet D[k].1 D = some D[k].2 := kGet_of_mem hs (List.getElem_mem hk)
/-- a list in order, one thing set anew -/
theorem set_kSet {α : Type} {D : List (List UInt8 × α)} (hs : Srt D) {k : Nat} (hk : k < D.length) (f : α) : D.set k (D[k].1, f) = kSet D[k].1 f D := by
  apply List.ext_getElem
  · simp [kSet]
  · intro i h1 h2
    have hi : i < D.length := by simpa using h1
    simp only [kSet, List.getElem_map, List.getElem_set]
    by_cases e : k = i
    · subst e; simp
    · have : ¬ D[i].1 = D[k].1 := fun e2 => by
        rcases Nat.lt_or_gt_of_ne e with h | h
        · have := List.pairwise_iff_getElem.1 hs k i hk hi h
          rw [e2] at this; exact List.lt_irrefl _ this
        · have := List.pairwise_iff_getElem.1 hs i k hi hk h
          rw [e2] at this; exact List.lt_irrefl _ this
      rw [if_neg e, if_neg this]
theorem erase_kDel {α : Type} {D : List (List UInt8 × α)} (hs : Srt D) {k : Nat} (hk : k < D.length) : D.eraseIdx k = kDel D[k].1 D := by
  unfold kDel
  induction D generalizing k with
  | nil => simp at hk
  | cons p D ih =>
    obtain ⟨h1, h2⟩ := List.pairwise_cons.1 hs
    cases k with
    | zero =>
      simp only [List.eraseIdx_cons_zero, List.getElem_cons_zero]
      rw [List.filter_cons_of_neg (by simp)]
      refine (List.filter_eq_self.2 fun q hq => ?_).symm
      have := h1 q hq
      simp
      intro e; rw [e] at this; exact List.lt_irrefl _ this
    | succ k =>
      have hk' : k < D.length := by simpa using hk
      simp only [List.eraseIdx_cons_succ, List.getElem_cons_succ]
      rw [List.filter_cons_of_pos, ih h2 hk']
      have := h1 _ (List.getElem_mem hk')
      simp
      intro e; rw [e] at this; exact List.lt_irrefl _ this
theorem kIns_at {α : Type} {D : List (List UInt8 × α)} (x : List UInt8 × α) {k : Nat} (hk : k ≤ D.length) (h1 : ∀ j (hj : j < D.length), j < k → D[j].1 < x.1) (h2 : ∀ h : k < D.length, x.1 < D[k].1) : D.take k ++ x :: D.drop k = kIns x D := by
  induction D generalizing k with
  | nil => simp [kIns]
  | cons p D ih =>
    unfold kIns
    cases k with
    | zero =>
      have := h2 (by simp)
      simp only [List.getElem_cons_zero] at this
      rw [if_pos this]; rfl
    | succ k =>
      have := h1 0 (by simp) (by omega)
      simp only [List.getElem_cons_zero] at this
      rw [if_neg (fun h => List.lt_irrefl _ (List.lt_trans h this))]
      simp only [List.take_succ_cons, List.drop_succ_cons, List.cons_append]
      congr 1
      exact ih (by simpa using hk) (fun j hj hl => h1 (j + 1) (by simpa using hj) (by omega)) (fun h => h2 (by simpa using h))
end Go.Proofs.Ytadnabgnbhpijaa
