/- A table by what it holds: contracts on Put, Get, Del, Slots, Moving, Work. -/
import Derived.Test.YtadnabgnbhpijaaTabLaw
import Derived.Test.YtadnabgnbhpijaaTabNobodyWalk
set_option linter.unusedSimpArgs false
set_option linter.unusedVariables false
namespace Go.Proofs.Ytadnabgnbhpijaa
open Go.RowKit Go.Maps

/-- a table that reads as m, with at most G names since it was empty -/
structure Ok (t : Tab) (m : Slot) (G : Nat) : Prop where
  inv : Inv t m
  mv : t.moving = true → 2 * t.old.length < G
  rs : t.moving = false → t.old.length ≤ 8 ∨ t.old.length < G
  names : ∀ p ∈ m, p.1.length ≤ 1000
  small : m.length ≤ 1000
  work : t.work ≤ 8
def putM (m : Slot) (name : List UInt8) (n : Int) : Slot := if lk m name = none then m ++ [(name, n)] else m.map (updF name n)
def delM (m : Slot) (name : List UInt8) : Slot := m.filter (offF name)
section
variable {t t' : Tab} {m : Slot} {G : Nat} {name : List UInt8} {n : Int}
theorem Ok.goes (h : Ok t m G) (hg : Goes { t with work := 0 } t') : Ok t' m G ∧ Kept { t with work := 0 } t' := by
  obtain ⟨h1, k⟩ := (h.inv.work0 0).goes hg
  refine ⟨⟨h1, fun e => ?_, fun e => ?_, h.names, h.small, k.work (Nat.zero_le _)⟩, k⟩
  · obtain ⟨k1, k2, _⟩ := k.was e
    rw [k2]; exact h.mv k1
  · rcases k.slots e with k1 | ⟨k1, k2⟩
    · rw [k1]
      simp only
      cases hm : t.moving
      · exact h.rs hm
      · have := h.mv hm; exact .inr (by omega)
    · rw [k2]; exact .inr (h.mv k1)
theorem Ok.slots (h : Ok t m G) : t.old.length + t.new.length ≤ 8 + 8 * G := by
  cases hm : t.moving
  · rw [h.inv.no hm]
    rcases h.rs hm with e | e <;> simp <;> omega
  · rw [h.inv.dbl hm]
    have := h.mv hm
    omega
theorem upd_names {p : List UInt8 × Int} (hn : ∀ p ∈ m, p.1.length ≤ 1000) (hp : p ∈ m.map (updF name n)) : p.1.length ≤ 1000 := by
  obtain ⟨q, hq, rfl⟩ := List.mem_map.1 hp
  rw [updF_fst]; exact hn q hq
theorem Ok.put (h : Ok t m G) (hl : name.length ≤ 1000) (hm : m.length < 1000) {G' : Nat} (hG : lk m name = none → m.length + 1 ≤ G') (hG' : G ≤ G' ∨ m = []) : Ok (putP t name n) (putM m name n) G' := by
  cases hf : (findP t name).2.2 with
  | some j =>
    obtain ⟨h1, h2⟩ := h.inv.put_old (n := n) hf
    obtain ⟨hj, e, hin⟩ := h.inv.found hf
    have hlk : lk m name ≠ none := by rw [← e, lk_some h.inv.uniq hin]; simp
    have hGG : G ≤ G' := by
      rcases hG' with e | e
      · exact e
      · rw [e] at hin; cases hin
    unfold putM
    rw [if_neg hlk]
    refine ⟨h1, ?_, ?_, fun p hp => upd_names h.names hp, by simpa using h.small, ?_⟩
    · rw [h2]; intro e; have := h.mv e; simp only [List.length_map]; omega
    · rw [h2]; intro e; simp only [List.length_map]; rcases h.rs e with e | e
      · exact .inl e
      · exact .inr (by omega)
    · rw [h2]; exact h.work
  | none =>
    have h1 := h.inv.put_new (n := n) hf
    have hlk : lk m name = none := lk_none (h.inv.lost hf)
    have hG := hG hlk
    unfold putM
    rw [if_pos hlk]
    have hsp := setP_len t (findP t name) (slotP t (findP t name) ++ [(name, n)])
    refine ⟨h1, ?_, ?_, fun p hp => ?_, by simp; omega, ?_⟩
    · rw [putP_none t name n hf]
      unfold growP
      split
      · rename_i hg
        simp only [Bool.and_eq_true, Bool.not_eq_true', decide_eq_true_eq] at hg
        intro _
        simp only at hg ⊢
        have := h.inv.len
        omega
      · simp only
        intro e
        rw [hsp.2.1] at e
        rw [hsp.2.2.1]
        have := h.mv e
        rcases hG' with e1 | e1
        · omega
        · have := (h.inv.zero e1).1
          rw [e] at this; cases this
    · rw [putP_none t name n hf]
      unfold growP
      split
      · simp
      · simp only
        intro e
        rw [hsp.2.1] at e
        rw [hsp.2.2.1]
        rcases hG' with e1 | e1
        · rcases h.rs e with e2 | e2
          · exact .inl e2
          · exact .inr (by omega)
        · exact .inl (by rw [(h.inv.zero e1).2]; omega)
    · rcases List.mem_append.1 hp with hp | hp
      · exact h.names p hp
      · simp at hp; subst hp; exact hl
    · rw [putP_none t name n hf]
      unfold growP
      split
      · simp only; rw [hsp.2.2.2.2]; exact h.work
      · simp only; rw [hsp.2.2.2.2]; exact h.work
theorem Ok.del (h : Ok t m G) : Ok (delP t name) (delM m name) G := by
  unfold delM
  cases hf : (findP t name).2.2 with
  | some j =>
    obtain ⟨h1, h2, h3⟩ := h.inv.del_old hf
    refine ⟨h1, ?_, ?_, fun p hp => h.names p (List.mem_filter.1 hp).1, by have := h.small; omega, ?_⟩
    · rw [h2]; unfold restP; split
      · intro e; cases e
      · simpa using h.mv
    · rw [h2]; unfold restP; split
      · intro _; exact .inl (by simp)
      · simpa using h.rs
    · rw [h2]; unfold restP; split <;> exact h.work
  | none =>
    have e : delP t name = t := by unfold delP; simp only [hf]
    rw [e, off_same (h.inv.lost hf)]
    exact h
theorem Ok.namesOk (h : Ok t m G) : NamesOk t := by
  refine ⟨fun L hL p hp => ?_, ?_⟩
  · have := h.names p (h.inv.inM hL hp)
    unfold maxLen; omega
  · unfold totT
    rw [← List.length_flatten]
    have := h.inv.perm.length_eq
    have := h.small
    omega
theorem sub_flat {L : Slot} {R : List Slot} (h : L ∈ R) : L.length ≤ R.flatten.length := by
  obtain ⟨A, B, rfl⟩ := List.append_of_mem h
  simp; omega
theorem ok0 : Ok ⟨List.replicate 8 [], [], false, 0, 0, 0⟩ [] 0 := by
  refine ⟨⟨by decide, ?_, by simp, by simp, by simp, by decide, by simp, by decide, by simp, rfl, fun _ => ⟨rfl, rfl⟩⟩, by simp, fun _ => .inl (by decide), by simp, by decide, by decide⟩
  intro i hi p hp
  exact absurd hp (by show ¬ p ∈ (List.replicate 8 ([] : Slot))[i]'hi; rw [List.getElem_replicate]; exact List.not_mem_nil)
end
section
variable {B : Nat} {w : World} {tb : Nat} {t : Tab} {m : Slot} {G : Nat}
/-- what a call leaves -/
def Told2 (B : Nat) (w : World) (tb : Nat) (P : Tab → Prop) (w' : World) : Prop := ∃ t', P t' ∧ TabA (B ≤ ·) w' tb t' ∧ Below B w w'
theorem moves_ok {S : Nat → Prop} {T : TabS} (h : TabM S w tb T) (hk : Ok (absT T) m G) : Moves S w tb (fun T' => Goes { absT T with work := 0 } (absT T') ∧ moveOne (absT T') = none) :=
  (move_any h hk.namesOk).mono fun e w' ⟨he, T', ⟨h1, h2, _⟩, hT⟩ => ⟨he, T', ⟨h1, h2⟩, hT⟩
theorem ok_small {T : TabS} (hk : Ok (absT T) m G) : T.len ≤ 100000 ∧ ∀ s ∈ T.all, s.L.length ≤ 100000 := by
  have h1 : T.len = m.length := hk.inv.len
  have h2 := hk.small
  refine ⟨by omega, fun s hs => ?_⟩
  have h3 := hk.inv.perm.length_eq
  have h4 : s.L ∈ (absT T).old ++ (absT T).new := by
    rcases List.mem_append.1 hs with h | h
    · exact List.mem_append_left _ (List.mem_map_of_mem h)
    · exact List.mem_append_right _ (List.mem_map_of_mem h)
  have h5 := sub_flat h4
  omega
theorem put_ok (h : TabA (B ≤ ·) w tb t) (hk : Ok t m G) (hB : B ≤ w.heap.size) (name : List UInt8) (n : Int) (hl : name.length ≤ 1000) (hm : m.length < 1000) :
    Calls Try.prog 28 #[.pointer (some ⟨tb, 0, none⟩), .string (str name), .int .i64 n] w fun e w' => e = .returned (ansO (lk m name)) ∧
      Told2 B w tb (fun t' => ∀ G', (lk m name = none → m.length + 1 ≤ G') → (G ≤ G' ∨ m = []) → Ok t' (putM m name n) G') w' := by
  obtain ⟨T, hT, rfl⟩ := h
  refine (put_any (moves_ok hT hk) (fun T' hT' => ok_small (hk.goes hT'.1).1) name n (by unfold maxLen; omega)).mono fun e w' ⟨T1, T2, ⟨hg, hn⟩, hab, he, hto⟩ => ?_
  have hk1 := (hk.goes hg).1
  have hb := hto.base hB (t := absT T2) rfl
  refine ⟨by rw [he, hk1.inv.get], absT T2, fun G' h1 h2 => ?_, hb⟩
  rw [hab]
  exact hk1.put hl hm h1 h2
theorem get_ok (h : TabA (B ≤ ·) w tb t) (hk : Ok t m G) (hB : B ≤ w.heap.size) (name : List UInt8) (hl : name.length ≤ 1000) :
    Calls Try.prog 32 #[.pointer (some ⟨tb, 0, none⟩), .string (str name)] w fun e w' => e = .returned (ansO (lk m name)) ∧
      Told2 B w tb (fun t' => Ok t' m G ∧ Kept { t with work := 0 } t' ∧ moveOne t' = none) w' := by
  obtain ⟨T, hT, rfl⟩ := h
  refine (get_any (moves_ok hT hk) name (by unfold maxLen; omega)).mono fun e w' ⟨T1, ⟨hg, hn⟩, he, hto⟩ => ?_
  have hk1 := hk.goes hg
  have hb := hto.base hB (t := absT T1) rfl
  refine ⟨by rw [he, get_abs hto.1, hk1.1.inv.get], absT T1, ⟨hk1.1, hk1.2, hn⟩, hb⟩
theorem del_ok (h : TabA (B ≤ ·) w tb t) (hk : Ok t m G) (hB : B ≤ w.heap.size) (name : List UInt8) (hl : name.length ≤ 1000) :
    Calls Try.prog 33 #[.pointer (some ⟨tb, 0, none⟩), .string (str name)] w fun e w' => e = .returned (ansO (lk m name)) ∧
      Told2 B w tb (fun t' => Ok t' (delM m name) G) w' := by
  obtain ⟨T, hT, rfl⟩ := h
  refine (del_any (moves_ok hT hk) (fun T' hT' => ok_small (hk.goes hT'.1).1) name (by unfold maxLen; omega) fun T' hT' hne => ?_).mono fun e w' ⟨T1, T2, ⟨hg, hn⟩, hab, he, hto⟩ => ?_
  · have hk1 := (hk.goes hT'.1).1
    cases hf : (findP (absT T') name).2.2 with
    | none => exact absurd hf hne
    | some j =>
      obtain ⟨hj, e, hin⟩ := hk1.inv.found hf
      have h1 : T'.len = m.length := hk1.inv.len
      have := List.length_pos_of_mem hin
      omega
  · have hk1 := (hk.goes hg).1
    have hb := hto.base hB (t := absT T2) rfl
    refine ⟨by rw [he, hk1.inv.get], absT T2, ?_, hb⟩
    rw [hab]
    exact hk1.del
theorem work_ok {S : Nat → Prop} (h : TabA S w tb t) : Calls Try.prog 39 #[.pointer (some ⟨tb, 0, none⟩)] w fun e w' => e = .returned (.int .i64 (t.work : Int)) ∧ w = w' := by
  obtain ⟨T, hT, rfl⟩ := h
  obtain ⟨c0, c1, c2, c3, c4⟩ := hT.cells
  clear hT
  go_enter Try.func39, Try.ntmps39
  go_wp2_with fail
  go_ret
  exact ⟨rfl, rfl⟩
theorem moving_ok {S : Nat → Prop} (h : TabA S w tb t) : Calls Try.prog 42 #[.pointer (some ⟨tb, 0, none⟩)] w fun e w' => e = .returned (.bool t.moving) ∧ w = w' := by
  obtain ⟨T, hT, rfl⟩ := h
  obtain ⟨c0, c1, c2, c3, c4⟩ := hT.cells
  have hmv : (absT T).moving = T.moving := rfl
  rw [hmv]
  cases hm : T.moving
  · have hnv : T.newV = .slice none 0 0 := by unfold TabS.newV; rw [hm]; rfl
    rw [hnv] at c1
    clear hT hnv hm hmv
    go_enter Try.func42, Try.ntmps42
    go_wp2_with fail
    go_ret
    exact ⟨rfl, rfl⟩
  · have hnv : T.newV = rowV T.nb T.new.length := by unfold TabS.newV; rw [hm]; rfl
    rw [hnv] at c1
    clear hT hnv hm hmv
    go_enter Try.func42, Try.ntmps42
    go_wp2_with fail
    go_ret
    exact ⟨rfl, rfl⟩
theorem slots_ok {S : Nat → Prop} (h : TabA S w tb t) (hk : Ok t m G) (hG : G ≤ 100000) : Calls Try.prog 35 #[.pointer (some ⟨tb, 0, none⟩)] w fun e w' => e = .returned (.int .i64 ((t.old.length + t.new.length : Nat) : Int)) ∧ Below w.heap.size w w' := by
  obtain ⟨T, hT, rfl⟩ := h
  obtain ⟨c0, c1, c2, c3, c4⟩ := hT.cells
  have hs := hk.slots
  have e1 : (absT T).old.length = T.old.length := by simp [absT]
  have e2 : (absT T).new.length = T.new.length := by simp [absT]
  rw [e1, e2] at hs ⊢
  have hw : IntKind.i64.wrap ((T.old.length : Int) + (T.new.length : Int)) = ((T.old.length + T.new.length : Nat) : Int) := by rw [IntWalk.i64_in _ (by omega)]; omega
  have hnv : T.newV = .slice (if T.moving then some ⟨T.nb, 0, none⟩ else none) T.new.length T.new.length := by
    unfold TabS.newV
    cases hm : T.moving
    · rw [hT.no hm]; rfl
    · rfl
  rw [hnv] at c1
  have HT := Lib.hid hT
  clear hT hnv hs e1 e2 hk
  go_enter Try.func35, Try.ntmps35
  go_wp2_with fail
  go_quiet (fail)
  all_goals (go_wp2_with fail)
  all_goals (go_ret)
  all_goals exact ⟨by simp, ⟨rfl, rfl, rfl, Nat.le_refl _, fun _ _ => rfl⟩⟩
end
end Go.Proofs.Ytadnabgnbhpijaa
