/- The program's table and the document's, side by side. -/
import Derived.Test.YtadnabgnbhpijaaTabRef3
set_option linter.unusedSimpArgs false
set_option linter.unusedVariables false
namespace Go.Proofs.Ytadnabgnbhpijaa
open Go.RowKit Go.Maps
section
variable {S T : Nat → Prop} {w w' : World} {tb xb : Nat} {t : Tab} {m mr : Slot} {g gr G : Nat} {name : List UInt8}
theorem RefT.lt (h : RefT S w xb m g) : RefT (fun k => S k ∧ k < w.heap.size) w xb m g := by
  obtain ⟨v, hv⟩ := h
  exact ⟨v, ⟨hv.st, row_lt hv.row⟩, hv.row, hv.own, fun k hk => ⟨hv.ob k hk, (hv.own.lt k hk).2⟩⟩
theorem TabA.lt (h : TabA S w tb t) : TabA (fun k => S k ∧ k < w.heap.size) w tb t := by
  obtain ⟨T, hT, ht⟩ := h
  exact ⟨T, ⟨⟨hT.st, row_lt hT.row⟩, hT.row, ⟨⟨hT.old.sb, row_lt hT.old.row⟩, hT.old.row⟩, fun hm => ⟨⟨(hT.new hm).sb, row_lt (hT.new hm).row⟩, (hT.new hm).row⟩, hT.ne, hT.no, fun s hs => ⟨(hT.slots s hs).own, fun k hk => ⟨(hT.slots s hs).ob k hk, ((hT.slots s hs).own.lt k hk).2⟩⟩, hT.apart, hT.pos, hT.small, hT.dbl, hT.atle, hT.small2⟩, ht⟩
theorem TabA.mono (h : TabA S w tb t) (hS : ∀ k, S k → T k) : TabA T w tb t := by
  obtain ⟨T', hT, ht⟩ := h
  exact ⟨T', hT.mono hS, ht⟩
theorem TabA.keep (h : TabA S w tb t) (hc : Chg T w w') (hn : ∀ k, S k → ¬ T k) : TabA S w' tb t := by
  obtain ⟨T', hT, ht⟩ := h
  exact ⟨T', hT.keep hc hn, ht⟩
/-- what a call on the table leaves, the table's blocks being S's -/
def ToldS (S : Nat → Prop) (w : World) (tb : Nat) (P : Tab → Prop) (w' : World) : Prop := ∃ t', P t' ∧ TabA (Up S w) w' tb t' ∧ Chg S w w'
theorem put_okS (h : TabA S w tb t) (hk : Ok t m G) (name : List UInt8) (n : Int) (hl : name.length ≤ 1000) (hm : m.length < 1000) :
    Calls Try.prog 28 #[.pointer (some ⟨tb, 0, none⟩), .string (str name), .int .i64 n] w fun e w' => e = .returned (ansO (lk m name)) ∧
      ToldS S w tb (fun t' => ∀ G', (lk m name = none → m.length + 1 ≤ G') → (G ≤ G' ∨ m = []) → Ok t' (putM m name n) G') w' := by
  obtain ⟨T, hT, rfl⟩ := h
  refine (put_any (moves_ok hT hk) (fun T' hT' => ok_small (hk.goes hT'.1).1) name n (by unfold maxLen; omega)).mono fun e w' ⟨T1, T2, ⟨hg, hn⟩, hab, he, hto⟩ => ?_
  have hk1 := (hk.goes hg).1
  refine ⟨by rw [he, hk1.inv.get], absT T2, fun G' h1 h2 => ?_, ⟨T2, hto.1, rfl⟩, hto.2⟩
  rw [hab]
  exact hk1.put hl hm h1 h2
theorem get_okS (h : TabA S w tb t) (hk : Ok t m G) (name : List UInt8) (hl : name.length ≤ 1000) :
    Calls Try.prog 32 #[.pointer (some ⟨tb, 0, none⟩), .string (str name)] w fun e w' => e = .returned (ansO (lk m name)) ∧ ToldS S w tb (fun t' => Ok t' m G) w' := by
  obtain ⟨T, hT, rfl⟩ := h
  refine (get_any (moves_ok hT hk) name (by unfold maxLen; omega)).mono fun e w' ⟨T1, ⟨hg, hn⟩, he, hto⟩ => ?_
  have hk1 := hk.goes hg
  exact ⟨by rw [he, get_abs hto.1, hk1.1.inv.get], absT T1, hk1.1, ⟨T1, hto.1, rfl⟩, hto.2⟩
theorem del_okS (h : TabA S w tb t) (hk : Ok t m G) (name : List UInt8) (hl : name.length ≤ 1000) :
    Calls Try.prog 33 #[.pointer (some ⟨tb, 0, none⟩), .string (str name)] w fun e w' => e = .returned (ansO (lk m name)) ∧ ToldS S w tb (fun t' => Ok t' (delM m name) G) w' := by
  obtain ⟨T, hT, rfl⟩ := h
  refine (del_any (moves_ok hT hk) (fun T' hT' => ok_small (hk.goes hT'.1).1) name (by unfold maxLen; omega) fun T' hT' hne => ?_).mono fun e w' ⟨T1, T2, ⟨hg, hn⟩, hab, he, hto⟩ => ?_
  · have hk1 := (hk.goes hT'.1).1
    cases hf : (findP (absT T') name).2.2 with
    | none => exact absurd hf hne
    | some j =>
      obtain ⟨hj, e, hin⟩ := hk1.inv.found hf
      have h1 : T'.len = m.length := hk1.inv.len
      have := List.length_pos_of_mem hin
      omega
  · have hk1 := (hk.goes hg).1
    refine ⟨by rw [he, hk1.inv.get], absT T2, ?_, ⟨T2, hto.1, rfl⟩, hto.2⟩
    rw [hab]
    exact hk1.del
/-- block tb is the program's table with m, block xb the document's with mr; X's blocks are others; nothing else behind w0 has changed -/
def Both (X : Nat → Prop) (w0 w : World) (tb xb : Nat) (m : Slot) (g : Nat) (mr : Slot) (gr : Nat) : Prop :=
  ∃ S1 S2 : Nat → Prop, ∃ t, (∀ k, S1 k → ¬ S2 k) ∧ (∀ k, S1 k → w0.heap.size ≤ k ∧ k < w.heap.size) ∧ (∀ k, S2 k → w0.heap.size ≤ k ∧ k < w.heap.size) ∧ TabA S1 w tb t ∧ Ok t m g ∧ RefT S2 w xb mr gr ∧ Below w0.heap.size w0 w ∧ ∀ k, X k → k < w.heap.size ∧ ¬ S1 k ∧ ¬ S2 k
/-- X's blocks are as they were -/
def Kp (X : Nat → Prop) (w w' : World) : Prop := ∀ k, X k → w'.heap[k]? = w.heap[k]?
variable {w0 : World} {X : Nat → Prop}
theorem Kp.cell {a : Addr} (h : Kp X w w') (ha : X a.block) : w'.cell? a = w.cell? a := World.cell?_of_block (w := w) (h _ ha)
theorem Both.below (h : Both X w0 w tb xb m g mr gr) (hb : Below w.heap.size w w') : Both X w0 w' tb xb m g mr gr := by
  obtain ⟨S1, S2, t, h1, h2, h3, h4, h5, h6, h7, h8⟩ := h
  have := hb.size
  exact ⟨S1, S2, t, h1, fun k hk => ⟨(h2 k hk).1, by have := (h2 k hk).2; omega⟩, fun k hk => ⟨(h3 k hk).1, by have := (h3 k hk).2; omega⟩, h4.below hb, h5, h6.below hb, h7.trans (hb.mono h7.size), fun k hk => ⟨by have := (h8 k hk).1; omega, (h8 k hk).2⟩⟩
theorem Both.base (h : Both X w0 w tb xb m g mr gr) : Below w0.heap.size w0 w := by obtain ⟨S1, S2, t, h1, h2, h3, h4, h5, h6, h7, h8⟩ := h; exact h7
theorem Both.box (h : Both X w0 w tb xb m g mr gr) (o : Obj) : Both (fun k => k = w.heap.size) w0 (w.alloc o) tb xb m g mr gr := by
  have hb : Below w.heap.size w (w.alloc o) := (Below.refl _ _).alloc (Nat.le_refl _) _
  obtain ⟨S1, S2, t, h1, h2, h3, h4, h5, h6, h7, h8⟩ := h
  have := hb.size
  exact ⟨S1, S2, t, h1, fun k hk => ⟨(h2 k hk).1, by have := (h2 k hk).2; omega⟩, fun k hk => ⟨(h3 k hk).1, by have := (h3 k hk).2; omega⟩, h4.below hb, h5, h6.below hb, h7.trans (hb.mono h7.size), fun k hk => ⟨by subst hk; simp, fun hx => by have := (h2 k hx).2; omega, fun hx => by have := (h3 k hx).2; omega⟩⟩
theorem Both.drop (h : Both X w0 w tb xb m g mr gr) : Both (fun _ => False) w0 w tb xb m g mr gr := by
  obtain ⟨S1, S2, t, h1, h2, h3, h4, h5, h6, h7, h8⟩ := h
  exact ⟨S1, S2, t, h1, h2, h3, h4, h5, h6, h7, fun k hk => hk.elim⟩
theorem Both.tab {S1 S2 : Nat → Prop} {t' : Tab} {m' : Slot} {g' : Nat} (h1 : ∀ k, S1 k → ¬ S2 k) (h2 : ∀ k, S1 k → w0.heap.size ≤ k ∧ k < w.heap.size) (h3 : ∀ k, S2 k → w0.heap.size ≤ k ∧ k < w.heap.size) (h6 : RefT S2 w xb mr gr) (h7 : Below w0.heap.size w0 w) (h8 : ∀ k, X k → k < w.heap.size ∧ ¬ S1 k ∧ ¬ S2 k)
    (ht : TabA (Up S1 w) w' tb t') (hk : Ok t' m' g') (hc : Chg S1 w w') : Both X w0 w' tb xb m' g' mr gr ∧ Kp X w w' := by
  have hs := hc.size
  have h0 := h7.size
  refine ⟨⟨fun k => Up S1 w k ∧ k < w'.heap.size, S2, t', fun k hk hx => ?_, fun k hk => ⟨?_, hk.2⟩, fun k hk => ⟨(h3 k hk).1, by have := (h3 k hk).2; omega⟩, ht.lt, hk, h6.keep hc fun k hk hx => h1 k hx hk, h7.trans (hc.below h0 fun k hk => (h2 k hk).1), fun k hk => ⟨by have := (h8 k hk).1; omega, fun hx => ?_, (h8 k hk).2.2⟩⟩, fun k hk => hc.block k (h8 k hk).1 (h8 k hk).2.1⟩
  · rcases hk.1 with h | h
    · exact h1 k h hx
    · have := (h3 k hx).2; omega
  · rcases hk.1 with h | h
    · exact (h2 k h).1
    · omega
  · rcases hx.1 with h | h
    · exact (h8 k hk).2.1 h
    · have := (h8 k hk).1; omega
theorem Both.ref {S1 S2 : Nat → Prop} {mr' : Slot} {gr' : Nat} (h1 : ∀ k, S1 k → ¬ S2 k) (h2 : ∀ k, S1 k → w0.heap.size ≤ k ∧ k < w.heap.size) (h3 : ∀ k, S2 k → w0.heap.size ≤ k ∧ k < w.heap.size) (h4 : TabA S1 w tb t) (h5 : Ok t m g) (h7 : Below w0.heap.size w0 w) (h8 : ∀ k, X k → k < w.heap.size ∧ ¬ S1 k ∧ ¬ S2 k)
    (ht : RefT (Up S2 w) w' xb mr' gr') (hc : Chg S2 w w') : Both X w0 w' tb xb m g mr' gr' ∧ Kp X w w' := by
  have hs := hc.size
  have h0 := h7.size
  refine ⟨⟨S1, fun k => Up S2 w k ∧ k < w'.heap.size, t, fun k hk hx => ?_, fun k hk => ⟨(h2 k hk).1, by have := (h2 k hk).2; omega⟩, fun k hk => ⟨?_, hk.2⟩, h4.keep hc fun k hk hx => h1 k hk hx, h5, ht.lt, h7.trans (hc.below h0 fun k hk => (h3 k hk).1), fun k hk => ⟨by have := (h8 k hk).1; omega, (h8 k hk).2.1, fun hx => ?_⟩⟩, fun k hk => hc.block k (h8 k hk).1 (h8 k hk).2.2⟩
  · rcases hx.1 with h | h
    · exact h1 k hk h
    · have := (h2 k hk).2; omega
  · rcases hk.1 with h | h
    · exact (h3 k h).1
    · omega
  · rcases hx.1 with h | h
    · exact (h8 k hk).2.2 h
    · have := (h8 k hk).1; omega
theorem putB (h : Both X w0 w tb xb m g mr gr) (name : List UInt8) (n : Int) (hl : name.length ≤ 1000) (hm : m.length < 1000) :
    Calls Try.prog 28 #[.pointer (some ⟨tb, 0, none⟩), .string (str name), .int .i64 n] w fun e w' => e = .returned (ansO (lk m name)) ∧ Both X w0 w' tb xb (putM m name n) (gP m name g) mr gr ∧ Kp X w w' := by
  obtain ⟨S1, S2, t, h1, h2, h3, h4, h5, h6, h7, h8⟩ := h
  refine (put_okS h4 h5 name n hl hm).mono fun e w' ⟨he, t', hk, ht, hc⟩ => ⟨he, Both.tab h1 h2 h3 h6 h7 h8 ht (hk _ (fun e => ?_) ?_) hc⟩
  · unfold gP; rw [if_pos e]; omega
  · unfold gP
    split
    · rcases Nat.eq_zero_or_pos m.length with e | e
      · exact .inr (List.length_eq_zero_iff.1 e)
      · rw [if_neg (by omega)]; exact .inl (by omega)
    · exact .inl (Nat.le_refl _)
theorem getB (h : Both X w0 w tb xb m g mr gr) (name : List UInt8) (hl : name.length ≤ 1000) :
    Calls Try.prog 32 #[.pointer (some ⟨tb, 0, none⟩), .string (str name)] w fun e w' => e = .returned (ansO (lk m name)) ∧ Both X w0 w' tb xb m g mr gr ∧ Kp X w w' := by
  obtain ⟨S1, S2, t, h1, h2, h3, h4, h5, h6, h7, h8⟩ := h
  exact (get_okS h4 h5 name hl).mono fun e w' ⟨he, t', hk, ht, hc⟩ => ⟨he, Both.tab h1 h2 h3 h6 h7 h8 ht hk hc⟩
theorem delB (h : Both X w0 w tb xb m g mr gr) (name : List UInt8) (hl : name.length ≤ 1000) :
    Calls Try.prog 33 #[.pointer (some ⟨tb, 0, none⟩), .string (str name)] w fun e w' => e = .returned (ansO (lk m name)) ∧ Both X w0 w' tb xb (delM m name) g mr gr ∧ Kp X w w' := by
  obtain ⟨S1, S2, t, h1, h2, h3, h4, h5, h6, h7, h8⟩ := h
  exact (del_okS h4 h5 name hl).mono fun e w' ⟨he, t', hk, ht, hc⟩ => ⟨he, Both.tab h1 h2 h3 h6 h7 h8 ht hk hc⟩
theorem rputB (h : Both X w0 w tb xb m g mr gr) (hu : (mr.map Prod.fst).Nodup) (name : List UInt8) (n : Int) (hl : name.length ≤ 1000) (hm : mr.length < 1000) (hg : gr ≤ 1000) :
    Calls Try.prog 64 #[.pointer (some ⟨xb, 0, none⟩), .string (str name), .int .i64 n] w fun e w' => e = .returned (ansO (lk mr name)) ∧ Both X w0 w' tb xb m g (putM mr name n) (gP mr name gr) ∧ Kp X w w' := by
  obtain ⟨S1, S2, t, h1, h2, h3, h4, h5, h6, h7, h8⟩ := h
  exact (rput_any h6 hu (by unfold maxLen; omega) (by omega) (by omega) n).mono fun e w' ⟨he, ht, hc⟩ => ⟨he, Both.ref h1 h2 h3 h4 h5 h7 h8 ht hc⟩
theorem rgetB (h : Both X w0 w tb xb m g mr gr) (hu : (mr.map Prod.fst).Nodup) (name : List UInt8) (hl : name.length ≤ 1000) (hm : mr.length < 1000) :
    Calls Try.prog 65 #[.pointer (some ⟨xb, 0, none⟩), .string (str name)] w fun e w' => e = .returned (ansO (lk mr name)) ∧ Both X w0 w' tb xb m g mr gr ∧ Kp X w w' := by
  have h' := h
  obtain ⟨S1, S2, t, h1, h2, h3, h4, h5, h6, h7, h8⟩ := h
  exact (rget_any h6 hu (by unfold maxLen; omega) (by omega)).mono fun e w' ⟨he, hw⟩ => ⟨he, by subst hw; exact ⟨h', fun _ _ => rfl⟩⟩
theorem rdelB (h : Both X w0 w tb xb m g mr gr) (hu : (mr.map Prod.fst).Nodup) (name : List UInt8) (hl : name.length ≤ 1000) (hm : mr.length < 1000) :
    Calls Try.prog 66 #[.pointer (some ⟨xb, 0, none⟩), .string (str name)] w fun e w' => e = .returned (ansO (lk mr name)) ∧ Both X w0 w' tb xb m g (delM mr name) gr ∧ Kp X w w' := by
  obtain ⟨S1, S2, t, h1, h2, h3, h4, h5, h6, h7, h8⟩ := h
  exact (rdel_any h6 hu (by unfold maxLen; omega) (by omega)).mono fun e w' ⟨he, ht, hc⟩ => ⟨he, Both.ref h1 h2 h3 h4 h5 h7 h8 ht hc⟩
theorem Both.uniq (h : Both X w0 w tb xb m g mr gr) : (m.map Prod.fst).Nodup := by obtain ⟨S1, S2, t, h1, h2, h3, h4, h5, h6, h7, h8⟩ := h; exact h5.inv.uniq
theorem gP_le : gP m name g ≤ max g (m.length + 1) := by unfold gP; split <;> (try split) <;> omega
theorem putM_len (n : Int) : (putM m name n).length ≤ m.length + 1 := by unfold putM; split <;> simp
theorem delM_len : (delM m name).length ≤ m.length := List.length_filter_le _ _
/-- an op: its kind, its number, its name -/
abbrev OpT := Int × Int × List UInt8
def opV (o : OpT) : Value := .agg #[.int .i64 o.1, .int .i64 o.2.1, .string (str o.2.2)]
theorem tmod5 (k : Int) : -5 < k.tmod 5 ∧ k.tmod 5 < 5 := by
  rcases Int.le_total 0 k with h | h
  · rw [Int.tmod_eq_emod_of_nonneg h]; omega
  · have e : k.tmod 5 = -((-k).tmod 5) := by rw [Int.neg_tmod, Int.neg_neg]
    rw [e, Int.tmod_eq_emod_of_nonneg (by omega)]; omega
def ActDoes (w0 : World) (tb xb : Nat) (m : Slot) (g : Nat) (e : Ending) (w' : World) : Prop :=
  e = .returned (.bool true) ∧ ∃ m' g', Both (fun _ => False) w0 w' tb xb m' g' m' g' ∧ m'.length ≤ m.length + 1 ∧ g' ≤ max g (m.length + 1)
set_option maxHeartbeats 1000000 in
set_option maxRecDepth 20000 in
theorem act_any (h : Both X w0 w tb xb m g m g) (o : OpT) (hl : o.2.2.length ≤ 1000) (hm : m.length < 999) (hg : g ≤ 1000) :
    Calls Try.prog 38 #[.pointer (some ⟨tb, 0, none⟩), .pointer (some ⟨xb, 0, none⟩), opV o] w (ActDoes w0 tb xb m g) := by
  obtain ⟨kind, n, name⟩ := o
  simp only [opV] at *
  obtain ⟨hq1, hq2⟩ := tmod5 kind
  obtain ⟨r, hr, hr5⟩ : ∃ r : Nat, (kind.tmod 5 + 5).tmod 5 = (r : Int) ∧ r < 5 := by
    refine ⟨((kind.tmod 5 + 5) % 5).toNat, ?_, ?_⟩
    · rw [Int.tmod_eq_emod_of_nonneg (by omega)]; omega
    · omega
  have hwq : IntKind.i64.wrap (kind.tmod 5 + 5) = kind.tmod 5 + 5 := IntWalk.i64_in _ (by omega)
  have HU := Lib.hid h.uniq
  obtain ⟨wB, hwB⟩ : ∃ v, v = w.alloc (.cells #[.int .i64 kind, .int .i64 n, .string (str name)] 67) := ⟨_, rfl⟩
  have hB := h.box (.cells #[.int .i64 kind, .int .i64 n, .string (str name)] 67)
  rw [← hwB] at hB
  have hbx : wB.heap[w.heap.size]? = some (.cells #[.int .i64 kind, .int .i64 n, .string (str name)] 67 (0, 0)) := by rw [hwB]; exact heap_alloc_new w _
  have HH := Lib.hid hB
  have HBX := Lib.hid hbx
  have HWB := Lib.hid hwB
  clear h hB hbx hwB
  have hcase : r = 0 ∨ r = 1 ∨ r = 2 ∨ r = 3 ∨ r = 4 := by omega
  have HPL := Lib.hid (putM_len (m := m) (name := name) n)
  have HGL := Lib.hid (gP_le (m := m) (name := name) (g := g))
  have HDL := Lib.hid (delM_len (m := m) (name := name))
  rcases hcase with rfl | rfl | rfl | rfl | rfl
  case inl | inr.inl | inr.inr.inl =>
    go_enter Try.func38, Try.ntmps38
    go_wp2_with fail
    rw [← HWB.out]
    go_fit (putB HH.out name n hl (by omega))
    rintro e w2 ⟨rfl, hB2, hk2⟩
    have c1 : w2.cell? ⟨w.heap.size, 1, none⟩ = some (.int .i64 n) := by rw [hk2.cell rfl]; simp [World.cell?, HBX.out]
    have c2 : w2.cell? ⟨w.heap.size, 2, none⟩ = some (.string (str name)) := by rw [hk2.cell rfl]; simp [World.cell?, HBX.out]
    have HB2 := Lib.hid hB2
    clear hB2 hk2
    cases hlk : lk m name <;> simp only [ansO]
    all_goals
      go_wp2_with fail
      go_fit (rputB HB2.out HU.out name n hl (by omega) hg)
      rw [hlk]
      rintro e w3 ⟨rfl, hB3, hk3⟩
      have HB3 := Lib.hid hB3
      clear hB3 hk3 c1 c2
      simp only [ansO]
      go_wp2_with fail
      go_ret
      exact ⟨rfl, _, _, HB3.out.drop, HPL.out, HGL.out⟩
  case inr.inr.inr.inl =>
    go_enter Try.func38, Try.ntmps38
    go_wp2_with fail
    rw [← HWB.out]
    go_fit (getB HH.out name hl)
    rintro e w2 ⟨rfl, hB2, hk2⟩
    have c2 : w2.cell? ⟨w.heap.size, 2, none⟩ = some (.string (str name)) := by rw [hk2.cell rfl]; simp [World.cell?, HBX.out]
    have HB2 := Lib.hid hB2
    clear hB2 hk2
    cases hlk : lk m name <;> simp only [ansO]
    all_goals
      go_wp2_with fail
      go_fit (rgetB HB2.out HU.out name hl (by omega))
      rw [hlk]
      rintro e w3 ⟨rfl, hB3, hk3⟩
      have HB3 := Lib.hid hB3
      clear hB3 hk3 c2
      simp only [ansO]
      go_wp2_with fail
      go_ret
      exact ⟨rfl, _, _, HB3.out.drop, by omega, by omega⟩
  case inr.inr.inr.inr =>
    go_enter Try.func38, Try.ntmps38
    go_wp2_with fail
    rw [← HWB.out]
    go_fit (delB HH.out name hl)
    rintro e w2 ⟨rfl, hB2, hk2⟩
    have c2 : w2.cell? ⟨w.heap.size, 2, none⟩ = some (.string (str name)) := by rw [hk2.cell rfl]; simp [World.cell?, HBX.out]
    have HB2 := Lib.hid hB2
    clear hB2 hk2
    cases hlk : lk m name <;> simp only [ansO]
    all_goals
      go_wp2_with fail
      go_fit (rdelB HB2.out HU.out name hl (by omega))
      rw [hlk]
      rintro e w3 ⟨rfl, hB3, hk3⟩
      have HB3 := Lib.hid hB3
      clear hB3 hk3 c2
      simp only [ansO]
      go_wp2_with fail
      go_ret
      exact ⟨rfl, _, _, HB3.out.drop, by have := HDL.out; omega, by omega⟩
end
end Go.Proofs.Ytadnabgnbhpijaa
