/- Slices that a call reads, and slices that it owns: words and laws, over any program. -/
import Derived.Test.YtecpkoigjnpkfaaRows
import Derived.WalkKit
import Derived.Deep.MidRow
import Derived.Laws.IdiomStrings
import Derived.Laws.BytesArg
import Derived.Lib.Strings
set_option linter.unusedSimpArgs false
set_option linter.unusedVariables false
namespace Go.Proofs.Ytecpkoigjnpkfaa
open Go.RowKit

theorem u32_of {a : Int} (h : (Lit.int .u32 a).wf = true) : ∃ x : BitVec 32, a = (x.toNat : Int) := by
  have hr : 0 ≤ a ∧ a ≤ 4294967295 := by simpa [Lit.wf, IntKind.min, IntKind.max, IntKind.signed, IntKind.bits] using h
  refine ⟨BitVec.ofNat 32 a.toNat, ?_⟩
  rw [BitVec.toNat_ofNat]; omega
theorem u8_of {a : Int} (h : (Lit.int .u8 a).wf = true) : ∃ x : UInt8, a = (x.toNat : Int) := by
  have hr : 0 ≤ a ∧ a ≤ 255 := by simpa [Lit.wf, IntKind.min, IntKind.max, IntKind.signed, IntKind.bits] using h
  refine ⟨UInt8.ofNat a.toNat, ?_⟩
  simp; omega
theorem i64_of {a : Int} (h : (Lit.int .i64 a).wf = true) : -9223372036854775808 ≤ a ∧ a ≤ 9223372036854775807 := by
  simpa [Lit.wf, IntKind.min, IntKind.max, IntKind.signed, IntKind.bits] using h
/-! ### Reading -/
/-- the cells at p on are xs -/
def Rd (w : World) (p : Option Addr) (xs : List Value) : Prop :=
  xs = [] ∨ ∃ b o, p = some ⟨b, o, none⟩ ∧ ∀ i (h : i < xs.length), w.cell? ⟨b, o + i, none⟩ = some xs[i]
theorem Rd.nil (w : World) (p : Option Addr) : Rd w p [] := .inl rfl
theorem Rd.at {w : World} {p : Option Addr} {xs : List Value} (h : Rd w p xs) {k : Nat} (hk : k < xs.length) :
    ∃ b o, p = some ⟨b, o, none⟩ ∧ ∀ i (h : i < xs.length), w.cell? ⟨b, o + i, none⟩ = some xs[i] := by
  rcases h with rfl | h
  · simp at hk
  · exact h
theorem Rd.cells {w : World} {b o : Nat} {xs : List Value} (h : Rd w (some ⟨b, o, none⟩) xs) : ∀ i (h : i < xs.length), w.cell? ⟨b, o + i, none⟩ = some xs[i] := by
  rcases h with rfl | ⟨b', o', hp, h⟩
  · intro i hi; simp at hi
  · cases hp; exact h
theorem Rd.keep {w w' : World} {p : Option Addr} {xs : List Value} (h : Rd w p xs) (hk : ∀ b o, p = some ⟨b, o, none⟩ → b < w.heap.size → ∀ i, w'.cell? ⟨b, i, none⟩ = w.cell? ⟨b, i, none⟩) : Rd w' p xs := by
  rcases h with rfl | ⟨b, o, hp, hc⟩
  · exact .inl rfl
  · refine .inr ⟨b, o, hp, fun i hi => ?_⟩
    have h1 := hc i hi
    rw [hk b o hp (block_lt_of_cell h1)]; exact h1
theorem Rd.below {w w' : World} {p : Option Addr} {xs : List Value} (h : Rd w p xs) (hb : Below w.heap.size w w') : Rd w' p xs :=
  h.keep fun b o _ hlt i => hb.cell (p := ⟨b, i, none⟩) hlt
theorem Rd.alloc {w : World} {p : Option Addr} {xs : List Value} (h : Rd w p xs) (o : Obj) : Rd (w.alloc o) p xs :=
  h.below ((Below.refl _ _).alloc (Nat.le_refl _) _)
theorem Rd.drew {w : World} {p : Option Addr} {xs : List Value} (h : Rd w p xs) : Rd w.drew p xs := h
theorem Rd.take {w : World} {p : Option Addr} {xs : List Value} (h : Rd w p xs) (n : Nat) : Rd w p (xs.take n) := by
  rcases h with rfl | ⟨b, o, hp, hc⟩
  · exact .inl (by simp)
  · refine .inr ⟨b, o, hp, fun i hi => ?_⟩
    have hi' : i < xs.length := by simp at hi; omega
    rw [hc i hi']; simp
theorem Rd.drop {w : World} {b o : Nat} {xs : List Value} (h : Rd w (some ⟨b, o, none⟩) xs) (n : Nat) : Rd w (some ⟨b, o + n, none⟩) (xs.drop n) := by
  have hc := h.cells
  refine .inr ⟨b, o + n, rfl, fun i hi => ?_⟩
  have hi' : n + i < xs.length := by simp at hi; omega
  rw [Nat.add_assoc, hc (n + i) hi']; simp
theorem Rd.of_row {w : World} {g : Nat} {C : Array Value} {t : TypeId} {fr : Nat × Nat} (hg : w.heap[g]? = some (.cells C t fr)) (o : Nat) {xs : List Value} (h : xs <+: C.toList.drop o) : Rd w (some ⟨g, o, none⟩) xs := by
  refine .inr ⟨g, o, rfl, fun i hi => ?_⟩
  rw [cell_of_row _ _ _ _ _ _ hg]
  obtain ⟨r, hr⟩ := h
  have e1 : C[o + i]? = (C.toList.drop o)[i]? := by simp
  rw [e1, ← hr, List.getElem?_append_left hi]; simp
theorem Rd.one (w : World) (x : Value) (t : TypeId) : Rd (w.alloc (.cells #[x] t)) (some ⟨w.heap.size, 0, none⟩) [x] :=
  Rd.of_row (heap_alloc_new w _) 0 (by simp)
theorem int_one (k : IntKind) (x : Int) : ∀ u ∈ [Value.int k x], u.oneCell' = true := by simp [Value.oneCell']
theorem Rd.get {w : World} {p : Option Addr} {xs : List Value} (h : Rd w p xs) : ∀ a, p = some a → ∀ j u, xs[j]? = some u → w.cell? (a.add j) = some u := by
  intro a ha j u hu
  have hj : j < xs.length := (List.getElem?_eq_some_iff.1 hu).1
  obtain ⟨b, o, hp, hc⟩ := h.at hj
  rw [ha] at hp; cases hp
  rw [Addr.add_mid, hc j hj, ← hu, List.getElem?_eq_getElem hj]

/-- a row of bytes, as cells -/
def by8 (l : List UInt8) : List Value := l.map fun c => .int .u8 (c.toNat : Int)
theorem by8_len (l : List UInt8) : (by8 l).length = l.length := by simp [by8]
theorem by8_mul (l : List UInt8) : (by8 l).length = l.length * 1 := by rw [by8_len, Nat.mul_one]
theorem by8_get (l : List UInt8) (i : Nat) (h : i < l.length) : (by8 l)[i]? = some (.int .u8 (l[i].toNat : Int)) := by simp [by8, h]
theorem by8_append (l m : List UInt8) : by8 (l ++ m) = by8 l ++ by8 m := by simp [by8]
theorem by8_take (l : List UInt8) (n : Nat) : by8 (l.take n) = (by8 l).take n := by simp [by8, List.map_take]
theorem by8_drop (l : List UInt8) (n : Nat) : by8 (l.drop n) = (by8 l).drop n := by simp [by8, List.map_drop]
theorem by8_one (l : List UInt8) : ∀ u ∈ by8 l, u.oneCell' = true := by
  intro u hu
  obtain ⟨_, _, rfl⟩ := List.mem_map.1 hu
  rfl
theorem by8_set (l : List UInt8) (i : Nat) (c : UInt8) : (by8 l).set i (.int .u8 (c.toNat : Int)) = by8 (l.set i c) := by simp [by8, List.map_set]
theorem by8_inj {l m : List UInt8} (h : by8 l = by8 m) : l = m := by
  refine (List.map_inj_right ?_).1 h
  intro a b hab
  simp only [Value.int.injEq, true_and] at hab
  exact UInt8.toNat_inj.1 (by omega)
/-- the bytes at p on are l -/
abbrev Rd8 (w : World) (p : Option Addr) (l : List UInt8) : Prop := Rd w p (by8 l)
theorem Rd8.nil (w : World) (p : Option Addr) : Rd8 w p [] := .inl rfl
theorem Rd8.at {w : World} {p : Option Addr} {l : List UInt8} (h : Rd8 w p l) {k : Nat} (hk : k < l.length) :
    ∃ b o, p = some ⟨b, o, none⟩ ∧ ∀ i (h : i < l.length), w.cell? ⟨b, o + i, none⟩ = some (.int .u8 (l[i].toNat : Int)) := by
  obtain ⟨b, o, hp, hc⟩ := Rd.at h (k := k) (by rw [by8_len]; exact hk)
  exact ⟨b, o, hp, fun i hi => by rw [hc i (by rw [by8_len]; exact hi)]; simp [by8]⟩
theorem Rd8.below {w w' : World} {p : Option Addr} {l : List UInt8} (h : Rd8 w p l) (hb : Below w.heap.size w w') : Rd8 w' p l := Rd.below h hb
theorem Rd8.alloc {w : World} {p : Option Addr} {l : List UInt8} (h : Rd8 w p l) (o : Obj) : Rd8 (w.alloc o) p l := Rd.alloc h o
theorem Rd8.take {w : World} {p : Option Addr} {l : List UInt8} (h : Rd8 w p l) (n : Nat) : Rd8 w p (l.take n) := by
  unfold Rd8; rw [by8_take]; exact Rd.take h n
theorem Rd8.drop {w : World} {b o : Nat} {l : List UInt8} (h : Rd8 w (some ⟨b, o, none⟩) l) (n : Nat) : Rd8 w (some ⟨b, o + n, none⟩) (l.drop n) := by
  unfold Rd8; rw [by8_drop]; exact Rd.drop h n
theorem Rd8.new (w : World) (l : List UInt8) (C : Array Value) (t : TypeId) (fr : Nat × Nat) (h : (by8 l) <+: C.toList) : Rd8 (w.alloc (.cells C t fr)) (some ⟨w.heap.size, 0, none⟩) l :=
  Rd.of_row (heap_alloc_new w _) 0 (by simpa using h)

/-! ### Writing -/
/-- no cell of a block of n cells is frozen (the run-time's mark may stand right behind its last cell) -/
def Free (fr : Nat × Nat) (n : Nat) : Prop := fr = (0, 0) ∨ fr = (n, n + 1)

theorem frozen_free {w : World} {g : Nat} {cur : Array Value} {t : TypeId} {fr : Nat × Nat} (hg : w.heap[g]? = some (.cells cur t fr)) (hf : Free fr cur.size) {j : Nat} (hj : j < cur.size) : w.frozen? ⟨g, j, none⟩ = false := by
  rcases hf with rfl | rfl
  · simp [World.frozen?, hg]
  · simp [World.frozen?, hg]; omega

theorem run_storeCells_free {P : Program} (g o : Nat) (t : TypeId) (fr : Nat × Nat) : ∀ (vs : List Value) (i : Nat) (cur : Array Value) (w : World), w.heap[g]? = some (.cells cur t fr) → Free fr cur.size → o + i + vs.length ≤ cur.size → (∀ v ∈ vs, v.oneCell' = true) →
    (storeCells ⟨g, o, none⟩ vs i).run P w = .ok () (w.setRow g (cur.toList.take (o + i) ++ vs ++ cur.toList.drop (o + i + vs.length)).toArray)
  | [], i, cur, w, hg, _, _, _ => by
    simp only [storeCells, List.append_nil, List.length_nil, Nat.add_zero, List.take_append_drop, Array.toArray_toList]
    rw [setRow_self w g cur t fr hg]
    rfl
  | v :: rest, i, cur, w, hg, hf, hl, h1 => by
    have hi : o + i < cur.size := by simp at hl; omega
    have hadd : (⟨g, o, none⟩ : Addr).add i = ⟨g, o + i, none⟩ := Addr.add_mid _ _ _
    have hcell : w.cell? ⟨g, o + i, none⟩ = some cur[o + i] := by simp [World.cell?, hg, hi]
    have hfro : w.frozen? ⟨g, o + i, none⟩ = false := frozen_free hg hf hi
    have hst : (store ((⟨g, o, none⟩ : Addr).add i) v).run P w = .ok () (w.setRow g (cur.setIfInBounds (o + i) v)) := by
      rw [hadd, run_store P w _ v _ (h1 v (by simp)), hcell]
      simp [hfro, setCell_eq_setRow w g (o + i) cur t fr v hg]
    have ih := run_storeCells_free (P := P) g o t fr rest (i + 1) (cur.setIfInBounds (o + i) v) (w.setRow g (cur.setIfInBounds (o + i) v)) (setRow_heap w g cur _ t _ hg) (by simpa using hf) (by simp at hl ⊢; omega) (fun x hx => h1 x (by simp [hx]))
    simp only [storeCells, Sem.run_bind, hst, Result.andThen_ok, ih, setRow_setRow]
    congr 3
    have e := list_seg_step cur.toList (o + i) v rest (by simp at hl ⊢; omega)
    simpa [Array.toList_setIfInBounds, Nat.add_assoc] using e

/-- slice value v with n elements of type e (sz cells each) is the call's own, from block base on, and its cells are xs -/
def OwnS (w : World) (base : Nat) (e : TypeId) (sz : Nat) (v : Value) (n : Nat) (xs : List Value) : Prop :=
  xs.length = n * sz ∧
  ((v = .slice none 0 0 ∧ n = 0) ∨
   ∃ g cap cur fr, v = .slice (some ⟨g, 0, none⟩) n cap ∧ base ≤ g ∧ w.heap[g]? = some (.cells cur e fr) ∧ Free fr cur.size ∧ n ≤ cap ∧ cap ≤ maxLen ∧ cap * sz ≤ cur.size ∧ cur.toList.take (n * sz) = xs)

section
variable {P : Program} {w w' : World} {base : Nat} {e : TypeId} {sz : Nat} {v : Value} {n : Nat} {xs : List Value}

theorem OwnS.none : OwnS w base e sz (.slice none 0 0) 0 [] := ⟨by simp, .inl ⟨rfl, rfl⟩⟩
theorem OwnS.mkLe (g cap : Nat) (cur : Array Value) (fr : Nat × Nat) (hb : base ≤ g) (hg : w.heap[g]? = some (.cells cur e fr)) (hf : Free fr cur.size) (hn : n ≤ cap) (hm : cap ≤ maxLen) (hs : cap * sz ≤ cur.size) (ht : cur.toList.take (n * sz) = xs) :
    OwnS w base e sz (.slice (some ⟨g, 0, .none⟩) n cap) n xs :=
  ⟨by rw [← ht]; rw [List.length_take, Array.length_toList]; exact Nat.min_eq_left (Nat.le_trans (Nat.mul_le_mul_right _ hn) hs), .inr ⟨g, cap, cur, fr, rfl, hb, hg, hf, hn, hm, hs, ht⟩⟩
theorem OwnS.mk (g cap : Nat) (cur : Array Value) (fr : Nat × Nat) (hb : base ≤ g) (hg : w.heap[g]? = some (.cells cur e fr)) (hf : Free fr cur.size) (hn : n ≤ cap) (hm : cap ≤ maxLen) (hs : cur.size = cap * sz) (ht : cur.toList.take (n * sz) = xs) :
    OwnS w base e sz (.slice (some ⟨g, 0, .none⟩) n cap) n xs := OwnS.mkLe g cap cur fr hb hg hf hn hm (by omega) ht
theorem OwnS.new (C : Array Value) (cap : Nat) (fr : Nat × Nat) (hb : base ≤ w.heap.size) (hf : Free fr C.size) (hn : n ≤ cap) (hm : cap ≤ maxLen) (hs : C.size = cap * sz) :
    OwnS (w.alloc (.cells C e fr)) base e sz (.slice (some ⟨w.heap.size, 0, .none⟩) n cap) n (C.toList.take (n * sz)) :=
  OwnS.mk _ cap C fr hb (heap_alloc_new w _) hf hn hm hs rfl
theorem OwnS.fresh (hb : base ≤ w.heap.size) : OwnS (w.alloc (.cells #[] e)) base e sz (.slice (some ⟨w.heap.size, 0, .none⟩) 0 0) 0 [] :=
  OwnS.mk _ 0 #[] (0, 0) hb (heap_alloc_new w _) (.inl rfl) (Nat.le_refl _) (Nat.zero_le _) (by simp) (by simp)
theorem grownBy_below {row : Option Nat} (hg : w.grownBy w' row) (hr : ∀ k, row = some k → w.heap.size ≤ k) : Below w.heap.size w w' :=
  ⟨hg.os, hg.tape, hg.output, hg.size, fun k hk => hg.block k hk (fun e => by have := hr k e.symm; omega)⟩
theorem OwnS.kept {row : Option Nat} (h : OwnS w base e sz v n xs) (hg : w.grownBy w' row) (hne : v.ownBlock = .none ∨ v.ownBlock ≠ row) : OwnS w' base e sz v n xs := by
  refine ⟨h.1, ?_⟩
  rcases h.2 with hn | ⟨g, cap, cur, fr, rfl, hb, hgg, rest⟩
  · exact .inl hn
  · refine .inr ⟨g, cap, cur, fr, rfl, hb, ?_, rest⟩
    rw [hg.block g (Array.getElem?_eq_some_iff.1 hgg).1 (by simpa [Value.ownBlock] using hne)]
    exact hgg
theorem OwnS.below (h : OwnS w base e sz v n xs) (hb : Below w.heap.size w w') : OwnS w' base e sz v n xs :=
  h.kept (row := .none) ⟨hb.os, hb.tape, hb.output, hb.size, fun k hk _ => hb.block k hk⟩ (by cases hv : v.ownBlock <;> simp)
theorem OwnS.alloc (h : OwnS w base e sz v n xs) (o : Obj) : OwnS (w.alloc o) base e sz v n xs := h.below ((Below.refl _ _).alloc (Nat.le_refl _) _)
theorem OwnS.drew (h : OwnS w base e sz v n xs) : OwnS w.drew base e sz v n xs := h
theorem OwnS.lt (h : OwnS w base e sz v n xs) : ∀ k, v.ownBlock = some k → base ≤ k ∧ k < w.heap.size := by
  intro k hk
  rcases h.2 with ⟨rfl, _⟩ | ⟨g, cap, cur, fr, rfl, hb, hg, _⟩
  · simp [Value.ownBlock] at hk
  · simp [Value.ownBlock] at hk
    subst hk
    exact ⟨hb, (Array.getElem?_eq_some_iff.1 hg).1⟩
theorem OwnS.shape (h : OwnS w base e sz v n xs) : ∃ p cap, v = .slice p n cap ∧ Rd w p xs ∧ n ≤ maxLen := by
  rcases h.2 with ⟨rfl, rfl⟩ | ⟨g, cap, cur, fr, rfl, hb, hg, hf, hn, hm, hs, ht⟩
  · have : xs = [] := List.eq_nil_of_length_eq_zero (by have := h.1; simpa using this)
    subst this
    exact ⟨_, _, rfl, .inl rfl, Nat.zero_le _⟩
  · exact ⟨_, _, rfl, Rd.of_row hg 0 (by rw [← ht]; simpa using List.take_prefix _ _), by omega⟩
theorem OwnS.head (h : OwnS w base e sz v n xs) (hn : 0 < n) : ∃ g cap, v = .slice (some ⟨g, 0, .none⟩) n cap ∧ base ≤ g ∧ n ≤ cap := by
  rcases h.2 with ⟨rfl, rfl⟩ | ⟨g, cap, cur, fr, rfl, hb, hg, hf, hn, hm, hs, ht⟩
  · exact absurd hn (by omega)
  · exact ⟨g, cap, rfl, hb, hn⟩
theorem OwnS.get {g cap : Nat} (h : OwnS w base e sz (.slice (some ⟨g, 0, .none⟩) n cap) n xs) {j : Nat} (hj : j < xs.length) : w.cell? ⟨g, j, .none⟩ = some xs[j] ∧ w.frozen? ⟨g, j, .none⟩ = false := by
  rcases h.2 with ⟨h0, rfl⟩ | ⟨g', cap', cur, fr, h0, hb, hg, hf, hn, hm, hs, ht⟩
  · simp at h0
  · simp only [Value.slice.injEq, Option.some.injEq, Addr.mk.injEq, and_true, true_and] at h0
    obtain ⟨rfl, rfl⟩ := h0
    have hjc : j < cur.size := by
      have h1 : j < n * sz := by rw [← h.1]; exact hj
      have h2 : n * sz ≤ cap * sz := Nat.mul_le_mul_right _ hn
      omega
    refine ⟨?_, frozen_free hg hf hjc⟩
    rw [cell_of_row _ _ _ _ _ _ hg]
    subst ht
    simp [hjc]
theorem OwnS.set {g cap : Nat} (h : OwnS w base e sz (.slice (some ⟨g, 0, .none⟩) n cap) n xs) {j : Nat} (hj : j < xs.length) (u : Value) :
    OwnS (w.setCell ⟨g, j, .none⟩ u) base e sz (.slice (some ⟨g, 0, .none⟩) n cap) n (xs.set j u) := by
  rcases h.2 with ⟨h0, rfl⟩ | ⟨g', cap', cur, fr, h0, hb, hg, hf, hn, hm, hs, ht⟩
  · simp at h0
  · simp only [Value.slice.injEq, Option.some.injEq, Addr.mk.injEq, and_true, true_and] at h0
    obtain ⟨rfl, rfl⟩ := h0
    rw [setCell_eq_setRow w g j cur e fr u hg]
    refine OwnS.mkLe g cap (cur.setIfInBounds j u) fr hb (setRow_heap w g cur _ e _ hg) (by simpa using hf) hn hm (by simpa using hs) ?_
    rw [Array.toList_setIfInBounds, List.take_set, ht]
theorem OwnS.rebase {base' : Nat} (h : OwnS w base e sz v n xs) (hb : base' ≤ base) : OwnS w base' e sz v n xs := by
  refine ⟨h.1, ?_⟩
  rcases h.2 with hn | ⟨g, cap, cur, fr, rfl, hb', rest⟩
  · exact .inl hn
  · exact .inr ⟨g, cap, cur, fr, rfl, Nat.le_trans hb hb', rest⟩

/-- w' is w after appends that began with slice v and ended with slice v': only v's own row may have been written; v' is in that row or in a new one -/
structure App (w w' : World) (v v' : Value) : Prop where
  by_ : w.grownBy w' v.ownBlock
  new : v'.ownBlock = v.ownBlock ∨ ∀ k, v'.ownBlock = some k → w.heap.size ≤ k
theorem App.refl (w : World) (v : Value) : App w w v v := ⟨⟨rfl, rfl, rfl, Nat.le_refl _, fun _ _ _ => rfl⟩, .inl rfl⟩
theorem App.trans {a b c : World} {u v x : Value} (h : App a b u v) (k : App b c v x) : App a c u x := by
  refine ⟨⟨k.by_.os.trans h.by_.os, k.by_.tape.trans h.by_.tape, k.by_.output.trans h.by_.output, Nat.le_trans h.by_.size k.by_.size, fun i hi hne => ?_⟩, ?_⟩
  · have h1 : i < b.heap.size := Nat.lt_of_lt_of_le hi h.by_.size
    have h2 : some i ≠ v.ownBlock := by
      intro e
      rcases h.new with hn | hn
      · rw [hn] at e; exact hne e
      · have := hn i e.symm; omega
    rw [k.by_.block i h1 h2, h.by_.block i hi hne]
  · rcases k.new with hn | hn
    · rcases h.new with hm | hm
      · exact .inl (hn.trans hm)
      · exact .inr fun i hi => hm i (by rw [← hn]; exact hi)
    · exact .inr fun i hi => Nat.le_trans h.by_.size (hn i hi)
theorem App.below {a b : World} {u v : Value} (h : App a b u v) {B : Nat} {w0 : World} (h0 : Below B w0 a) (hB : B ≤ a.heap.size) (hu : ∀ k, u.ownBlock = some k → B ≤ k) : Below B w0 b := h0.grown h.by_ hB hu
/-- what only grows the world, ahead of appends -/
theorem App.of_below {a b : World} (h : Below a.heap.size a b) (v : Value) : App a b v v := ⟨⟨h.os, h.tape, h.output, h.size, fun k hk _ => h.block k hk⟩, .inl rfl⟩
theorem Rd.app {w w' : World} {v v' : Value} {p : Option Addr} {xs : List Value} (h : Rd w p xs) (ha : App w w' v v') (hne : ∀ a, p = some a → v.ownBlock ≠ some a.block) : Rd w' p xs :=
  h.keep fun b o hp hlt i => World.cell?_of_block (w := w) (ha.by_.block b hlt (fun e => hne _ hp e.symm))

/-- what is appended: the cells news, m elements -/
def Src (P : Program) (w : World) (sz m : Nat) (x : Value) (news : List Value) : Prop :=
  news.length = m * sz ∧ ∀ u : World, (∀ a, u.cell? a = w.cell? a) → (Builtin.lenOf x).run P u = .ok m u ∧ (Builtin.firstCells sz m x).run P u = .ok news.toArray u

theorem Src.of_rd {p : Option Addr} {m c : Nat} {news : List Value} (h : Rd w p news) (hl : news.length = m * sz) : Src P w sz m (.slice p m c) news := by
  refine ⟨hl, fun u hu => ⟨rfl, ?_⟩⟩
  cases p with
  | none =>
    rcases h with rfl | ⟨b, o, hp, _⟩
    · simp [Builtin.firstCells]
    · cases hp
  | some a => exact run_firstCells_some (P := P) u sz m a m c news hl (fun j v hv => by rw [hu]; exact h.get a rfl j v hv)

theorem Src.of_rd8 {p : Option Addr} {c : Nat} {l : List UInt8} (h : Rd8 w p l) : Src P w 1 l.length (.slice p l.length c) (by8 l) :=
  Src.of_rd h (by rw [by8_len, Nat.mul_one])
theorem room1 {k : Nat} (h : k ≤ 140737488355328) : k ≤ maxLen := by unfold maxLen; omega
theorem Src.of_string (s : ByteArray) : Src P w 1 s.size (.string s) (by8 s.data.toList) := by
  refine ⟨by rw [by8_len, Nat.mul_one]; simp, fun u _ => ⟨rfl, ?_⟩⟩
  have e : s.extract 0 s.size = s := by
    apply ByteArray.ext
    have : s.data.size = s.size := rfl
    rw [ByteArray.data_extract, ← this, Array.extract_size]
  simp only [Builtin.firstCells, e]
  show Result.ok _ _ = _
  congr 1
  apply Array.ext'
  simp [by8]

/-- append to a slice of the call's own -/
theorem run_append_S (t tx ty : TypeId) (i : TypeInfo) (z : Value) (d : TypeDesc) (ht : P.underlying t = some (.slice e)) (htx : P.underlying tx = some d) (hd : d = .string ∨ ∃ e', d = .slice e')
    (hi : P.info? e = some i) (hz : i.zero = some z) (bytes : Nat) (hsize : i.size = sz) (hby : i.bytes = bytes) (hzs : z.cells.size = sz) (hsz : 0 < sz)
    (hown : OwnS w base e sz v n xs) {m : Nat} {x : Value} {news : List Value} (hsrc : Src P w sz m x news) (h1 : ∀ u ∈ news, u.oneCell' = true)
    (h63 : n + m ≤ maxLen) (hbytes : (n + m) * bytes ≤ 140737488355328) (hbase : base ≤ w.heap.size) :
    ∃ v' w', (Builtin.append_ #[t, tx] ty #[v, x]).run P w = .ok v' w' ∧ OwnS w' base e sz v' (n + m) (xs ++ news) ∧ App w w' v v' ∧
      (v' = .slice .none 0 0 ↔ v = .slice .none 0 0 ∧ m = 0) := by
  subst hsize
  subst hby
  have hsmall : n + m ≤ 9223372036854775807 := by simp only [maxLen] at h63; omega
  have hlen : (xs ++ news).length = (n + m) * i.size := by rw [List.length_append, hown.1, hsrc.1, Nat.add_mul]
  obtain ⟨hl0, hf0⟩ := hsrc.2 w (fun _ => rfl)
  obtain ⟨hl1, hf1⟩ := hsrc.2 w.drew (fun _ => rfl)
  have grown : ∀ (old : Nat), old < n + m → ∀ (row : Option Nat),
      OwnS (w.drew.alloc (.cells (xs.toArray ++ news.toArray ++ Builtin.zeroCells z.cells (grownCap w (n + m) old e - (n + m))) e)) base e i.size
        (.slice (some ⟨w.heap.size, 0, .none⟩) (n + m) (grownCap w (n + m) old e)) (n + m) (xs ++ news) ∧
      w.grownBy (w.drew.alloc (.cells (xs.toArray ++ news.toArray ++ Builtin.zeroCells z.cells (grownCap w (n + m) old e - (n + m))) e)) row := by
    intro old ho row
    have hge := grownCap_ge w (n + m) old e
    have hcm : grownCap w (n + m) old e ≤ maxLen := grownCap_le_maxLen w (n + m) old e h63
    refine ⟨OwnS.mk _ _ _ (0, 0) hbase (heap_alloc_new w.drew _) (.inl rfl) hge hcm ?_ ?_, ⟨rfl, rfl, rfl, by simp, fun k hk _ => heap_alloc_old w.drew _ hk⟩⟩
    · simp only [Array.size_append, List.size_toArray, size_zeroCells, hzs, hown.1, hsrc.1, ← Nat.add_mul]
      congr 1
      omega
    · simp only [Array.toList_append, List.append_assoc]
      rw [← List.append_assoc, ← hlen]
      exact List.take_left
  have hunder : ∀ u : World, (underlying tx).run P u = .ok d u := run_underlying htx
  have hunt : ∀ u : World, (underlying t).run P u = .ok (.slice e) u := run_underlying ht
  rcases hown.2 with ⟨rfl, rfl⟩ | ⟨g, cap, cur, fr, rfl, hbg, hg, hfr, hnc, hcm, hcs, htake⟩
  · have hx : xs = [] := List.eq_nil_of_length_eq_zero (by simpa using hown.1)
    subst hx
    by_cases hm : m = 0
    · subst hm
      have hn : news = [] := List.eq_nil_of_length_eq_zero (by simpa using hsrc.1)
      subst hn
      refine ⟨.slice .none 0 0, w, ?_, OwnS.none, App.refl _ _, by simp⟩
      rcases hd with rfl | ⟨e', rfl⟩ <;> simp [Builtin.append_, hunder, hunt, sizeOf, typeInfo, hi, hl0, hf0]
    · have hgr := grown 0 (by omega) (Value.ownBlock (.slice .none 0 0))
      refine ⟨_, _, ?_, hgr.1, ⟨hgr.2, .inr fun k hk => by simp [Value.ownBlock] at hk; omega⟩, by simp [hm]⟩
      have h63' : ¬ (9223372036854775807 < (m : Int)) := by omega
      have h48' : ¬ (281474976710656 < Builtin.nextslicecap m 0 * i.bytes) := by
        have hb := hbytes
        rw [nextslicecap_zero (by omega)]; rw [Nat.zero_add] at hb; omega
      have hm' : ¬ m ≤ 0 := by omega
      have hm2 : m ≠ 0 := hm
      rcases hd with rfl | ⟨e', rfl⟩ <;> simp [Builtin.append_, hunder, hunt, sizeOf, typeInfo, hi, hl0, hf0, hf1, hm2, hz, h63', h48', zeroValue, Question.forced, newRow, grownCap, run_firstCells_none]
  · by_cases hroom : n + m ≤ cap
    · have hfit : n * i.size + news.length ≤ cur.size := by rw [hsrc.1, ← Nat.add_mul]; exact Nat.le_trans (Nat.mul_le_mul_right _ hroom) hcs
      have hst := run_storeCells_free (P := P) g (n * i.size) e fr news 0 cur w hg hfr (by simpa using hfit) h1
      simp only [Nat.add_zero] at hst
      refine ⟨.slice (some ⟨g, 0, .none⟩) (n + m) cap, w.setRow g (cur.toList.take (n * i.size) ++ news ++ cur.toList.drop (n * i.size + news.length)).toArray, ?_,
        OwnS.mkLe g cap _ fr hbg (setRow_heap w g cur _ e _ hg) ?_ hroom hcm ?_ ?_, ⟨⟨rfl, rfl, rfl, by simp, fun k hk hne => setRow_other w g k _ (fun h => hne (by simp [Value.ownBlock, h]))⟩, .inl rfl⟩, by simp⟩
      · rcases hd with rfl | ⟨e', rfl⟩ <;> simp [Builtin.append_, hunder, hunt, sizeOf, typeInfo, hi, hl0, hf0, hroom, Addr.add_lit, hst]
      · have : (cur.toList.take (n * i.size) ++ news ++ cur.toList.drop (n * i.size + news.length)).toArray.size = cur.size := by
          simp only [List.size_toArray, List.length_append, List.length_take, List.length_drop, Array.length_toList]; omega
        rw [this]; exact hfr
      · simp only [List.size_toArray, List.length_append, List.length_take, List.length_drop, Array.length_toList]
        omega
      · rw [htake, ← hlen]
        exact List.take_left
    · have hgr := grown cap (by omega) (Value.ownBlock (.slice (some ⟨g, 0, .none⟩) n cap))
      refine ⟨_, _, ?_, hgr.1, ⟨hgr.2, .inr fun k hk => by simp [Value.ownBlock] at hk; omega⟩, by simp⟩
      have hrd : Rd w (some ⟨g, 0, .none⟩) xs := Rd.of_row hg 0 (by rw [← htake]; simpa using List.take_prefix _ _)
      have hfo := run_firstCells_some (P := P) w.drew i.size n ⟨g, 0, .none⟩ n cap xs hown.1 (fun j u hu => hrd.get _ rfl j u hu)
      have h63' : ¬ (9223372036854775807 < ((n : Int) + (m : Int))) := by omega
      have h48' : ¬ (281474976710656 < Builtin.nextslicecap (n + m) cap * i.bytes) := by
        have := growslice_fits (need := n + m) (old := cap) (bytes := i.bytes) (by omega) hbytes
        omega
      have hfo' := run_firstCells_some (P := P) w.drew i.size n ⟨g, 0, .none⟩ n cap xs hown.1 (fun j u hu => hrd.get _ rfl j u hu)
      rcases hd with rfl | ⟨e', rfl⟩ <;> simp [Builtin.append_, hunder, hunt, sizeOf, typeInfo, hi, hl0, hf0, hf1, hroom, hz, h63', h48', hfo', zeroValue, Question.forced, newRow, grownCap] <;> (congr 2; apply Array.ext'; simp [List.append_assoc])

end

/-! ### Strings, as lists of bytes -/
/-- the string of these bytes -/
def str (l : List UInt8) : ByteArray := ⟨l.toArray⟩
theorem str_of (s : ByteArray) : ∃ l, s = str l := ⟨s.data.toList, by apply ByteArray.ext; simp [str]⟩
@[go_sem, simp] theorem str_size (l : List UInt8) : (str l).size = l.length := by simp [str, ByteArray.size]
theorem str_data (l : List UInt8) : (str l).data.toList = l := by simp [str]
theorem str_inj {l m : List UInt8} (h : str l = str m) : l = m := by
  have := congrArg (fun s : ByteArray => s.data.toList) h
  simpa [str] using this
@[go_sem] theorem str_append (l m : List UInt8) : str l ++ str m = str (l ++ m) := by
  apply ByteArray.ext; simp [str]
@[go_sem, simp] theorem str_toList (l : List UInt8) : (str l).toList = l := by
  rw [Lib.toList_data, str_data]
@[go_sem] theorem lit_toList (a : Array UInt8) : (ByteArray.mk a).toList = a.toList := ByteArray.toList_eq _
theorem str_lit (l : List UInt8) : str l = ⟨l.toArray⟩ := rfl
/-- the strings at p on are L -/
abbrev RdS (w : World) (p : Option Addr) (L : List (List UInt8)) : Prop := Rd w p (L.map fun l => Value.string (str l))
theorem RdS.at {w : World} {p : Option Addr} {L : List (List UInt8)} (h : RdS w p L) {k : Nat} (hk : k < L.length) :
    ∃ b o, p = some ⟨b, o, none⟩ ∧ ∀ i (h : i < L.length), w.cell? ⟨b, o + i, none⟩ = some (.string (str L[i])) := by
  obtain ⟨b, o, hp, hc⟩ := Rd.at h (k := k) (by simpa using hk)
  exact ⟨b, o, hp, fun i hi => by rw [hc i (by simpa using hi)]; simp⟩
@[go_sem] theorem str_extract (l : List UInt8) (a b : Nat) : (str l).extract a b = str ((l.take b).drop a) := by
  apply ByteArray.ext
  apply Array.toList_inj.1
  rw [ByteArray.data_extract, Array.toList_extract, List.extract_eq_drop_take']
  rfl

/-! ### A type of slices, and the laws on one operation, its row written out (they are met by their looks alone) -/
structure SlT (P : Program) (t e : TypeId) (sz bytes : Nat) : Prop where
  und : P.underlying t = some (.slice e)
  inf : ∃ i z, P.info? e = some i ∧ i.zero = some z ∧ i.size = sz ∧ i.bytes = bytes ∧ z.cells.size = sz
  pos : 0 < sz
theorem SlT.of {P : Program} {t e : TypeId} {sz bytes : Nat} {z : Value} (h : (P.info? e).map (fun i => (i.zero, i.size, i.bytes)) = some (some z, sz, bytes)) (hz : z.cells.size = sz) (hp : 0 < sz) (hu : P.underlying t = some (.slice e)) : SlT P t e sz bytes := by
  obtain ⟨i, hi, h0, h1, h2⟩ := info_parts h
  exact ⟨hu, ⟨i, z, hi, h0, h1, h2, hz⟩, hp⟩

/-- where a slice's cells begin behind 's[l:]' -/
def shift (p : Option Addr) (l cap sz : Nat) : Option Addr := if cap = l then p else p.map (·.add (l * sz))
theorem shift_zero (p : Option Addr) (cap sz : Nat) : shift p 0 cap sz = p := by
  unfold shift
  split
  · rfl
  · cases p <;> simp [Addr.add]
theorem shift_some (b o l cap sz : Nat) (h : cap ≠ l) : shift (some ⟨b, o, none⟩) l cap sz = some ⟨b, o + l * sz, none⟩ := by
  rw [shift, if_neg h, Option.map_some, Addr.add_mid]
theorem Rd.shift {w : World} {p : Option Addr} {xs : List Value} (h : Rd w p xs) {l n cap sz : Nat} (hx : xs.length = n * sz) (hn : n ≤ cap) : Rd w (shift p l cap sz) (xs.drop (l * sz)) := by
  by_cases hc : cap = l
  · subst hc
    have : xs.drop (cap * sz) = [] := List.drop_eq_nil_iff.2 (by rw [hx]; exact Nat.mul_le_mul_right _ hn)
    rw [this]; exact .nil _ _
  · rcases h with rfl | ⟨b, o, rfl, hc'⟩
    · simp; exact .nil _ _
    · rw [shift_some _ _ _ _ _ hc]
      exact Rd.drop (.inr ⟨b, o, rfl, hc'⟩) _
theorem SlT.elem {P : Program} {t e : TypeId} {sz bytes : Nat} (T : SlT P t e sz bytes) : P.elem t = e := by simp [Program.elem, T.und]
theorem SlT.size {P : Program} {t e : TypeId} {sz bytes : Nat} (T : SlT P t e sz bytes) (w : World) : (sizeOf e).run P w = .ok sz w := by
  obtain ⟨i, z, hi, _, h1, _, _⟩ := T.inf
  simp [sizeOf, typeInfo, hi, h1]
theorem run_slice_to {P : Program} {t e : TypeId} {sz bytes : Nat} (T : SlT P t e sz bytes) (w : World) (p : Option Addr) (n cap h : Nat) (hh : h ≤ cap) :
    (Instr.slice t (.slice p n cap) none (some (.int .i64 (h : Int))) none).run P w = .ok (.slice p h cap) w := by
  rw [run_slice_h w t p n cap (by rw [T.elem]; exact T.und) .i64 (h : Int) (by omega) (by omega), T.elem, T.size w]
  have := shift_zero p cap sz
  unfold shift at this
  simp only [Result.andThen_ok, sliced, Int.toNat_natCast, Nat.sub_zero, this]
theorem run_slice_from {P : Program} {t e : TypeId} {sz bytes : Nat} (T : SlT P t e sz bytes) (w : World) (p : Option Addr) (n cap l : Nat) (hl : l ≤ n) :
    (Instr.slice t (.slice p n cap) (some (.int .i64 (l : Int))) none none).run P w = .ok (.slice (shift p l cap sz) (n - l) (cap - l)) w := by
  rw [run_slice_l w t p n cap (by rw [T.elem]; exact T.und) .i64 (l : Int) (by omega) (by omega), T.elem, T.size w]
  simp only [Result.andThen_ok, sliced, Int.toNat_natCast, shift]
theorem run_slice_mid {P : Program} {t e : TypeId} {sz bytes : Nat} (T : SlT P t e sz bytes) (w : World) (p : Option Addr) (n cap l h : Nat) (hl : l ≤ h) (hh : h ≤ cap) :
    (Instr.slice t (.slice p n cap) (some (.int .i64 (l : Int))) (some (.int .i64 (h : Int))) none).run P w = .ok (.slice (shift p l cap sz) (h - l) (cap - l)) w := by
  rw [run_slice_lh w t p n cap (by rw [T.elem]; exact T.und) .i64 .i64 (l : Int) (h : Int) (by omega) (by omega) (by omega), T.elem, T.size w]
  simp only [Result.andThen_ok, sliced, Int.toNat_natCast, shift]

theorem wpList_do {P : Program} {ops : Array Oper} {rest : List Oper} {o : Oper} {a : Act} {w : World} {Q : Exit → Act → World → Prop} (hw : Region.wanted o (yielded ops a.tmps) = true)
    (h : o.wp P a w (wpList P ops Q rest) Q) : wpList P ops Q (o :: rest) a w := by
  unfold wpList
  rw [if_pos hw]
  exact .inl h

/-- append, at the operation -/
theorem wp_append_S {P : Program} {o : Oper} {a : Act} {w : World} {K : Act → World → Prop} {Q : Exit → Act → World → Prop} (s x : Operand) (t tx : TypeId)
    (ho : o.op = .call { callee := .builtin .append, args := #[s, x], argTypes := #[t, tx] })
    {e : TypeId} {sz bytes : Nat} (T : SlT P t e sz bytes) {d : TypeDesc} (htx : P.underlying tx = some d) (hd : d = .string ∨ ∃ e', d = .slice e')
    {base : Nat} {v xv : Value} {n : Nat} {xs : List Value} (hown : OwnS w base e sz v n xs) (hs : a.eval s = v) (hx : a.eval x = xv)
    {m : Nat} {news : List Value} (hsrc : Src P w sz m xv news) (h1 : ∀ u ∈ news, u.oneCell' = true)
    (h63 : n + m ≤ maxLen) (hbytes : (n + m) * bytes ≤ 140737488355328) (hbase : base ≤ w.heap.size)
    (h : ∀ v' w', OwnS w' base e sz v' (n + m) (xs ++ news) → App w w' v v' → (v' = .slice none 0 0 ↔ v = .slice none 0 0 ∧ m = 0) → K (a.put o.dst v') w') : o.wp P a w K Q := by
  obtain ⟨i, z, hi, hz, hsize, hby, hzs⟩ := T.inf
  obtain ⟨v', w', hr, h2, h3, h4⟩ := run_append_S (P := P) t tx o.type i z d T.und htx hd hi hz bytes hsize hby hzs T.pos hown hsrc h1 h63 hbytes hbase
  unfold Oper.wp execOp
  simp only [ho, resolve, invoke, builtin, Sem.run_bind, Sem.run_pure, Result.andThen_ok, List.map_toArray, List.map_cons, List.map_nil, hs, hx, hr]
  exact h v' w' h2 h3 h4

section
variable {P : Program} {ops : Array Oper} {rest : List Oper} {d : Option Tmp} {t0 : TypeId} {pos : String} {af : Array Edge} {gd : Option (Nat × Bool)} {tmps : Array Value} {dfs : List Deferred} {w : World} {Q : Exit → Act → World → Prop}

theorem L_append {s x : Operand} {t tx e : TypeId} {sz bytes : Nat} (T : SlT P t e sz bytes) {dd : TypeDesc} (htx : P.underlying tx = some dd) (hd : dd = .string ∨ ∃ e', dd = .slice e')
    {base : Nat} {v xv : Value} {n : Nat} {xs : List Value} (hown : OwnS w base e sz v n xs)
    (hw : Region.wanted { dst := d, op := .call { callee := .builtin .append, args := #[s, x], argTypes := #[t, tx] }, type := t0, pos := pos, after := af, guard := gd } (yielded ops tmps) = true)
    (hs : (⟨tmps, dfs⟩ : Act).eval s = v) (hx : (⟨tmps, dfs⟩ : Act).eval x = xv)
    {m : Nat} {news : List Value} (hsrc : Src P w sz m xv news) (h1 : ∀ u ∈ news, u.oneCell' = true)
    (hroom : n + m ≤ maxLen ∧ (n + m) * bytes ≤ 140737488355328 ∧ base ≤ w.heap.size)
    (h : ∀ v' w', OwnS w' base e sz v' (n + m) (xs ++ news) → App w w' v v' → (∀ k, v.ownBlock = some k → base ≤ k) → (v' = .slice none 0 0 ↔ v = .slice none 0 0 ∧ m = 0) → wpList P ops Q rest ((⟨tmps, dfs⟩ : Act).put d v') w') :
    wpList P ops Q ({ dst := d, op := .call { callee := .builtin .append, args := #[s, x], argTypes := #[t, tx] }, type := t0, pos := pos, after := af, guard := gd } :: rest) ⟨tmps, dfs⟩ w :=
  wpList_do hw (wp_append_S s x t tx rfl T htx hd hown hs hx hsrc h1 hroom.1 hroom.2.1 hroom.2.2 fun v' w' h2 h3 h4 => h v' w' h2 h3 (fun k hk => (hown.lt k hk).1) h4)

/-- what is appended is a slice that can be read -/
theorem L_appR {s x : Operand} {t tx e : TypeId} {sz bytes : Nat} (T : SlT P t e sz bytes) {e' : TypeId} (htx : P.underlying tx = some (.slice e'))
    {base : Nat} {v : Value} {n : Nat} {xs : List Value} (hown : OwnS w base e sz v n xs) {p : Option Addr} {news : List Value} (hr : Rd w p news) (h1 : ∀ u ∈ news, u.oneCell' = true) {m : Nat} (hm : news.length = m * sz)
    (hw : Region.wanted { dst := d, op := .call { callee := .builtin .append, args := #[s, x], argTypes := #[t, tx] }, type := t0, pos := pos, after := af, guard := gd } (yielded ops tmps) = true)
    (hs : (⟨tmps, dfs⟩ : Act).eval s = v) (hx : ∃ c, (⟨tmps, dfs⟩ : Act).eval x = .slice p m c)
    (hroom : n + m ≤ maxLen ∧ (n + m) * bytes ≤ 140737488355328 ∧ base ≤ w.heap.size)
    (h : ∀ v' w', OwnS w' base e sz v' (n + m) (xs ++ news) → App w w' v v' → (∀ k, v.ownBlock = some k → base ≤ k) → (v' = .slice none 0 0 ↔ v = .slice none 0 0 ∧ m = 0) → wpList P ops Q rest ((⟨tmps, dfs⟩ : Act).put d v') w') :
    wpList P ops Q ({ dst := d, op := .call { callee := .builtin .append, args := #[s, x], argTypes := #[t, tx] }, type := t0, pos := pos, after := af, guard := gd } :: rest) ⟨tmps, dfs⟩ w := by
  obtain ⟨c, hx⟩ := hx
  exact L_append T htx (.inr ⟨_, rfl⟩) hown hw hs hx (Src.of_rd hr hm) h1 hroom h
/-- .. a string -/
theorem L_appStr {s x : Operand} {t tx e : TypeId} {bytes : Nat} (T : SlT P t e 1 bytes) (htx : P.underlying tx = some .string)
    {base : Nat} {v : Value} {n : Nat} {xs : List Value} (hown : OwnS w base e 1 v n xs) (l : List UInt8)
    (hw : Region.wanted { dst := d, op := .call { callee := .builtin .append, args := #[s, x], argTypes := #[t, tx] }, type := t0, pos := pos, after := af, guard := gd } (yielded ops tmps) = true)
    (hs : (⟨tmps, dfs⟩ : Act).eval s = v) (hx : (⟨tmps, dfs⟩ : Act).eval x = .string (str l))
    (hroom : n + l.length ≤ maxLen ∧ (n + l.length) * bytes ≤ 140737488355328 ∧ base ≤ w.heap.size)
    (h : ∀ v' w', OwnS w' base e 1 v' (n + l.length) (xs ++ by8 l) → App w w' v v' → (∀ k, v.ownBlock = some k → base ≤ k) → (v' = .slice none 0 0 ↔ v = .slice none 0 0 ∧ l.length = 0) → wpList P ops Q rest ((⟨tmps, dfs⟩ : Act).put d v') w') :
    wpList P ops Q ({ dst := d, op := .call { callee := .builtin .append, args := #[s, x], argTypes := #[t, tx] }, type := t0, pos := pos, after := af, guard := gd } :: rest) ⟨tmps, dfs⟩ w := by
  have hsrc := Src.of_string (P := P) (w := w) (str l)
  rw [str_size, str_data] at hsrc
  exact L_append T htx (.inl rfl) hown hw hs hx hsrc (by8_one l) hroom h

/-- '[]byte(s)': the bytes are the call's own -/
theorem run_s2b {src dst e : TypeId} (hs : P.underlying src = some .string) (T : SlT P dst e 1 1) (he : P.underlying e = some (.int .u8)) (l : List UInt8) (hl : l.length ≤ maxLen) {base : Nat} (hb : base ≤ w.heap.size) :
    ∃ cap w', (convert src dst (.string (str l))).run P w = .ok (.slice (some ⟨w.heap.size, 0, none⟩) l.length cap) w' ∧ OwnS w' base e 1 (.slice (some ⟨w.heap.size, 0, none⟩) l.length cap) l.length (by8 l) ∧ w.grownBy w' none := by
  have h := run_bytes_of_string (P := P) w src dst e (str l) hs T.und he
  rw [str_size] at h
  have hsz : (bytesRow (str l) (grownCap w l.length 0 e)).size = grownCap w l.length 0 e := by
    have h1 := grownCap_ge w l.length 0 e
    have h2 : (str l).data.size = l.length := by simp [str]
    simp [bytesRow, h2]; omega
  refine ⟨_, _, h, ?_, ⟨rfl, rfl, rfl, by simp, fun k hk _ => heap_alloc_old w.drew _ hk⟩⟩
  refine OwnS.mk _ _ _ _ hb (heap_alloc_new w.drew _) (.inr rfl) (grownCap_ge w l.length 0 e) (grownCap_le_maxLen w l.length 0 e hl) (by rw [hsz, Nat.mul_one]) ?_
  have h3 : (str l).data.map (fun b => Value.int .u8 (b.toNat : Int)) = (by8 l).toArray := by simp [str, by8]
  simp only [bytesRow, h3, Nat.mul_one, Array.toList_append]
  rw [List.take_append_of_le_length (by simp [by8_len])]
  exact List.take_of_length_le (by simp [by8_len])

theorem L_s2b {src dst e : TypeId} {x : Operand} (hsrc : P.underlying src = some .string) (T : SlT P dst e 1 1) (he : P.underlying e = some (.int .u8)) (base : Nat) {l : List UInt8}
    (hw : Region.wanted { dst := d, op := .convert src dst x, type := t0, pos := pos, after := af, guard := gd } (yielded ops tmps) = true)
    (hx : (⟨tmps, dfs⟩ : Act).eval x = .string (str l)) (hroom : l.length ≤ maxLen ∧ base ≤ w.heap.size)
    (h : ∀ cap w', OwnS w' base e 1 (.slice (some ⟨w.heap.size, 0, none⟩) l.length cap) l.length (by8 l) → Below w.heap.size w w' → wpList P ops Q rest ((⟨tmps, dfs⟩ : Act).put d (.slice (some ⟨w.heap.size, 0, none⟩) l.length cap)) w') :
    wpList P ops Q ({ dst := d, op := .convert src dst x, type := t0, pos := pos, after := af, guard := gd } :: rest) ⟨tmps, dfs⟩ w := by
  refine wpList_do hw ?_
  obtain ⟨cap, w', hr, h2, h3⟩ := run_s2b (P := P) hsrc T he l hroom.1 hroom.2
  unfold Oper.wp execOp
  simp only [Sem.run_bind, Sem.run_pure, hx, hr, Result.andThen_ok]
  exact h cap w' h2 ⟨h3.os, h3.tape, h3.output, h3.size, fun k hk => h3.block k hk (by simp)⟩

/-- 'string(b)' -/
theorem run_b2s {src dst e : TypeId} (T : SlT P src e 1 1) (he : P.underlying e = some (.int .u8)) (hd : P.underlying dst = some .string) {p : Option Addr} {l : List UInt8} {cap : Nat} (h : Rd8 w p l) :
    (convert src dst (.slice p l.length cap)).run P w = .ok (.string (str l)) w := by
  cases p with
  | none =>
    rcases h with h | ⟨b, o, hp, _⟩
    · have : l = [] := by
        have := congrArg List.length h
        rw [by8_len] at this
        exact List.eq_nil_of_length_eq_zero this
      subst this
      exact run_convert_bytes_nil w src e T.und he 0 cap dst hd
    · cases hp
  | some a =>
    refine run_convert_bytes_back w src dst e a cap l T.und he hd (fun j hj => ?_)
    exact Rd.get h a rfl j _ (by8_get l j hj)

theorem L_b2s {src dst e : TypeId} {x : Operand} (T : SlT P src e 1 1) (he : P.underlying e = some (.int .u8)) (hdst : P.underlying dst = some .string) {p : Option Addr} {l : List UInt8} (hr : Rd8 w p l)
    (hw : Region.wanted { dst := d, op := .convert src dst x, type := t0, pos := pos, after := af, guard := gd } (yielded ops tmps) = true)
    (hx : ∃ cap n, (⟨tmps, dfs⟩ : Act).eval x = .slice p n cap ∧ n = l.length)
    (h : wpList P ops Q rest ((⟨tmps, dfs⟩ : Act).put d (.string (str l))) w) :
    wpList P ops Q ({ dst := d, op := .convert src dst x, type := t0, pos := pos, after := af, guard := gd } :: rest) ⟨tmps, dfs⟩ w := by
  obtain ⟨cap, n, hx, rfl⟩ := hx
  refine wpList_do hw ?_
  unfold Oper.wp execOp
  simp only [Sem.run_bind, Sem.run_pure, hx, run_b2s (P := P) T he hdst hr, Result.andThen_ok]
  exact h
end
theorem OwnS.txt {w : World} {base n c : Nat} {p : Option Addr} {l : List UInt8} {e : TypeId} (h : OwnS w base e 1 (.slice p n c) n (by8 l)) : n = l.length ∧ Rd8 w p l ∧ n ≤ c ∧ c ≤ maxLen ∧ ∀ a, p = some a → base ≤ a.block ∧ a.block < w.heap.size := by
  have hl := h.1
  rw [by8_len, Nat.mul_one] at hl
  refine ⟨hl.symm, ?_, ?_, ?_, fun a hp => h.lt a.block (by subst hp; rfl)⟩
  · obtain ⟨q, c', hq, hr, _⟩ := h.shape
    cases hq; exact hr
  · rcases h.2 with ⟨h0, rfl⟩ | ⟨g, cap, cur, fr, h0, _, _, _, h1, h2, _⟩
    · omega
    · cases h0; exact h1
  · rcases h.2 with ⟨h0, rfl⟩ | ⟨g, cap, cur, fr, h0, _, _, _, h1, h2, _⟩
    · cases h0; exact Nat.zero_le _
    · cases h0; exact h2
end Go.Proofs.Ytecpkoigjnpkfaa
