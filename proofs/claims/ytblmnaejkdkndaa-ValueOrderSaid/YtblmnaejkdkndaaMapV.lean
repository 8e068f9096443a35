/- Maps keyed by strings, as sorted lists of keys with values of any kind; worlds that have changed in some blocks alone. -/
import Derived.Test.YtblmnaejkdkndaaSl
import Derived.Maps.OwnSet
import Derived.Maps.RangeWalk
import Derived.Sort.KeysCollected
import Derived.StringKeys
set_option linter.unusedSimpArgs false
set_option linter.unusedVariables false
namespace Go.Proofs.Ytblmnaejkdkndaa
open Go.RowKit Go.Maps

/-! ### Worlds that have changed in some blocks alone -/
/-- w' is w but for the blocks in S, and for new ones -/
structure Chg (S : Nat → Prop) (w w' : World) : Prop where
  os : w'.os = w.os
  tape : w'.tape = w.tape
  output : w'.output = w.output
  size : w.heap.size ≤ w'.heap.size
  block : ∀ k, k < w.heap.size → ¬ S k → w'.heap[k]? = w.heap[k]?
section
variable {S T : Nat → Prop} {a b c w w' : World}
theorem Chg.refl (S : Nat → Prop) (w : World) : Chg S w w := ⟨rfl, rfl, rfl, Nat.le_refl _, fun _ _ _ => rfl⟩
theorem Chg.trans (h : Chg S a b) (k : Chg T b c) (hT : ∀ k, k < a.heap.size → T k → S k) : Chg S a c :=
  ⟨k.os.trans h.os, k.tape.trans h.tape, k.output.trans h.output, Nat.le_trans h.size k.size, fun i hi hn => (k.block i (Nat.lt_of_lt_of_le hi h.size) (fun ht => hn (hT i hi ht))).trans (h.block i hi hn)⟩
theorem Chg.mono (h : Chg S a b) (hS : ∀ k, k < a.heap.size → S k → T k) : Chg T a b :=
  ⟨h.os, h.tape, h.output, h.size, fun k hk hn => h.block k hk (fun hs => hn (hS k hk hs))⟩
theorem Chg.of_below (h : Below w.heap.size w w') : Chg S w w' := ⟨h.os, h.tape, h.output, h.size, fun k hk _ => h.block k hk⟩
theorem Chg.of_grown {row : Option Nat} (h : w.grownBy w' row) (hS : ∀ k, row = some k → S k) : Chg S w w' :=
  ⟨h.os, h.tape, h.output, h.size, fun k hk hn => h.block k hk (fun e => hn (hS k e.symm))⟩
theorem Chg.below {B : Nat} (h : Chg S w w') (hB : B ≤ w.heap.size) (hS : ∀ k, S k → B ≤ k) : Below B w w' :=
  ⟨h.os, h.tape, h.output, h.size, fun k hk => h.block k (by omega) (fun hs => by have := hS k hs; omega)⟩
theorem Chg.setCell (w : World) (p : Addr) (u : Value) (hS : S p.block) : Chg S w (w.setCell p u) :=
  ⟨rfl, rfl, rfl, by simp [World.setCell], fun k hk hn => Below.heap_setCell _ _ _ _ (fun e => hn (e ▸ hS))⟩
theorem Chg.alloc (w : World) (o : Obj) : Chg S w (w.alloc o) := Chg.of_below ((Below.refl _ _).alloc (Nat.le_refl _) o)
theorem Chg.cell (h : Chg S w w') {p : Addr} (hp : p.block < w.heap.size) (hn : ¬ S p.block) : w'.cell? p = w.cell? p := World.cell?_of_block (w := w) (h.block p.block hp hn)
theorem Chg.frozen (h : Chg S w w') {p : Addr} (hp : p.block < w.heap.size) (hn : ¬ S p.block) : w'.frozen? p = w.frozen? p := World.frozen?_of_block (w := w) (h.block p.block hp hn)
theorem Chg.rd (h : Chg S w w') {p : Option Addr} {xs : List Value} (hr : Rd w p xs) (hn : ∀ a, p = some a → ¬ S a.block) : Rd w' p xs :=
  hr.keep fun b o hp hlt i => h.cell (p := ⟨b, i, none⟩) hlt (hn ⟨b, o, none⟩ hp)
/-- a block that stays -/
theorem Chg.row (h : Chg S w w') {k : Nat} {o : Obj} (hk : w.heap[k]? = some o) (hn : ¬ S k) : w'.heap[k]? = some o := by
  rw [h.block k (Array.getElem?_eq_some_iff.1 hk).1 hn]; exact hk
theorem below_row {w w' : World} (h : Below w.heap.size w w') {k : Nat} {o : Obj} (hk : w.heap[k]? = some o) : w'.heap[k]? = some o := by
  rw [h.block k (Array.getElem?_eq_some_iff.1 hk).1]; exact hk
theorem row_lt {w : World} {k : Nat} {o : Obj} (hk : w.heap[k]? = some o) : k < w.heap.size := (Array.getElem?_eq_some_iff.1 hk).1
end

/-! ### Sorted lists of keys with values -/
section
variable {α β : Type}
/-- an entry, put in its place ahead of those with greater keys -/
def kIns (x : List UInt8 × α) : List (List UInt8 × α) → List (List UInt8 × α)
  | [] => [x]
  | y :: r => if x.1 < y.1 then x :: y :: r else y :: kIns x r
/-- without a key -/
def kDel (k : List UInt8) (M : List (List UInt8 × α)) : List (List UInt8 × α) := M.filter fun p => !(p.1 == k)
/-- with a key's value -/
def kPut (k : List UInt8) (v : α) (M : List (List UInt8 × α)) : List (List UInt8 × α) := kIns (k, v) (kDel k M)
/-- a key's value -/
def kGet (k : List UInt8) (M : List (List UInt8 × α)) : Option α := (M.find? fun p => p.1 == k).map (·.2)
/-- the keys rise -/
def Srt (M : List (List UInt8 × α)) : Prop := M.Pairwise fun p q => p.1 < q.1
def kMap (f : α → β) (M : List (List UInt8 × α)) : List (List UInt8 × β) := M.map fun p => (p.1, f p.2)

theorem kIns_map (f : α → β) (x : List UInt8 × α) : ∀ M : List (List UInt8 × α), kMap f (kIns x M) = kIns (x.1, f x.2) (kMap f M)
  | [] => rfl
  | y :: r => by
    have ih := kIns_map f x r
    unfold kMap at ih
    simp only [kIns, kMap, List.map_cons]
    split
    · simp
    · simp [ih]
theorem kDel_map (f : α → β) (k : List UInt8) (M : List (List UInt8 × α)) : kMap f (kDel k M) = kDel k (kMap f M) := by
  simp [kMap, kDel, List.filter_map]; rfl
theorem kPut_map (f : α → β) (k : List UInt8) (v : α) (M : List (List UInt8 × α)) : kMap f (kPut k v M) = kPut k (f v) (kMap f M) := by
  simp only [kPut, kIns_map, kDel_map]
theorem kGet_map (f : α → β) (k : List UInt8) (M : List (List UInt8 × α)) : kGet k (kMap f M) = (kGet k M).map f := by
  simp only [kGet, kMap, List.find?_map, Option.map_map]; rfl
theorem kMap_keys (f : α → β) (M : List (List UInt8 × α)) : (kMap f M).map (·.1) = M.map (·.1) := by simp [kMap]
theorem kMap_kMap {γ : Type} (f : α → β) (g : β → γ) (M : List (List UInt8 × α)) : kMap g (kMap f M) = kMap (fun x => g (f x)) M := by simp [kMap]
theorem kMap_len (f : α → β) (M : List (List UInt8 × α)) : (kMap f M).length = M.length := by simp [kMap]
theorem Srt.map {f : α → β} {M : List (List UInt8 × α)} : Srt (kMap f M) ↔ Srt M := by simp [Srt, kMap, List.pairwise_map]
theorem mem_kIns {x p : List UInt8 × α} : ∀ {M : List (List UInt8 × α)}, p ∈ kIns x M ↔ p = x ∨ p ∈ M
  | [] => by simp [kIns]
  | y :: r => by
    simp only [kIns]
    split
    · simp
    · simp only [List.mem_cons, mem_kIns (M := r)]
      constructor
      · rintro (h | h | h) <;> simp [h]
      · rintro (h | h | h) <;> simp [h]
theorem mem_kDel {k : List UInt8} {p : List UInt8 × α} {M : List (List UInt8 × α)} : p ∈ kDel k M ↔ p ∈ M ∧ p.1 ≠ k := by simp [kDel]
theorem len_kIns (x : List UInt8 × α) : ∀ M : List (List UInt8 × α), (kIns x M).length = M.length + 1
  | [] => rfl
  | y :: r => by
    simp only [kIns]
    split
    · simp
    · simp [len_kIns x r]
theorem len_kDel (k : List UInt8) (M : List (List UInt8 × α)) : (kDel k M).length ≤ M.length := List.length_filter_le _ _
theorem len_kPut (k : List UInt8) (v : α) (M : List (List UInt8 × α)) : (kPut k v M).length ≤ M.length + 1 := by
  unfold kPut; rw [len_kIns]; have := len_kDel k M; omega
theorem Srt.del {k : List UInt8} {M : List (List UInt8 × α)} (h : Srt M) : Srt (kDel k M) := List.Pairwise.filter _ h
theorem lt_of_not_lt_ne {a b : List UInt8} (h : ¬ a < b) (hne : a ≠ b) : b < a := by
  by_cases h2 : b < a
  · exact h2
  · exact absurd (List.le_antisymm (List.not_lt.1 h2) (List.not_lt.1 h)) hne
theorem Srt.ins {x : List UInt8 × α} : ∀ {M : List (List UInt8 × α)}, Srt M → (∀ p ∈ M, p.1 ≠ x.1) → Srt (kIns x M)
  | [], _, _ => List.pairwise_singleton _ _
  | y :: r, h, hne => by
    obtain ⟨h1, h2⟩ := List.pairwise_cons.1 h
    simp only [kIns]
    split
    · rename_i hlt
      refine List.pairwise_cons.2 ⟨fun p hp => ?_, h⟩
      rcases List.mem_cons.1 hp with rfl | hp
      · exact hlt
      · exact List.lt_trans hlt (h1 p hp)
    · rename_i hlt
      refine List.pairwise_cons.2 ⟨fun p hp => ?_, Srt.ins h2 fun p hp => hne p (List.mem_cons_of_mem _ hp)⟩
      rcases mem_kIns.1 hp with rfl | hp
      · exact lt_of_not_lt_ne hlt (hne y (List.mem_cons_self)).symm
      · exact h1 p hp
theorem Srt.put {k : List UInt8} {v : α} {M : List (List UInt8 × α)} (h : Srt M) : Srt (kPut k v M) := h.del.ins fun p hp => (mem_kDel.1 hp).2
theorem kGet_some {k : List UInt8} {v : α} {M : List (List UInt8 × α)} (h : kGet k M = some v) : (k, v) ∈ M := by
  simp only [kGet, Option.map_eq_some_iff] at h
  obtain ⟨p, hp, rfl⟩ := h
  have h1 := List.mem_of_find?_eq_some hp
  have h2 := List.find?_some hp
  have : p.1 = k := by simpa using h2
  rw [← this]; exact h1
theorem kGet_none {k : List UInt8} {M : List (List UInt8 × α)} (h : kGet k M = none) : ∀ p ∈ M, p.1 ≠ k := by
  simp only [kGet, Option.map_eq_none_iff, List.find?_eq_none] at h
  intro p hp e
  exact absurd e (by simpa using h p hp)
theorem Srt.inj {M : List (List UInt8 × α)} (h : Srt M) {p q : List UInt8 × α} (hp : p ∈ M) (hq : q ∈ M) (e : p.1 = q.1) : p = q := by
  induction M with
  | nil => simp at hp
  | cons y r ih =>
    obtain ⟨h1, h2⟩ := List.pairwise_cons.1 h
    rcases List.mem_cons.1 hp with ep | hp' <;> rcases List.mem_cons.1 hq with eq | hq'
    · rw [ep, eq]
    · have := h1 q hq'; rw [← ep, e] at this; exact absurd this (List.lt_irrefl _)
    · have := h1 p hp'; rw [← eq, e] at this; exact absurd this (List.lt_irrefl _)
    · exact ih h2 hp' hq'
theorem kGet_of_mem {M : List (List UInt8 × α)} (h : Srt M) {k : List UInt8} {v : α} (hp : (k, v) ∈ M) : kGet k M = some v := by
  cases hg : kGet k M with
  | none => exact absurd rfl (kGet_none hg _ hp)
  | some u =>
    have := h.inj (kGet_some hg) hp rfl
    simp only [Prod.mk.injEq, true_and] at this
    rw [this]
theorem kDel_none {k : List UInt8} {M : List (List UInt8 × α)} (h : kGet k M = none) : kDel k M = M :=
  List.filter_eq_self.2 fun p hp => by simpa using kGet_none h p hp
/-- a key that is there: its value is another one, in its place -/
def kSet (k : List UInt8) (v : α) (M : List (List UInt8 × α)) : List (List UInt8 × α) := M.map fun p => if p.1 = k then (k, v) else p
theorem kPut_set {k : List UInt8} {v u : α} : ∀ {M : List (List UInt8 × α)}, Srt M → kGet k M = some u → kPut k v M = kSet k v M
  | [], _, h => by simp [kGet] at h
  | y :: r, hs, h => by
    obtain ⟨h1, h2⟩ := List.pairwise_cons.1 hs
    by_cases hy : y.1 = k
    · have e1 : kDel k r = r := List.filter_eq_self.2 fun p hp => by
        have := h1 p hp
        rw [hy] at this
        simp
        intro e; rw [e] at this; exact List.lt_irrefl _ this
      have e2 : r.map (fun p => if p.1 = k then (k, v) else p) = r := by
        conv => rhs; rw [← List.map_id r]
        refine List.map_congr_left fun p hp => ?_
        have := h1 p hp
        rw [hy] at this
        rw [if_neg (fun e => by rw [e] at this; exact List.lt_irrefl _ this)]; rfl
      have e3 : kDel k (y :: r) = kDel k r := by unfold kDel; rw [List.filter_cons_of_neg (by simpa using hy)]
      unfold kPut kSet
      rw [e3, e1]
      simp only [List.map_cons, if_pos hy, e2]
      cases r with
      | nil => rfl
      | cons z s =>
        have := h1 z (List.mem_cons_self)
        rw [hy] at this
        simp [kIns, this]
    · have hg : kGet k r = some u := by
        simpa [kGet, List.find?_cons, hy] using h
      have ih := kPut_set (v := v) h2 hg
      have hm := kGet_some hg
      have hlt : y.1 < k := h1 _ hm
      have e3 : kDel k (y :: r) = y :: kDel k r := by unfold kDel; rw [List.filter_cons_of_pos (by simpa using hy)]
      have hnlt : ¬ k < y.1 := fun h => List.lt_irrefl _ (List.lt_trans h hlt)
      unfold kPut kSet at ih ⊢
      rw [e3]
      simp only [kIns, if_neg hnlt, List.map_cons, if_neg hy, ih]
theorem kSet_keys (k : List UInt8) (v : α) (M : List (List UInt8 × α)) : (kSet k v M).map (·.1) = M.map (·.1) := by
  simp only [kSet, List.map_map]
  refine List.map_congr_left fun p _ => ?_
  simp only [Function.comp]
  split
  · rename_i h; exact h.symm
  · rfl
end

/-! ### A map's block -/
theorem before_iff : ∀ (a b : List UInt8), bytesBefore a b = true ↔ a < b
  | [], [] => by simp [bytesBefore]
  | [], _ :: _ => by simp [bytesBefore]
  | _ :: _, [] => by simp [bytesBefore]
  | a :: r, b :: s => by
    simp only [bytesBefore, Bool.or_eq_true, decide_eq_true_eq, Bool.and_eq_true, beq_iff_eq, before_iff r s]
    rw [List.cons_lt_cons_iff]
/-- an entry, as it is read -/
def ent (p : List UInt8 × Value) : Lit × DataW Value := (.string p.1, .held p.2)
def mapD (M : List (List UInt8 × Value)) : DataW Value := .map (M.map ent)
def heldE (v : Value) : Option (DataW Value × List MemPlace) := some (.held v, [])
theorem mapD_ins (x : List UInt8 × Value) : ∀ M : List (List UInt8 × Value), (kIns x M).map ent = DataW.insert (ent x) (M.map ent)
  | [] => rfl
  | y :: r => by
    have ih := mapD_ins x r
    simp only [kIns, List.map_cons, DataW.insert]
    have e : (ent x).1.before (ent y).1 = bytesBefore x.1 y.1 := rfl
    by_cases h : x.1 < y.1
    · rw [if_pos h, if_pos (by rw [e]; exact (before_iff _ _).2 h)]; rfl
    · rw [if_neg h, if_neg (by rw [e]; exact fun h' => h ((before_iff _ _).1 h')), List.map_cons, ih]
theorem same_ent (k : List UInt8) (p : List UInt8 × Value) : (ent p).1.sameKey (.string k) = (p.1 == k) := rfl
theorem mapD_put (k : List UInt8) (v : Value) (M : List (List UInt8 × Value)) : (mapD M).put (.string k) (.held v) = mapD (kPut k v M) := by
  show DataW.map (DataW.insert (.string k, .held v) ((M.map ent).filter fun p => !p.1.sameKey (.string k))) = _
  unfold mapD kPut
  rw [mapD_ins, kDel, List.filter_map]
  rfl
theorem mapD_del (k : List UInt8) (M : List (List UInt8 × Value)) : (mapD M).del (.string k) = mapD (kDel k M) := by
  show DataW.map ((M.map ent).filter fun p => !p.1.sameKey (.string k)) = _
  unfold mapD
  rw [kDel, List.filter_map]
  rfl
theorem mapD_at (k : List UInt8) (z : Value) (M : List (List UInt8 × Value)) : (mapD M).atKey (.string k) (.held z) = .held ((kGet k M).getD z) := by
  simp only [DataW.atKey, mapD]
  rw [List.find?_map]
  have e : ((fun p : Lit × DataW Value => p.1.sameKey (.string k)) ∘ ent) = fun p => p.1 == k := rfl
  rw [e]
  unfold kGet
  cases M.find? (fun p => p.1 == k) <;> rfl
theorem mapD_has (k : List UInt8) (M : List (List UInt8 × Value)) : Maps.has (mapD M) (.string k) = (kGet k M).isSome := by
  show (M.map ent).any (fun p => p.1.sameKey (.string k)) = _
  rw [List.any_map]
  have e : ((fun p : Lit × DataW Value => p.1.sameKey (.string k)) ∘ ent) = fun p => p.1 == k := rfl
  rw [e]
  unfold kGet
  rw [Option.isSome_map, Bool.eq_iff_iff, List.find?_isSome, List.any_eq_true]
theorem mapD_size (M : List (List UInt8 × Value)) : Maps.size (mapD M) = M.length := by simp [mapD, Maps.size]
theorem mapD_keys (M : List (List UInt8 × Value)) : strKeys (mapD M) = M.map (·.1) := by
  show (M.map ent).map (fun p => strOf p.1) = _
  rw [List.map_map]; rfl

/-- block b is a map with these entries -/
def OwnM (P : Program) (K : TypeId) (w : World) (b : Nat) (M : List (List UInt8 × Value)) : Prop := Srt M ∧ w.ownsMap P K heldE b M.length (mapD M)
section
variable {P : Program} {K T E : TypeId} {w w' : World} {b : Nat} {M : List (List UInt8 × Value)}
theorem owns_tight {n : Nat} {D : DataW Value} (h : w.ownsMap P K heldE b n D) : w.ownsMap P K heldE b (Maps.size D) D := by
  obtain ⟨es, clock, hb, F, hs, rfl⟩ := h
  exact ⟨es, clock, hb, F, by simp [Maps.size, length_sorted], rfl⟩
theorem OwnM.of {n : Nat} (hs : Srt M) (h : w.ownsMap P K heldE b n (mapD M)) : OwnM P K w b M := by
  have := owns_tight h
  rw [mapD_size] at this
  exact ⟨hs, this⟩
theorem OwnM.made (w : World) (P : Program) (K : TypeId) : OwnM P K (w.alloc (.map #[] 0)) w.heap.size [] := ⟨List.Pairwise.nil, World.ownsMap_made w P K heldE⟩
theorem OwnM.lt (h : OwnM P K w b M) : b < w.heap.size := h.2.lt
theorem OwnM.chg {S : Nat → Prop} (h : OwnM P K w b M) (hc : Chg S w w') (hn : ¬ S b) : OwnM P K w' b M := by
  obtain ⟨hs, es, clock, hb, F, hl, hD⟩ := h
  exact ⟨hs, es, clock, hc.row hb hn, F, hl, hD⟩
theorem OwnM.below (h : OwnM P K w b M) (hb : Below w.heap.size w w') : OwnM P K w' b M := h.chg (S := fun _ => False) (Chg.of_below hb) (fun h => h)
theorem OwnM.row (h : OwnM P K w b M) : ∃ es clock, w.heap[b]? = some (.map es clock) := by
  obtain ⟨hs, es, clock, hb, _⟩ := h
  exact ⟨es, clock, hb⟩
theorem OwnM.keys (h : OwnM P K w b M) (hk : P.underlying K = some .string) : ∀ p ∈ M, p.1.length ≤ maxLen := by
  intro p hp
  refine strKeys_le h.2 hk p.1 ?_
  rw [mapD_keys]
  exact List.mem_map_of_mem hp
theorem key_str (hk : P.underlying K = some .string) {k : List UInt8} (hl : k.length ≤ maxLen) : keyOf P K (.string (str k)) = some (.string k) := by
  rw [WideMaps.keyOf_string_mk hk (by rw [str_size]; exact hl), str_data]
theorem OwnM.look (h : OwnM P K w b M) (hk : P.underlying K = some .string) (ht : P.underlying T = some (.map K E)) {z : Value} (hz : (zeroValue E).run P w = .ok z w) {k : List UInt8} (hl : k.length ≤ maxLen) :
    (Instr.lookup T (.map (some b)) (.string (str k)) false).run P w = .ok ((kGet k M).getD z) w := by
  obtain ⟨v, ps, hrun, hv⟩ := h.2.lookup (string_keyed hk) ht hz (zd := .held z) (zp := []) rfl (key_str hk hl)
  rw [mapD_at] at hv
  simp only [heldE, Option.some.injEq, Prod.mk.injEq, DataW.held.injEq] at hv
  rw [hrun, hv.1]
theorem OwnM.look_ok (h : OwnM P K w b M) (hk : P.underlying K = some .string) (ht : P.underlying T = some (.map K E)) {z : Value} (hz : (zeroValue E).run P w = .ok z w) {k : List UInt8} (hl : k.length ≤ maxLen) :
    (Instr.lookup T (.map (some b)) (.string (str k)) true).run P w = .ok (.tuple #[(kGet k M).getD z, .bool (kGet k M).isSome]) w := by
  obtain ⟨v, ps, hrun, hv⟩ := h.2.look_ok (string_keyed hk) ht hz (zd := .held z) (zp := []) rfl (key_str hk hl)
  rw [mapD_at] at hv
  simp only [heldE, Option.some.injEq, Prod.mk.injEq, DataW.held.injEq] at hv
  rw [hrun, hv.1, mapD_has]
theorem OwnM.store (h : OwnM P K w b M) (hk : P.underlying K = some .string) (ht : P.underlying T = some (.map K E)) {k : List UInt8} (hl : k.length ≤ maxLen) (hn : M.length < maxLen) (v : Value) :
    ∃ w', (Instr.mapUpdate T (.map (some b)) (.string (str k)) v).run P w = .ok () w' ∧ OwnM P K w' b (kPut k v M) ∧ w.mapTurned w' b := by
  obtain ⟨w', hrun, ho, ht'⟩ := h.2.store (string_keyed hk) ht hn (key_str hk hl) (val := v) (d := .held v) (ps := []) rfl
  rw [mapD_put] at ho
  exact ⟨w', hrun, OwnM.of h.1.put ho, ht'⟩
theorem OwnM.drop (h : OwnM P K w b M) (hk : P.underlying K = some .string) (ht : P.underlying T = some (.map K E)) {k : List UInt8} (hl : k.length ≤ maxLen) (ty : TypeId) :
    ∃ w', (Builtin.delete_ #[T, K] ty #[.map (some b), .string (str k)]).run P w = .ok (.tuple #[]) w' ∧ OwnM P K w' b (kDel k M) ∧ w.mapTurned w' b := by
  obtain ⟨w', hrun, ho, ht'⟩ := h.2.drop (string_keyed hk) ht (key_str hk hl) ty
  rw [mapD_del] at ho
  exact ⟨w', hrun, OwnM.of h.1.del ho, ht'⟩
theorem OwnM.len (h : OwnM P K w b M) (ht : P.underlying T = some (.map K E)) (ty : TypeId) : (Builtin.len_ #[T] ty #[.map (some b)]).run P w = .ok (.int .i64 (M.length : Int)) w := by
  have := h.2.len ht ty
  rw [mapD_size] at this
  exact this
theorem turned_chg {S : Nat → Prop} (h : w.mapTurned w' b) (hS : S b) : Chg S w w' := Chg.of_grown h.grown fun k e => by cases e; exact hS
theorem sorted_keys (h : Srt M) {ss : List (List UInt8)} (hp : ss.Perm (strKeys (mapD M))) : ss.mergeSort (fun x y => decide (x ≤ y)) = M.map (·.1) := by
  rw [mapD_keys] at hp
  rw [show (fun x y : List UInt8 => decide (x ≤ y)) = leB from rfl, mergeSort_of_perm hp]
  have h1 : (M.map (·.1)).Pairwise fun a b : List UInt8 => leB a b = true := by
    rw [List.pairwise_map]
    exact h.imp fun hlt => by simpa [leB] using List.le_of_lt hlt
  exact List.mergeSort_of_pairwise h1
end

section
variable {P : Program} {ops : Array Oper} {rest : List Oper} {d : Option Tmp} {t0 : TypeId} {pos : String} {af : Array Edge} {tmps : Array Value} {dfs : List Deferred} {w : World} {Q : Exit → Act → World → Prop} {K E : TypeId} {b : Nat} {M : List (List UInt8 × Value)}
theorem L_look {T : TypeId} {m x : Operand} (hk : P.underlying K = some .string) (ht : P.underlying T = some (.map K E)) (z : Value) (hz : ∀ w, (zeroValue E).run P w = .ok z w) (h : OwnM P K w b M) {k : List UInt8}
    (hm : (⟨tmps, dfs⟩ : Act).eval m = .map (some b)) (hx : (⟨tmps, dfs⟩ : Act).eval x = .string (str k)) (hl : k.length ≤ maxLen)
    (hK : wpList P ops Q rest ((⟨tmps, dfs⟩ : Act).put d ((kGet k M).getD z)) w) :
    wpList P ops Q ({ dst := d, op := .lookup T m x false, type := t0, pos := pos, after := af, guard := none } :: rest) ⟨tmps, dfs⟩ w := by
  refine wpList_plain rfl fun K' hK' => ?_
  unfold Oper.wp
  simp [execOp, hm, hx, h.look hk ht (hz w) hl, Result.andThen]
  exact hK' _ _ hK
theorem L_look_ok {T : TypeId} {m x : Operand} (hk : P.underlying K = some .string) (ht : P.underlying T = some (.map K E)) (z : Value) (hz : ∀ w, (zeroValue E).run P w = .ok z w) (h : OwnM P K w b M) {k : List UInt8}
    (hm : (⟨tmps, dfs⟩ : Act).eval m = .map (some b)) (hx : (⟨tmps, dfs⟩ : Act).eval x = .string (str k)) (hl : k.length ≤ maxLen)
    (hK : wpList P ops Q rest ((⟨tmps, dfs⟩ : Act).put d (.tuple #[(kGet k M).getD z, .bool (kGet k M).isSome])) w) :
    wpList P ops Q ({ dst := d, op := .lookup T m x true, type := t0, pos := pos, after := af, guard := none } :: rest) ⟨tmps, dfs⟩ w := by
  refine wpList_plain rfl fun K' hK' => ?_
  unfold Oper.wp
  simp [execOp, hm, hx, h.look_ok hk ht (hz w) hl, Result.andThen]
  exact hK' _ _ hK
theorem L_mput {T : TypeId} {m x y : Operand} (hk : P.underlying K = some .string) (ht : P.underlying T = some (.map K E)) (h : OwnM P K w b M) {k : List UInt8} {v : Value}
    (hm : (⟨tmps, dfs⟩ : Act).eval m = .map (some b)) (hx : (⟨tmps, dfs⟩ : Act).eval x = .string (str k)) (hy : (⟨tmps, dfs⟩ : Act).eval y = v) (hl : k.length ≤ maxLen ∧ M.length < maxLen)
    (hK : ∀ w', OwnM P K w' b (kPut k v M) → w.mapTurned w' b → wpList P ops Q rest ((⟨tmps, dfs⟩ : Act).put d undef) w') :
    wpList P ops Q ({ dst := d, op := .mapUpdate T m x y, type := t0, pos := pos, after := af, guard := none } :: rest) ⟨tmps, dfs⟩ w := by
  refine wpList_plain rfl fun K' hK' => ?_
  obtain ⟨w', hrun, r1, r2⟩ := h.store hk ht hl.1 hl.2 v
  unfold Oper.wp
  simp [execOp, hm, hx, hy, hrun, Result.andThen]
  exact hK' _ _ (hK w' r1 r2)
theorem L_mdel {T : TypeId} {m x : Operand} (hk : P.underlying K = some .string) (ht : P.underlying T = some (.map K E)) (h : OwnM P K w b M) {k : List UInt8}
    (hm : (⟨tmps, dfs⟩ : Act).eval m = .map (some b)) (hx : (⟨tmps, dfs⟩ : Act).eval x = .string (str k)) (hl : k.length ≤ maxLen)
    (hK : ∀ w', OwnM P K w' b (kDel k M) → w.mapTurned w' b → wpList P ops Q rest ((⟨tmps, dfs⟩ : Act).put d (.tuple #[])) w') :
    wpList P ops Q ({ dst := d, op := .call { callee := .builtin .delete, args := #[m, x], argTypes := #[T, K] }, type := t0, pos := pos, after := af, guard := none } :: rest) ⟨tmps, dfs⟩ w := by
  refine wpList_plain rfl fun K' hK' => ?_
  obtain ⟨w', hrun, r1, r2⟩ := h.drop hk ht hl t0
  unfold Oper.wp
  simp [execOp, resolve, invoke, builtin, hm, hx, hrun, Result.andThen]
  exact hK' _ _ (hK w' r1 r2)
theorem L_mlen {T : TypeId} {m : Operand} (ht : P.underlying T = some (.map K E)) (h : OwnM P K w b M)
    (hm : (⟨tmps, dfs⟩ : Act).eval m = .map (some b))
    (hK : wpList P ops Q rest ((⟨tmps, dfs⟩ : Act).put d (.int .i64 (M.length : Int))) w) :
    wpList P ops Q ({ dst := d, op := .call { callee := .builtin .len, args := #[m], argTypes := #[T] }, type := t0, pos := pos, after := af, guard := none } :: rest) ⟨tmps, dfs⟩ w := by
  refine wpList_plain rfl fun K' hK' => ?_
  unfold Oper.wp
  simp [execOp, resolve, invoke, builtin, hm, h.len ht t0, Result.andThen]
  exact hK' _ _ hK
theorem ranges_chg {S : Nat → Prop} {w w' : World} {r n cnt : Nat} {D : DataW Value} {left : Lit → Bool} (h : w.ranges P K heldE b r n D left cnt) (hc : Chg S w w') (hb : ¬ S b) (hr : ¬ S r) : w'.ranges P K heldE b r n D left cnt := by
  obtain ⟨es, clock, since, seen, c0, h1, F, hs, hD, h2, rest⟩ := h
  exact ⟨es, clock, since, seen, c0, hc.row h1 hb, F, hs, hD, hc.row h2 hr, rest⟩
theorem ranges_iter {w : World} {r n cnt : Nat} {D : DataW Value} {left : Lit → Bool} (h : w.ranges P K heldE b r n D left cnt) : ∃ a s c d, w.heap[r]? = some (.mapIter a s c d) := by
  obtain ⟨es, clock, since, seen, c0, h1, F, hs, hD, h2, rest⟩ := h
  exact ⟨_, _, _, _, h2⟩
/-- the step of a range over a map -/
theorem L_mnext {it : Operand} (hk : P.underlying K = some .string) {r n cnt : Nat} {left : Lit → Bool} (hit : (⟨tmps, dfs⟩ : Act).eval it = .pointer (some ⟨r, 0, none⟩)) (h : w.ranges P K heldE b r n (mapD M) left cnt)
    (hDone : (∀ kl, left kl = false) → wpList P ops Q rest ((⟨tmps, dfs⟩ : Act).put d (.tuple #[.bool false])) w)
    (hMore : ∀ (k : List UInt8) (v : Value) (w' : World) (cnt' : Nat), kGet k M = some v → left (.string k) = true → w'.ranges P K heldE b r n (mapD M) (fun z => left z && !z.sameKey (.string k)) cnt' → cnt' < cnt →
      w.grownBy w' (some r) → w'.heap.size = w.heap.size → (Instr.entry (.pointer (some ⟨r, 0, none⟩))).run P w' = .ok (.tuple #[.string (str k), v]) w' → wpList P ops Q rest ((⟨tmps, dfs⟩ : Act).put d (.tuple #[.bool true, .string (str k), v])) w') :
    wpList P ops Q ({ dst := d, op := .next it false, type := t0, pos := pos, after := af, guard := none } :: rest) ⟨tmps, dfs⟩ w :=
  wpList_next_ranges w rfl it rfl K (string_keyed hk) heldE (fun l : List UInt8 => Value.string (str l)) (fun c : Value => c) (fun key kl hkey => by
      obtain ⟨x, hx, _⟩ := Maps.keyOf_str hk hkey
      exact ⟨x, hx⟩) (fun v y _ => ⟨v, rfl⟩) b r n (mapD M) left cnt hit h (fun _ hl => hDone hl) (fun x c kl y w' cnt' hkey hlk hv hat hrg hlt hg hs hen => by
    obtain ⟨x', ex, rfl, _⟩ := Maps.keyOf_str hk hkey
    have exx : x = x' := str_inj (Value.string.inj ex)
    subst exx
    simp only [heldE, Option.some.injEq] at hv
    subst hv
    have hhas := Maps.has_true_of_atKey hat
    rw [mapD_has] at hhas
    have h2 := hat (.held c)
    rw [mapD_at] at h2
    simp only [DataW.held.injEq] at h2
    cases hg2 : kGet x M with
    | none => rw [hg2] at hhas; cases hhas
    | some u =>
      rw [hg2] at h2
      simp only [Option.getD_some] at h2
      exact hMore x c w' cnt' (by rw [hg2, h2]) hlk hrg hlt hg hs hen)
end
/-! ### Small laws -/
theorem pw_mem {α : Type} {R : α → α → Prop} (hs : ∀ a b, R a b → R b a) : ∀ {l : List α}, l.Pairwise R → ∀ {a b : α}, a ∈ l → b ∈ l → a ≠ b → R a b
  | [], _, _, _, ha, _, _ => by simp at ha
  | x :: r, h, a, b, ha, hb, hne => by
    obtain ⟨h1, h2⟩ := List.pairwise_cons.1 h
    rcases List.mem_cons.1 ha with ea | ha' <;> rcases List.mem_cons.1 hb with eb | hb'
    · exact absurd (ea.trans eb.symm) hne
    · rw [ea]; exact h1 b hb'
    · rw [eb]; exact hs _ _ (h1 a ha')
    · exact pw_mem hs h2 ha' hb' hne
theorem le_sum : ∀ {l : List Nat} {a : Nat}, a ∈ l → a ≤ l.sum
  | [], _, h => by simp at h
  | x :: r, a, h => by
    rw [List.sum_cons]
    rcases List.mem_cons.1 h with rfl | h
    · omega
    · have := le_sum h; omega

theorem row_ne {w : World} {a b : Nat} {o p : Obj} (ha : w.heap[a]? = some o) (hb : w.heap[b]? = some p) (h : o ≠ p) : a ≠ b := by
  intro e; subst e; rw [ha] at hb; exact h (Option.some.inj hb)
theorem OwnS.rowOf {w : World} {base : Nat} {e : TypeId} {sz n : Nat} {v : Value} {xs : List Value} (h : OwnS w base e sz v n xs) {k : Nat} (hk : v.ownBlock = some k) : ∃ cur fr, w.heap[k]? = some (.cells cur e fr) := by
  rcases h.2 with ⟨rfl, _⟩ | ⟨g, cap, cur, fr, rfl, hb, hg, _⟩
  · simp [Value.ownBlock] at hk
  · simp [Value.ownBlock] at hk
    subst hk
    exact ⟨cur, fr, hg⟩
theorem OwnS.chg {T : Nat → Prop} {w w' : World} {base : Nat} {e : TypeId} {sz n : Nat} {v : Value} {xs : List Value} (h : OwnS w base e sz v n xs) (hc : Chg T w w') (hn : ∀ k, v.ownBlock = some k → ¬ T k) : OwnS w' base e sz v n xs := by
  refine ⟨h.1, ?_⟩
  rcases h.2 with hz | ⟨g, cap, cur, fr, rfl, hb, hgg, rest⟩
  · exact .inl hz
  · exact .inr ⟨g, cap, cur, fr, rfl, hb, hc.row hgg (hn g (by simp [Value.ownBlock])), rest⟩
theorem setCell_row {w : World} {b : Nat} {cs : Array Value} {t : TypeId} {fr : Nat × Nat} (h : w.heap[b]? = some (.cells cs t fr)) (i : Nat) (u : Value) : (w.setCell ⟨b, i, none⟩ u).heap[b]? = some (.cells (cs.setIfInBounds i u) t fr) := by
  rw [setCell_eq_setRow w b i cs t fr u h]
  exact setRow_heap w b cs _ t _ h
theorem Rd.turned {w w' : World} {p : Option Addr} {xs : List Value} {b : Nat} (h : Rd w p xs) (ht : w.mapTurned w' b) : Rd w' p xs := by
  rcases h with rfl | ⟨b0, o, rfl, hc⟩
  · exact .inl rfl
  · by_cases hx : xs = []
    · exact .inl hx
    · have h0 := hc 0 (List.length_pos_iff.2 hx)
      refine (turned_chg (S := fun j => j = b) ht rfl).rd (.inr ⟨b0, o, rfl, hc⟩) fun a ha e => ?_
      cases ha
      simp only at e
      subst e
      obtain ⟨es, c, _, _, hb, _⟩ := ht
      simp [World.cell?, hb] at h0
def Mkp (p : Prop) : Prop := p
theorem mkp {p : Prop} (h : Mkp p) : p := h
theorem cell_below {w v : World} (hb : Below w.heap.size w v) {a : Addr} {x : Value} (h : w.cell? a = some x) : v.cell? a = some x := by
  rw [hb.cell (block_lt_of_cell h)]; exact h
/-- S and new blocks -/
def Up (S : Nat → Prop) (w : World) : Nat → Prop := fun k => S k ∨ w.heap.size ≤ k
theorem Up.of {S : Nat → Prop} {w : World} {k : Nat} (h : S k) : Up S w k := .inl h
theorem Up.up {S : Nat → Prop} {w w' : World} (h : w.heap.size ≤ w'.heap.size) {k : Nat} (hk : Up (Up S w) w' k) : Up S w k := by
  rcases hk with (h1 | h1) | h1
  · exact .inl h1
  · exact .inr h1
  · exact .inr (Nat.le_trans h h1)
theorem Up.ge {B : Nat} {w : World} (hB : B ≤ w.heap.size) {k : Nat} (h : Up (B ≤ ·) w k) : B ≤ k := by
  rcases h with h | h
  · exact h
  · omega
end Go.Proofs.Ytblmnaejkdkndaa
