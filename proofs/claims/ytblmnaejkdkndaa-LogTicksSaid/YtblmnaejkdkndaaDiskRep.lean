/- What a disk is in memory: its block, its map's block, a block and a row of bytes for each file. -/
import Derived.Test.YtblmnaejkdkndaaMapV
import Derived.Test.YtblmnaejkdkndaaBase
set_option linter.unusedSimpArgs false
set_option linter.unusedVariables false
namespace Go.Proofs.Ytblmnaejkdkndaa
open Go.RowKit Go.Maps

/-- a file: its bytes, how many are synced -/
structure FileV where
  b : List UInt8
  sync : Nat
/-- a file in memory: its block, its slice -/
structure FileM where
  fb : Nat
  v : Value
  f : FileV
abbrev fptr (x : FileM) : Value := .pointer (some ⟨x.fb, 0, none⟩)
/-- block x.fb holds file x.f -/
structure FileAt (S : Nat → Prop) (w : World) (x : FileM) : Prop where
  fb : S x.fb
  row : w.heap[x.fb]? = some (.cells #[x.v, .int .i64 (x.f.sync : Int)] 85 (0, 0))
  own : OwnS w 0 5 1 x.v x.f.b.length (by8 x.f.b)
  ob : ∀ k, x.v.ownBlock = some k → S k
  le : x.f.sync ≤ x.f.b.length
def Apart (x y : FileM) : Prop := x.fb ≠ y.fb ∧ ∀ k, x.v.ownBlock = some k → y.v.ownBlock = some k → False
theorem Apart.symm {x y : FileM} (h : Apart x y) : Apart y x := ⟨h.1.symm, fun k a b => h.2 k b a⟩
structure Files (S : Nat → Prop) (w : World) (E : List (List UInt8 × FileM)) : Prop where
  at_ : ∀ p ∈ E, FileAt S w p.2
  apart : E.Pairwise fun p q => Apart p.2 q.2

/-- how many bytes there are in all -/
def usedD (D : List (List UInt8 × FileV)) : Nat := (D.map fun p => p.2.b.length).sum

structure DiskM (S : Nat → Prop) (w : World) (db mb : Nat) (E : List (List UInt8 × FileM)) (room : Nat) (down : Bool) : Prop where
  sd : S db
  sm : S mb
  row : w.heap[db]? = some (.cells #[.map (some mb), .int .i64 (room : Int), .bool down] 80 (0, 0))
  map : OwnM Try.prog 9 w mb (kMap fptr E)
  files : Files S w E
  room_le : room ≤ 16777216
  used_le : usedD (kMap FileM.f E) ≤ 16777216
/-- block db is a disk with the files D -/
def DiskAt (S : Nat → Prop) (w : World) (db : Nat) (D : List (List UInt8 × FileV)) (room : Nat) (down : Bool) : Prop :=
  ∃ mb E, DiskM S w db mb E room down ∧ D = kMap FileM.f E

section
variable {S T : Nat → Prop} {w w' : World} {x y : FileM} {E : List (List UInt8 × FileM)} {db mb room : Nat} {down : Bool} {D : List (List UInt8 × FileV)}
theorem FileAt.chg (h : FileAt S w x) (hc : Chg T w w') (h1 : ¬ T x.fb) (h2 : ∀ k, x.v.ownBlock = some k → ¬ T k) : FileAt S w' x :=
  ⟨h.fb, hc.row h.row h1, h.own.chg hc h2, h.ob, h.le⟩
theorem FileAt.mono (h : FileAt S w x) (hS : ∀ k, S k → T k) : FileAt T w x := ⟨hS _ h.fb, h.row, h.own, fun k hk => hS k (h.ob k hk), h.le⟩
theorem Files.chg (h : Files S w E) (hc : Chg T w w') (hn : ∀ p ∈ E, ¬ T p.2.fb ∧ ∀ k, p.2.v.ownBlock = some k → ¬ T k) : Files S w' E :=
  ⟨fun p hp => (h.at_ p hp).chg hc (hn p hp).1 (hn p hp).2, h.apart⟩
theorem Files.keep (h : Files S w E) (hc : Chg T w w') (hn : ∀ k, S k → ¬ T k) : Files S w' E :=
  h.chg hc fun p hp => ⟨hn _ (h.at_ p hp).fb, fun k hk => hn k ((h.at_ p hp).ob k hk)⟩
theorem Files.below (h : Files S w E) (hb : Below w.heap.size w w') : Files S w' E := h.keep (T := fun _ => False) (Chg.of_below hb) fun _ _ h => h
theorem Files.mono (h : Files S w E) (hS : ∀ k, S k → T k) : Files T w E := ⟨fun p hp => (h.at_ p hp).mono hS, h.apart⟩
/-- a file in its place is another one -/
theorem Files.set (h : Files S w E) (hs : Srt E) {k : List UInt8} (hx : kGet k E = some x) (hc : Chg T w w') (hT : ∀ j, T j → j < w.heap.size → j = x.fb ∨ x.v.ownBlock = some j)
    (hy : FileAt S w' y) (hfb : y.fb = x.fb) (ho : ∀ j, y.v.ownBlock = some j → x.v.ownBlock = some j ∨ w.heap.size ≤ j) : Files S w' (kSet k y E) := by
  have hxm := kGet_some hx
  have hother : ∀ p ∈ E, p.1 ≠ k → Apart p.2 x := by
    intro p hp hne
    exact pw_mem (R := fun p q : List UInt8 × FileM => Apart p.2 q.2) (fun _ _ h => h.symm) h.apart hp hxm (fun e => hne (by rw [e]))
  have hnT : ∀ p ∈ E, p.1 ≠ k → ¬ T p.2.fb ∧ ∀ j, p.2.v.ownBlock = some j → ¬ T j := by
    intro p hp hne
    have ha := hother p hp hne
    have hf := h.at_ p hp
    have hfx := h.at_ _ hxm
    refine ⟨fun ht => ?_, fun j hj ht => ?_⟩
    · rcases hT _ ht (row_lt hf.row) with e | e
      · exact ha.1 e
      · obtain ⟨cur, fr, hr⟩ := hfx.own.rowOf e
        exact row_ne hf.row hr (by simp only [ne_eq, Obj.cells.injEq, not_and]; intro _ h; exact absurd h (by decide)) rfl
    · obtain ⟨cur, fr, hr⟩ := hf.own.rowOf hj
      rcases hT _ ht (row_lt hr) with e | e
      · exact row_ne hr hfx.row (by simp only [ne_eq, Obj.cells.injEq, not_and]; intro _ h; exact absurd h (by decide)) e
      · exact ha.2 j hj e
  have hy_apart : ∀ p ∈ E, p.1 ≠ k → Apart p.2 y := by
    intro p hp hne
    have ha := hother p hp hne
    refine ⟨by rw [hfb]; exact ha.1, fun j hj hjy => ?_⟩
    rcases ho j hjy with e | e
    · exact ha.2 j hj e
    · obtain ⟨cur, fr, hr⟩ := (h.at_ p hp).own.rowOf hj
      have := row_lt hr; omega
  refine ⟨fun p hp => ?_, ?_⟩
  · obtain ⟨q, hq, rfl⟩ := List.mem_map.1 hp
    by_cases e : q.1 = k
    · rw [if_pos e]; exact hy
    · rw [if_neg e]; exact (h.at_ q hq).chg hc (hnT q hq e).1 (hnT q hq e).2
  · unfold kSet
    rw [List.pairwise_map]
    refine (h.apart.and hs).imp_of_mem fun {p q} hp hq hpq => ?_
    obtain ⟨hpq, hlt⟩ := hpq
    by_cases e1 : p.1 = k <;> by_cases e2 : q.1 = k
    · rw [e1, e2] at hlt; exact absurd hlt (List.lt_irrefl _)
    · rw [if_pos e1, if_neg e2]; exact (hy_apart q hq e2).symm
    · rw [if_neg e1, if_pos e2]; exact hy_apart p hp e1
    · rw [if_neg e1, if_neg e2]; exact hpq
theorem Files.del (h : Files S w E) (k : List UInt8) : Files S w (kDel k E) :=
  ⟨fun p hp => h.at_ p (mem_kDel.1 hp).1, h.apart.filter _⟩
theorem kIns_perm {α : Type} (x : List UInt8 × α) : ∀ M : List (List UInt8 × α), (kIns x M).Perm (x :: M)
  | [] => List.Perm.refl _
  | y :: r => by
    simp only [kIns]
    split
    · exact List.Perm.refl _
    · exact ((kIns_perm x r).cons y).trans (List.Perm.swap x y r)
theorem Files.ins (h : Files S w E) {k : List UInt8} (hy : FileAt S w y) (ha : ∀ p ∈ E, Apart y p.2) : Files S w (kIns (k, y) E) := by
  refine ⟨fun p hp => ?_, ?_⟩
  · rcases mem_kIns.1 hp with rfl | hp
    · exact hy
    · exact h.at_ p hp
  · refine (List.Perm.pairwise_iff (R := fun p q : List UInt8 × FileM => Apart p.2 q.2) (fun {a b} h => h.symm) (kIns_perm (k, y) E)).2 ?_
    exact List.pairwise_cons.2 ⟨fun p hp => ha p hp, h.apart⟩

theorem DiskM.srt (h : DiskM S w db mb E room down) : Srt E := Srt.map.1 h.map.1
theorem DiskM.ne (h : DiskM S w db mb E room down) : db ≠ mb := by
  obtain ⟨es, c, hm⟩ := h.map.row
  exact row_ne h.row hm (by simp)
theorem DiskM.keep (h : DiskM S w db mb E room down) (hc : Chg T w w') (hn : ∀ k, S k → ¬ T k) : DiskM S w' db mb E room down :=
  ⟨h.sd, h.sm, hc.row h.row (hn _ h.sd), h.map.chg hc (hn _ h.sm), h.files.keep hc hn, h.room_le, h.used_le⟩
theorem DiskM.below (h : DiskM S w db mb E room down) (hb : Below w.heap.size w w') : DiskM S w' db mb E room down := h.keep (T := fun _ => False) (Chg.of_below hb) fun _ _ h => h
theorem DiskM.mono (h : DiskM S w db mb E room down) (hS : ∀ k, S k → T k) : DiskM T w db mb E room down :=
  ⟨hS _ h.sd, hS _ h.sm, h.row, h.map, h.files.mono hS, h.room_le, h.used_le⟩
theorem DiskAt.keep (h : DiskAt S w db D room down) (hc : Chg T w w') (hn : ∀ k, S k → ¬ T k) : DiskAt S w' db D room down := by
  obtain ⟨mb, E, hd, hD⟩ := h; exact ⟨mb, E, hd.keep hc hn, hD⟩
theorem DiskAt.below (h : DiskAt S w db D room down) (hb : Below w.heap.size w w') : DiskAt S w' db D room down := h.keep (T := fun _ => False) (Chg.of_below hb) fun _ _ h => h
theorem DiskAt.mono (h : DiskAt S w db D room down) (hS : ∀ k, S k → T k) : DiskAt T w db D room down := by
  obtain ⟨mb, E, hd, hD⟩ := h; exact ⟨mb, E, hd.mono hS, hD⟩
theorem DiskAt.srt (h : DiskAt S w db D room down) : Srt D := by
  obtain ⟨mb, E, hd, rfl⟩ := h; exact Srt.map.2 hd.srt
theorem DiskAt.used (h : DiskAt S w db D room down) : usedD D ≤ 16777216 := by
  obtain ⟨mb, E, hd, rfl⟩ := h; exact hd.used_le
theorem DiskAt.room_le (h : DiskAt S w db D room down) : room ≤ 16777216 := by
  obtain ⟨mb, E, hd, rfl⟩ := h; exact hd.room_le
/-- the disk's own cells -/
theorem DiskM.cells (h : DiskM S w db mb E room down) : w.cell? ⟨db, 0, none⟩ = some (.map (some mb)) ∧ w.cell? ⟨db, 1, none⟩ = some (.int .i64 (room : Int)) ∧ w.cell? ⟨db, 2, none⟩ = some (.bool down) := by
  refine ⟨?_, ?_, ?_⟩ <;> · simp [World.cell?, h.row]
theorem DiskM.free (h : DiskM S w db mb E room down) : w.frozen? ⟨db, 0, none⟩ = false ∧ w.frozen? ⟨db, 1, none⟩ = false ∧ w.frozen? ⟨db, 2, none⟩ = false := by
  refine ⟨?_, ?_, ?_⟩ <;> · simp [World.frozen?, h.row]
theorem FileAt.cells (h : FileAt S w x) : w.cell? ⟨x.fb, 0, none⟩ = some x.v ∧ w.cell? ⟨x.fb, 1, none⟩ = some (.int .i64 (x.f.sync : Int)) := by
  refine ⟨?_, ?_⟩ <;> · simp [World.cell?, h.row]
theorem FileAt.free (h : FileAt S w x) : w.frozen? ⟨x.fb, 0, none⟩ = false ∧ w.frozen? ⟨x.fb, 1, none⟩ = false := by
  refine ⟨?_, ?_⟩ <;> · simp [World.frozen?, h.row]
theorem get_ptr (k : List UInt8) (E : List (List UInt8 × FileM)) : kGet k (kMap fptr E) = (kGet k E).map fptr := kGet_map _ _ _
theorem usedD_get {D : List (List UInt8 × FileV)} {k : List UInt8} {f : FileV} (h : kGet k D = some f) : f.b.length ≤ usedD D := by
  have := List.mem_map_of_mem (f := fun p : List UInt8 × FileV => p.2.b.length) (kGet_some h)
  exact le_sum this
theorem DiskM.len_le (h : DiskM S w db mb E room down) {k : List UInt8} (hx : kGet k E = some x) : x.f.b.length ≤ 16777216 := by
  have h1 : kGet k (kMap FileM.f E) = some x.f := by rw [kGet_map, hx]; rfl
  have := usedD_get h1
  have := h.used_le
  omega
end
end Go.Proofs.Ytblmnaejkdkndaa
