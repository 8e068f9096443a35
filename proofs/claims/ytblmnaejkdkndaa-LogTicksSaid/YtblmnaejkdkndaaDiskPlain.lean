/- What a disk does, in plain words; and how its memory follows. -/
import Derived.Test.YtblmnaejkdkndaaDiskRep
set_option linter.unusedSimpArgs false
set_option linter.unusedVariables false
namespace Go.Proofs.Ytblmnaejkdkndaa
open Go.RowKit Go.Maps

abbrev Files0 := List (List UInt8 × FileV)
def mayN (name : List UInt8) : Bool := decide (1 ≤ name.length ∧ name.length ≤ 64)
def syncD (name : List UInt8) (D : Files0) (down : Bool) : Files0 × Int :=
  if down then (D, 23) else match kGet name D with
    | none => (D, 25)
    | some f => (kSet name ⟨f.b, f.b.length⟩ D, 0)
def cutD (name : List UInt8) (n : Int) (D : Files0) (down : Bool) : Files0 × Int :=
  if down then (D, 23) else match kGet name D with
    | none => (D, 25)
    | some f => if n < 0 ∨ (f.b.length : Int) < n then (D, 7) else (kSet name ⟨f.b.take n.toNat, n.toNat⟩ D, 0)
def deleteD (name : List UInt8) (D : Files0) (down : Bool) : Files0 × Int :=
  if down then (D, 23) else match kGet name D with
    | none => (D, 25)
    | some _ => (kDel name D, 0)
def renameD (name to_ : List UInt8) (D : Files0) (down : Bool) : Files0 × Int :=
  if down then (D, 23) else match kGet name D with
    | none => (D, 25)
    | some f => if mayN to_ then (kPut to_ f (kDel name D), 0) else (D, 24)
def readD (name : List UInt8) (D : Files0) (down : Bool) : List UInt8 × Int :=
  if down then ([], 23) else match kGet name D with
    | none => ([], 25)
    | some f => (f.b, 0)
def roomD (n : Int) : Nat := (min (max n 0) 16777216).toNat
def appendD (name b : List UInt8) (D : Files0) (room : Nat) (down : Bool) : Files0 × Int :=
  if down then (D, 23) else
    if mayN name then
      if usedD D + b.length ≤ room then
        (match kGet name D with
          | none => (kPut name ⟨b, 0⟩ D, 0)
          | some f => (kSet name ⟨f.b ++ b, f.sync⟩ D, 0))
      else (D, 9)
    else (D, 24)
/-- what a crash leaves of a file -/
def crashF (keep : Int) (garble : Bool) (f : FileV) : FileV :=
  let n := f.sync + (min (max keep 0) ((f.b.length : Int) - f.sync)).toNat
  let from' := max f.sync ((n - 1) / 512 * 512)
  ⟨(f.b.take n).mapIdx fun i c => if garble && decide (from' ≤ i) then c ^^^ 0xA5 else c, n⟩

theorem usedD_cons (p : List UInt8 × FileV) (D : Files0) : usedD (p :: D) = p.2.b.length + usedD D := rfl
theorem usedD_ins (x : List UInt8 × FileV) : ∀ D : Files0, usedD (kIns x D) = x.2.b.length + usedD D
  | [] => rfl
  | y :: r => by
    simp only [kIns]
    split
    · rfl
    · rw [usedD_cons, usedD_cons, usedD_ins x r]; omega
theorem usedD_del (k : List UInt8) : ∀ D : Files0, usedD (kDel k D) ≤ usedD D
  | [] => Nat.le_refl _
  | y :: r => by
    have ih := usedD_del k r
    by_cases h : y.1 = k
    · have e : kDel k (y :: r) = kDel k r := by unfold kDel; rw [List.filter_cons_of_neg (by simpa using h)]
      rw [e, usedD_cons]; omega
    · have e : kDel k (y :: r) = y :: kDel k r := by unfold kDel; rw [List.filter_cons_of_pos (by simpa using h)]
      rw [e, usedD_cons, usedD_cons]; omega
theorem usedD_del_get {k : List UInt8} {f : FileV} : ∀ {D : Files0}, Srt D → kGet k D = some f → usedD (kDel k D) + f.b.length = usedD D
  | [], _, h => by simp [kGet] at h
  | y :: r, hs, hg => by
    obtain ⟨h1, h2⟩ := List.pairwise_cons.1 hs
    by_cases h : y.1 = k
    · have e : kDel k (y :: r) = kDel k r := by unfold kDel; rw [List.filter_cons_of_neg (by simpa using h)]
      have e1 : kDel k r = r := List.filter_eq_self.2 fun p hp => by
        have := h1 p hp
        rw [h] at this
        simp
        intro e; rw [e] at this; exact List.lt_irrefl _ this
      have e2 : y.2 = f := by simpa [kGet, List.find?_cons, h] using hg
      rw [e, e1, usedD_cons, e2]; omega
    · have e : kDel k (y :: r) = y :: kDel k r := by unfold kDel; rw [List.filter_cons_of_pos (by simpa using h)]
      have hg' : kGet k r = some f := by simpa [kGet, List.find?_cons, h] using hg
      have ih := usedD_del_get h2 hg'
      rw [e, usedD_cons, usedD_cons]; omega
theorem usedD_put {k : List UInt8} (f : FileV) (D : Files0) : usedD (kPut k f D) = f.b.length + usedD (kDel k D) := usedD_ins _ _
theorem usedD_set {k : List UInt8} {f g : FileV} {D : Files0} (hs : Srt D) (hg : kGet k D = some f) : usedD (kSet k g D) + f.b.length = usedD D + g.b.length := by
  rw [← kPut_set hs hg, usedD_put]
  have := usedD_del_get hs hg
  omega
theorem kSet_map {α β : Type} (f : α → β) (k : List UInt8) (v : α) (M : List (List UInt8 × α)) : kMap f (kSet k v M) = kSet k (f v) (kMap f M) := by
  simp only [kMap, kSet, List.map_map]
  refine List.map_congr_left fun p _ => ?_
  simp only [Function.comp]
  split <;> rfl
theorem Srt.set {α : Type} {k : List UInt8} {v u : α} {M : List (List UInt8 × α)} (hs : Srt M) (hg : kGet k M = some u) : Srt (kSet k v M) := by
  rw [← kPut_set hs hg]; exact hs.put
theorem kSet_len {α : Type} (k : List UInt8) (v : α) (M : List (List UInt8 × α)) : (kSet k v M).length = M.length := by simp [kSet]
theorem kSet_same {α : Type} {k : List UInt8} {v : α} {M : List (List UInt8 × α)} (hs : Srt M) (hg : kGet k M = some v) : kSet k v M = M := by
  have hm := kGet_some hg
  unfold kSet
  conv => rhs; rw [← List.map_id M]
  refine List.map_congr_left fun p hp => ?_
  by_cases e : p.1 = k
  · rw [if_pos e, hs.inj hm hp e.symm]; rfl
  · rw [if_neg e]; rfl
theorem kMap_same {α β : Type} {f g : α → β} {M : List (List UInt8 × α)} (h : ∀ p ∈ M, f p.2 = g p.2) : kMap f M = kMap g M :=
  List.map_congr_left fun p hp => by rw [h p hp]

/-- from w to w' the disk in S has become D -/
def DiskTo (S : Nat → Prop) (w w' : World) (db : Nat) (D : Files0) (room : Nat) (down : Bool) : Prop := DiskAt (Up S w) w' db D room down ∧ Chg S w w'

section
variable {S : Nat → Prop} {w w' : World} {db mb room : Nat} {down : Bool} {E : List (List UInt8 × FileM)} {x y : FileM} {D : Files0} {name : List UInt8}
theorem DiskAt.to_same (h : DiskAt S w db D room down) : DiskTo S w w db D room down := ⟨h.mono fun k hk => .inl hk, Chg.refl _ _⟩
theorem get_file (name : List UInt8) (E : List (List UInt8 × FileM)) : kGet name (kMap FileM.f E) = (kGet name E).map FileM.f := kGet_map _ _ _
/-- a file has become another -/
theorem DiskM.setFile {S' : Nat → Prop} (h : DiskM S w db mb E room down) (hSS : ∀ k, S k → S' k) (hx : kGet name E = some x) (hc : Chg (fun j => j = x.fb ∨ x.v.ownBlock = some j) w w')
    (hy : FileAt S' w' y) (hfb : y.fb = x.fb) (ho : ∀ j, y.v.ownBlock = some j → x.v.ownBlock = some j ∨ w.heap.size ≤ j) (hu : usedD (kMap FileM.f (kSet name y E)) ≤ 16777216) :
    DiskM S' w' db mb (kSet name y E) room down ∧ Chg S w w' := by
  have hfx := h.files.at_ _ (kGet_some hx)
  have hS : ∀ j, j < w.heap.size → (j = x.fb ∨ x.v.ownBlock = some j) → S j := by
    rintro j _ (rfl | e)
    · exact hfx.fb
    · exact hfx.ob j e
  have hdb : ¬ (db = x.fb ∨ x.v.ownBlock = some db) := by
    rintro (e | e)
    · exact row_ne h.row hfx.row (by simp only [ne_eq, Obj.cells.injEq, not_and]; intro h0; exact absurd (congrArg Array.size h0) (by simp)) e
    · obtain ⟨cur, fr, hr⟩ := hfx.own.rowOf e
      exact row_ne h.row hr (by simp only [ne_eq, Obj.cells.injEq, not_and]; intro _ h; exact absurd h (by decide)) rfl
  have hmb : ¬ (mb = x.fb ∨ x.v.ownBlock = some mb) := by
    obtain ⟨es, c, hm⟩ := h.map.row
    rintro (e | e)
    · exact row_ne hm hfx.row (by simp) e
    · obtain ⟨cur, fr, hr⟩ := hfx.own.rowOf e
      exact row_ne hm hr (by simp) rfl
  have hE : kMap fptr (kSet name y E) = kMap fptr E := by
    rw [kSet_map]
    have hg : kGet name (kMap fptr E) = some (fptr x) := by rw [get_ptr, hx]; rfl
    have : fptr y = fptr x := by simp [fptr, hfb]
    rw [this]
    exact kSet_same h.map.1 hg
  refine ⟨⟨hSS _ h.sd, hSS _ h.sm, hc.row h.row hdb, by rw [hE]; exact h.map.chg hc hmb, ?_, h.room_le, hu⟩, hc.mono hS⟩
  exact (h.files.mono hSS).set h.srt hx hc (fun j hj _ => hj) hy hfb ho
theorem DiskM.toAt (h : DiskM (Up S w) w' db mb E room down) (hc : Chg S w w') (hD : D = kMap FileM.f E) : DiskTo S w w' db D room down := ⟨⟨mb, E, h, hD⟩, hc⟩

/-- a file's own cells are written -/
theorem DiskM.putFile (h : DiskM S w db mb E room down) (hx : kGet name E = some x) {v' : Value} {f' : FileV} (hc : Chg (fun j => j = x.fb) w w') (hrow : w'.heap[x.fb]? = some (.cells #[v', .int .i64 (f'.sync : Int)] 85 (0, 0)))
    (hown : OwnS w 0 5 1 v' f'.b.length (by8 f'.b)) (hob : ∀ k, v'.ownBlock = some k → x.v.ownBlock = some k) (hle : f'.sync ≤ f'.b.length) (hlen : f'.b.length ≤ x.f.b.length) :
    DiskTo S w w' db (kSet name f' (kMap FileM.f E)) room down := by
  have hf := h.files.at_ _ (kGet_some hx)
  have hn : ∀ k, v'.ownBlock = some k → ¬ k = x.fb := fun k hk e => by
    obtain ⟨cur, fr, hr⟩ := hf.own.rowOf (hob k hk)
    exact row_ne hr hf.row (by simp only [ne_eq, Obj.cells.injEq, not_and]; intro _ h; exact absurd h (by decide)) e
  have hg : kGet name (kMap FileM.f E) = some x.f := by rw [get_file, hx]; rfl
  have hs := usedD_set (k := name) (g := f') (Srt.map.2 h.srt) hg
  have hu := h.used_le
  have hd := h.setFile (S' := Up S w) (y := ⟨x.fb, v', f'⟩) (fun k hk => .inl hk) hx (hc.mono fun k _ e => .inl e) ⟨.inl hf.fb, hrow, hown.chg hc hn, fun k hk => .inl (hf.ob k (hob k hk)), hle⟩ rfl (fun j hj => .inl (hob j hj)) (by
    rw [kSet_map]
    show usedD (kSet name f' (kMap FileM.f E)) ≤ _
    omega)
  exact DiskM.toAt hd.1 hd.2 (by rw [kSet_map])

/-- the disk's own cells are written -/
theorem DiskM.setDiskS (h : DiskM S w db mb E room down) {i : Nat} {u : Value} {room' : Nat} {down' : Bool} (hcs : (#[Value.map (some mb), .int .i64 (room : Int), .bool down]).setIfInBounds i u = #[Value.map (some mb), .int .i64 (room' : Int), .bool down']) (hr : room' ≤ 16777216) :
    DiskM S (w.setCell ⟨db, i, none⟩ u) db mb E room' down' ∧ Chg S w (w.setCell ⟨db, i, none⟩ u) := by
  have hc : Chg (fun j => j = db) w (w.setCell ⟨db, i, none⟩ u) := Chg.setCell _ _ _ rfl
  have hrow := setCell_row h.row i u
  rw [hcs] at hrow
  refine ⟨⟨h.sd, h.sm, hrow, h.map.chg hc (fun e => h.ne e.symm), ?_, hr, h.used_le⟩, hc.mono fun k _ e => by rw [e]; exact h.sd⟩
  refine h.files.chg hc fun p hp => ?_
  have hf := h.files.at_ p hp
  refine ⟨fun e => row_ne hf.row h.row (by simp only [ne_eq, Obj.cells.injEq, not_and]; intro h0; exact absurd (congrArg Array.size h0) (by simp)) e, fun k hk e => ?_⟩
  obtain ⟨cur, fr, hr⟩ := hf.own.rowOf hk
  exact row_ne hr h.row (by simp only [ne_eq, Obj.cells.injEq, not_and]; intro _ h; exact absurd h (by decide)) e
theorem DiskM.setDisk (h : DiskM S w db mb E room down) {i : Nat} {u : Value} {room' : Nat} {down' : Bool} (hcs : (#[Value.map (some mb), .int .i64 (room : Int), .bool down]).setIfInBounds i u = #[Value.map (some mb), .int .i64 (room' : Int), .bool down']) (hr : room' ≤ 16777216) :
    DiskM (Up S w) (w.setCell ⟨db, i, none⟩ u) db mb E room' down' ∧ Chg S w (w.setCell ⟨db, i, none⟩ u) :=
  ⟨(h.setDiskS hcs hr).1.mono fun k hk => .inl hk, (h.setDiskS hcs hr).2⟩
/-- the map has turned -/
theorem DiskM.setMap (h : DiskM S w db mb E room down) {E' : List (List UInt8 × FileM)} (ht : w.mapTurned w' mb) (hm : OwnM Try.prog 9 w' mb (kMap fptr E')) (hf : Files S w E') (hu : usedD (kMap FileM.f E') ≤ 16777216) :
    DiskM (Up S w) w' db mb E' room down ∧ Chg S w w' := by
  have hc : Chg (fun j => j = mb) w w' := turned_chg ht rfl
  refine ⟨⟨.inl h.sd, .inl h.sm, hc.row h.row (fun e => h.ne e), hm, ?_, h.room_le, hu⟩, hc.mono fun k _ e => by rw [e]; exact h.sm⟩
  obtain ⟨es, c, hmr⟩ := h.map.row
  refine (hf.mono (fun k hk => (.inl hk : Up S w k))).chg hc fun p hp => ?_
  have hfp := hf.at_ p hp
  refine ⟨fun e => row_ne hfp.row hmr (by simp) e, fun k hk e => ?_⟩
  obtain ⟨cur, fr, hr⟩ := hfp.own.rowOf hk
  exact row_ne hr hmr (by simp) e
theorem DiskTo.trans {w'' : World} {D' : Files0} {room' : Nat} {down' : Bool} (h : DiskTo S w w' db D room down) (h2 : DiskTo (Up S w) w' w'' db D' room' down') : DiskTo S w w'' db D' room' down' :=
  ⟨h2.1.mono fun k hk => Up.up h.2.size hk, h.2.trans h2.2 fun k hk hu => by rcases hu with hu | hu; exact hu; omega⟩
/-- where the disk lies somewhere from B on -/
theorem DiskTo.base {B : Nat} (h : DiskTo (B ≤ ·) w w' db D room down) (hB : B ≤ w.heap.size) : DiskAt (B ≤ ·) w' db D room down ∧ Below B w w' :=
  ⟨h.1.mono fun k hk => Up.ge hB hk, h.2.below hB fun _ h => h⟩
end
end Go.Proofs.Ytblmnaejkdkndaa
