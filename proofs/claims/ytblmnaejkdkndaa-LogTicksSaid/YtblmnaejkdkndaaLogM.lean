/- A log in memory: its block, the disk and the gathered bytes beside it; the walks over package log. -/
import Derived.Test.YtblmnaejkdkndaaUnit
import Derived.Test.YtblmnaejkdkndaaDiskMoreL
set_option linter.unusedSimpArgs false
set_option linter.unusedVariables false
namespace Go.Proofs.Ytblmnaejkdkndaa
open Go.RowKit Go.Maps Rec

abbrev logName : List UInt8 := [108, 111, 103]
structure LogS where
  pol : Int
  units : Int
  st : Int
  side : Bool
  g : List UInt8
  D : Files0
abbrev logRow (db : Nat) (v : Value) (s : LogS) : Array Value := #[.pointer (some ⟨db, 0, none⟩), .int .i64 s.pol, .int .i64 s.units, .int .i64 s.st, .bool s.side, v]
/-- block lb is a log on the disk of block db, whose blocks are S; v its gathered bytes -/
structure LogM (S : Nat → Prop) (w : World) (db lb : Nat) (v : Value) (r : Nat) (s : LogS) : Prop where
  disk : DiskAt S w db s.D r false
  row : w.heap[lb]? = some (.cells (logRow db v s) 82 (0, 0))
  own : OwnS w 0 5 1 v s.g.length (by8 s.g)
  nl : ¬ S lb
  nv : ∀ k, v.ownBlock = some k → ¬ S k ∧ k ≠ lb
  lt : ∀ k, S k → k < w.heap.size
/-- .. all of it from block B on -/
def LogAt (B : Nat) (w : World) (db lb r : Nat) (s : LogS) : Prop :=
  ∃ S v, LogM S w db lb v r s ∧ (∀ k, S k → B ≤ k) ∧ B ≤ lb ∧ ∀ k, v.ownBlock = some k → B ≤ k

section
variable {S T : Nat → Prop} {w w' w1 : World} {db lb r B : Nat} {v : Value} {s : LogS}
theorem DiskAt.lt {D : Files0} {d : Bool} (h : DiskAt S w db D r d) : DiskAt (fun k => S k ∧ k < w.heap.size) w db D r d := by
  obtain ⟨mb, E, hd, rfl⟩ := h
  exact ⟨mb, E, ⟨⟨hd.sd, row_lt hd.row⟩, ⟨hd.sm, hd.map.lt⟩, hd.row, hd.map, ⟨fun p hp => ⟨⟨(hd.files.at_ p hp).fb, row_lt (hd.files.at_ p hp).row⟩, (hd.files.at_ p hp).row, (hd.files.at_ p hp).own, fun k hk => ⟨(hd.files.at_ p hp).ob k hk, ((hd.files.at_ p hp).own.lt k hk).2⟩, (hd.files.at_ p hp).le⟩, hd.files.apart⟩, hd.room_le, hd.used_le⟩, rfl⟩
theorem LogM.below (h : LogM S w db lb v r s) (hb : Below w.heap.size w w') : LogM S w' db lb v r s :=
  ⟨h.disk.below hb, (Chg.of_below hb).row (S := fun _ => False) h.row id, h.own.below hb, h.nl, h.nv, fun k hk => Nat.lt_of_lt_of_le (h.lt k hk) hb.size⟩
theorem LogAt.below (h : LogAt B w db lb r s) (hb : Below w.heap.size w w') : LogAt B w' db lb r s := by
  obtain ⟨S, v, h1, h2, h3, h4⟩ := h
  exact ⟨S, v, h1.below hb, h2, h3, h4⟩
/-- the disk has turned -/
theorem LogM.turn (h : LogM S w db lb v r s) {D' : Files0} (ht : DiskTo S w w' db D' r false) : LogM (fun k => Up S w k ∧ k < w'.heap.size) w' db lb v r { s with D := D' } := by
  have hlb := row_lt h.row
  refine ⟨ht.1.lt, ht.2.row h.row h.nl, h.own.chg ht.2 fun k hk => (h.nv k hk).1, ?_, fun k hk => ⟨?_, (h.nv k hk).2⟩, fun k hk => hk.2⟩
  · rintro ⟨h1 | h1, _⟩
    · exact h.nl h1
    · omega
  · have := (h.own.lt k hk).2
    rintro ⟨h1 | h1, _⟩
    · exact (h.nv k hk).1 h1
    · omega
/-- the log's own cells are written -/
theorem LogM.set (h : LogM S w db lb v r s) {i : Nat} {u : Value} {s' : LogS} (hc : (logRow db v s).setIfInBounds i u = logRow db v s') (hg : s'.g = s.g) (hD : s'.D = s.D) : LogM S (w.setCell ⟨lb, i, none⟩ u) db lb v r s' := by
  have hch : Chg (fun j => j = lb) w (w.setCell ⟨lb, i, none⟩ u) := Chg.setCell _ _ _ rfl
  have hrow := setCell_row h.row i u
  rw [hc] at hrow
  refine ⟨?_, hrow, ?_, h.nl, h.nv, fun k hk => Nat.lt_of_lt_of_le (h.lt k hk) hch.size⟩
  · rw [hD]
    obtain ⟨mb, E, hd, e⟩ := h.disk
    exact ⟨mb, E, hd.keep hch fun k hk e => h.nl (e ▸ hk), e⟩
  · rw [hg]; exact h.own.chg hch fun k hk => (h.nv k hk).2
theorem LogM.app_row (h : LogM S w db lb v r s) {v' : Value} (ha : App w w' v v') : w'.heap[lb]? = some (.cells (logRow db v s) 82 (0, 0)) :=
  (Chg.of_grown (S := fun j => v.ownBlock = some j) ha.by_ fun k hk => hk).row h.row fun e => (h.nv _ e).2 rfl
theorem row_cells (h : w.heap[lb]? = some (.cells (logRow db v s) 82 (0, 0))) : w.cell? ⟨lb, 0, none⟩ = some (.pointer (some ⟨db, 0, none⟩)) ∧ w.cell? ⟨lb, 1, none⟩ = some (.int .i64 s.pol) ∧ w.cell? ⟨lb, 2, none⟩ = some (.int .i64 s.units) ∧ w.cell? ⟨lb, 3, none⟩ = some (.int .i64 s.st) ∧ w.cell? ⟨lb, 4, none⟩ = some (.bool s.side) ∧ w.cell? ⟨lb, 5, none⟩ = some v := by
  refine ⟨?_, ?_, ?_, ?_, ?_, ?_⟩ <;> simp [World.cell?, h]
theorem row_free (h : w.heap[lb]? = some (.cells (logRow db v s) 82 (0, 0))) (i : Nat) (hi : i < 6) : w.frozen? ⟨lb, i, none⟩ = false := by
  have : i = 0 ∨ i = 1 ∨ i = 2 ∨ i = 3 ∨ i = 4 ∨ i = 5 := by omega
  rcases this with rfl | rfl | rfl | rfl | rfl | rfl <;> simp [World.frozen?, h]
theorem LogM.cells (h : LogM S w db lb v r s) : w.cell? ⟨lb, 0, none⟩ = some (.pointer (some ⟨db, 0, none⟩)) ∧ w.cell? ⟨lb, 1, none⟩ = some (.int .i64 s.pol) ∧ w.cell? ⟨lb, 2, none⟩ = some (.int .i64 s.units) ∧ w.cell? ⟨lb, 3, none⟩ = some (.int .i64 s.st) ∧ w.cell? ⟨lb, 4, none⟩ = some (.bool s.side) ∧ w.cell? ⟨lb, 5, none⟩ = some v := by
  refine ⟨?_, ?_, ?_, ?_, ?_, ?_⟩ <;> simp [World.cell?, h.row]
theorem LogM.free (h : LogM S w db lb v r s) (i : Nat) (hi : i < 6) : w.frozen? ⟨lb, i, none⟩ = false := by
  have : i = 0 ∨ i = 1 ∨ i = 2 ∨ i = 3 ∨ i = 4 ∨ i = 5 := by omega
  rcases this with rfl | rfl | rfl | rfl | rfl | rfl <;> simp [World.frozen?, h.row]
theorem LogM.reset (h : LogM S w db lb v r s) : LogM S (w.setCell ⟨lb, 5, none⟩ (.slice none 0 0)) db lb (.slice none 0 0) r { s with g := [] } := by
  have hch : Chg (fun j => j = lb) w (w.setCell ⟨lb, 5, none⟩ (.slice none 0 0)) := Chg.setCell _ _ _ rfl
  refine ⟨?_, setCell_row h.row 5 _, OwnS.none, h.nl, fun k hk => by simp [Value.ownBlock] at hk, fun k hk => Nat.lt_of_lt_of_le (h.lt k hk) hch.size⟩
  obtain ⟨mb, E, hd, e⟩ := h.disk
  exact ⟨mb, E, hd.keep hch fun k hk e => h.nl (e ▸ hk), e⟩
/-- gathered bytes are put behind the others -/
theorem LogM.gather (h : LogM S w db lb v r s) {b : List UInt8} {v' : Value} (ho : OwnS w' 0 5 1 v' (s.g ++ b).length (by8 (s.g ++ b))) (ha : App w w' v v') :
    LogM S (w'.setCell ⟨lb, 5, none⟩ v') db lb v' r { s with g := s.g ++ b } := by
  have hlb := row_lt h.row
  have hch : Chg (fun j => v.ownBlock = some j) w w' := Chg.of_grown ha.by_ fun k hk => hk
  have hrow : w'.heap[lb]? = some (.cells (logRow db v s) 82 (0, 0)) := hch.row h.row fun e => (h.nv _ e).2 rfl
  have hc2 : Chg (fun j => j = lb) w' (w'.setCell ⟨lb, 5, none⟩ v') := Chg.setCell _ _ _ rfl
  have hnv : ∀ k, v'.ownBlock = some k → ¬ S k ∧ k ≠ lb := by
    intro k hk
    rcases ha.new with hn | hn
    · exact h.nv k (by rw [← hn]; exact hk)
    · have := hn k hk
      exact ⟨fun hs => by have := h.lt k hs; omega, by omega⟩
  refine ⟨?_, setCell_row hrow 5 v', ho.chg hc2 fun k hk => (hnv k hk).2, h.nl, hnv, fun k hk => Nat.lt_of_lt_of_le (h.lt k hk) (Nat.le_trans hch.size hc2.size)⟩
  obtain ⟨mb, E, hd, e⟩ := h.disk
  exact ⟨mb, E, (hd.keep hch fun k hk e => (h.nv k e).1 hk).keep hc2 fun k hk e => h.nl (e ▸ hk), e⟩
theorem sync_S {D D' : Files0} {e' : Int} (h : DiskAt S w db D r false) (he : syncD logName D false = (D', e')) :
    Calls Try.prog 60 #[.pointer (some ⟨db, 0, none⟩), .string (str logName)] w fun e w' => e = .returned (.int .i64 e') ∧ DiskTo S w w' db D' r false :=
  (sync_any h logName (by decide)).mono fun e w' hd => by
    unfold Does at hd
    rw [he] at hd; exact hd
theorem append_S {D D' : Files0} {e' : Int} (h : DiskAt S w db D r false) (hn : D.length ≤ 1000000) (b : List UInt8) {p : Option Addr} {c n : Nat} (hr : Rd8 w p b) (hn' : n = b.length) (hbl : b.length ≤ 70368744177664) (he : appendD logName b D r false = (D', e')) :
    Calls Try.prog 36 #[.pointer (some ⟨db, 0, none⟩), .string (str logName), .slice p n c] w fun e w' => e = .returned (.int .i64 e') ∧ DiskTo S w w' db D' r false := by
  subst hn'
  exact (append_any h hn logName b (by decide) hr hbl).mono fun e w' hd => by
    unfold Does at hd
    rw [he] at hd; exact hd
set_option maxHeartbeats 1000000 in
set_option maxRecDepth 20000 in
theorem lnew_any (p : Int) (hp : p = 0 ∨ p = 1 ∨ p = 2) (w : World) : Calls Try.prog 11 #[.pointer (some ⟨db, 0, none⟩), .int .i64 p] w fun e w' => e = .returned (.tuple #[.pointer (some ⟨w.heap.size, 0, none⟩), .int .i64 0]) ∧ w.alloc (.cells (logRow db (.slice none 0 0) ⟨p, 0, 0, false, [], []⟩) 82) = w' := by
  rcases hp with rfl | rfl | rfl
  all_goals
    go_enter Try.func11, Try.ntmps11
    go_wp2_with fail
    go_ret2
    exact ⟨rfl, rfl⟩
set_option maxHeartbeats 1000000 in
set_option maxRecDepth 20000 in
theorem lnew_nil (w : World) : Calls Try.prog 11 #[.pointer none, .int .i64 0] w fun e w' => e = .returned (.tuple #[.pointer none, .int .i64 24]) ∧ w = w' := by
  go_enter Try.func11, Try.ntmps11
  go_wp2_with fail
  go_ret2
  exact ⟨rfl, rfl⟩
set_option maxHeartbeats 1000000 in
set_option maxRecDepth 20000 in
theorem lunits_any (h : LogM S w db lb v r s) : Calls Try.prog 19 #[.pointer (some ⟨lb, 0, none⟩)] w fun e w' => e = .returned (.int .i64 s.units) ∧ w = w' := by
  obtain ⟨c0, c1, c2, c3, c4, c5⟩ := h.cells
  clear h
  go_enter Try.func19, Try.ntmps19
  go_wp2_with fail
  go_ret
  exact ⟨rfl, rfl⟩
set_option maxHeartbeats 1000000 in
set_option maxRecDepth 20000 in
theorem lsync_any (h : LogM S w db lb v r s) {D' : Files0} (he : syncD logName s.D false = (D', 0)) : Calls Try.prog 37 #[.pointer (some ⟨lb, 0, none⟩)] w fun e w' => e = .returned (.int .i64 0) ∧ LogM (fun k => Up S w k ∧ k < w'.heap.size) w' db lb v r { s with D := D', st := 0 } ∧ w.heap.size ≤ w'.heap.size ∧ Chg (fun k => S k ∨ k = lb) w w' := by
  obtain ⟨c0, c1, c2, c3, c4, c5⟩ := h.cells
  have HH := Lib.hid h
  have HE := Lib.hid he
  clear h he
  go_enter Try.func37, Try.ntmps37
  go_wp2_with fail
  go_fit (sync_S HH.out.disk HE.out)
  rintro e w1 ⟨rfl, ht⟩
  have hM := HH.out.turn ht
  obtain ⟨c0, c1, c2, c3, c4, c5⟩ := hM.cells
  have f3 := hM.free 3 (by omega)
  have HM := Lib.hid hM
  have HT := Lib.hid ht
  clear hM ht
  go_wp2_with fail
  go_ret
  have hm := HM.out.set (i := 3) (u := .int .i64 0) (s' := { s with D := D', st := 0 }) rfl rfl rfl
  refine ⟨rfl, ?_, ?_, ?_⟩
  · simpa using hm
  · simpa using HT.out.2.size
  · exact (HT.out.2.mono fun k _ hk => .inl hk).trans (Chg.setCell (S := fun j => j = lb) _ _ _ rfl) fun k _ hk => .inr hk
set_option maxHeartbeats 2000000 in
set_option maxRecDepth 20000 in
theorem ladd_one (k : List UInt8) (hk1 : 1 ≤ k.length) (hk2 : k.length ≤ 16) (h : LogM S w db lb v r s) (hp : s.pol = 1 ∨ s.pol = 2) (hu : 0 ≤ s.units ∧ s.units ≤ 1000000) (hn : s.D.length ≤ 1000000) (hg : s.g.length ≤ 1000000)
    (p : Option Addr) (c : Nat) (hr : Rd w p (effC k)) {D' : Files0} (he : appendD logName (unitB k) s.D r false = (D', 0)) :
    Calls Try.prog 14 #[.pointer (some ⟨lb, 0, none⟩), .slice p 1 c] w fun e w' => e = .returned (.int .i64 0) ∧ ∃ S' v', LogM S' w' db lb v' r { s with D := D', st := 1, units := s.units + 1, g := if s.side then s.g ++ unitB k else s.g } ∧ (∀ k, S' k → S k ∨ w.heap.size ≤ k) ∧ (∀ k, v'.ownBlock = some k → v.ownBlock = some k ∨ w.heap.size ≤ k) ∧ Chg (fun k => S k ∨ k = lb ∨ v.ownBlock = some k) w w' := by
  obtain ⟨pol, units, st, side, g, D⟩ := s
  dsimp only at hp hu hn hg he ⊢
  have d0 : (pol == 0) = false := by rcases hp with h | h <;> rw [h] <;> rfl
  have d0' : decide (pol = 0) = false := by rcases hp with h | h <;> rw [h] <;> rfl
  have HR := Lib.hid hr
  have HH := Lib.hid h
  have HE := Lib.hid he
  have HP := Lib.hid hp
  obtain ⟨pv, cv, rfl, _, _⟩ := h.own.shape
  clear hr h he hp
  cases side
  all_goals
    go_enter Try.func14, Try.ntmps14
    go_wp2_with fail
    go_fit (write_one k hk1 hk2 p c w HR.out)
    rintro e w1 ⟨vb, rfl, ho1, hb1⟩
    obtain ⟨pb, cb, rfl, _, _⟩ := ho1.shape
    have hM1 := HH.out.below hb1
    obtain ⟨c0, c1, c2, c3, c4, c5⟩ := hM1.cells
    have HM1 := Lib.hid hM1
    have HO1 := Lib.hid ho1
    have HB1 := Lib.hid hb1
    have HUL := Lib.hid (unitB_len k)
    clear hM1 ho1 hb1
    go_wp2_with fail
    go_fit (append_S HM1.out.disk hn (unitB k) HO1.out.txt.2.1 rfl (by rw [HUL.out]; omega) HE.out)
    rintro e w2 ⟨rfl, ht⟩
    have hM2 := HM1.out.turn ht
    have HT := Lib.hid ht
    clear c0 c1 c2 c3 c4 c5 ht
    obtain ⟨c0, c1, c2, c3, c4, c5⟩ := hM2.cells
    have f2 := hM2.free 2 (by omega)
    have f3 := hM2.free 3 (by omega)
    have f5 := hM2.free 5 (by omega)
    have HM2 := Lib.hid hM2
    clear hM2
    dsimp only at c0 c1 c2 c3 c4 c5
  · go_wp2_with fail
    go_ret
    have h2 := HM2.out.set (i := 2) (u := .int .i64 (units + 1)) (s' := ⟨pol, units + 1, st, false, g, D'⟩) rfl rfl rfl
    have h3 := h2.set (i := 3) (u := .int .i64 1) (s' := ⟨pol, units + 1, 1, false, g, D'⟩) rfl rfl rfl
    have hc1 : Chg (fun k => S k ∨ k = lb ∨ (Value.slice pv g.length cv).ownBlock = some k) w w2 := (Chg.of_below HB1.out).trans HT.out.2 fun k _ h => .inl h
    refine ⟨rfl, _, _, h3, ?_, (fun k hk => .inl hk), ?_⟩
    · rintro k ⟨h1 | h1, _⟩
      · exact .inl h1
      · exact .inr (Nat.le_trans HB1.out.size h1)
    · exact (hc1.trans (Chg.setCell (S := fun j => j = lb) _ _ _ rfl) fun k _ hk => .inr (.inl hk)).trans (Chg.setCell (S := fun j => j = lb) _ _ _ rfl) fun k _ hk => .inr (.inl hk)
  · have HMc := Lib.hid (HM2.out.set (i := 2) (u := .int .i64 (units + 1)) (s' := ⟨pol, units + 1, st, true, g, D'⟩) rfl rfl rfl)
    have hlb := row_lt HH.out.row
    have hsz := HB1.out.size
    have hrb : Rd8 (w2.setCell ⟨lb, 2, none⟩ (.int .i64 (units + 1))) pb (unitB k) := by
      have h1 := HO1.out.txt.2.2.2.2
      refine Chg.rd (Chg.setCell (S := fun j => j = lb) _ _ _ rfl) (Chg.rd HT.out.2 HO1.out.txt.2.1 fun a ha hs => ?_) fun a ha e => ?_
      · have := HH.out.lt _ hs; have := (h1 a ha).1; omega
      · have := (h1 a ha).1; have e' : a.block = lb := e; omega
    have HRB := Lib.hid hrb
    have HLB := Lib.hid (show (by8 (unitB k)).length = (unitB k).length * 1 from by8_mul _)
    clear hrb hlb hsz
    go_wp2_with (((with_reducible refine L_appR slB Try.underlying31 HMc.out.own HRB.out (by8_one _) HLB.out ?_ ?_ ?_ ?_ ?_); (focus rfl); (focus rfl); (focus exact ⟨_, rfl⟩); (focus (have h1 := HUL.out; dsimp only; exact ⟨room1 (by omega), by omega, Nat.zero_le _⟩)); intro v4 w4 ho4 ha4 hk4 hn4; clear hn4 hk4; have hr4 := HMc.out.app_row ha4; have f4 := row_free hr4; obtain ⟨c0, c1, c2, c3, c4, c5⟩ := row_cells hr4; have f3 := f4 3 (by omega); have f5 := f4 5 (by omega); clear f4; (try dsimp only at ho4); obtain ⟨p4, cap4, rfl, _, _⟩ := ho4.shape; have HO4 := Lib.hid ho4; have HA4 := Lib.hid ha4; clear ho4 ha4 hr4; dsimp only at c0 c1 c2 c3 c4 c5; simp only [Act.put, List.setIfInBounds_toArray, List.set_cons_zero, List.set_cons_succ]))
    go_ret
    have hc1 : Chg (fun k => S k ∨ k = lb ∨ (Value.slice pv g.length cv).ownBlock = some k) w w2 := (Chg.of_below HB1.out).trans HT.out.2 fun k _ h => .inl h
    have hc2 := hc1.trans (Chg.setCell (S := fun j => j = lb) w2 ⟨lb, 2, none⟩ (.int .i64 (units + 1)) rfl) fun k _ hk => .inr (.inl hk)
    have hc3 := hc2.trans (Chg.of_grown (S := fun j => (Value.slice pv g.length cv).ownBlock = some j) HA4.out.by_ fun k hk => hk) fun k _ hk => .inr (.inr hk)
    have hc4 := (hc3.trans (Chg.setCell (S := fun j => j = lb) w4 ⟨lb, 5, none⟩ (Value.slice p4 (g.length + (unitB k).length) cap4) rfl) fun k _ hk => .inr (.inl hk)).trans (Chg.setCell (S := fun j => j = lb) _ ⟨lb, 3, none⟩ (.int .i64 1) rfl) fun k _ hk => .inr (.inl hk)
    have ho := HO4.out
    have ha := HA4.out
    rw [← by8_append, ← List.length_append] at ho
    rw [← List.length_append] at ha
    have hm := (HMc.out.gather (b := unitB k) ho ha).set (i := 3) (u := .int .i64 1) (s' := ⟨pol, units + 1, 1, true, g ++ unitB k, D'⟩) rfl rfl rfl
    rw [List.length_append] at hm
    refine ⟨rfl, _, _, hm, ?_, fun k hk => ?_, hc4⟩
    · rintro k ⟨h1 | h1, _⟩
      · exact .inl h1
      · exact .inr (Nat.le_trans HB1.out.size h1)
    · rcases HA4.out.new with hn | hn
      · exact .inl (by rw [← hn]; exact hk)
      · exact .inr (Nat.le_trans hc2.size (hn k hk))
set_option maxHeartbeats 2000000 in
set_option maxRecDepth 20000 in
theorem ladd_safe (k : List UInt8) (hk1 : 1 ≤ k.length) (hk2 : k.length ≤ 16) {units st : Int} {g : List UInt8} {D : Files0} (h : LogM S w db lb v r ⟨0, units, st, false, g, D⟩) (hu : 0 ≤ units ∧ units ≤ 1000000) (hn : D.length ≤ 1000000)
    (p : Option Addr) (c : Nat) (hr : Rd w p (effC k)) {D' D2 : Files0} (he : appendD logName (unitB k) D r false = (D', 0)) (he2 : syncD logName D' false = (D2, 0)) :
    Calls Try.prog 14 #[.pointer (some ⟨lb, 0, none⟩), .slice p 1 c] w fun e w' => e = .returned (.int .i64 0) ∧ ∃ S', LogM S' w' db lb v r ⟨0, units + 1, 0, false, g, D2⟩ ∧ (∀ k, S' k → S k ∨ w.heap.size ≤ k) ∧ Chg (fun k => S k ∨ k = lb) w w' := by
  have HR := Lib.hid hr
  have HH := Lib.hid h
  have HE := Lib.hid he
  have HE2 := Lib.hid he2
  clear hr h he he2
  go_enter Try.func14, Try.ntmps14
  go_wp2_with fail
  go_fit (write_one k hk1 hk2 p c w HR.out)
  rintro e w1 ⟨vb, rfl, ho1, hb1⟩
  obtain ⟨pb, cb, rfl, _, _⟩ := ho1.shape
  have hM1 := HH.out.below hb1
  obtain ⟨c0, c1, c2, c3, c4, c5⟩ := hM1.cells
  have HM1 := Lib.hid hM1
  have HO1 := Lib.hid ho1
  have HB1 := Lib.hid hb1
  have HUL := Lib.hid (unitB_len k)
  clear hM1 ho1 hb1
  go_wp2_with fail
  go_fit (append_S HM1.out.disk hn (unitB k) HO1.out.txt.2.1 rfl (by rw [HUL.out]; omega) HE.out)
  rintro e w2 ⟨rfl, ht⟩
  have hM2 := HM1.out.turn ht
  have HT := Lib.hid ht
  clear c0 c1 c2 c3 c4 c5 ht
  obtain ⟨c0, c1, c2, c3, c4, c5⟩ := hM2.cells
  have f2 := hM2.free 2 (by omega)
  have f3 := hM2.free 3 (by omega)
  have h2 := hM2.set (i := 2) (u := .int .i64 (units + 1)) (s' := ⟨0, units + 1, st, false, g, D'⟩) rfl rfl rfl
  have h3 := h2.set (i := 3) (u := .int .i64 1) (s' := ⟨0, units + 1, 1, false, g, D'⟩) rfl rfl rfl
  have H3 := Lib.hid h3
  clear hM2 h2 h3
  dsimp only at c0 c1 c2 c3 c4 c5
  go_wp2_with fail
  go_fit (lsync_any H3.out HE2.out)
  rintro e w3 ⟨rfl, hm, hs, hc⟩
  have HM3 := Lib.hid hm
  have HC3 := Lib.hid hc
  have HS3 := Lib.hid hs
  clear hm hc hs c0 c1 c2 c3 c4 c5 f2 f3
  go_wp2_with fail
  go_ret
  have hc1 : Chg (fun k => S k ∨ k = lb) w w2 := (Chg.of_below HB1.out).trans HT.out.2 fun k _ h => .inl h
  have hc2 := (hc1.trans (Chg.setCell (S := fun j => j = lb) w2 ⟨lb, 2, none⟩ (.int .i64 (units + 1)) rfl) fun k _ hk => .inr hk).trans (Chg.setCell (S := fun j => j = lb) _ ⟨lb, 3, none⟩ (.int .i64 1) rfl) fun k _ hk => .inr hk
  have hsz := HB1.out.size
  have hsz2 := hc2.size
  refine ⟨rfl, _, HM3.out, ?_, hc2.trans HC3.out ?_⟩
  · rintro k ⟨(⟨h1 | h1, _⟩ | h1), _⟩
    · exact .inl h1
    · exact .inr (Nat.le_trans HB1.out.size h1)
    · exact .inr (Nat.le_trans hsz2 h1)
  · rintro k hk (⟨h1 | h1, _⟩ | h1)
    · exact .inl h1
    · omega
    · exact .inr h1
set_option maxHeartbeats 1000000 in
set_option maxRecDepth 20000 in
theorem ladd_nil (w : World) : Calls Try.prog 14 #[.pointer (some ⟨lb, 0, none⟩), .slice none 0 0] w fun e w' => e = .returned (.int .i64 0) ∧ w = w' := by
  go_enter Try.func14, Try.ntmps14
  go_wp2_with fail
  go_ret
  exact ⟨rfl, rfl⟩
set_option maxHeartbeats 1000000 in
set_option maxRecDepth 20000 in
theorem ltick_never {units st : Int} {side : Bool} {g : List UInt8} {D : Files0} (h : LogM S w db lb v r ⟨2, units, st, side, g, D⟩) : Calls Try.prog 15 #[.pointer (some ⟨lb, 0, none⟩)] w fun e w' => e = .returned (.int .i64 0) ∧ w = w' := by
  obtain ⟨c0, c1, c2, c3, c4, c5⟩ := h.cells
  dsimp only at c0 c1 c2 c3 c4 c5
  clear h
  go_enter Try.func15, Try.ntmps15
  go_wp2_with fail
  go_ret
  exact ⟨rfl, rfl⟩
set_option maxHeartbeats 1000000 in
set_option maxRecDepth 20000 in
theorem ltick_ticks {units : Int} {side : Bool} {g : List UInt8} {D D' : Files0} (h : LogM S w db lb v r ⟨1, units, 1, side, g, D⟩) (he : syncD logName D false = (D', 0)) : Calls Try.prog 15 #[.pointer (some ⟨lb, 0, none⟩)] w fun e w' => e = .returned (.int .i64 0) ∧ LogM (fun k => Up S w k ∧ k < w'.heap.size) w' db lb v r ⟨1, units, 0, side, g, D'⟩ ∧ w.heap.size ≤ w'.heap.size ∧ Chg (fun k => S k ∨ k = lb) w w' := by
  obtain ⟨c0, c1, c2, c3, c4, c5⟩ := h.cells
  have HH := Lib.hid h
  have HE := Lib.hid he
  dsimp only at c0 c1 c2 c3 c4 c5
  clear h he
  go_enter Try.func15, Try.ntmps15
  go_wp2_with fail
  go_fit (lsync_any HH.out HE.out)
  rintro e w3 ⟨rfl, hm, hs, hc⟩
  have HM3 := Lib.hid hm
  have HC3 := Lib.hid hc
  have HS3 := Lib.hid hs
  clear hm hc hs c0 c1 c2 c3 c4 c5
  go_wp2_with fail
  go_ret
  exact ⟨rfl, HM3.out, HS3.out, HC3.out⟩
set_option maxHeartbeats 1000000 in
set_option maxRecDepth 20000 in
theorem lside_on (h : LogM S w db lb v r s) : Calls Try.prog 12 #[.pointer (some ⟨lb, 0, none⟩), .bool true] w fun e w' => e = .returned (.tuple #[]) ∧ LogM S w' db lb (.slice none 0 0) r { s with side := true, g := [] } ∧ w.heap.size ≤ w'.heap.size ∧ Chg (fun k => k = lb) w w' := by
  obtain ⟨c0, c1, c2, c3, c4, c5⟩ := h.cells
  have f4 := h.free 4 (by omega)
  have f5 := h.free 5 (by omega)
  have HH := Lib.hid h
  clear h
  go_enter Try.func12, Try.ntmps12
  go_wp2_with fail
  go_end0
  have h2 := (HH.out.set (i := 4) (u := .bool true) (s' := { s with side := true }) rfl rfl rfl).reset
  have hc := (Chg.setCell (S := fun j => j = lb) w ⟨lb, 4, none⟩ (.bool true) rfl).trans (Chg.setCell (S := fun j => j = lb) _ ⟨lb, 5, none⟩ (.slice none 0 0) rfl) fun k _ hk => hk
  exact ⟨rfl, h2, hc.size, hc⟩
set_option maxHeartbeats 1000000 in
set_option maxRecDepth 20000 in
theorem lgathered_any (h : LogM S w db lb v r s) (hg : s.g.length ≤ 1000000) : Calls Try.prog 20 #[.pointer (some ⟨lb, 0, none⟩)] w fun e w' => ∃ p c, e = .returned (.slice p s.g.length c) ∧ Rd8 w' p s.g ∧ Below w.heap.size w w' := by
  obtain ⟨c0, c1, c2, c3, c4, c5⟩ := h.cells
  obtain ⟨pv, cv, rfl, hr, _⟩ := h.own.shape
  have HR := Lib.hid hr
  have HL := Lib.hid h.own.1
  clear h hr
  go_enter Try.func20, Try.ntmps20
  go_wp2_with (((with_reducible refine L_appR slB Try.underlying31 (OwnS.none (base := w.heap.size)) HR.out (by8_one _) HL.out ?_ ?_ ?_ ?_ ?_); (focus rfl); (focus rfl); (focus exact ⟨_, rfl⟩); (focus exact ⟨room1 (by omega), by omega, Nat.le_refl _⟩); intro v4 w4 ho4 ha4 hk4 hn4; clear hn4; (try simp only [Nat.zero_add, List.nil_append] at ho4); have HO4 := Lib.hid ho4; have HA4 := Lib.hid ha4; have HK4 := Lib.hid hk4; clear ho4 ha4 hk4; simp only [Act.put, List.setIfInBounds_toArray, List.set_cons_zero, List.set_cons_succ]))
  go_ret
  obtain ⟨p4, cap4, rfl, hr4, _⟩ := HO4.out.shape
  exact ⟨p4, cap4, rfl, hr4, HA4.out.below (Below.refl _ _) (Nat.le_refl _) HK4.out⟩
end
end Go.Proofs.Ytblmnaejkdkndaa
