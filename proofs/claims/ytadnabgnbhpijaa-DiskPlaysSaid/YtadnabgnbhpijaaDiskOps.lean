/- The walks over package disk: what turns a file, or a name. -/
import Derived.Test.YtadnabgnbhpijaaDiskWalks
import Derived.Test.YtadnabgnbhpijaaDiskPlain
set_option linter.unusedSimpArgs false
set_option linter.unusedVariables false
namespace Go.Proofs.Ytadnabgnbhpijaa
open Go.RowKit Go.Maps

/-- the call tells a code, and the disk is D then -/
def Does (S : Nat → Prop) (w : World) (db : Nat) (r : Files0 × Int) (room : Nat) (down : Bool) (e : Ending) (w' : World) : Prop :=
  e = .returned (.int .i64 r.2) ∧ DiskTo S w w' db r.1 room down
section
variable {S : Nat → Prop} {w : World} {db mb room : Nat} {down : Bool} {D : Files0} {E : List (List UInt8 × FileM)} {x : FileM}

theorem new_any (room : Int) (w : World) (h0 : 0 ≤ room) (h1 : room ≤ 16777216) :
    Calls Try.prog 13 #[.int .i64 room] w fun e w' => ∃ db, e = .returned (.tuple #[.pointer (some ⟨db, 0, none⟩), .int .i64 0]) ∧ DiskAt (w.heap.size ≤ ·) w' db [] room.toNat false ∧ Below w.heap.size w w' := by
  have hmm := @run_makeMap Try.prog
  have d1 : decide (room < 0) = false := by simp; omega
  have d2 : decide ((16777216 : Int) < room) = false := by simp; omega
  go_enter Try.func13, Try.ntmps13
  go_wp2_with fail
  go_ret2
  refine ⟨_, rfl, ?_, ((Below.refl _ _).alloc (Nat.le_refl _) _).alloc (by simp) _⟩
  have hm := OwnM.made w Try.prog 9
  have hr : (room.toNat : Int) = room := Int.toNat_of_nonneg h0
  refine ⟨w.heap.size, [], ⟨by simp, Nat.le_refl _, ?_, hm.below ((Below.refl _ _).alloc (Nat.le_refl _) _), ⟨by simp, List.Pairwise.nil⟩, by omega, by simp [usedD, kMap]⟩, rfl⟩
  rw [hr]
  have e : (w.alloc (.map #[] 0)).heap.size = w.heap.size + 1 := by simp
  rw [← e]
  exact heap_alloc_new _ _
theorem new_bad (room : Int) (w : World) (h : room < 0 ∨ 16777216 < room) :
    Calls Try.prog 13 #[.int .i64 room] w fun e w' => e = .returned (.tuple #[.pointer none, .int .i64 7]) ∧ w = w' := by
  by_cases h0 : room < 0
  · have d1 : decide (room < 0) = true := by simp; omega
    clear h h0
    go_enter Try.func13, Try.ntmps13
    go_wp2_with fail
    go_ret2
    exact ⟨rfl, rfl⟩
  · have d1 : decide (room < 0) = false := by simp; omega
    have d2 : decide ((16777216 : Int) < room) = true := by simp; omega
    clear h h0
    go_enter Try.func13, Try.ntmps13
    go_wp2_with fail
    go_ret2
    exact ⟨rfl, rfl⟩

theorem sync_any (h : DiskAt S w db D room down) (name : List UInt8) (hl : name.length ≤ maxLen) :
    Calls Try.prog 15 #[.pointer (some ⟨db, 0, none⟩), .string (str name)] w (Does S w db (syncD name D down) room down) := by
  obtain ⟨mb, E, hd, rfl⟩ := h
  have HD := Lib.hid hd
  have hg := get_file name E
  unfold syncD
  cases hdown : down
  · subst hdown
    cases hx : kGet name E with
    | none =>
      rw [hx] at hg
      rw [hg]
      clear hd hg
      go_enter Try.func15, Try.ntmps15
      have HX := Lib.hid hx; clear hx
      go_wp2_with (refine (find_none HD.out hl HX.out).mono ?_; rintro e w' ⟨rfl, rfl⟩)
      go_ret
      exact ⟨rfl, DiskAt.to_same ⟨mb, E, HD.out, rfl⟩⟩
    | some x =>
      rw [hx] at hg
      rw [hg]
      have hf : FileAt S w x := hd.files.at_ _ (kGet_some hx)
      have hlen := hd.len_le hx
      obtain ⟨p, cap, hv, _, _⟩ := hf.own.shape
      have f0 := hf.cells.1
      rw [hv] at f0
      obtain ⟨f1, hfr⟩ : w.cell? ⟨x.fb, 1, none⟩ = some (.int .i64 (x.f.sync : Int)) ∧ w.frozen? ⟨x.fb, 1, none⟩ = false := ⟨hf.cells.2, hf.free.2⟩
      have HX := Lib.hid hx
      have HF := Lib.hid hf
      have HV := Lib.hid hv
      clear hd hg hf hx hv
      go_enter Try.func15, Try.ntmps15
      go_wp2_with (refine (find_some HD.out hl HX.out).mono ?_; rintro e w' ⟨rfl, rfl⟩)
      go_ret
      refine ⟨rfl, ?_⟩
      exact HD.out.putFile (f' := ⟨x.f.b, x.f.b.length⟩) HX.out (Chg.setCell _ _ _ rfl) (setCell_row HF.out.row 1 _) HF.out.own (fun k hk => hk) (Nat.le_refl _) (Nat.le_refl _)
  · subst hdown
    clear hd hg
    go_enter Try.func15, Try.ntmps15
    go_wp2_with (refine (find_down HD.out _).mono ?_; rintro e w' ⟨rfl, rfl⟩)
    go_ret
    exact ⟨rfl, DiskAt.to_same ⟨mb, E, HD.out, rfl⟩⟩

theorem take_by8 (l : List UInt8) (n : Nat) : (by8 l).take n = by8 (l.take n) := (by8_take l n).symm
theorem run_slice_cut {p : Option Addr} {n cap : Nat} (m : Nat) (hm : m ≤ cap) (w : World) :
    (Instr.slice 22 (.slice p n cap) none (some (.int .i64 (m : Int))) (some (.int .i64 (m : Int)))).run Try.prog w = .ok (.slice p m m) w := by
  rw [run_slice_hm w 22 p n cap (by rw [slB.elem]; exact slB.und) .i64 .i64 (m : Int) (m : Int) (by omega) (by omega) (by omega), slB.elem, slB.size w]
  have := shift_zero p m 1
  unfold shift at this
  simp only [Result.andThen_ok, sliced, Int.toNat_natCast, Nat.sub_zero, this]
theorem OwnS.cut {w : World} {base : Nat} {e : TypeId} {p : Option Addr} {n cap m : Nat} {l : List UInt8} (h : OwnS w base e 1 (.slice p n cap) n (by8 l)) (hm : m ≤ n) : OwnS w base e 1 (.slice p m m) m (by8 (l.take m)) := by
  rcases h.2 with ⟨h0, rfl⟩ | ⟨g, cap', cur, fr, h0, hb, hg, hf, hn, hmx, hs, ht⟩
  · cases h0
    obtain rfl : m = 0 := by omega
    exact OwnS.none
  · cases h0
    refine OwnS.mkLe g m cur fr hb hg hf (Nat.le_refl _) (by omega) (by omega) ?_
    rw [by8_take, ← ht, List.take_take]
    congr 1
    omega
set_option maxRecDepth 20000 in
theorem cut_any (h : DiskAt S w db D room down) (name : List UInt8) (n : Int) (hl : name.length ≤ maxLen) :
    Calls Try.prog 55 #[.pointer (some ⟨db, 0, none⟩), .string (str name), .int .i64 n] w (Does S w db (cutD name n D down) room down) := by
  obtain ⟨mb, E, hd, rfl⟩ := h
  have HD := Lib.hid hd
  have hg := get_file name E
  unfold cutD
  cases hdown : down
  · subst hdown
    cases hx : kGet name E with
    | none =>
      rw [hx] at hg
      rw [hg]
      clear hd hg
      go_enter Try.func55, Try.ntmps55
      have HX := Lib.hid hx; clear hx
      go_wp2_with (refine (find_none HD.out hl HX.out).mono ?_; rintro e w' ⟨rfl, rfl⟩)
      go_ret
      exact ⟨rfl, DiskAt.to_same ⟨mb, E, HD.out, rfl⟩⟩
    | some x =>
      rw [hx] at hg
      rw [hg]
      have hf : FileAt S w x := hd.files.at_ _ (kGet_some hx)
      have hlen := hd.len_le hx
      obtain ⟨p, cap, hv, _, _⟩ := hf.own.shape
      have f0 := hf.cells.1
      rw [hv] at f0
      obtain ⟨f1, hfr0, hfr1⟩ : w.cell? ⟨x.fb, 1, none⟩ = some (.int .i64 (x.f.sync : Int)) ∧ w.frozen? ⟨x.fb, 0, none⟩ = false ∧ w.frozen? ⟨x.fb, 1, none⟩ = false := ⟨hf.cells.2, hf.free.1, hf.free.2⟩
      have HX := Lib.hid hx
      have HF := Lib.hid hf
      have HV := Lib.hid hv
      clear hd hg hf hx hv
      show Calls _ _ _ _ (Does S w db (if n < 0 ∨ (x.f.b.length : Int) < n then (kMap FileM.f E, 7) else (kSet name ⟨x.f.b.take n.toNat, n.toNat⟩ (kMap FileM.f E), 0)) room false)
      by_cases hn : n < 0 ∨ (x.f.b.length : Int) < n
      · rw [if_pos hn]
        by_cases h0 : n < 0
        · have d1 : decide (n < 0) = true := by simp; omega
          clear hn h0
          go_enter Try.func55, Try.ntmps55
          go_wp2_with (refine (find_some HD.out hl HX.out).mono ?_; rintro e w' ⟨rfl, rfl⟩)
          go_ret
          exact ⟨rfl, DiskAt.to_same ⟨mb, E, HD.out, rfl⟩⟩
        · have d1 : decide (n < 0) = false := by simp; omega
          have d2 : decide ((x.f.b.length : Int) < n) = true := by simp; omega
          clear hn h0
          go_enter Try.func55, Try.ntmps55
          go_wp2_with (refine (find_some HD.out hl HX.out).mono ?_; rintro e w' ⟨rfl, rfl⟩)
          go_ret
          exact ⟨rfl, DiskAt.to_same ⟨mb, E, HD.out, rfl⟩⟩
      · rw [if_neg hn]
        obtain ⟨m, rfl⟩ : ∃ m : Nat, n = (m : Int) := ⟨n.toNat, by omega⟩
        have hm : m ≤ x.f.b.length := by omega
        simp only [Int.toNat_natCast]
        have hown := HF.out.own
        rw [HV.out] at hown
        have hcap : m ≤ cap := Nat.le_trans hm hown.txt.2.2.1
        have hrun := run_slice_cut (p := p) (n := x.f.b.length) (cap := cap) m hcap w
        have d1 : decide ((m : Int) < 0) = false := by simp
        have d2 : decide ((x.f.b.length : Int) < (m : Int)) = false := by simp; omega
        have hown' := hown.cut hm
        have HW := Lib.hid hown'
        clear hn hown hown' hcap
        go_enter Try.func55, Try.ntmps55
        go_wp2_with (refine (find_some HD.out hl HX.out).mono ?_; rintro e w' ⟨rfl, rfl⟩)
        go_ret
        refine ⟨rfl, ?_⟩
        refine HD.out.putFile (f' := ⟨x.f.b.take m, m⟩) HX.out (Chg.trans (S := fun j => j = x.fb) (T := fun j => j = x.fb) (Chg.setCell _ ⟨x.fb, 0, none⟩ _ rfl) (Chg.setCell _ ⟨x.fb, 1, none⟩ _ rfl) fun _ _ h => h) (setCell_row (setCell_row HF.out.row 0 (.slice p m m)) 1 (.int .i64 (m : Int))) ?_ ?_ ?_ ?_
        · have e : (x.f.b.take m).length = m := by rw [List.length_take]; omega
          show OwnS w 0 _ 1 _ (x.f.b.take m).length _
          rw [e]; exact HW.out
        · intro k hk; rw [HV.out]; cases p with | none => cases hk | some a => exact hk
        · show m ≤ (x.f.b.take m).length
          rw [List.length_take]; omega
        · show (x.f.b.take m).length ≤ _
          rw [List.length_take]; omega
  · subst hdown
    clear hd hg
    go_enter Try.func55, Try.ntmps55
    go_wp2_with (refine (find_down HD.out _).mono ?_; rintro e w' ⟨rfl, rfl⟩)
    go_ret
    exact ⟨rfl, DiskAt.to_same ⟨mb, E, HD.out, rfl⟩⟩
theorem delete_any (h : DiskAt S w db D room down) (name : List UInt8) (hl : name.length ≤ maxLen) :
    Calls Try.prog 24 #[.pointer (some ⟨db, 0, none⟩), .string (str name)] w (Does S w db (deleteD name D down) room down) := by
  obtain ⟨mb, E, hd, rfl⟩ := h
  have HD := Lib.hid hd
  have hg := get_file name E
  obtain ⟨c0, c1, c2⟩ := hd.cells
  unfold deleteD
  cases hdown : down
  · subst hdown
    cases hx : kGet name E with
    | none =>
      rw [hx] at hg
      rw [hg]
      clear hd hg
      go_enter Try.func24, Try.ntmps24
      have HX := Lib.hid hx; clear hx
      go_wp2_with (refine (find_none HD.out hl HX.out).mono ?_; rintro e w' ⟨rfl, rfl⟩)
      go_ret
      exact ⟨rfl, DiskAt.to_same ⟨mb, E, HD.out, rfl⟩⟩
    | some x =>
      rw [hx] at hg
      rw [hg]
      have HX := Lib.hid hx
      clear hd hg hx
      go_enter Try.func24, Try.ntmps24
      go_wp2_with (first
        | (refine (find_some HD.out hl HX.out).mono ?_; rintro e w' ⟨rfl, rfl⟩)
        | ((with_reducible refine L_mdel isS Try.underlying72 HD.out.map (k := name) ?_ ?_ hl ?_); (focus rfl); (focus rfl); intro w1 hm1 ht1; simp only [Act.put, List.setIfInBounds_toArray, List.set_cons_zero, List.set_cons_succ]))
      go_ret
      refine ⟨rfl, ?_⟩
      rw [← kDel_map] at hm1
      have hd1 := HD.out.setMap (E' := kDel name E) ht1 hm1 (HD.out.files.del name) (by rw [kDel_map]; exact Nat.le_trans (usedD_del _ _) HD.out.used_le)
      exact DiskM.toAt hd1.1 hd1.2 (by rw [kDel_map])
  · subst hdown
    clear hd hg
    go_enter Try.func24, Try.ntmps24
    go_wp2_with (refine (find_down HD.out _).mono ?_; rintro e w' ⟨rfl, rfl⟩)
    go_ret
    exact ⟨rfl, DiskAt.to_same ⟨mb, E, HD.out, rfl⟩⟩
theorem read_any (h : DiskAt S w db D room down) (name : List UInt8) (hl : name.length ≤ maxLen) :
    Calls Try.prog 18 #[.pointer (some ⟨db, 0, none⟩), .string (str name)] w fun e w' =>
      ∃ v, e = .returned (.tuple #[v, .int .i64 (readD name D down).2]) ∧ OwnS w' w.heap.size 5 1 v (readD name D down).1.length (by8 (readD name D down).1) ∧ Below w.heap.size w w' := by
  obtain ⟨mb, E, hd, rfl⟩ := h
  have HD := Lib.hid hd
  have hg := get_file name E
  unfold readD
  cases hdown : down
  · subst hdown
    cases hx : kGet name E with
    | none =>
      rw [hx] at hg
      rw [hg]
      clear hd hg
      go_enter Try.func18, Try.ntmps18
      have HX := Lib.hid hx; clear hx
      go_wp2_with (refine (find_none HD.out hl HX.out).mono ?_; rintro e w' ⟨rfl, rfl⟩)
      go_ret2
      exact ⟨_, rfl, OwnS.none, Below.refl _ _⟩
    | some x =>
      rw [hx] at hg
      rw [hg]
      have hf : FileAt S w x := hd.files.at_ _ (kGet_some hx)
      have hlen := hd.len_le hx
      obtain ⟨p, cap, hv, hrd, _⟩ := hf.own.shape
      have f0 := hf.cells.1
      rw [hv] at f0
      have HX := Lib.hid hx
      have HR := Lib.hid hrd
      have hlt := row_lt hf.row
      clear hd hg hf hx hv hrd
      go_enter Try.func18, Try.ntmps18
      go_wp2_with (first
        | (refine (find_some HD.out hl HX.out).mono ?_; rintro e w' ⟨rfl, rfl⟩)
        | ((with_reducible refine L_appR slB Try.underlying22 (OwnS.fresh (base := w.heap.size) (Nat.le_refl _)) (HR.out.alloc _) (by8_one _) (by8_mul _) ?_ ?_ ?_ ?_ ?_); (focus rfl); (focus rfl); (focus exact ⟨_, rfl⟩); (focus exact ⟨room1 (by omega), by omega, by simp⟩); intro v1 w1 ho1 hg1 hk1 hn1; clear hn1; have hb1 := App.below hg1 ((Below.refl _ _).alloc (Nat.le_refl _) _) (by simp) hk1; clear hg1 hk1; simp only [Nat.zero_add, List.nil_append] at ho1; simp only [Act.put, List.setIfInBounds_toArray, List.set_cons_zero, List.set_cons_succ]))
      go_ret2
      exact ⟨_, rfl, ho1, hb1⟩
  · subst hdown
    clear hd hg
    go_enter Try.func18, Try.ntmps18
    go_wp2_with (refine (find_down HD.out _).mono ?_; rintro e w' ⟨rfl, rfl⟩)
    go_ret2
    exact ⟨_, rfl, OwnS.none, Below.refl _ _⟩
theorem start_any (h : DiskAt S w db D room down) :
    Calls Try.prog 17 #[.pointer (some ⟨db, 0, none⟩)] w (Does S w db (D, if down then 0 else 23) room false) := by
  obtain ⟨mb, E, hd, rfl⟩ := h
  obtain ⟨c0, c1, c2⟩ := hd.cells
  have hfr := hd.free.2.2
  have HD := Lib.hid hd
  clear hd
  cases hdown : down
  · subst hdown
    go_enter Try.func17, Try.ntmps17
    go_wp2_with fail
    go_ret
    exact ⟨rfl, DiskAt.to_same ⟨mb, E, HD.out, rfl⟩⟩
  · subst hdown
    go_enter Try.func17, Try.ntmps17
    go_wp2_with fail
    go_ret
    refine ⟨rfl, ?_⟩
    have hd1 := HD.out.setDisk (i := 2) (u := .bool false) (room' := room) (down' := false) rfl HD.out.room_le
    exact DiskM.toAt hd1.1 hd1.2 rfl
theorem room_any (h : DiskAt S w db D room down) (n : Int) :
    Calls Try.prog 19 #[.pointer (some ⟨db, 0, none⟩), .int .i64 n] w fun e w' => e = .returned (.tuple #[]) ∧ DiskTo S w w' db D (roomD n) down := by
  obtain ⟨mb, E, hd, rfl⟩ := h
  obtain ⟨c0, c1, c2⟩ := hd.cells
  have hfr := hd.free.2.1
  have HD := Lib.hid hd
  clear hd
  go_enter Try.func19, Try.ntmps19
  go_wp2_with fail
  all_goals
    go_end0
    refine ⟨rfl, ?_⟩
    have hd2 := HD.out.setDisk (i := 1) (u := .int .i64 ((roomD n : Nat) : Int)) (room' := roomD n) (down' := down) rfl (by unfold roomD; omega)
    first
      | (have e : ((roomD n : Nat) : Int) = 0 := by unfold roomD; omega
         rw [e] at hd2; exact DiskM.toAt hd2.1 hd2.2 rfl)
      | (have e : ((roomD n : Nat) : Int) = 16777216 := by unfold roomD; omega
         rw [e] at hd2; exact DiskM.toAt hd2.1 hd2.2 rfl)
      | (have e : ((roomD n : Nat) : Int) = n := by unfold roomD; omega
         rw [e] at hd2; exact DiskM.toAt hd2.1 hd2.2 rfl)
theorem synced_some (h : DiskM S w db mb E room down) {name : List UInt8} (hl : name.length ≤ maxLen) (hx : kGet name E = some x) :
    Calls Try.prog 22 #[.pointer (some ⟨db, 0, none⟩), .string (str name)] w fun e w' => e = .returned (.int .i64 (x.f.sync : Int)) ∧ w = w' := by
  have hr := look_some h hl hx
  obtain ⟨c0, c1, c2⟩ := h.cells
  have hf := h.files.at_ _ (kGet_some hx)
  have f0 := hf.cells.2
  clear h hx hl hf
  go_enter Try.func22, Try.ntmps22
  go_wp2_with fail
  go_ret
  exact ⟨rfl, rfl⟩
theorem synced_none (h : DiskM S w db mb E room down) {name : List UInt8} (hl : name.length ≤ maxLen) (hx : kGet name E = none) :
    Calls Try.prog 22 #[.pointer (some ⟨db, 0, none⟩), .string (str name)] w fun e w' => e = .returned (.int .i64 0) ∧ w = w' := by
  have hr := look_none h hl hx
  obtain ⟨c0, c1, c2⟩ := h.cells
  clear h hx hl
  go_enter Try.func22, Try.ntmps22
  go_wp2_with fail
  go_ret
  exact ⟨rfl, rfl⟩
end
end Go.Proofs.Ytadnabgnbhpijaa
