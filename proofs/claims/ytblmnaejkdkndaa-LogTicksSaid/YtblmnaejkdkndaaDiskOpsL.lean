/- The walks over package disk: what turns a file, or a name. -/
import Derived.Test.YtblmnaejkdkndaaDiskWalks
import Derived.Test.YtblmnaejkdkndaaDiskPlain
set_option linter.unusedSimpArgs false
set_option linter.unusedVariables false
namespace Go.Proofs.Ytblmnaejkdkndaa
open Go.RowKit Go.Maps

/-- the call tells a code, and the disk is D then -/
def Does (S : Nat → Prop) (w : World) (db : Nat) (r : Files0 × Int) (room : Nat) (down : Bool) (e : Ending) (w' : World) : Prop :=
  e = .returned (.int .i64 r.2) ∧ DiskTo S w w' db r.1 room down
section
variable {S : Nat → Prop} {w : World} {db mb room : Nat} {down : Bool} {D : Files0} {E : List (List UInt8 × FileM)} {x : FileM}

theorem new_any (room : Int) (w : World) (h0 : 0 ≤ room) (h1 : room ≤ 16777216) :
    Calls Try.prog 10 #[.int .i64 room] w fun e w' => ∃ db, e = .returned (.tuple #[.pointer (some ⟨db, 0, none⟩), .int .i64 0]) ∧ DiskAt (w.heap.size ≤ ·) w' db [] room.toNat false ∧ Below w.heap.size w w' := by
  have hmm := @run_makeMap Try.prog
  have d1 : decide (room < 0) = false := by simp; omega
  have d2 : decide ((16777216 : Int) < room) = false := by simp; omega
  go_enter Try.func10, Try.ntmps10
  go_wp2_with fail
  go_ret2
  refine ⟨_, rfl, ?_, ((Below.refl _ _).alloc (Nat.le_refl _) _).alloc (by simp) _⟩
  have hm := OwnM.made w Try.prog 9
  have hr : (room.toNat : Int) = room := Int.toNat_of_nonneg h0
  refine ⟨w.heap.size, [], ⟨by simp, Nat.le_refl _, ?_, hm.below ((Below.refl _ _).alloc (Nat.le_refl _) _), ⟨by simp, List.Pairwise.nil⟩, by omega, by simp [usedD, kMap]⟩, rfl⟩
  rw [hr]
  have e : (w.alloc (.map #[] 0)).heap.size = w.heap.size + 1 := by simp
  rw [← e]
  exact heap_alloc_new _ _
theorem sync_any (h : DiskAt S w db D room down) (name : List UInt8) (hl : name.length ≤ maxLen) :
    Calls Try.prog 60 #[.pointer (some ⟨db, 0, none⟩), .string (str name)] w (Does S w db (syncD name D down) room down) := by
  obtain ⟨mb, E, hd, rfl⟩ := h
  have HD := Lib.hid hd
  have hg := get_file name E
  unfold syncD
  cases hdown : down
  · subst hdown
    cases hx : kGet name E with
    | none =>
      rw [hx] at hg
      rw [hg]
      clear hd hg
      go_enter Try.func60, Try.ntmps60
      have HX := Lib.hid hx; clear hx
      go_wp2_with (refine (find_none HD.out hl HX.out).mono ?_; rintro e w' ⟨rfl, rfl⟩)
      go_ret
      exact ⟨rfl, DiskAt.to_same ⟨mb, E, HD.out, rfl⟩⟩
    | some x =>
      rw [hx] at hg
      rw [hg]
      have hf : FileAt S w x := hd.files.at_ _ (kGet_some hx)
      have hlen := hd.len_le hx
      obtain ⟨p, cap, hv, _, _⟩ := hf.own.shape
      have f0 := hf.cells.1
      rw [hv] at f0
      obtain ⟨f1, hfr⟩ : w.cell? ⟨x.fb, 1, none⟩ = some (.int .i64 (x.f.sync : Int)) ∧ w.frozen? ⟨x.fb, 1, none⟩ = false := ⟨hf.cells.2, hf.free.2⟩
      have HX := Lib.hid hx
      have HF := Lib.hid hf
      have HV := Lib.hid hv
      clear hd hg hf hx hv
      go_enter Try.func60, Try.ntmps60
      go_wp2_with (refine (find_some HD.out hl HX.out).mono ?_; rintro e w' ⟨rfl, rfl⟩)
      go_ret
      refine ⟨rfl, ?_⟩
      exact HD.out.putFile (f' := ⟨x.f.b, x.f.b.length⟩) HX.out (Chg.setCell _ _ _ rfl) (setCell_row HF.out.row 1 _) HF.out.own (fun k hk => hk) (Nat.le_refl _) (Nat.le_refl _)
  · subst hdown
    clear hd hg
    go_enter Try.func60, Try.ntmps60
    go_wp2_with (refine (find_down HD.out _).mono ?_; rintro e w' ⟨rfl, rfl⟩)
    go_ret
    exact ⟨rfl, DiskAt.to_same ⟨mb, E, HD.out, rfl⟩⟩

theorem take_by8 (l : List UInt8) (n : Nat) : (by8 l).take n = by8 (l.take n) := (by8_take l n).symm
theorem run_slice_cut {p : Option Addr} {n cap : Nat} (m : Nat) (hm : m ≤ cap) (w : World) :
    (Instr.slice 31 (.slice p n cap) none (some (.int .i64 (m : Int))) (some (.int .i64 (m : Int)))).run Try.prog w = .ok (.slice p m m) w := by
  rw [run_slice_hm w 31 p n cap (by rw [slB.elem]; exact slB.und) .i64 .i64 (m : Int) (m : Int) (by omega) (by omega) (by omega), slB.elem, slB.size w]
  have := shift_zero p m 1
  unfold shift at this
  simp only [Result.andThen_ok, sliced, Int.toNat_natCast, Nat.sub_zero, this]
theorem OwnS.cut {w : World} {base : Nat} {e : TypeId} {p : Option Addr} {n cap m : Nat} {l : List UInt8} (h : OwnS w base e 1 (.slice p n cap) n (by8 l)) (hm : m ≤ n) : OwnS w base e 1 (.slice p m m) m (by8 (l.take m)) := by
  rcases h.2 with ⟨h0, rfl⟩ | ⟨g, cap', cur, fr, h0, hb, hg, hf, hn, hmx, hs, ht⟩
  · cases h0
    obtain rfl : m = 0 := by omega
    exact OwnS.none
  · cases h0
    refine OwnS.mkLe g m cur fr hb hg hf (Nat.le_refl _) (by omega) (by omega) ?_
    rw [by8_take, ← ht, List.take_take]
    congr 1
    omega
theorem read_any (h : DiskAt S w db D room down) (name : List UInt8) (hl : name.length ≤ maxLen) :
    Calls Try.prog 17 #[.pointer (some ⟨db, 0, none⟩), .string (str name)] w fun e w' =>
      ∃ v, e = .returned (.tuple #[v, .int .i64 (readD name D down).2]) ∧ OwnS w' w.heap.size 5 1 v (readD name D down).1.length (by8 (readD name D down).1) ∧ Below w.heap.size w w' := by
  obtain ⟨mb, E, hd, rfl⟩ := h
  have HD := Lib.hid hd
  have hg := get_file name E
  unfold readD
  cases hdown : down
  · subst hdown
    cases hx : kGet name E with
    | none =>
      rw [hx] at hg
      rw [hg]
      clear hd hg
      go_enter Try.func17, Try.ntmps17
      have HX := Lib.hid hx; clear hx
      go_wp2_with (refine (find_none HD.out hl HX.out).mono ?_; rintro e w' ⟨rfl, rfl⟩)
      go_ret2
      exact ⟨_, rfl, OwnS.none, Below.refl _ _⟩
    | some x =>
      rw [hx] at hg
      rw [hg]
      have hf : FileAt S w x := hd.files.at_ _ (kGet_some hx)
      have hlen := hd.len_le hx
      obtain ⟨p, cap, hv, hrd, _⟩ := hf.own.shape
      have f0 := hf.cells.1
      rw [hv] at f0
      have HX := Lib.hid hx
      have HR := Lib.hid hrd
      have hlt := row_lt hf.row
      clear hd hg hf hx hv hrd
      go_enter Try.func17, Try.ntmps17
      go_wp2_with (first
        | (refine (find_some HD.out hl HX.out).mono ?_; rintro e w' ⟨rfl, rfl⟩)
        | ((with_reducible refine L_appR slB Try.underlying31 (OwnS.fresh (base := w.heap.size) (Nat.le_refl _)) (HR.out.alloc _) (by8_one _) (by8_mul _) ?_ ?_ ?_ ?_ ?_); (focus rfl); (focus rfl); (focus exact ⟨_, rfl⟩); (focus exact ⟨room1 (by omega), by omega, by simp⟩); intro v1 w1 ho1 hg1 hk1 hn1; clear hn1; have hb1 := App.below hg1 ((Below.refl _ _).alloc (Nat.le_refl _) _) (by simp) hk1; clear hg1 hk1; simp only [Nat.zero_add, List.nil_append] at ho1; simp only [Act.put, List.setIfInBounds_toArray, List.set_cons_zero, List.set_cons_succ]))
      go_ret2
      exact ⟨_, rfl, ho1, hb1⟩
  · subst hdown
    clear hd hg
    go_enter Try.func17, Try.ntmps17
    go_wp2_with (refine (find_down HD.out _).mono ?_; rintro e w' ⟨rfl, rfl⟩)
    go_ret2
    exact ⟨_, rfl, OwnS.none, Below.refl _ _⟩
theorem synced_some (h : DiskM S w db mb E room down) {name : List UInt8} (hl : name.length ≤ maxLen) (hx : kGet name E = some x) :
    Calls Try.prog 16 #[.pointer (some ⟨db, 0, none⟩), .string (str name)] w fun e w' => e = .returned (.int .i64 (x.f.sync : Int)) ∧ w = w' := by
  have hr := look_some h hl hx
  obtain ⟨c0, c1, c2⟩ := h.cells
  have hf := h.files.at_ _ (kGet_some hx)
  have f0 := hf.cells.2
  clear h hx hl hf
  go_enter Try.func16, Try.ntmps16
  go_wp2_with fail
  go_ret
  exact ⟨rfl, rfl⟩
theorem synced_none (h : DiskM S w db mb E room down) {name : List UInt8} (hl : name.length ≤ maxLen) (hx : kGet name E = none) :
    Calls Try.prog 16 #[.pointer (some ⟨db, 0, none⟩), .string (str name)] w fun e w' => e = .returned (.int .i64 0) ∧ w = w' := by
  have hr := look_none h hl hx
  obtain ⟨c0, c1, c2⟩ := h.cells
  clear h hx hl
  go_enter Try.func16, Try.ntmps16
  go_wp2_with fail
  go_ret
  exact ⟨rfl, rfl⟩
end
end Go.Proofs.Ytblmnaejkdkndaa
