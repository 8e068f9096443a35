/- The walks over package disk: Used, Append, Rename. -/
import Derived.Test.YtblmnaejkdkndaaDiskOpsL
import Derived.Test.YtblmnaejkdkndaaDiskNames
import Derived.Deep.RegionHeld3
set_option linter.unusedSimpArgs false
set_option linter.unusedVariables false
namespace Go.Proofs.Ytblmnaejkdkndaa
open Go.RowKit Go.Maps
section
variable {S : Nat → Prop} {w : World} {db mb room : Nat} {down : Bool} {D : Files0} {E : List (List UInt8 × FileM)} {x : FileM}

theorem used_append (E F : List (List UInt8 × FileM)) : usedD (kMap FileM.f (E ++ F)) = usedD (kMap FileM.f E) + usedD (kMap FileM.f F) := by
  simp only [usedD, kMap, List.map_append, List.sum_append]
theorem used_take (E : List (List UInt8 × FileM)) (k : Nat) (h : k < E.length) : usedD (kMap FileM.f (E.take (k + 1))) = usedD (kMap FileM.f (E.take k)) + E[k].2.f.b.length := by
  rw [List.take_succ_eq_append_getElem h, used_append]
  rfl
theorem used_take_le (E : List (List UInt8 × FileM)) (k : Nat) : usedD (kMap FileM.f (E.take k)) ≤ usedD (kMap FileM.f E) := by
  have h : usedD (kMap FileM.f E) = usedD (kMap FileM.f (E.take k)) + usedD (kMap FileM.f (E.drop k)) := by
    have := List.take_append_drop k E
    conv => lhs; rw [← this]
    exact used_append _ _
  omega

set_option maxHeartbeats 400000 in
set_option maxRecDepth 20000 in
theorem used_m (h : DiskM S w db mb E room down) (hn : E.length ≤ 1000000) :
    Calls Try.prog 59 #[.pointer (some ⟨db, 0, none⟩)] w fun e w' => e = .returned (.int .i64 (usedD (kMap FileM.f E) : Int)) ∧ Below w.heap.size w w' := by
  have HD := Lib.hid h
  clear h
  go_enter Try.func59, Try.ntmps59
  go_wp2_with fail
  go_fit (names_any HD.out hn)
  rintro e w1 ⟨v1, rfl, ho1, hb1⟩
  obtain ⟨p1, cap1, rfl, hr1, _⟩ := ho1.shape
  have HR := Lib.hid hr1
  have HB := Lib.hid hb1
  have HD1 := Lib.hid (HD.out.below hb1)
  clear ho1 hr1 hb1
  go_wp2_with fail
  go_loop [3, 9] (fun n i => ∃ k : Nat, k ≤ E.length ∧ i = .int .i64 k ∧ n = .int .i64 (usedD (kMap FileM.f (E.take k)) : Int)) (fun _ i => E.length - (intOf i).toNat)
  case atStart => exact ⟨0, Nat.zero_le _, rfl, rfl⟩
  case round =>
    obtain ⟨k, hk, rfl, rfl⟩ := hrel
    have hle := used_take_le E k
    have hle2 := HD.out.used_le
    by_cases hlt : k < E.length
    · obtain ⟨b, o, rfl, hc⟩ := HR.out.at (k := k) (by simpa using hlt)
      have c := hc k (by simpa using hlt)
      simp only [List.getElem_map] at c
      have hkey := HD.out.map.keys isS (E[k].1, fptr E[k].2) (List.mem_map_of_mem (f := fun p : List UInt8 × FileM => (p.1, fptr p.2)) (List.getElem_mem hlt))
      have hg := kGet_of_mem HD.out.srt (List.getElem_mem hlt : (E[k].1, E[k].2) ∈ E)
      have hs := used_take E k hlt
      have hle3 := used_take_le E (k + 1)
      have HC := Lib.hid (And.intro hkey hg)
      have HS := Lib.hid hs
      rw [hs] at hle3
      clear hc hkey hg hs
      go_wp2_with fail
      go_fit (size_some HD1.out HC.out.1 HC.out.2)
      rintro e w2 ⟨rfl, rfl⟩
      go_wp2_with fail
      go_round
      case rel => exact ⟨k + 1, by omega, by go_num, by rw [HS.out]; go_num⟩
      case measure => simp [intOf]; omega
    · obtain rfl : k = E.length := by omega
      go_wp2_with fail
      go_ret
      exact ⟨rfl, HB.out⟩
theorem used_any (h : DiskAt S w db D room down) (hn : D.length ≤ 1000000) :
    Calls Try.prog 59 #[.pointer (some ⟨db, 0, none⟩)] w fun e w' => e = .returned (.int .i64 (usedD D : Int)) ∧ Below w.heap.size w w' := by
  obtain ⟨mb, E, hd, rfl⟩ := h
  exact used_m hd (by rwa [kMap_len] at hn)

theorem kDel_kIns {α : Type} (k : List UInt8) (u : α) : ∀ M : List (List UInt8 × α), kDel k (kIns (k, u) M) = kDel k M
  | [] => by simp [kIns, kDel]
  | y :: r => by
    have ih := kDel_kIns k u r
    unfold kDel at ih ⊢
    simp only [kIns]
    split
    · rw [List.filter_cons_of_neg (by simp)]
    · by_cases h : y.1 = k
      · rw [List.filter_cons_of_neg (by simpa using h), List.filter_cons_of_neg (by simpa using h), ih]
      · rw [List.filter_cons_of_pos (by simpa using h), List.filter_cons_of_pos (by simpa using h), ih]
theorem kDel_kDel {α : Type} (k : List UInt8) (M : List (List UInt8 × α)) : kDel k (kDel k M) = kDel k M := by
  unfold kDel; rw [List.filter_filter]; simp
theorem kGet_kIns {α : Type} (k : List UInt8) (u : α) : ∀ M : List (List UInt8 × α), (∀ p ∈ M, p.1 ≠ k) → kGet k (kIns (k, u) M) = some u
  | [], _ => by simp [kIns, kGet]
  | y :: r, h => by
    simp only [kIns]
    split
    · simp [kGet]
    · have hy := h y (List.mem_cons_self)
      have ih := kGet_kIns k u r fun p hp => h p (List.mem_cons_of_mem _ hp)
      simpa [kGet, List.find?_cons, hy] using ih
theorem kGet_put {α : Type} (k : List UInt8) (u : α) (M : List (List UInt8 × α)) : kGet k (kPut k u M) = some u := kGet_kIns k u _ fun p hp => (mem_kDel.1 hp).2
theorem kSet_put {α : Type} {k : List UInt8} {u v : α} {M : List (List UInt8 × α)} (hs : Srt M) : kSet k v (kPut k u M) = kPut k v M := by
  rw [← kPut_set hs.put (kGet_put k u M)]
  unfold kPut
  rw [kDel_kIns, kDel_kDel]
theorem DiskM.appFile {name b : List UInt8} (h : DiskM S w db mb E room down) (hx : kGet name E = some x) {v' : Value} {w1 : World} (ho : OwnS w1 0 5 1 v' (x.f.b.length + b.length) (by8 x.f.b ++ by8 b)) (ha : App w w1 x.v v')
    (hu : usedD (kMap FileM.f E) + b.length ≤ 16777216) : DiskTo S w (w1.setCell ⟨x.fb, 0, none⟩ v') db (kSet name ⟨x.f.b ++ b, x.f.sync⟩ (kMap FileM.f E)) room down := by
  have hf : FileAt S w x := h.files.at_ _ (kGet_some hx)
  have hne : ∀ k, x.v.ownBlock = some k → k ≠ x.fb := fun k hk e => by
    obtain ⟨cur, fr, hr⟩ := hf.own.rowOf hk
    exact row_ne hr hf.row (by simp only [ne_eq, Obj.cells.injEq, not_and]; intro _ h; exact absurd h (by decide)) e
  have hlt := row_lt hf.row
  have hne' : ∀ k, v'.ownBlock = some k → k ≠ x.fb := fun k hk e => by
    rcases ha.new with hn | hn
    · exact hne k (by rw [← hn]; exact hk) e
    · have := hn k hk; omega
  have hrow : w1.heap[x.fb]? = some (.cells #[x.v, .int .i64 (x.f.sync : Int)] 85 (0, 0)) := by
    rw [ha.by_.block x.fb hlt (fun e => hne _ e.symm rfl)]; exact hf.row
  have hc1 : Chg (fun j => j = x.fb ∨ x.v.ownBlock = some j) w w1 := Chg.of_grown ha.by_ fun k e => .inr e
  have hc2 : Chg (fun j => j = x.fb) w1 (w1.setCell ⟨x.fb, 0, none⟩ v') := Chg.setCell _ _ _ rfl
  have hg : kGet name (kMap FileM.f E) = some x.f := by rw [get_file, hx]; rfl
  have hs := usedD_set (k := name) (g := ⟨x.f.b ++ b, x.f.sync⟩) (Srt.map.2 h.srt) hg
  simp only [List.length_append] at hs
  have hd := h.setFile (S' := Up S w) (y := ⟨x.fb, v', ⟨x.f.b ++ b, x.f.sync⟩⟩) (fun k hk => .inl hk) hx (hc1.trans hc2 fun k _ e => .inl e)
    ⟨.inl hf.fb, setCell_row hrow 0 v', by
      have := ho.chg hc2 (fun k hk e => hne' k hk e)
      rw [by8_append, List.length_append]; exact this, fun k hk => by
      rcases ha.new with hn | hn
      · exact .inl (hf.ob k (by rw [← hn]; exact hk))
      · exact .inr (hn k hk), by have := hf.le; simp only [List.length_append]; omega⟩ rfl (fun j hj => by
      rcases ha.new with hn | hn
      · exact .inl (by rw [← hn]; exact hj)
      · exact .inr (hn j hj)) (by
    rw [kSet_map]
    show usedD (kSet name ⟨x.f.b ++ b, x.f.sync⟩ (kMap FileM.f E)) ≤ _
    omega)
  exact DiskM.toAt hd.1 hd.2 (by rw [kSet_map])
theorem FileAt.app_cells (hf : FileAt S w x) {v0 v' : Value} {w1 : World} (hv : x.v = v0) (ha : App w w1 v0 v') : w1.cell? ⟨x.fb, 0, none⟩ = some v0 ∧ w1.frozen? ⟨x.fb, 0, none⟩ = false := by
  subst hv
  have hlt := row_lt hf.row
  have hrow : w1.heap[x.fb]? = some (.cells #[x.v, .int .i64 (x.f.sync : Int)] 85 (0, 0)) := by
    rw [ha.by_.block x.fb hlt (fun e => by
      obtain ⟨cur, fr, hr⟩ := hf.own.rowOf e.symm
      exact row_ne hr hf.row (by simp only [ne_eq, Obj.cells.injEq, not_and]; intro _ h; exact absurd h (by decide)) rfl)]
    exact hf.row
  exact ⟨by simp [World.cell?, hrow], by simp [World.frozen?, hrow]⟩
theorem DiskTo.pre {w2 w3 : World} {D : Files0} (hb : Below w.heap.size w w2) (h : DiskTo S w2 w3 db D room down) : DiskTo S w w3 db D room down :=
  ⟨h.1.mono fun k hk => by
    rcases hk with hk | hk
    · exact .inl hk
    · exact .inr (Nat.le_trans hb.size hk), (Chg.of_below (S := S) hb).trans h.2 fun _ _ h => h⟩
theorem DiskAt.to_below {w2 : World} {D : Files0} (h : DiskAt S w db D room down) (hb : Below w.heap.size w w2) : DiskTo S w w2 db D room down :=
  DiskTo.pre hb (h.below hb).to_same
/-- a file without bytes is made -/
theorem DiskM.newFile {name : List UInt8} (h : DiskM S w db mb E room down) (hx : kGet name E = none) {w2 : World} (ht : (w.alloc (.cells #[.slice none 0 0, .int .i64 0] 85)).mapTurned w2 mb)
    (hm : OwnM Try.prog 9 w2 mb (kPut name (.pointer (some ⟨w.heap.size, 0, none⟩)) (kMap fptr E))) :
    DiskM (Up S w) w2 db mb (kPut name ⟨w.heap.size, .slice none 0 0, ⟨[], 0⟩⟩ E) room down ∧ Chg S w w2 := by
  have hb : Below w.heap.size w (w.alloc (.cells #[.slice none 0 0, .int .i64 0] 85)) := (Below.refl _ _).alloc (Nat.le_refl _) _
  have h1 := (h.below hb).mono (T := Up S w) (fun k hk => .inl hk)
  have hfile : FileAt (Up S w) (w.alloc (.cells #[.slice none 0 0, .int .i64 0] 85)) ⟨w.heap.size, .slice none 0 0, ⟨[], 0⟩⟩ :=
    ⟨.inr (Nat.le_refl _), heap_alloc_new _ _, OwnS.none, fun k hk => by simp [Value.ownBlock] at hk, Nat.le_refl _⟩
  have e1 : kMap fptr (kPut name (⟨w.heap.size, .slice none 0 0, ⟨[], 0⟩⟩ : FileM) E) = kPut name (.pointer (some ⟨w.heap.size, 0, none⟩)) (kMap fptr E) := kPut_map _ _ _ _
  have hd := h1.setMap (E' := kPut name ⟨w.heap.size, .slice none 0 0, ⟨[], 0⟩⟩ E) ht (by rw [e1]; exact hm) (by
    unfold kPut
    exact (h1.files.del name).ins hfile fun p hp => ⟨fun e => by
      have := row_lt (h.files.at_ p (mem_kDel.1 hp).1).row
      simp only at e; omega, fun k hk => by simp [Value.ownBlock] at hk⟩) (by
    rw [kPut_map, usedD_put]
    have := usedD_del name (kMap FileM.f E)
    have := h.used_le
    simp only [List.length_nil]
    omega)
  have hu : Up (Up S w) (w.alloc (.cells #[.slice none 0 0, .int .i64 0] 85)) = Up S w := by
    funext k
    apply propext
    exact ⟨fun hk => Up.up (by simp) hk, fun hk => .inl hk⟩
  rw [hu] at hd
  refine ⟨hd.1, (Chg.of_below (S := S) hb).trans hd.2 fun k hk hS => ?_⟩
  rcases hS with hS | hS
  · exact hS
  · omega

theorem used_at (h : DiskM S w db mb E room down) (hn : E.length ≤ 1000000) : ∀ u, Below w.heap.size w u →
    Calls Try.prog 59 #[.pointer (some ⟨db, 0, none⟩)] u fun e w' => e = .returned (.int .i64 (usedD (kMap FileM.f E) : Int)) ∧ Below w.heap.size w w' := fun u hu =>
  (used_m (h.below hu) hn).mono fun e w' ⟨he, hb⟩ => ⟨he, hu.trans (hb.mono hu.size)⟩

set_option maxHeartbeats 1000000 in
set_option maxRecDepth 20000 in
theorem append_any (h : DiskAt S w db D room down) (hn : D.length ≤ 1000000) (name b : List UInt8) (hl : name.length ≤ maxLen) {p : Option Addr} {c : Nat} (hr : Rd8 w p b) (hbl : b.length ≤ 70368744177664) :
    Calls Try.prog 36 #[.pointer (some ⟨db, 0, none⟩), .string (str name), .slice p b.length c] w (Does S w db (appendD name b D room down) room down) := by
  obtain ⟨mb, E, hd, rfl⟩ := h
  rw [kMap_len] at hn
  have HD := Lib.hid hd
  have HR := Lib.hid hr
  have hg := get_file name E
  obtain ⟨c0, c1, c2⟩ := hd.cells
  have hroom := hd.room_le
  have hul := hd.used_le
  have hm := may_any name w hl
  have hg0 := rg_below (w := w) (fun u hu => used_m (hd.below hu) hn)
  have HG := Lib.hid hg0
  have HM := Lib.hid hm
  have hk : ∀ u, Below w.heap.size w u → Below w.heap.size w u ∧ u.cell? ⟨db, 1, none⟩ = some (.int .i64 (room : Int)) := fun u hu => ⟨hu, by rw [hu.cell (p := ⟨db, 1, none⟩) (row_lt HD.out.row)]; exact c1⟩
  have HK := Lib.hid hk
  clear hd hr hg0 hm hk
  generalize hused : usedD (kMap FileM.f E) = used at *
  unfold appendD
  rw [hused, hg]
  have HE := Lib.hid hused
  clear hused hg
  cases hdown : down
  · subst hdown
    rw [if_neg (by simp)]
    cases hmay : mayN name
    · rw [if_neg (by simp)]
      have hmay' : decide (1 ≤ name.length ∧ name.length ≤ 64) = false := hmay
      rw [hmay'] at HM
      clear hmay hmay'
      cases hx : kGet name E with
      | none =>
        have HX := Lib.hid hx; clear hx
        go_enter Try.func36, Try.ntmps36
        go_wp2_with (first
          | (go_at_call 38; refine (find_none HD.out hl HX.out).mono ?_; rintro e w' ⟨rfl, rfl⟩)
          | (go_at_call 58; refine HM.out.mono ?_; rintro e w' ⟨rfl, rfl⟩))
        go_ret
        exact ⟨rfl, DiskAt.to_same ⟨mb, E, HD.out, rfl⟩⟩
      | some x =>
        have HX := Lib.hid hx; clear hx
        go_enter Try.func36, Try.ntmps36
        go_wp2_with (first
          | (go_at_call 38; refine (find_some HD.out hl HX.out).mono ?_; rintro e w' ⟨rfl, rfl⟩)
          | (go_at_call 58; refine HM.out.mono ?_; rintro e w' ⟨rfl, rfl⟩))
        go_ret
        exact ⟨rfl, DiskAt.to_same ⟨mb, E, HD.out, rfl⟩⟩
    · rw [if_pos rfl]
      have hmay' : decide (1 ≤ name.length ∧ name.length ≤ 64) = true := hmay
      rw [hmay'] at HM
      clear hmay hmay'
      by_cases hfit : used + b.length ≤ room
      · rw [if_pos hfit]
        have d1 : decide (room < used) = false := by simp; omega
        have d1' : decide ((room : Int) < (used : Int)) = false := by simp; omega
        have d2 : decide ((room : Int) - (used : Int) < (b.length : Int)) = false := by simp; omega
        have e2 : IntKind.i64.wrap ((room : Int) - (used : Int)) = (room : Int) - (used : Int) := IntWalk.i64_in _ (by omega)
        cases hx : kGet name E with
        | none =>
          show Calls _ _ _ _ (Does S w db (kPut name ⟨b, 0⟩ (kMap FileM.f E), 0) room false)
          have HX := Lib.hid hx
          have HFIT := Lib.hid hfit
          clear hx hfit
          go_enter Try.func36, Try.ntmps36
          go_wp2_with (first
            | (go_at_call 38; refine (find_none HD.out hl HX.out).mono ?_; rintro e w' ⟨rfl, rfl⟩)
            | (go_at_call 58; refine HM.out.mono ?_; rintro e w' ⟨rfl, rfl⟩))
          have c1r := cell_regrown c1
          refine wp_region_quiet_below (by kernel_rfl) (by kernel_rfl) ?_; (repeat (first | go_big_quiet_step (first | with_reducible exact HG.out _ _ | fail) | quiet_step (first | with_reducible exact HG.out _ _ | fail))); refine wpQuiet_nil ?_; intro _ hw'; obtain ⟨⟨dq, osq⟩, hw''⟩ := hw'; subst hw''; have hq := below_regrown w dq osq; generalize Go.Sort.grow (redrawn w dq) osq = w2 at *; clear dq osq
          have HB2 := Lib.hid hq
          have c02 : w2.cell? ⟨db, 0, none⟩ = some (.map (some mb)) := (HD.out.below hq).cells.1
          have hdb2 : db < w2.heap.size := row_lt (HD.out.below hq).row
          have hmb := fun o => (HD.out.below hq).map.below ((Below.refl w2.heap.size w2).alloc (Nat.le_refl _) o)
          have HMB := Lib.hid hmb
          clear hmb
          clear hq
          go_wp2_with (first
            | ((with_reducible refine L_mput isS Try.underlying78 (HMB.out (Obj.cells #[Value.slice none 0 0, Value.int IntKind.i64 0] 85)) (k := name) (v := .pointer (some ⟨w2.heap.size, 0, none⟩)) ?_ ?_ ?_ ?_ ?_); (focus rfl); (focus rfl); (focus rfl); (focus exact ⟨hl, by rw [kMap_len]; unfold maxLen; omega⟩); intro w4 hm4 ht4; obtain ⟨hd4, hc4⟩ := (HD.out.below HB2.out).newFile HX.out ht4 hm4; have hf4 : FileAt (Up S w2) w4 ⟨w2.heap.size, .slice none 0 0, ⟨[], 0⟩⟩ := hd4.files.at_ _ (kGet_some (kGet_put name _ E)); have c4 : w4.cell? ⟨w2.heap.size, 0, none⟩ = some (.slice none 0 0) := hf4.cells.1; have hb24 := hc4.size; have hr4 := Rd.turned ((HR.out.below HB2.out).alloc _) ht4; have HR4 := Lib.hid hr4; have HD4 := Lib.hid hd4; have HC4 := Lib.hid hc4; have HF4 := Lib.hid hf4; clear hm4 ht4 hd4 hc4 hf4 hr4; simp only [Act.put, List.setIfInBounds_toArray, List.set_cons_zero, List.set_cons_succ])
            | ((with_reducible refine L_appR slB Try.underlying31 (OwnS.none (base := 0)) HR4.out (by8_one _) (by8_mul _) ?_ ?_ ?_ ?_ ?_); (focus rfl); (focus rfl); (focus exact ⟨_, rfl⟩); (focus exact ⟨room1 (by omega), by omega, Nat.zero_le _⟩); intro v3 w3 ho3 hg3 hk3 hn3; clear hn3 hk3; obtain ⟨c6, z6⟩ := HF4.out.app_cells rfl hg3; obtain ⟨p3, cap3, rfl, _, _⟩ := ho3.shape; have HO3 := Lib.hid ho3; have HG3 := Lib.hid hg3; clear ho3 hg3; simp only [Act.put, List.setIfInBounds_toArray, List.set_cons_zero, List.set_cons_succ]))
          go_ret
          refine ⟨rfl, DiskTo.pre HB2.out ?_⟩
          have h5 : DiskTo (Up S w2) w4 (w3.setCell ⟨w2.heap.size, 0, none⟩ (.slice p3 (0 + b.length) cap3)) db (kSet name ⟨[] ++ b, 0⟩ (kMap FileM.f (kPut name (⟨w2.heap.size, .slice none 0 0, ⟨[], 0⟩⟩ : FileM) E))) room false := HD4.out.appFile (kGet_put name _ E) HO3.out HG3.out (by
            rw [kPut_map, usedD_put]
            have h1 := usedD_del name (kMap FileM.f E)
            have h2 := HE.out
            have h3 := HFIT.out
            simp only [List.length_nil]
            omega)
          rw [kPut_map, List.nil_append, kSet_put (Srt.map.2 HD.out.srt), Nat.zero_add] at h5
          exact ⟨h5.1.mono fun k hk => Up.up HC4.out.size hk, HC4.out.trans h5.2 fun k hk hu => by
            rcases hu with hu | hu
            · exact hu
            · omega⟩
        | some x =>
          show Calls _ _ _ _ (Does S w db (kSet name ⟨x.f.b ++ b, x.f.sync⟩ (kMap FileM.f E), 0) room false)
          have hf : FileAt S w x := HD.out.files.at_ _ (kGet_some hx)
          have hlen := HD.out.len_le hx
          obtain ⟨q, cap, hv, _, _⟩ := hf.own.shape
          have HX := Lib.hid hx
          have HF := Lib.hid hf
          have HV := Lib.hid hv
          have HFIT := Lib.hid hfit
          clear hx hf hv hfit
          go_enter Try.func36, Try.ntmps36
          go_wp2_with (first
            | (go_at_call 38; refine (find_some HD.out hl HX.out).mono ?_; rintro e w' ⟨rfl, rfl⟩)
            | (go_at_call 58; refine HM.out.mono ?_; rintro e w' ⟨rfl, rfl⟩))
          have c1r := cell_regrown c1
          refine wp_region_quiet_below (by kernel_rfl) (by kernel_rfl) ?_; (repeat (first | go_big_quiet_step (first | with_reducible exact HG.out _ _ | fail) | quiet_step (first | with_reducible exact HG.out _ _ | fail))); refine wpQuiet_nil ?_; intro _ hw'; obtain ⟨⟨dq, osq⟩, hw''⟩ := hw'; subst hw''; have hq := below_regrown w dq osq; generalize Go.Sort.grow (redrawn w dq) osq = w2 at *; clear dq osq
          have HB2 := Lib.hid hq
          have hf2 : FileAt S w2 x := (HD.out.below hq).files.at_ _ (kGet_some HX.out)
          have c5 := hf2.cells.1
          rw [HV.out] at c5
          have hown := hf2.own
          rw [HV.out] at hown
          have HO := Lib.hid hown
          have HF2 := Lib.hid hf2
          clear hown hf2 hq HF
          go_wp2_with ((with_reducible refine L_appR slB Try.underlying31 HO.out (HR.out.below HB2.out) (by8_one _) (by8_mul _) ?_ ?_ ?_ ?_ ?_); (focus rfl); (focus rfl); (focus exact ⟨_, rfl⟩); (focus exact ⟨room1 (by omega), by omega, Nat.zero_le _⟩); intro v3 w3 ho3 hg3 hk3 hn3; clear hn3 hk3; obtain ⟨c6, z6⟩ := HF2.out.app_cells HV.out hg3; obtain ⟨p3, cap3, rfl, _, _⟩ := ho3.shape; have HO3 := Lib.hid ho3; have HG3 := Lib.hid hg3; clear ho3 hg3; simp only [Act.put, List.setIfInBounds_toArray, List.set_cons_zero, List.set_cons_succ])
          go_ret
          refine ⟨rfl, DiskTo.pre HB2.out ?_⟩
          exact (HD.out.below HB2.out).appFile HX.out HO3.out (by rw [HV.out]; exact HG3.out) (by rw [HE.out]; have := HFIT.out; omega)
      · rw [if_neg hfit]
        obtain ⟨pv, cc, hfind, g1, g2⟩ : ∃ (pv : Value) (cc : Int), Calls Try.prog 38 #[.pointer (some ⟨db, 0, none⟩), .string (str name)] w (fun e w' => e = .returned (.tuple #[pv, .int .i64 cc]) ∧ w = w') ∧ (cc == 24) = false ∧ (cc == 23) = false := by
          cases hx : kGet name E with
          | none => exact ⟨_, _, find_none HD.out hl hx, by decide, by decide⟩
          | some x => exact ⟨_, _, find_some HD.out hl hx, by decide, by decide⟩
        have HFi := Lib.hid hfind
        by_cases hgt : room < used
        · have d1 : decide (room < used) = true := by simp; omega
          have d1' : decide ((room : Int) < (used : Int)) = true := by simp; omega
          clear hfind hfit hgt
          go_enter Try.func36, Try.ntmps36
          go_wp2_with (first
            | (go_at_call 38; refine HFi.out.mono ?_; rintro e w' ⟨rfl, rfl⟩)
            | (go_at_call 58; refine HM.out.mono ?_; rintro e w' ⟨rfl, rfl⟩))
          have c1r := cell_regrown c1
          refine wp_region_quiet_below (by kernel_rfl) (by kernel_rfl) ?_; (repeat (first | go_big_quiet_step (first | with_reducible exact HG.out _ _ | fail) | quiet_step (first | with_reducible exact HG.out _ _ | fail))); refine wpQuiet_nil ?_; intro _ hw'; obtain ⟨⟨dq, osq⟩, hw''⟩ := hw'; subst hw''; have hq := below_regrown w dq osq; generalize Go.Sort.grow (redrawn w dq) osq = w2 at *; clear dq osq
          go_wp2_with fail
          go_ret
          exact ⟨rfl, DiskAt.to_below ⟨mb, E, HD.out, rfl⟩ hq⟩
        · have d1 : decide (room < used) = false := by simp; omega
          have d1' : decide ((room : Int) < (used : Int)) = false := by simp; omega
          have d2 : decide ((room : Int) - (used : Int) < (b.length : Int)) = true := by simp; omega
          have e2 : IntKind.i64.wrap ((room : Int) - (used : Int)) = (room : Int) - (used : Int) := IntWalk.i64_in _ (by omega)
          clear hfind hfit hgt
          go_enter Try.func36, Try.ntmps36
          go_wp2_with (first
            | (go_at_call 38; refine HFi.out.mono ?_; rintro e w' ⟨rfl, rfl⟩)
            | (go_at_call 58; refine HM.out.mono ?_; rintro e w' ⟨rfl, rfl⟩))
          have c1r := cell_regrown c1
          refine wp_region_quiet_below (by kernel_rfl) (by kernel_rfl) ?_; (repeat (first | go_big_quiet_step (first | with_reducible exact HG.out _ _ | fail) | quiet_step (first | with_reducible exact HG.out _ _ | fail))); refine wpQuiet_nil ?_; intro _ hw'; obtain ⟨⟨dq, osq⟩, hw''⟩ := hw'; subst hw''; have hq := below_regrown w dq osq; generalize Go.Sort.grow (redrawn w dq) osq = w2 at *; clear dq osq
          go_wp2_with fail
          go_ret
          exact ⟨rfl, DiskAt.to_below ⟨mb, E, HD.out, rfl⟩ hq⟩
  · subst hdown
    go_enter Try.func36, Try.ntmps36
    go_wp2_with (refine (find_down HD.out _).mono ?_; rintro e w' ⟨rfl, rfl⟩)
    go_ret
    exact ⟨rfl, DiskAt.to_same ⟨mb, E, HD.out, rfl⟩⟩

end
end Go.Proofs.Ytblmnaejkdkndaa
