/- The walk over CommandLetters. -/
import Derived.Test.YtecpkoigjnpkfaaCmdKeysWalk
import Derived.Deep.RegionHeld3
set_option linter.unusedSimpArgs false
set_option linter.unusedVariables false
namespace Go.Proofs.Ytecpkoigjnpkfaa
open Go.RowKit Cmd

theorem rows_letters : rowsL.all (fun r => r.name.all fun c => decide (65 ≤ c ∧ c ≤ 90)) = true := by decide +kernel
theorem row_letters {r : CRow} (h : r ∈ rowsL) : ∀ c ∈ r.name, 65 ≤ c ∧ c ≤ 90 := by
  have := List.all_eq_true.1 rows_letters r h
  intro c hc
  simpa using List.all_eq_true.1 this c hc
theorem upB_great {c : UInt8} (h : 65 ≤ c ∧ c ≤ 90) : upB c = c := by
  unfold upB
  rw [if_neg]
  intro h2
  have a1 := UInt8.le_iff_toNat_le.1 h.2
  have a2 := UInt8.le_iff_toNat_le.1 h2.1
  simp at a1 a2; omega
theorem upL_great {l : List UInt8} (h : ∀ c ∈ l, 65 ≤ c ∧ c ≤ 90) : upL l = l := by
  unfold upL
  calc l.map upB = l.map id := List.map_congr_left fun c hc => upB_great (h c hc)
    _ = l := List.map_id l
theorem upL_low {l nm : List UInt8} {k : Nat} (h : upL l = nm) (hk : k < l.length) (h1 : (65 : Int) ≤ (l[k].toNat : Int)) (h2 : (l[k].toNat : Int) ≤ 90) : upL (l.set k (l[k] + 32)) = nm := by
  have hc : 65 ≤ l[k] ∧ l[k] ≤ 90 := ⟨UInt8.le_iff_toNat_le.2 (by simp; omega), UInt8.le_iff_toNat_le.2 (by simp; omega)⟩
  have hlow : upB (l[k] + 32) = l[k] := by
    have e : (l[k] + 32).toNat = l[k].toNat + 32 := by
      have e : (32 : UInt8).toNat = 32 := rfl
      rw [UInt8.toNat_add, e]; omega
    unfold upB
    rw [if_pos ⟨UInt8.le_iff_toNat_le.2 (by rw [e]; simp; omega), UInt8.le_iff_toNat_le.2 (by rw [e]; simp; omega)⟩]
    apply UInt8.toNat_inj.1
    rw [UInt8.toNat_sub_of_le _ _ (UInt8.le_iff_toNat_le.2 (by rw [e]; simp)), e]; simp
  have e1 : upL (l.set k (l[k] + 32)) = (upL l).set k (upB (l[k] + 32)) := by unfold upL; rw [List.map_set]
  have hk' : k < (upL l).length := by rw [upL_len]; exact hk
  have e2 : (upL l)[k] = l[k] := (List.getElem_map (f := upB) (l := l) (h := hk')).trans (upB_great hc)
  rw [e1, hlow, ← h]
  have e3 : (upL l).set k (upL l)[k] = upL l := List.set_getElem_self hk'
  rw [e2] at e3
  exact e3
theorem step_app1 {w : World} {ops : Array Oper} {o : Oper} {a : Act} {K : Act → World → Prop} {Q : Exit → Act → World → Prop} {E : Prop} (hgd : o.guard = none) (s x : Operand)
    (ho : o.op = .call { callee := .builtin .append, args := #[s, x], argTypes := #[22, 22] }) {base : Nat} {v : Value} {n : Nat} {xs : List Value}
    (hown : OwnS w base 9 1 v n xs) (hs : a.eval s = v) {p : Option Addr} {news : List Value} (hr : Rd w p news) (h1 : ∀ u ∈ news, u.oneCell' = true) {m : Nat} (hm : news.length = m * 1) (c : Nat) (hx : a.eval x = .slice p m c)
    (hroom : n + m ≤ maxLen ∧ (n + m) * 16 ≤ 140737488355328 ∧ base ≤ w.heap.size)
    (h : ∀ v' w', OwnS w' base 9 1 v' (n + m) (xs ++ news) → App w w' v v' → K (a.put o.dst v') w') : if Region.wanted o (yielded ops a.tmps) = true then Oper.wp Try.prog o a w K Q else E := by
  have hw : Region.wanted o (yielded ops a.tmps) = true := by simp [Region.wanted, hgd]
  rw [if_pos hw]
  exact wp_append_S s x _ _ ho slVS Try.underlying22 (.inr ⟨_, rfl⟩) hown hs hx (Src.of_rd hr hm) h1 hroom.1 hroom.2.1 hroom.2.2 fun v' w' h2 h3 _ => h v' w' h2 h3
section
variable {w w' : World} {g g' base m sz : Nat} {T : TypeId} {obj : Obj} {s : Value} {v v' vy : Value} {xs : List Value}
theorem row_lt (h : w.heap[g]? = some obj) : g < w.heap.size := (Array.getElem?_eq_some_iff.1 h).1
theorem row_alloc (o : Obj) (h : w.heap[g]? = some obj) : (w.alloc o).heap[g]? = some obj := (Below.heap_alloc w o g (row_lt h)).trans h
theorem row_ne (h : w.heap[g]? = some obj) : g ≠ w.heap.size := Nat.ne_of_lt (row_lt h)
theorem row_app (h : w.heap[g']? = some obj) (ha : App w w' (.slice (some ⟨g, 0, none⟩) 1 1) v') (hne : g' ≠ g) : w'.heap[g']? = some obj :=
  (ha.by_.block g' (row_lt h) (fun e => hne (Option.some.inj e))).trans h
theorem own_lit (h : w.heap[g]? = some (.cells #[s] T (0, 0))) (hb : base ≤ g) : OwnS w base T 1 (.slice (some ⟨g, 0, none⟩) 1 1) 1 [s] :=
  OwnS.mk g 1 #[s] (0, 0) hb h (.inl rfl) (Nat.le_refl _) (by decide) rfl rfl
theorem own_base (h : OwnS w base T sz v m xs) : ∀ k, v.ownBlock = some k → base ≤ k := fun k hk => (h.lt k hk).1
theorem own_ne (h : OwnS w base T sz v m xs) : v.ownBlock ≠ some w.heap.size := fun e => absurd (h.lt _ e).2 (Nat.lt_irrefl _)
theorem own_app (h : OwnS w base T sz vy m xs) (ha : App w w' (.slice (some ⟨g, 0, none⟩) 1 1) v') (hne : vy.ownBlock ≠ some g) : OwnS w' base T sz vy m xs := h.kept ha.by_ (.inr hne)
theorem app_ne (ha : App w w' (.slice (some ⟨g, 0, none⟩) 1 1) v') (hne : g' ≠ g) (hlt : g' < w.heap.size) : v'.ownBlock ≠ some g' := by
  intro e
  rcases ha.new with h | h
  · rw [h] at e; exact hne (Option.some.inj e).symm
  · have := h _ e; omega
end
theorem find_low {l nm : List UInt8} (h : upL l = nm) (h2 : upL nm = nm) : findP l = findP nm := by unfold findP; rw [h, h2]
theorem keysFrom_tail {x y : List UInt8} {a : List (List UInt8)} {last step : Nat} : ∀ (fuel i : Nat), 1 ≤ i → keysFrom (x :: a) last step fuel i = keysFrom (y :: a) last step fuel i
  | 0, _, _ => rfl
  | fuel + 1, i, hi => by
    have ih := keysFrom_tail (x := x) (y := y) (a := a) (last := last) (step := step) fuel (i + step) (by omega)
    unfold keysFrom
    rw [ih]
    obtain ⟨j, rfl⟩ : ∃ j, i = j + 1 := ⟨i - 1, by omega⟩
    rfl
theorem keysFrom_len {a : List (List UInt8)} {last step : Nat} : ∀ (fuel i : Nat), (keysFrom a last step fuel i).length ≤ fuel
  | 0, _ => by simp [keysFrom]
  | fuel + 1, i => by
    have ih := keysFrom_len (a := a) (last := last) (step := step) fuel (i + step)
    unfold keysFrom
    split
    · rw [List.length_cons]; omega
    · simp
theorem keysP_len (a : List (List UInt8)) : (keysP a).length ≤ a.length := by
  by_cases h : fitsP a = 0
  · obtain ⟨x, a', r, rfl, -, -, h2⟩ := fits_some h
    rw [h2]
    unfold keysR
    split
    · exact keysFrom_len _ _
    · simp
  · rw [keysP_no h]; simp
theorem same_low {r : CRow} {l nm : List UInt8} {a : List (List UInt8)} (hr : r ∈ rowsL) (hn : r.name = nm) (h : upL l = nm) (h2 : upL nm = nm) : findP l = findP nm ∧ fitsP (l :: a) = fitsP (nm :: a) ∧ keysP (l :: a) = keysP (nm :: a) := by
  have h1 := find_low h h2
  have hf : findP nm = some r := by rw [← hn]; exact row_found hr
  have hl := h1.trans hf
  have hk : keysR r (l :: a) = keysR r (nm :: a) := by
    unfold keysR
    split
    · exact keysFrom_tail _ _ (by omega)
    · rfl
  refine ⟨h1, ?_, ?_⟩
  · simp only [fitsP, hl, hf]; rfl
  · simp only [keysP, hl, hf]
    rw [hk]; rfl
/-- where the loop of the letters stands -/
def LetRel (w0 w : World) (nm : List UInt8) (g cap : Nat) (i : Value) (wr : World) : Prop :=
  ∃ (k : Nat) (l : List UInt8), k ≤ nm.length ∧ i = .int .i64 (k : Int) ∧ upL l = nm ∧ OwnS wr w0.heap.size 5 1 (.slice (some ⟨g, 0, none⟩) nm.length cap) nm.length (by8 l) ∧ Below w0.heap.size w0 wr
set_option maxHeartbeats 4000000 in
set_option maxRecDepth 20000 in
theorem commandLetters_walk (p : Option Addr) (c : Nat) (x y : Int) (a : List (List UInt8)) (W : World) (hr : RdS W p a) :
    Calls Try.prog 3 #[.int .i64 x, .slice p a.length c, .int .i64 y] W fun e w' => e = .returned (.bool true) ∧ Below W.heap.size W w' := by
  obtain ⟨n, hn⟩ : ∃ n, a.length = n := ⟨_, rfl⟩
  rw [hn]
  have HR : Go.RowKit.Hid (Rd W p (stc a)) := hr
  have HN := Lib.hid hn
  clear hr hn
  by_cases h20 : 20 < n
  · have d0 : decide ((20 : Int) < (n : Int)) = true := by rw [decide_eq_true_iff]; omega
    clear h20
    go_enter Try.func3, Try.ntmps3
    go_wp2_with fail
    go_fit (told_any _)
    rintro e w1 ⟨rfl, hb1⟩
    go_wp2_with fail
    go_ret
    exact ⟨rfl, hb1⟩
  · have d0 : decide ((20 : Int) < (n : Int)) = false := by rw [decide_eq_false_iff_not]; omega
    obtain ⟨u, k, hu, hk, ht1, ht2⟩ := uint_mod x 82 82 rfl (by omega)
    go_enter Try.func3, Try.ntmps3
    go_wp2_with fail
    go_fit (all_any _)
    rintro e w1 ⟨L, b, rfl, ⟨hL, hmem, hbl, hcell⟩, hbb, hb1⟩
    have hkL : k < L.length := by omega
    have hr := hmem _ (List.getElem_mem hkL)
    have hc := hcell k hkL
    generalize L[k] = r at hr hc
    have c0 : w1.cell? ⟨b, k * 7, none⟩ = some (.string (str r.name)) := hc 0 (by omega)
    have c1 : w1.cell? ⟨b, k * 7 + 1, none⟩ = some (.int .i64 r.least) := hc 1 (by omega)
    have c2 : w1.cell? ⟨b, k * 7 + 2, none⟩ = some (.int .i64 r.most) := hc 2 (by omega)
    have c3 : w1.cell? ⟨b, k * 7 + 3, none⟩ = some (.bool r.write) := hc 3 (by omega)
    have c4 : w1.cell? ⟨b, k * 7 + 4, none⟩ = some (.int .i64 r.first) := hc 4 (by omega)
    have c5 : w1.cell? ⟨b, k * 7 + 5, none⟩ = some (.int .i64 r.last) := hc 5 (by omega)
    have c6 : w1.cell? ⟨b, k * 7 + 6, none⟩ = some (.int .i64 r.step) := hc 6 (by omega)
    have HB1 := Lib.hid hb1
    have HMR := Lib.hid hr
    have i1 : (0 : Int) ≤ (k : Int) := by omega
    have i2 : (k : Int) < 82 := by omega
    clear hc hcell hmem hr hkL hL hbb hb1
    go_upto_region 7 with (fail)
    have hwr : (w1.alloc (.cells #[.string (str r.name), .int .i64 r.least, .int .i64 r.most, .bool r.write, .int .i64 r.first, .int .i64 r.last, .int .i64 r.step] 27)).heap[w1.heap.size]? = some (.cells #[.string (str r.name), .int .i64 r.least, .int .i64 r.most, .bool r.write, .int .i64 r.first, .int .i64 r.last, .int .i64 r.step] 27 (0, 0)) := heap_alloc_new _ _
    have hb0 : Below W.heap.size W (w1.alloc (.cells #[.string (str r.name), .int .i64 r.least, .int .i64 r.most, .bool r.write, .int .i64 r.first, .int .i64 r.last, .int .i64 r.step] 27)) := HB1.out.alloc HB1.out.size _
    have hsz : (w1.alloc (.cells #[.string (str r.name), .int .i64 r.least, .int .i64 r.most, .bool r.write, .int .i64 r.first, .int .i64 r.last, .int .i64 r.step] 27)).heap.size = w1.heap.size + 1 := by go_simp
    change Code.wp _ _ _ _ (w1.alloc (.cells #[.string (str r.name), .int .i64 r.least, .int .i64 r.most, .bool r.write, .int .i64 r.first, .int .i64 r.last, .int .i64 r.step] 27))
    clear c0 c1 c2 c3 c4 c5 c6
    generalize w1.alloc (.cells #[.string (str r.name), .int .i64 r.least, .int .i64 r.most, .bool r.write, .int .i64 r.first, .int .i64 r.last, .int .i64 r.step] 27) = w2 at *
    obtain ⟨vb, hvb⟩ : ∃ v, v = w1.heap.size := ⟨_, rfl⟩
    rw [← hvb] at hwr hsz ⊢
    have hcell : ∀ u, Below w2.heap.size w2 u → u.cell? ⟨vb, 0, none⟩ = some (.string (str r.name)) ∧ u.cell? ⟨vb, 1, none⟩ = some (.int .i64 r.least) ∧ u.cell? ⟨vb, 2, none⟩ = some (.int .i64 r.most) ∧ u.cell? ⟨vb, 3, none⟩ = some (.bool r.write) ∧ u.cell? ⟨vb, 4, none⟩ = some (.int .i64 r.first) ∧ u.cell? ⟨vb, 5, none⟩ = some (.int .i64 r.last) ∧ u.cell? ⟨vb, 6, none⟩ = some (.int .i64 r.step) := by
      intro u hu
      have hrow : u.heap[vb]? = _ := (hu.block vb (by omega)).trans hwr
      refine ⟨?_, ?_, ?_, ?_, ?_, ?_, ?_⟩ <;> simp [World.cell?, hrow]
    have HC := Lib.hid hcell
    have HB2 := Lib.hid hb0
    have HR2 := Lib.hid (Rd.below HR.out hb0)
    clear hwr hsz hcell hb0 hvb HR HB1 hu hk ht1 ht2 i1 i2
    obtain ⟨q0, -⟩ := HC.out w2 (Below.refl _ _)
    have hnl := row_name HMR.out
    obtain ⟨nm, hnm⟩ : ∃ nm, r.name = nm := ⟨_, rfl⟩
    have HNM := Lib.hid hnm
    rw [hnm] at q0 hnl
    clear hnm
    go_wp2_with (((with_reducible refine L_s2b isS slB isB w2.heap.size (l := nm) ?_ ?_ ?_ ?_); (focus rfl); (focus rfl); (focus exact ⟨room1 (by omega), Nat.le_refl _⟩); intro cap3 w3 ho3 hb3; have HO3 := Lib.hid ho3; clear ho3; simp only [Act.put, List.setIfInBounds_toArray, List.set_cons_zero, List.set_cons_succ]))
    obtain ⟨lb, hlb⟩ : ∃ v, v = w2.heap.size := ⟨_, rfl⟩
    have HO4 : Go.RowKit.Hid (OwnS w3 w2.heap.size 5 1 (.slice (some ⟨lb, 0, none⟩) nm.length cap3) nm.length (by8 nm)) := by rw [hlb]; exact HO3.out
    have HB3 := Lib.hid hb3
    have HLB := Lib.hid hlb
    rw [← hlb]
    clear HO3 hb3 hlb q0
    have hup : upL nm = nm := upL_great (by rw [← HNM.out]; exact row_letters HMR.out)
    have HUP := Lib.hid hup
    clear hup
    go_loopw [10] (fun i wr => LetRel w2 W nm lb cap3 i wr) (fun i _ => nm.length - (intOf i).toNat)
    case atStart => exact ⟨0, nm, by omega, rfl, HUP.out, HO4.out, HB3.out⟩
    case round =>
      obtain ⟨k, l, hk, rfl, hl, ho, hb⟩ := hrel
      have HO := Lib.hid ho
      have HB := Lib.hid hb
      have HL := Lib.hid hl
      have hll : l.length = nm.length := by rw [← hl, upL_len]
      by_cases hkl : k < nm.length
      · have hkb : k < (by8 l).length := by rw [by8_len, hll]; exact hkl
        obtain ⟨c0, f0⟩ := ho.get hkb
        have hst := fun (u : Value) => ho.set hkb u
        have HST := Lib.hid hst
        simp only [by8, List.getElem_map] at c0
        have i1 : (0 : Int) ≤ (k : Int) := by omega
        have i2 : (k : Int) < (nm.length : Int) := by omega
        clear ho hb hl hst
        go_wp2_with fail
        all_goals first
          | exact ⟨⟨k + 1, l, by omega, by go_num, HL.out, HO.out, HB.out⟩, by simp [intOf]; omega⟩
          | (rename_i h1 h2
             have hle : (l[k].toNat : Int) + 32 = ((l[k] + 32).toNat : Int) := by
               have e : (32 : UInt8).toNat = 32 := rfl
               rw [UInt8.toNat_add, e]; omega
             rw [hle]
             exact ⟨⟨k + 1, l.set k (l[k] + 32), by omega, by go_num, upL_low HL.out (by omega) h1 h2, by have := HST.out (.int .u8 ((l[k] + 32).toNat : Int)); rw [by8_set] at this; exact this, HB.out.setCell (by rw [HLB.out]; exact Nat.le_refl _) _⟩, by simp [intOf]; omega⟩)
      · obtain rfl : k = nm.length := by omega
        clear ho hb hl
        go_wp2_with fail
        have hke : ∀ u, Below wr.heap.size wr u → u.cell? ⟨vb, 0, none⟩ = some (.string (str nm)) ∧ (convert 29 9 (.slice (some ⟨lb, 0, none⟩) nm.length cap3)).run Try.prog u = .ok (.string (str l)) u := by
          intro u hu
          refine ⟨by have := (HC.out u (HB.out.trans (hu.mono HB.out.size))).1; rw [HNM.out] at this; exact this, ?_⟩
          have h := run_b2s slB isB isS (cap := cap3) ((HO.out.txt.2.1).below hu)
          rw [hll] at h
          exact h
        have HKE := Lib.hid hke
        have HRA := Lib.hid (HR2.out.below HB.out)
        have HM := Lib.hid (show (stc a).length = n * 1 by have := HN.out; rw [← this]; exact stc_mul a)
        have HRM := Lib.hid (show 1 + n ≤ maxLen from room1 (by omega))
        have HRM2 := Lib.hid (show (1 + n) * 16 ≤ 140737488355328 by omega)
        clear hke
        go_cut [11, 12] (fun vx vy wc => ∃ px cx py cy, vx = .slice px (1 + n) cx ∧ vy = .slice py (1 + n) cy ∧ Rd wc px (stc (nm :: a)) ∧ Rd wc py (stc (l :: a)) ∧ Below wr.heap.size wr wc)
        case first =>
          refine wp_region_noPanic ?_
          refine wp_region_held_drew (S := fun u => u.cell? ⟨vb, 0, none⟩ = some (.string (str nm)) ∧ (convert 29 9 (.slice (some ⟨lb, 0, none⟩) nm.length cap3)).run Try.prog u = .ok (.string (str l)) u) (by kernel_rfl) (HKE.out _ (Below.refl _ _).drew) (fun hHeld => ?_)
          have hbd : Below wr.heap.size wr wr.drew := (Below.refl _ _).drew
          generalize wr.drew = wd at hbd hHeld ⊢
          have HBD := Lib.hid hbd
          clear hbd
          refine wpAnyH_take (i := 0) (v := ?_) rfl (by kernel_rfl) (by kernel_rfl) (by kernel_rfl) (fun _ _ _ h => h) (Or.inl ⟨by rfl, ?_⟩) (by assumption) ?_; rotate_left; (focus ((intro w hSw); (try dsimp only at hSw); go_simp; (try (with_reducible rfl)))); try simp only [Act.put, List.getElem_toArray, List.getElem_cons_succ, List.getElem_cons_zero, List.setIfInBounds_toArray, List.set_cons_zero, List.set_cons_succ]
          refine wpAnyH_take (i := 1) (v := ?_) rfl (by kernel_rfl) (by kernel_rfl) (by kernel_rfl) (fun _ _ _ h => h) (Or.inl ⟨by rfl, ?_⟩) (by assumption) ?_; rotate_left; (focus ((intro w hSw); (try dsimp only at hSw); go_simp; (try (with_reducible rfl)))); try simp only [Act.put, List.getElem_toArray, List.getElem_cons_succ, List.getElem_cons_zero, List.setIfInBounds_toArray, List.set_cons_zero, List.set_cons_succ]
          refine wpAnyH_take (i := 3) (v := ?_) rfl (by kernel_rfl) (by kernel_rfl) (by kernel_rfl) (fun _ _ _ h => h) (Or.inl ⟨by rfl, ?_⟩) (by assumption) ?_; rotate_left; (focus ((intro w hSw); (try dsimp only at hSw); go_simp; (try (with_reducible rfl)))); try simp only [Act.put, List.getElem_toArray, List.getElem_cons_succ, List.getElem_cons_zero, List.setIfInBounds_toArray, List.set_cons_zero, List.set_cons_succ]
          refine wpAnyH_take (i := 5) (v := ?_) rfl (by kernel_rfl) (by kernel_rfl) (by kernel_rfl) (fun _ _ _ h => h) (Or.inl ⟨by rfl, ?_⟩) (by assumption) ?_; rotate_left; (focus ((intro w hSw); (try dsimp only at hSw); go_simp; (try (with_reducible rfl)))); try simp only [Act.put, List.getElem_toArray, List.getElem_cons_succ, List.getElem_cons_zero, List.setIfInBounds_toArray, List.set_cons_zero, List.set_cons_succ]
          refine wpAnyH_take (i := 6) (v := ?_) rfl (by kernel_rfl) (by kernel_rfl) (by kernel_rfl) (fun _ _ _ h => h) (Or.inl ⟨by rfl, ?_⟩) (by assumption) ?_; rotate_left; (focus ((intro w hSw); (try dsimp only at hSw); go_simp; (try (with_reducible rfl)))); try simp only [Act.put, List.getElem_toArray, List.getElem_cons_succ, List.getElem_cons_zero, List.setIfInBounds_toArray, List.set_cons_zero, List.set_cons_succ]
          refine wpAnyH_take (i := 8) (v := ?_) rfl (by kernel_rfl) (by kernel_rfl) (by kernel_rfl) (fun _ _ _ h => h) (Or.inl ⟨by rfl, ?_⟩) (by assumption) ?_; rotate_left; (focus ((intro w hSw); (try dsimp only at hSw); go_simp; (try (with_reducible rfl)))); try simp only [Act.put, List.getElem_toArray, List.getElem_cons_succ, List.getElem_cons_zero, List.setIfInBounds_toArray, List.set_cons_zero, List.set_cons_succ]
          -- orders begin
          refine wpAnyH_ready (rs := [2, 7]) (by kernel_rfl) (by simp) (AllReadyH.cons rfl (fun K hK => ?_) (AllReadyH.cons rfl (fun K hK => ?_) AllReadyH.nil))
          · skip
            go_simp
            refine hK.out _ _ ?_ (fun hHeld => ?_)
            · exact HKE.out _ (HBD.out.alloc HBD.out.size _)
            clear hK K
            try simp only [Act.put, List.getElem_toArray, List.getElem_cons_succ, List.getElem_cons_zero, List.setIfInBounds_toArray, List.set_cons_zero, List.set_cons_succ]
            have hrow1 := heap_alloc_new wd (.cells #[.string (str nm)] 9)
            have hb1 := HBD.out.alloc HBD.out.size (.cells #[.string (str nm)] 9)
            have hg1 := HBD.out.size
            generalize wd.alloc (.cells #[.string (str nm)] 9) = u1 at hrow1 hb1 hHeld ⊢
            generalize wd.heap.size = g1 at hrow1 hg1 ⊢
            have ROW1 := Lib.hid hrow1
            have HB1 := Lib.hid hb1
            have HG1 := Lib.hid hg1
            clear hrow1 hb1 hg1
            refine wpAnyH_ready (rs := [4, 7]) (by kernel_rfl) (by simp) (AllReadyH.cons rfl (fun K hK => ?_) (AllReadyH.cons rfl (fun K hK => ?_) AllReadyH.nil))
            · skip
              refine step_app1 (by rfl) _ _ (by rfl) (own_lit ROW1.out HG1.out) (by rfl) (HRA.out.below HB1.out) (stc_one _) HM.out c (by rfl) ⟨HRM.out, HRM2.out, HB1.out.size⟩ ?_
              intro v2 u2 ho2 ha2
              have hb2 := ha2.below HB1.out HB1.out.size (own_base (own_lit ROW1.out HG1.out))
              refine hK.out _ _ ?_ (fun hHeld => ?_)
              · exact HKE.out _ hb2
              clear hK K
              try simp only [Act.put, List.getElem_toArray, List.getElem_cons_succ, List.getElem_cons_zero, List.setIfInBounds_toArray, List.set_cons_zero, List.set_cons_succ]
              have OWN2 := Lib.hid ho2
              have HB2 := Lib.hid hb2
              clear ho2 ha2 hb2
              refine wpAnyH_ready (rs := [7]) (by kernel_rfl) (by simp) (AllReadyH.cons rfl (fun K hK => ?_) AllReadyH.nil)
              · skip
                go_simp
                refine hK.out _ _ ?_ (fun hHeld => ?_)
                · exact HKE.out _ (HB2.out.alloc HB2.out.size _)
                clear hK K
                try simp only [Act.put, List.getElem_toArray, List.getElem_cons_succ, List.getElem_cons_zero, List.setIfInBounds_toArray, List.set_cons_zero, List.set_cons_succ]
                have hrow3 := heap_alloc_new u2 (.cells #[.string (str l)] 9)
                have hb3 := HB2.out.alloc HB2.out.size (.cells #[.string (str l)] 9)
                have hg3 := HB2.out.size
                have ho3 := OWN2.out.alloc (.cells #[.string (str l)] 9)
                have hn3 := own_ne OWN2.out
                generalize u2.alloc (.cells #[.string (str l)] 9) = u3 at hrow3 hb3 hHeld ho3 ⊢
                generalize u2.heap.size = g3 at hrow3 hg3 hn3 ⊢
                have ROW3 := Lib.hid hrow3
                have HB3 := Lib.hid hb3
                have HG3 := Lib.hid hg3
                have HO3 := Lib.hid ho3
                have HN3 := Lib.hid hn3
                clear hrow3 hb3 hg3 ho3 hn3
                refine wpAnyH_ready (rs := [9]) (by kernel_rfl) (by simp) (AllReadyH.cons rfl (fun K hK => ?_) AllReadyH.nil)
                · skip
                  refine step_app1 (by rfl) _ _ (by rfl) (own_lit ROW3.out HG3.out) (by rfl) (HRA.out.below HB3.out) (stc_one _) HM.out c (by rfl) ⟨HRM.out, HRM2.out, HB3.out.size⟩ ?_
                  intro v4 u4 ho4 ha4
                  have hb4 := ha4.below HB3.out HB3.out.size (own_base (own_lit ROW3.out HG3.out))
                  refine hK.out _ _ ?_ (fun hHeld => ?_)
                  · exact HKE.out _ hb4
                  clear hK K
                  try simp only [Act.put, List.getElem_toArray, List.getElem_cons_succ, List.getElem_cons_zero, List.setIfInBounds_toArray, List.set_cons_zero, List.set_cons_succ]
                  have OWN4 := Lib.hid ho4
                  have HB4 := Lib.hid hb4
                  have HO4 := Lib.hid (own_app HO3.out ha4 HN3.out)
                  clear ho4 ha4 hb4
                  refine wpAnyH_take (i := 10) (v := ?_) rfl (by kernel_rfl) (by kernel_rfl) (by kernel_rfl) (fun _ _ _ h => h) (Or.inl ⟨by rfl, ?_⟩) (by assumption) ?_; rotate_left; (focus ((intro w hSw); (try dsimp only at hSw); go_simp; (try (with_reducible rfl)))); try simp only [Act.put, List.getElem_toArray, List.getElem_cons_succ, List.getElem_cons_zero, List.setIfInBounds_toArray, List.set_cons_zero, List.set_cons_succ]
                  refine wpAnyH_take (i := 11) (v := ?_) rfl (by kernel_rfl) (by kernel_rfl) (by kernel_rfl) (fun _ _ _ h => h) (Or.inl ⟨by rfl, ?_⟩) (by assumption) ?_; rotate_left; (focus ((intro w hSw); (try dsimp only at hSw); go_simp; (try (with_reducible rfl)))); try simp only [Act.put, List.getElem_toArray, List.getElem_cons_succ, List.getElem_cons_zero, List.setIfInBounds_toArray, List.set_cons_zero, List.set_cons_succ]
                  refine wpAnyH_done (by kernel_rfl) ?_ _
                  refine NoPanic.normal ?_
                  go_wp2_with fail
                  go_meet
                  obtain ⟨px, cx, rfl, hrx, -⟩ := HO4.out.shape
                  obtain ⟨py, cy, rfl, hry, -⟩ := OWN4.out.shape
                  exact ⟨px, cx, py, cy, rfl, rfl, hrx, hry, HB4.out⟩
            · skip
              go_simp
              refine hK.out _ _ ?_ (fun hHeld => ?_)
              · exact HKE.out _ (HB1.out.alloc HB1.out.size _)
              clear hK K
              try simp only [Act.put, List.getElem_toArray, List.getElem_cons_succ, List.getElem_cons_zero, List.setIfInBounds_toArray, List.set_cons_zero, List.set_cons_succ]
              have hrow5 := heap_alloc_new u1 (.cells #[.string (str l)] 9)
              have hb5 := HB1.out.alloc HB1.out.size (.cells #[.string (str l)] 9)
              have hg5 := HB1.out.size
              have ho5 := row_alloc (.cells #[.string (str l)] 9) ROW1.out
              have hn5 := row_ne ROW1.out
              generalize u1.alloc (.cells #[.string (str l)] 9) = u5 at hrow5 hb5 hHeld ho5 ⊢
              generalize u1.heap.size = g5 at hrow5 hg5 hn5 ⊢
              have ROW5 := Lib.hid hrow5
              have HB5 := Lib.hid hb5
              have HG5 := Lib.hid hg5
              have HO5 := Lib.hid ho5
              have HN5 := Lib.hid hn5
              clear hrow5 hb5 hg5 ho5 hn5
              refine wpAnyH_ready (rs := [4]) (by kernel_rfl) (by simp) (AllReadyH.cons rfl (fun K hK => ?_) AllReadyH.nil)
              · skip
                refine step_app1 (by rfl) _ _ (by rfl) (own_lit HO5.out HG1.out) (by rfl) (HRA.out.below HB5.out) (stc_one _) HM.out c (by rfl) ⟨HRM.out, HRM2.out, HB5.out.size⟩ ?_
                intro v6 u6 ho6 ha6
                have hb6 := ha6.below HB5.out HB5.out.size (own_base (own_lit HO5.out HG1.out))
                refine hK.out _ _ ?_ (fun hHeld => ?_)
                · exact HKE.out _ hb6
                clear hK K
                try simp only [Act.put, List.getElem_toArray, List.getElem_cons_succ, List.getElem_cons_zero, List.setIfInBounds_toArray, List.set_cons_zero, List.set_cons_succ]
                have OWN6 := Lib.hid ho6
                have HB6 := Lib.hid hb6
                have HO6 := Lib.hid (row_app ROW5.out ha6 (Ne.symm HN5.out))
                have HN6 := Lib.hid (app_ne ha6 (Ne.symm HN5.out) (row_lt ROW5.out))
                clear ho6 ha6 hb6
                refine wpAnyH_ready (rs := [9]) (by kernel_rfl) (by simp) (AllReadyH.cons rfl (fun K hK => ?_) AllReadyH.nil)
                · skip
                  refine step_app1 (by rfl) _ _ (by rfl) (own_lit HO6.out HG5.out) (by rfl) (HRA.out.below HB6.out) (stc_one _) HM.out c (by rfl) ⟨HRM.out, HRM2.out, HB6.out.size⟩ ?_
                  intro v7 u7 ho7 ha7
                  have hb7 := ha7.below HB6.out HB6.out.size (own_base (own_lit HO6.out HG5.out))
                  refine hK.out _ _ ?_ (fun hHeld => ?_)
                  · exact HKE.out _ hb7
                  clear hK K
                  try simp only [Act.put, List.getElem_toArray, List.getElem_cons_succ, List.getElem_cons_zero, List.setIfInBounds_toArray, List.set_cons_zero, List.set_cons_succ]
                  have OWN7 := Lib.hid ho7
                  have HB7 := Lib.hid hb7
                  have HO7 := Lib.hid (own_app OWN6.out ha7 HN6.out)
                  clear ho7 ha7 hb7
                  refine wpAnyH_take (i := 10) (v := ?_) rfl (by kernel_rfl) (by kernel_rfl) (by kernel_rfl) (fun _ _ _ h => h) (Or.inl ⟨by rfl, ?_⟩) (by assumption) ?_; rotate_left; (focus ((intro w hSw); (try dsimp only at hSw); go_simp; (try (with_reducible rfl)))); try simp only [Act.put, List.getElem_toArray, List.getElem_cons_succ, List.getElem_cons_zero, List.setIfInBounds_toArray, List.set_cons_zero, List.set_cons_succ]
                  refine wpAnyH_take (i := 11) (v := ?_) rfl (by kernel_rfl) (by kernel_rfl) (by kernel_rfl) (fun _ _ _ h => h) (Or.inl ⟨by rfl, ?_⟩) (by assumption) ?_; rotate_left; (focus ((intro w hSw); (try dsimp only at hSw); go_simp; (try (with_reducible rfl)))); try simp only [Act.put, List.getElem_toArray, List.getElem_cons_succ, List.getElem_cons_zero, List.setIfInBounds_toArray, List.set_cons_zero, List.set_cons_succ]
                  refine wpAnyH_done (by kernel_rfl) ?_ _
                  refine NoPanic.normal ?_
                  go_wp2_with fail
                  go_meet
                  obtain ⟨px, cx, rfl, hrx, -⟩ := HO7.out.shape
                  obtain ⟨py, cy, rfl, hry, -⟩ := OWN7.out.shape
                  exact ⟨px, cx, py, cy, rfl, rfl, hrx, hry, HB7.out⟩
          · skip
            go_simp
            refine hK.out _ _ ?_ (fun hHeld => ?_)
            · exact HKE.out _ (HBD.out.alloc HBD.out.size _)
            clear hK K
            try simp only [Act.put, List.getElem_toArray, List.getElem_cons_succ, List.getElem_cons_zero, List.setIfInBounds_toArray, List.set_cons_zero, List.set_cons_succ]
            have hrow8 := heap_alloc_new wd (.cells #[.string (str l)] 9)
            have hb8 := HBD.out.alloc HBD.out.size (.cells #[.string (str l)] 9)
            have hg8 := HBD.out.size
            generalize wd.alloc (.cells #[.string (str l)] 9) = u8 at hrow8 hb8 hHeld ⊢
            generalize wd.heap.size = g8 at hrow8 hg8 ⊢
            have ROW8 := Lib.hid hrow8
            have HB8 := Lib.hid hb8
            have HG8 := Lib.hid hg8
            clear hrow8 hb8 hg8
            refine wpAnyH_ready (rs := [2]) (by kernel_rfl) (by simp) (AllReadyH.cons rfl (fun K hK => ?_) AllReadyH.nil)
            · skip
              go_simp
              refine hK.out _ _ ?_ (fun hHeld => ?_)
              · exact HKE.out _ (HB8.out.alloc HB8.out.size _)
              clear hK K
              try simp only [Act.put, List.getElem_toArray, List.getElem_cons_succ, List.getElem_cons_zero, List.setIfInBounds_toArray, List.set_cons_zero, List.set_cons_succ]
              have hrow9 := heap_alloc_new u8 (.cells #[.string (str nm)] 9)
              have hb9 := HB8.out.alloc HB8.out.size (.cells #[.string (str nm)] 9)
              have hg9 := HB8.out.size
              have ho9 := row_alloc (.cells #[.string (str nm)] 9) ROW8.out
              have hn9 := row_ne ROW8.out
              generalize u8.alloc (.cells #[.string (str nm)] 9) = u9 at hrow9 hb9 hHeld ho9 ⊢
              generalize u8.heap.size = g9 at hrow9 hg9 hn9 ⊢
              have ROW9 := Lib.hid hrow9
              have HB9 := Lib.hid hb9
              have HG9 := Lib.hid hg9
              have HO9 := Lib.hid ho9
              have HN9 := Lib.hid hn9
              clear hrow9 hb9 hg9 ho9 hn9
              refine wpAnyH_ready (rs := [4]) (by kernel_rfl) (by simp) (AllReadyH.cons rfl (fun K hK => ?_) AllReadyH.nil)
              · skip
                refine step_app1 (by rfl) _ _ (by rfl) (own_lit ROW9.out HG9.out) (by rfl) (HRA.out.below HB9.out) (stc_one _) HM.out c (by rfl) ⟨HRM.out, HRM2.out, HB9.out.size⟩ ?_
                intro v10 u10 ho10 ha10
                have hb10 := ha10.below HB9.out HB9.out.size (own_base (own_lit ROW9.out HG9.out))
                refine hK.out _ _ ?_ (fun hHeld => ?_)
                · exact HKE.out _ hb10
                clear hK K
                try simp only [Act.put, List.getElem_toArray, List.getElem_cons_succ, List.getElem_cons_zero, List.setIfInBounds_toArray, List.set_cons_zero, List.set_cons_succ]
                have OWN10 := Lib.hid ho10
                have HB10 := Lib.hid hb10
                have HO10 := Lib.hid (row_app HO9.out ha10 HN9.out)
                have HN10 := Lib.hid (app_ne ha10 HN9.out (row_lt HO9.out))
                clear ho10 ha10 hb10
                refine wpAnyH_ready (rs := [9]) (by kernel_rfl) (by simp) (AllReadyH.cons rfl (fun K hK => ?_) AllReadyH.nil)
                · skip
                  refine step_app1 (by rfl) _ _ (by rfl) (own_lit HO10.out HG8.out) (by rfl) (HRA.out.below HB10.out) (stc_one _) HM.out c (by rfl) ⟨HRM.out, HRM2.out, HB10.out.size⟩ ?_
                  intro v11 u11 ho11 ha11
                  have hb11 := ha11.below HB10.out HB10.out.size (own_base (own_lit HO10.out HG8.out))
                  refine hK.out _ _ ?_ (fun hHeld => ?_)
                  · exact HKE.out _ hb11
                  clear hK K
                  try simp only [Act.put, List.getElem_toArray, List.getElem_cons_succ, List.getElem_cons_zero, List.setIfInBounds_toArray, List.set_cons_zero, List.set_cons_succ]
                  have OWN11 := Lib.hid ho11
                  have HB11 := Lib.hid hb11
                  have HO11 := Lib.hid (own_app OWN10.out ha11 HN10.out)
                  clear ho11 ha11 hb11
                  refine wpAnyH_take (i := 10) (v := ?_) rfl (by kernel_rfl) (by kernel_rfl) (by kernel_rfl) (fun _ _ _ h => h) (Or.inl ⟨by rfl, ?_⟩) (by assumption) ?_; rotate_left; (focus ((intro w hSw); (try dsimp only at hSw); go_simp; (try (with_reducible rfl)))); try simp only [Act.put, List.getElem_toArray, List.getElem_cons_succ, List.getElem_cons_zero, List.setIfInBounds_toArray, List.set_cons_zero, List.set_cons_succ]
                  refine wpAnyH_take (i := 11) (v := ?_) rfl (by kernel_rfl) (by kernel_rfl) (by kernel_rfl) (fun _ _ _ h => h) (Or.inl ⟨by rfl, ?_⟩) (by assumption) ?_; rotate_left; (focus ((intro w hSw); (try dsimp only at hSw); go_simp; (try (with_reducible rfl)))); try simp only [Act.put, List.getElem_toArray, List.getElem_cons_succ, List.getElem_cons_zero, List.setIfInBounds_toArray, List.set_cons_zero, List.set_cons_succ]
                  refine wpAnyH_done (by kernel_rfl) ?_ _
                  refine NoPanic.normal ?_
                  go_wp2_with fail
                  go_meet
                  obtain ⟨px, cx, rfl, hrx, -⟩ := HO11.out.shape
                  obtain ⟨py, cy, rfl, hry, -⟩ := OWN11.out.shape
                  exact ⟨px, cx, py, cy, rfl, rfl, hrx, hry, HB11.out⟩
          -- orders end
        case rest =>
          obtain ⟨px, cx, py, cy, rfl, rfl, hrx, hry, hbc⟩ := hcut
          obtain ⟨w4, hwc⟩ : ∃ v, v = wc := ⟨_, rfl⟩
          subst hwc
          obtain ⟨m, hm⟩ : ∃ m, 1 + n = m := ⟨_, rfl⟩
          rw [hm]
          have hmx : m = (nm :: a).length := by rw [List.length_cons, HN.out]; omega
          have hmy : m = (l :: a).length := by rw [List.length_cons, HN.out]; omega
          have hm21 : m ≤ 21 := by omega
          obtain ⟨hs1, hs2, hs3⟩ := same_low HMR.out HNM.out HL.out HUP.out (a := a)
          have hfo : findP l = some r := by rw [hs1, ← HNM.out]; exact row_found HMR.out
          obtain ⟨F, hF⟩ : ∃ F, fitsP (nm :: a) = F := ⟨_, rfl⟩
          obtain ⟨ks, hks⟩ : ∃ ks, keysP (nm :: a) = ks := ⟨_, rfl⟩
          have HFX := Lib.hid (fun w (h : Rd w px (stc (nm :: a))) => fits_any px m cx (nm :: a) hmx (by omega) (by intro z hz; cases hz; omega) w h)
          have HFY := Lib.hid (fun w (h : Rd w py (stc (l :: a))) => fits_any py m cy (l :: a) hmy (by omega) (by intro z hz; cases hz; omega) w h)
          have HKX := Lib.hid (fun w (h : Rd w px (stc (nm :: a))) => keys_any px m cx (nm :: a) hmx (by omega) (by intro z hz; cases hz; omega) w h)
          have HKY := Lib.hid (fun w (h : Rd w py (stc (l :: a))) => keys_any py m cy (l :: a) hmy (by omega) (by intro z hz; cases hz; omega) w h)
          have HKN := Lib.hid (fun (h : fitsP (nm :: a) ≠ 0) => keysP_no h)
          rw [hs2] at HFY
          rw [hs3] at HKY
          rw [hF] at HFX HFY HKN
          rw [hks] at HKX HKY HKN
          have hk21 : ks.length ≤ 100000 := by
            rw [← hks]; exact Nat.le_trans (keysP_len _) (by rw [← hmx]; omega)
          have HK21 := Lib.hid hk21
          have HFO := Lib.hid hfo
          have HRX := Lib.hid hrx
          have HRY := Lib.hid hry
          have HB4 := Lib.hid hbc
          have HUL := Lib.hid (fun w => upper_any l (by omega) w)
          rw [HL.out] at HUL
          have HFD := Lib.hid (fun w => find_any l (by omega) w)
          rw [hfo] at HFD
          have HLL := Lib.hid hll
          clear hmx hmy hs1 hs2 hs3 hfo hF hks hrx hry hbc hm HKE HRA HM HRM HRM2 hll hk21 hkl hk
          go_wp2_with fail
          go_fit (HFX.out _ HRX.out)
          rintro e w5 ⟨rfl, hb5⟩
          have HB5 := Lib.hid hb5
          have hrb := (((HO.out.txt.2.1).below HB4.out)).below hb5
          have HRB := Lib.hid hrb
          clear hb5 hrb
          go_wp2_with (((with_reducible refine L_b2s slB isB isS HRB.out ?_ ?_ ?_); (focus rfl); (focus exact ⟨_, _, rfl, HLL.out.symm⟩); simp only [Act.put, List.setIfInBounds_toArray, List.set_cons_zero, List.set_cons_succ]))
          go_fit (HFD.out _)
          rintro e w6 ⟨rfl, hb6⟩
          rw [show (cellsR (foundR (some r))).toArray = #[.string (str r.name), .int .i64 r.least, .int .i64 r.most, .bool r.write, .int .i64 r.first, .int .i64 r.last, .int .i64 r.step] from rfl, show Option.isSome (some r) = true from rfl, HNM.out]
          have HB6 := Lib.hid hb6
          clear hb6
          go_wp2_with fail
          have hrow := heap_alloc_new w6 (.cells #[.string (str nm), .int .i64 r.least, .int .i64 r.most, .bool r.write, .int .i64 r.first, .int .i64 r.last, .int .i64 r.step] 27)
          have hb7 := HB6.out.alloc HB6.out.size (.cells #[.string (str nm), .int .i64 r.least, .int .i64 r.most, .bool r.write, .int .i64 r.first, .int .i64 r.last, .int .i64 r.step] 27)
          have hsz : (w6.alloc (.cells #[.string (str nm), .int .i64 r.least, .int .i64 r.most, .bool r.write, .int .i64 r.first, .int .i64 r.last, .int .i64 r.step] 27)).heap.size = w6.heap.size + 1 := by go_simp
          change Code.wp _ _ _ _ (w6.alloc (.cells #[.string (str nm), .int .i64 r.least, .int .i64 r.most, .bool r.write, .int .i64 r.first, .int .i64 r.last, .int .i64 r.step] 27))
          generalize w6.alloc (.cells #[.string (str nm), .int .i64 r.least, .int .i64 r.most, .bool r.write, .int .i64 r.first, .int .i64 r.last, .int .i64 r.step] 27) = w7 at hrow hb7 hsz ⊢
          obtain ⟨zb, hzb⟩ : ∃ v, v = w6.heap.size := ⟨_, rfl⟩
          rw [← hzb] at hrow hsz ⊢
          have hb47 : Below w4.heap.size w4 w7 := HB5.out.trans (hb7.mono HB5.out.size)
          have hbr7 : Below wr.heap.size wr w7 := HB4.out.trans (hb47.mono HB4.out.size)
          have hke : ∀ u, Below w7.heap.size w7 u → (u.cell? ⟨vb, 0, none⟩ = some (.string (str nm)) ∧ u.cell? ⟨vb, 1, none⟩ = some (.int .i64 r.least) ∧ u.cell? ⟨vb, 2, none⟩ = some (.int .i64 r.most) ∧ u.cell? ⟨vb, 3, none⟩ = some (.bool r.write) ∧ u.cell? ⟨vb, 4, none⟩ = some (.int .i64 r.first) ∧ u.cell? ⟨vb, 5, none⟩ = some (.int .i64 r.last) ∧ u.cell? ⟨vb, 6, none⟩ = some (.int .i64 r.step)) ∧ (u.cell? ⟨zb, 0, none⟩ = some (.string (str nm)) ∧ u.cell? ⟨zb, 1, none⟩ = some (.int .i64 r.least) ∧ u.cell? ⟨zb, 2, none⟩ = some (.int .i64 r.most) ∧ u.cell? ⟨zb, 3, none⟩ = some (.bool r.write) ∧ u.cell? ⟨zb, 4, none⟩ = some (.int .i64 r.first) ∧ u.cell? ⟨zb, 5, none⟩ = some (.int .i64 r.last) ∧ u.cell? ⟨zb, 6, none⟩ = some (.int .i64 r.step)) ∧ (convert 29 9 (.slice (some ⟨lb, 0, none⟩) nm.length cap3)).run Try.prog u = .ok (.string (str l)) u := by
            intro u hu
            have hzr : u.heap[zb]? = _ := (hu.block zb (by omega)).trans hrow
            obtain ⟨z0, z1, z2, z3, z4, z5, z6⟩ := HC.out u (HB.out.trans ((hbr7.trans (hu.mono hbr7.size)).mono HB.out.size))
            rw [HNM.out] at z0
            refine ⟨⟨z0, z1, z2, z3, z4, z5, z6⟩, ⟨?_, ?_, ?_, ?_, ?_, ?_, ?_⟩, ?_⟩
            · simp [World.cell?, hzr]
            · simp [World.cell?, hzr]
            · simp [World.cell?, hzr]
            · simp [World.cell?, hzr]
            · simp [World.cell?, hzr]
            · simp [World.cell?, hzr]
            · simp [World.cell?, hzr]
            · have h := run_b2s slB isB isS (cap := cap3) (((HO.out.txt.2.1).below hbr7).below hu)
              rw [HLL.out] at h
              exact h
          have HKE := Lib.hid hke
          have HRX7 := Lib.hid (HRX.out.below hb47)
          have HRY7 := Lib.hid (HRY.out.below hb47)
          have HW7 := Lib.hid (HB2.out.trans ((HB.out.trans (hbr7.mono HB.out.size)).mono HB2.out.size))
          clear hke hrow hb7 hsz hb47 hbr7 hzb HRB HB6 HB5 HRX HRY HB4 HFX HFD HO
          refine wp_region_noPanic ?_
          refine wp_region_held_drew (S := fun u => (u.cell? ⟨vb, 0, none⟩ = some (.string (str nm)) ∧ u.cell? ⟨vb, 1, none⟩ = some (.int .i64 r.least) ∧ u.cell? ⟨vb, 2, none⟩ = some (.int .i64 r.most) ∧ u.cell? ⟨vb, 3, none⟩ = some (.bool r.write) ∧ u.cell? ⟨vb, 4, none⟩ = some (.int .i64 r.first) ∧ u.cell? ⟨vb, 5, none⟩ = some (.int .i64 r.last) ∧ u.cell? ⟨vb, 6, none⟩ = some (.int .i64 r.step)) ∧ (u.cell? ⟨zb, 0, none⟩ = some (.string (str nm)) ∧ u.cell? ⟨zb, 1, none⟩ = some (.int .i64 r.least) ∧ u.cell? ⟨zb, 2, none⟩ = some (.int .i64 r.most) ∧ u.cell? ⟨zb, 3, none⟩ = some (.bool r.write) ∧ u.cell? ⟨zb, 4, none⟩ = some (.int .i64 r.first) ∧ u.cell? ⟨zb, 5, none⟩ = some (.int .i64 r.last) ∧ u.cell? ⟨zb, 6, none⟩ = some (.int .i64 r.step)) ∧ (convert 29 9 (.slice (some ⟨lb, 0, none⟩) nm.length cap3)).run Try.prog u = .ok (.string (str l)) u) (by kernel_rfl) (HKE.out _ (Below.refl _ _).drew) (fun hHeld => ?_)
          have hbd : Below w7.heap.size w7 w7.drew := (Below.refl _ _).drew
          generalize w7.drew = wd at hbd hHeld ⊢
          have HBD := Lib.hid hbd
          clear hbd
          refine wpAnyH_ready (rs := [0]) (by kernel_rfl) (by simp) (AllReadyH.cons rfl (fun K hK => ?_) AllReadyH.nil); go_simp; (go_at_call 5; refine (told_any _).mono ?_; rintro e w8 ⟨rfl, hb8⟩; have HB8 := Lib.hid (HBD.out.trans (hb8.mono HBD.out.size)); clear hb8; go_wp2_with fail); refine hK.out _ _ ?_ (fun hHeld => ?_); (focus (exact HKE.out _ HB8.out)); clear hK K; try simp only [Act.put, List.getElem_toArray, List.getElem_cons_succ, List.getElem_cons_zero, List.setIfInBounds_toArray, List.set_cons_zero, List.set_cons_succ]
          refine wpAnyH_take (i := 1) (v := ?_) rfl (by kernel_rfl) (by kernel_rfl) (by kernel_rfl) (fun _ _ _ h => h) (Or.inl ⟨by rfl, ?_⟩) (by assumption) ?_; rotate_left; (focus ((intro w hSw); (try dsimp only at hSw); go_simp; (try (with_reducible rfl)))); try simp only [Act.put, List.getElem_toArray, List.getElem_cons_succ, List.getElem_cons_zero, List.setIfInBounds_toArray, List.set_cons_zero, List.set_cons_succ]
          refine wpAnyH_take (i := 2) (v := ?_) rfl (by kernel_rfl) (by kernel_rfl) (by kernel_rfl) (fun _ _ _ h => h) (Or.inl ⟨by rfl, ?_⟩) (by assumption) ?_; rotate_left; (focus ((intro w hSw); (try dsimp only at hSw); go_simp; (try (with_reducible rfl)))); try simp only [Act.put, List.getElem_toArray, List.getElem_cons_succ, List.getElem_cons_zero, List.setIfInBounds_toArray, List.set_cons_zero, List.set_cons_succ]
          refine wpAnyH_take (i := 3) (v := ?_) rfl (by kernel_rfl) (by kernel_rfl) (by kernel_rfl) (fun _ _ _ h => h) (Or.inl ⟨by rfl, ?_⟩) (by assumption) ?_; rotate_left; (focus ((intro w hSw); (try dsimp only at hSw); go_simp; (try (with_reducible rfl)))); try simp only [Act.put, List.getElem_toArray, List.getElem_cons_succ, List.getElem_cons_zero, List.setIfInBounds_toArray, List.set_cons_zero, List.set_cons_succ]
          refine wpAnyH_take (i := 4) (v := ?_) rfl (by kernel_rfl) (by kernel_rfl) (by kernel_rfl) (fun _ _ _ h => h) (Or.inl ⟨by rfl, ?_⟩) (by assumption) ?_; rotate_left; (focus ((intro w hSw); (try dsimp only at hSw); go_simp; (try (with_reducible rfl)))); try simp only [Act.put, List.getElem_toArray, List.getElem_cons_succ, List.getElem_cons_zero, List.setIfInBounds_toArray, List.set_cons_zero, List.set_cons_succ]
          refine wpAnyH_take (i := 5) (v := ?_) rfl (by kernel_rfl) (by kernel_rfl) (by kernel_rfl) (fun _ _ _ h => h) (Or.inl ⟨by rfl, ?_⟩) (by assumption) ?_; rotate_left; (focus ((intro w hSw); (try dsimp only at hSw); go_simp; (try (with_reducible rfl)))); try simp only [Act.put, List.getElem_toArray, List.getElem_cons_succ, List.getElem_cons_zero, List.setIfInBounds_toArray, List.set_cons_zero, List.set_cons_succ]
          refine wpAnyH_take (i := 6) (v := ?_) rfl (by kernel_rfl) (by kernel_rfl) (by kernel_rfl) (fun _ _ _ h => h) (Or.inl ⟨by rfl, ?_⟩) (by assumption) ?_; rotate_left; (focus ((intro w hSw); (try dsimp only at hSw); go_simp; (try (with_reducible rfl)))); try simp only [Act.put, List.getElem_toArray, List.getElem_cons_succ, List.getElem_cons_zero, List.setIfInBounds_toArray, List.set_cons_zero, List.set_cons_succ]
          refine wpAnyH_take (i := 7) (v := ?_) rfl (by kernel_rfl) (by kernel_rfl) (by kernel_rfl) (fun _ _ _ h => h) (Or.inl ⟨by rfl, ?_⟩) (by assumption) ?_; rotate_left; (focus ((intro w hSw); (try dsimp only at hSw); go_simp; (try (with_reducible rfl)))); try simp only [Act.put, List.getElem_toArray, List.getElem_cons_succ, List.getElem_cons_zero, List.setIfInBounds_toArray, List.set_cons_zero, List.set_cons_succ]
          refine wpAnyH_take (i := 8) (v := ?_) rfl (by kernel_rfl) (by kernel_rfl) (by kernel_rfl) (fun _ _ _ h => h) (Or.inl ⟨by rfl, ?_⟩) (by assumption) ?_; rotate_left; (focus ((intro w hSw); (try dsimp only at hSw); go_simp; (try (with_reducible rfl)))); try simp only [Act.put, List.getElem_toArray, List.getElem_cons_succ, List.getElem_cons_zero, List.setIfInBounds_toArray, List.set_cons_zero, List.set_cons_succ]
          refine wpAnyH_take (i := 9) (v := ?_) rfl (by kernel_rfl) (by kernel_rfl) (by kernel_rfl) (fun _ _ _ h => h) (Or.inl ⟨by rfl, ?_⟩) (by assumption) ?_; rotate_left; (focus ((intro w hSw); (try dsimp only at hSw); go_simp; (try (with_reducible rfl)))); try simp only [Act.put, List.getElem_toArray, List.getElem_cons_succ, List.getElem_cons_zero, List.setIfInBounds_toArray, List.set_cons_zero, List.set_cons_succ]
          refine wpAnyH_take (i := 10) (v := ?_) rfl (by kernel_rfl) (by kernel_rfl) (by kernel_rfl) (fun _ _ _ h => h) (Or.inl ⟨by rfl, ?_⟩) (by assumption) ?_; rotate_left; (focus ((intro w hSw); (try dsimp only at hSw); go_simp; (try (with_reducible rfl)))); try simp only [Act.put, List.getElem_toArray, List.getElem_cons_succ, List.getElem_cons_zero, List.setIfInBounds_toArray, List.set_cons_zero, List.set_cons_succ]
          refine wpAnyH_take (i := 12) (v := ?_) rfl (by kernel_rfl) (by kernel_rfl) (by kernel_rfl) (fun _ _ _ h => h) (Or.inl ⟨by rfl, ?_⟩) (by assumption) ?_; rotate_left; (focus ((intro w hSw); (try dsimp only at hSw); go_simp; (try (with_reducible rfl)))); try simp only [Act.put, List.getElem_toArray, List.getElem_cons_succ, List.getElem_cons_zero, List.setIfInBounds_toArray, List.set_cons_zero, List.set_cons_succ]
          refine wpAnyH_ready (rs := [11]) (by kernel_rfl) (by simp) (AllReadyH.cons rfl (fun K hK => ?_) AllReadyH.nil); go_simp; (go_at_call 7; refine (HFY.out _ (HRY7.out.below HB8.out)).mono ?_; rintro e w9 ⟨rfl, hb9⟩; have HB9 := Lib.hid (HB8.out.trans (hb9.mono HB8.out.size)); clear hb9; go_wp2_with fail); refine hK.out _ _ ?_ (fun hHeld => ?_); (focus (exact HKE.out _ HB9.out)); clear hK K; try simp only [Act.put, List.getElem_toArray, List.getElem_cons_succ, List.getElem_cons_zero, List.setIfInBounds_toArray, List.set_cons_zero, List.set_cons_succ]
          refine wpAnyH_take (i := 13) (v := ?_) rfl (by kernel_rfl) (by kernel_rfl) (by kernel_rfl) (fun _ _ _ h => h) (Or.inl ⟨by rfl, ?_⟩) (by assumption) ?_; rotate_left; (focus ((intro w hSw); (try dsimp only at hSw); go_simp; (try (with_reducible rfl)))); try simp only [Act.put, List.getElem_toArray, List.getElem_cons_succ, List.getElem_cons_zero, List.setIfInBounds_toArray, List.set_cons_zero, List.set_cons_succ]
          refine wpAnyH_take (i := 14) (v := ?_) rfl (by kernel_rfl) (by kernel_rfl) (by kernel_rfl) (fun _ _ _ h => h) (Or.inl ⟨by rfl, ?_⟩) (by assumption) ?_; rotate_left; (focus ((intro w hSw); (try dsimp only at hSw); go_simp; (try (with_reducible rfl)))); try simp only [Act.put, List.getElem_toArray, List.getElem_cons_succ, List.getElem_cons_zero, List.setIfInBounds_toArray, List.set_cons_zero, List.set_cons_succ]
          refine wpAnyH_take (i := 15) (v := ?_) rfl (by kernel_rfl) (by kernel_rfl) (by kernel_rfl) (fun _ _ _ h => h) (Or.inl ⟨by rfl, ?_⟩) (by assumption) ?_; rotate_left; (focus ((intro w hSw); (try dsimp only at hSw); go_simp; (try (with_reducible rfl)))); try simp only [Act.put, List.getElem_toArray, List.getElem_cons_succ, List.getElem_cons_zero, List.setIfInBounds_toArray, List.set_cons_zero, List.set_cons_succ]
          refine wpAnyH_take (i := 16) (v := ?_) rfl (by kernel_rfl) (by kernel_rfl) (by kernel_rfl) (fun _ _ _ h => h) (Or.inl ⟨by rfl, ?_⟩) (by assumption) ?_; rotate_left; (focus ((intro w hSw); (try dsimp only at hSw); go_simp; (try (with_reducible rfl)))); try simp only [Act.put, List.getElem_toArray, List.getElem_cons_succ, List.getElem_cons_zero, List.setIfInBounds_toArray, List.set_cons_zero, List.set_cons_succ]
          refine wpAnyH_take (i := 18) (v := ?_) rfl (by kernel_rfl) (by kernel_rfl) (by kernel_rfl) (fun _ _ _ h => h) (Or.inl ⟨by rfl, ?_⟩) (by assumption) ?_; rotate_left; (focus ((intro w hSw); (try dsimp only at hSw); go_simp; (try (with_reducible rfl)))); try simp only [Act.put, List.getElem_toArray, List.getElem_cons_succ, List.getElem_cons_zero, List.setIfInBounds_toArray, List.set_cons_zero, List.set_cons_succ]
          refine wpAnyH_ready (rs := [17]) (by kernel_rfl) (by simp) (AllReadyH.cons rfl (fun K hK => ?_) AllReadyH.nil); go_simp; (go_at_call 10; refine (HKX.out _ (HRX7.out.below HB9.out)).mono ?_; rintro e w10 ⟨v10, rfl, ho10, hb10⟩; obtain ⟨p10, c10, rfl, hr10, -⟩ := ho10.shape; have HB10 := Lib.hid (HB9.out.trans (hb10.mono HB9.out.size)); clear hb10; go_wp2_with fail); refine hK.out _ _ ?_ (fun hHeld => ?_); (focus (exact HKE.out _ HB10.out)); clear hK K; try simp only [Act.put, List.getElem_toArray, List.getElem_cons_succ, List.getElem_cons_zero, List.setIfInBounds_toArray, List.set_cons_zero, List.set_cons_succ]
          refine wpAnyH_ready (rs := [19]) (by kernel_rfl) (by simp) (AllReadyH.cons rfl (fun K hK => ?_) AllReadyH.nil); go_simp; (go_at_call 10; refine (HKY.out _ (HRY7.out.below HB10.out)).mono ?_; rintro e w11 ⟨v11, rfl, ho11, hb11⟩; have HR10 := Lib.hid (hr10.below hb11); obtain ⟨p11, c11, rfl, hr11, -⟩ := ho11.shape; have HR11 := Lib.hid hr11; have HB11 := Lib.hid (HB10.out.trans (hb11.mono HB10.out.size)); clear hb11; clear hr10 hr11 ho10 ho11; go_wp2_with fail); refine hK.out _ _ ?_ (fun hHeld => ?_); (focus (exact HKE.out _ HB11.out)); clear hK K; try simp only [Act.put, List.getElem_toArray, List.getElem_cons_succ, List.getElem_cons_zero, List.setIfInBounds_toArray, List.set_cons_zero, List.set_cons_succ]
          refine wpAnyH_ready (rs := [20]) (by kernel_rfl) (by simp) (AllReadyH.cons rfl (fun K hK => ?_) AllReadyH.nil); go_simp; (go_at_call 9; refine (texts_eq HR10.out HR11.out HK21.out).mono ?_; rintro e w12 ⟨rfl, hb12⟩; have HB12 := Lib.hid (HB11.out.trans (hb12.mono HB11.out.size)); clear hb12; go_wp2_with fail); refine hK.out _ _ ?_ (fun hHeld => ?_); (focus (exact HKE.out _ HB12.out)); clear hK K; try simp only [Act.put, List.getElem_toArray, List.getElem_cons_succ, List.getElem_cons_zero, List.setIfInBounds_toArray, List.set_cons_zero, List.set_cons_succ]
          refine wpAnyH_take (i := 21) (v := ?_) rfl (by kernel_rfl) (by kernel_rfl) (by kernel_rfl) (fun _ _ _ h => h) (Or.inl ⟨by rfl, ?_⟩) (by assumption) ?_; rotate_left; (focus ((intro w hSw); (try dsimp only at hSw); go_simp; (try (with_reducible rfl)))); try simp only [Act.put, List.getElem_toArray, List.getElem_cons_succ, List.getElem_cons_zero, List.setIfInBounds_toArray, List.set_cons_zero, List.set_cons_succ]
          refine wpAnyH_take (i := 22) (v := ?_) rfl (by kernel_rfl) (by kernel_rfl) (by kernel_rfl) (fun _ _ _ h => h) (Or.inl ⟨by rfl, ?_⟩) (by assumption) ?_; rotate_left; (focus ((intro w hSw); (try dsimp only at hSw); go_simp; (try (with_reducible rfl)))); try simp only [Act.put, List.getElem_toArray, List.getElem_cons_succ, List.getElem_cons_zero, List.setIfInBounds_toArray, List.set_cons_zero, List.set_cons_succ]
          refine wpAnyH_take (i := 23) (v := ?_) rfl (by kernel_rfl) (by kernel_rfl) (by kernel_rfl) (fun _ _ _ h => h) (Or.inl ⟨by rfl, ?_⟩) (by assumption) ?_; rotate_left; (focus ((intro w hSw); (try dsimp only at hSw); go_simp; (try (with_reducible rfl)))); try simp only [Act.put, List.getElem_toArray, List.getElem_cons_succ, List.getElem_cons_zero, List.setIfInBounds_toArray, List.set_cons_zero, List.set_cons_succ]
          by_cases h0 : F = 0
          · subst h0
            refine wpAnyH_take (i := 24) (v := ?_) rfl (by kernel_rfl) (by kernel_rfl) (by kernel_rfl) (fun _ _ _ h => h) (Or.inl ⟨by rfl, ?_⟩) (by assumption) ?_; rotate_left; (focus ((intro w hSw); (try dsimp only at hSw); go_simp; (try (with_reducible rfl)))); try simp only [Act.put, List.getElem_toArray, List.getElem_cons_succ, List.getElem_cons_zero, List.setIfInBounds_toArray, List.set_cons_zero, List.set_cons_succ]
            refine wpAnyH_take (i := 25) (v := ?_) rfl (by kernel_rfl) (by kernel_rfl) (by kernel_rfl) (fun _ _ _ h => h) (Or.inl ⟨by rfl, ?_⟩) (by assumption) ?_; rotate_left; (focus ((intro w hSw); (try dsimp only at hSw); go_simp; (try (with_reducible rfl)))); try simp only [Act.put, List.getElem_toArray, List.getElem_cons_succ, List.getElem_cons_zero, List.setIfInBounds_toArray, List.set_cons_zero, List.set_cons_succ]
            refine wpAnyH_take (i := 26) (v := undef) rfl (by kernel_rfl) (by kernel_rfl) (by kernel_rfl) (fun _ _ _ h => h) (Or.inr ⟨by rfl, rfl⟩) (by assumption) ?_; try simp only [Act.put, List.getElem_toArray, List.getElem_cons_succ, List.getElem_cons_zero, List.setIfInBounds_toArray, List.set_cons_zero, List.set_cons_succ]
            refine wpAnyH_take (i := 27) (v := undef) rfl (by kernel_rfl) (by kernel_rfl) (by kernel_rfl) (fun _ _ _ h => h) (Or.inr ⟨by rfl, rfl⟩) (by assumption) ?_; try simp only [Act.put, List.getElem_toArray, List.getElem_cons_succ, List.getElem_cons_zero, List.setIfInBounds_toArray, List.set_cons_zero, List.set_cons_succ]
            refine wpAnyH_take (i := 28) (v := undef) rfl (by kernel_rfl) (by kernel_rfl) (by kernel_rfl) (fun _ _ _ h => h) (Or.inr ⟨by rfl, rfl⟩) (by assumption) ?_; try simp only [Act.put, List.getElem_toArray, List.getElem_cons_succ, List.getElem_cons_zero, List.setIfInBounds_toArray, List.set_cons_zero, List.set_cons_succ]
            refine wpAnyH_take (i := 29) (v := undef) rfl (by kernel_rfl) (by kernel_rfl) (by kernel_rfl) (fun _ _ _ h => h) (Or.inr ⟨by rfl, rfl⟩) (by assumption) ?_; try simp only [Act.put, List.getElem_toArray, List.getElem_cons_succ, List.getElem_cons_zero, List.setIfInBounds_toArray, List.set_cons_zero, List.set_cons_succ]
            refine wpAnyH_take (i := 30) (v := ?_) rfl (by kernel_rfl) (by kernel_rfl) (by kernel_rfl) (fun _ _ _ h => h) (Or.inl ⟨by rfl, ?_⟩) (by assumption) ?_; rotate_left; (focus ((intro w hSw); (try dsimp only at hSw); go_simp; (try (with_reducible rfl)))); try simp only [Act.put, List.getElem_toArray, List.getElem_cons_succ, List.getElem_cons_zero, List.setIfInBounds_toArray, List.set_cons_zero, List.set_cons_succ]
            refine wpAnyH_take (i := 31) (v := ?_) rfl (by kernel_rfl) (by kernel_rfl) (by kernel_rfl) (fun _ _ _ h => h) (Or.inl ⟨by rfl, ?_⟩) (by assumption) ?_; rotate_left; (focus ((intro w hSw); (try dsimp only at hSw); go_simp; (try (with_reducible rfl)))); try simp only [Act.put, List.getElem_toArray, List.getElem_cons_succ, List.getElem_cons_zero, List.setIfInBounds_toArray, List.set_cons_zero, List.set_cons_succ]
            refine wpAnyH_take (i := 32) (v := ?_) rfl (by kernel_rfl) (by kernel_rfl) (by kernel_rfl) (fun _ _ _ h => h) (Or.inl ⟨by rfl, ?_⟩) (by assumption) ?_; rotate_left; (focus ((intro w hSw); (try dsimp only at hSw); go_simp; (try (with_reducible rfl)))); try simp only [Act.put, List.getElem_toArray, List.getElem_cons_succ, List.getElem_cons_zero, List.setIfInBounds_toArray, List.set_cons_zero, List.set_cons_succ]
            refine wpAnyH_take (i := 33) (v := ?_) rfl (by kernel_rfl) (by kernel_rfl) (by kernel_rfl) (fun _ _ _ h => h) (Or.inl ⟨by rfl, ?_⟩) (by assumption) ?_; rotate_left; (focus ((intro w hSw); (try dsimp only at hSw); go_simp; (try (with_reducible rfl)))); try simp only [Act.put, List.getElem_toArray, List.getElem_cons_succ, List.getElem_cons_zero, List.setIfInBounds_toArray, List.set_cons_zero, List.set_cons_succ]
            refine wpAnyH_take (i := 34) (v := ?_) rfl (by kernel_rfl) (by kernel_rfl) (by kernel_rfl) (fun _ _ _ h => h) (Or.inl ⟨by rfl, ?_⟩) (by assumption) ?_; rotate_left; (focus ((intro w hSw); (try dsimp only at hSw); go_simp; (try (with_reducible rfl)))); try simp only [Act.put, List.getElem_toArray, List.getElem_cons_succ, List.getElem_cons_zero, List.setIfInBounds_toArray, List.set_cons_zero, List.set_cons_succ]
            refine wpAnyH_take (i := 36) (v := ?_) rfl (by kernel_rfl) (by kernel_rfl) (by kernel_rfl) (fun _ _ _ h => h) (Or.inl ⟨by rfl, ?_⟩) (by assumption) ?_; rotate_left; (focus ((intro w hSw); (try dsimp only at hSw); go_simp; (try (with_reducible rfl)))); try simp only [Act.put, List.getElem_toArray, List.getElem_cons_succ, List.getElem_cons_zero, List.setIfInBounds_toArray, List.set_cons_zero, List.set_cons_succ]
            refine wpAnyH_take (i := 37) (v := ?_) rfl (by kernel_rfl) (by kernel_rfl) (by kernel_rfl) (fun _ _ _ h => h) (Or.inl ⟨by rfl, ?_⟩) (by assumption) ?_; rotate_left; (focus ((intro w hSw); (try dsimp only at hSw); go_simp; (try (with_reducible rfl)))); try simp only [Act.put, List.getElem_toArray, List.getElem_cons_succ, List.getElem_cons_zero, List.setIfInBounds_toArray, List.set_cons_zero, List.set_cons_succ]
            have HBX := HB12
            refine wpAnyH_ready (rs := [35]) (by kernel_rfl) (by simp) (AllReadyH.cons rfl (fun K hK => ?_) AllReadyH.nil); go_simp; (go_at_call 11; refine (HUL.out _).mono ?_; rintro e w14 ⟨rfl, hb14⟩; have HB14 := Lib.hid (HBX.out.trans (hb14.mono HBX.out.size)); clear hb14; go_wp2_with fail); refine hK.out _ _ ?_ (fun hHeld => ?_); (focus (exact HKE.out _ HB14.out)); clear hK K; try simp only [Act.put, List.getElem_toArray, List.getElem_cons_succ, List.getElem_cons_zero, List.setIfInBounds_toArray, List.set_cons_zero, List.set_cons_succ]
            refine wpAnyH_take (i := 38) (v := ?_) rfl (by kernel_rfl) (by kernel_rfl) (by kernel_rfl) (fun _ _ _ h => h) (Or.inl ⟨by rfl, ?_⟩) (by assumption) ?_; rotate_left; (focus ((intro w hSw); (try dsimp only at hSw); go_simp; (try (with_reducible rfl)))); try simp only [Act.put, List.getElem_toArray, List.getElem_cons_succ, List.getElem_cons_zero, List.setIfInBounds_toArray, List.set_cons_zero, List.set_cons_succ]
            refine wpAnyH_take (i := 39) (v := ?_) rfl (by kernel_rfl) (by kernel_rfl) (by kernel_rfl) (fun _ _ _ h => h) (Or.inl ⟨by rfl, ?_⟩) (by assumption) ?_; rotate_left; (focus ((intro w hSw); (try dsimp only at hSw); go_simp; (try (with_reducible rfl)))); try simp only [Act.put, List.getElem_toArray, List.getElem_cons_succ, List.getElem_cons_zero, List.setIfInBounds_toArray, List.set_cons_zero, List.set_cons_succ]
            refine wpAnyH_take (i := 40) (v := ?_) rfl (by kernel_rfl) (by kernel_rfl) (by kernel_rfl) (fun _ _ _ h => h) (Or.inl ⟨by rfl, ?_⟩) (by assumption) ?_; rotate_left; (focus ((intro w hSw); (try dsimp only at hSw); go_simp; (try (with_reducible rfl)))); try simp only [Act.put, List.getElem_toArray, List.getElem_cons_succ, List.getElem_cons_zero, List.setIfInBounds_toArray, List.set_cons_zero, List.set_cons_succ]
            refine wpAnyH_done (by kernel_rfl) ?_ _
            refine NoPanic.normal ?_
            go_wp2_with fail
            go_ret
            exact ⟨rfl, HW7.out.trans (HB14.out.mono HW7.out.size)⟩
          · have d1 : (F == 0) = false := by rw [beq_eq_false_iff_ne]; exact h0
            have hk0 := HKN.out h0
            rw [hk0] at HKX
            refine wpAnyH_take (i := 24) (v := ?_) rfl (by kernel_rfl) (by kernel_rfl) (by kernel_rfl) (fun _ _ _ h => h) (Or.inl ⟨by rfl, ?_⟩) (by assumption) ?_; rotate_left; (focus ((intro w hSw); (try dsimp only at hSw); go_simp; (try (with_reducible rfl)))); try simp only [Act.put, List.getElem_toArray, List.getElem_cons_succ, List.getElem_cons_zero, List.setIfInBounds_toArray, List.set_cons_zero, List.set_cons_succ]
            refine wpAnyH_take (i := 25) (v := ?_) rfl (by kernel_rfl) (by kernel_rfl) (by kernel_rfl) (fun _ _ _ h => h) (Or.inl ⟨by rfl, ?_⟩) (by assumption) ?_; rotate_left; (focus ((intro w hSw); (try dsimp only at hSw); go_simp; (try (with_reducible rfl)))); try simp only [Act.put, List.getElem_toArray, List.getElem_cons_succ, List.getElem_cons_zero, List.setIfInBounds_toArray, List.set_cons_zero, List.set_cons_succ]
            refine wpAnyH_take (i := 26) (v := ?_) rfl (by kernel_rfl) (by kernel_rfl) (by kernel_rfl) (fun _ _ _ h => h) (Or.inl ⟨by rfl, ?_⟩) (by assumption) ?_; rotate_left; (focus ((intro w hSw); (try dsimp only at hSw); go_simp; (try (with_reducible rfl)))); try simp only [Act.put, List.getElem_toArray, List.getElem_cons_succ, List.getElem_cons_zero, List.setIfInBounds_toArray, List.set_cons_zero, List.set_cons_succ]
            refine wpAnyH_ready (rs := [27]) (by kernel_rfl) (by simp) (AllReadyH.cons rfl (fun K hK => ?_) AllReadyH.nil); go_simp; (go_at_call 10; refine (HKX.out _ (HRX7.out.below HB12.out)).mono ?_; rintro e w13 ⟨v13, rfl, ho13, hb13⟩; obtain ⟨p13, c13, rfl, hr13, -⟩ := ho13.shape; have HB13 := Lib.hid (HB12.out.trans (hb13.mono HB12.out.size)); clear hb13 hr13 ho13; go_wp2_with fail); refine hK.out _ _ ?_ (fun hHeld => ?_); (focus (exact HKE.out _ HB13.out)); clear hK K; try simp only [Act.put, List.getElem_toArray, List.getElem_cons_succ, List.getElem_cons_zero, List.setIfInBounds_toArray, List.set_cons_zero, List.set_cons_succ]
            refine wpAnyH_take (i := 28) (v := ?_) rfl (by kernel_rfl) (by kernel_rfl) (by kernel_rfl) (fun _ _ _ h => h) (Or.inl ⟨by rfl, ?_⟩) (by assumption) ?_; rotate_left; (focus ((intro w hSw); (try dsimp only at hSw); go_simp; (try (with_reducible rfl)))); try simp only [Act.put, List.getElem_toArray, List.getElem_cons_succ, List.getElem_cons_zero, List.setIfInBounds_toArray, List.set_cons_zero, List.set_cons_succ]
            refine wpAnyH_take (i := 29) (v := ?_) rfl (by kernel_rfl) (by kernel_rfl) (by kernel_rfl) (fun _ _ _ h => h) (Or.inl ⟨by rfl, ?_⟩) (by assumption) ?_; rotate_left; (focus ((intro w hSw); (try dsimp only at hSw); go_simp; (try (with_reducible rfl)))); try simp only [Act.put, List.getElem_toArray, List.getElem_cons_succ, List.getElem_cons_zero, List.setIfInBounds_toArray, List.set_cons_zero, List.set_cons_succ]
            refine wpAnyH_take (i := 30) (v := ?_) rfl (by kernel_rfl) (by kernel_rfl) (by kernel_rfl) (fun _ _ _ h => h) (Or.inl ⟨by rfl, ?_⟩) (by assumption) ?_; rotate_left; (focus ((intro w hSw); (try dsimp only at hSw); go_simp; (try (with_reducible rfl)))); try simp only [Act.put, List.getElem_toArray, List.getElem_cons_succ, List.getElem_cons_zero, List.setIfInBounds_toArray, List.set_cons_zero, List.set_cons_succ]
            refine wpAnyH_take (i := 31) (v := ?_) rfl (by kernel_rfl) (by kernel_rfl) (by kernel_rfl) (fun _ _ _ h => h) (Or.inl ⟨by rfl, ?_⟩) (by assumption) ?_; rotate_left; (focus ((intro w hSw); (try dsimp only at hSw); go_simp; (try (with_reducible rfl)))); try simp only [Act.put, List.getElem_toArray, List.getElem_cons_succ, List.getElem_cons_zero, List.setIfInBounds_toArray, List.set_cons_zero, List.set_cons_succ]
            refine wpAnyH_take (i := 32) (v := ?_) rfl (by kernel_rfl) (by kernel_rfl) (by kernel_rfl) (fun _ _ _ h => h) (Or.inl ⟨by rfl, ?_⟩) (by assumption) ?_; rotate_left; (focus ((intro w hSw); (try dsimp only at hSw); go_simp; (try (with_reducible rfl)))); try simp only [Act.put, List.getElem_toArray, List.getElem_cons_succ, List.getElem_cons_zero, List.setIfInBounds_toArray, List.set_cons_zero, List.set_cons_succ]
            refine wpAnyH_take (i := 33) (v := ?_) rfl (by kernel_rfl) (by kernel_rfl) (by kernel_rfl) (fun _ _ _ h => h) (Or.inl ⟨by rfl, ?_⟩) (by assumption) ?_; rotate_left; (focus ((intro w hSw); (try dsimp only at hSw); go_simp; (try (with_reducible rfl)))); try simp only [Act.put, List.getElem_toArray, List.getElem_cons_succ, List.getElem_cons_zero, List.setIfInBounds_toArray, List.set_cons_zero, List.set_cons_succ]
            refine wpAnyH_take (i := 34) (v := ?_) rfl (by kernel_rfl) (by kernel_rfl) (by kernel_rfl) (fun _ _ _ h => h) (Or.inl ⟨by rfl, ?_⟩) (by assumption) ?_; rotate_left; (focus ((intro w hSw); (try dsimp only at hSw); go_simp; (try (with_reducible rfl)))); try simp only [Act.put, List.getElem_toArray, List.getElem_cons_succ, List.getElem_cons_zero, List.setIfInBounds_toArray, List.set_cons_zero, List.set_cons_succ]
            refine wpAnyH_take (i := 36) (v := ?_) rfl (by kernel_rfl) (by kernel_rfl) (by kernel_rfl) (fun _ _ _ h => h) (Or.inl ⟨by rfl, ?_⟩) (by assumption) ?_; rotate_left; (focus ((intro w hSw); (try dsimp only at hSw); go_simp; (try (with_reducible rfl)))); try simp only [Act.put, List.getElem_toArray, List.getElem_cons_succ, List.getElem_cons_zero, List.setIfInBounds_toArray, List.set_cons_zero, List.set_cons_succ]
            refine wpAnyH_take (i := 37) (v := ?_) rfl (by kernel_rfl) (by kernel_rfl) (by kernel_rfl) (fun _ _ _ h => h) (Or.inl ⟨by rfl, ?_⟩) (by assumption) ?_; rotate_left; (focus ((intro w hSw); (try dsimp only at hSw); go_simp; (try (with_reducible rfl)))); try simp only [Act.put, List.getElem_toArray, List.getElem_cons_succ, List.getElem_cons_zero, List.setIfInBounds_toArray, List.set_cons_zero, List.set_cons_succ]
            have HBX := HB13
            refine wpAnyH_ready (rs := [35]) (by kernel_rfl) (by simp) (AllReadyH.cons rfl (fun K hK => ?_) AllReadyH.nil); go_simp; (go_at_call 11; refine (HUL.out _).mono ?_; rintro e w14 ⟨rfl, hb14⟩; have HB14 := Lib.hid (HBX.out.trans (hb14.mono HBX.out.size)); clear hb14; go_wp2_with fail); refine hK.out _ _ ?_ (fun hHeld => ?_); (focus (exact HKE.out _ HB14.out)); clear hK K; try simp only [Act.put, List.getElem_toArray, List.getElem_cons_succ, List.getElem_cons_zero, List.setIfInBounds_toArray, List.set_cons_zero, List.set_cons_succ]
            refine wpAnyH_take (i := 38) (v := ?_) rfl (by kernel_rfl) (by kernel_rfl) (by kernel_rfl) (fun _ _ _ h => h) (Or.inl ⟨by rfl, ?_⟩) (by assumption) ?_; rotate_left; (focus ((intro w hSw); (try dsimp only at hSw); go_simp; (try (with_reducible rfl)))); try simp only [Act.put, List.getElem_toArray, List.getElem_cons_succ, List.getElem_cons_zero, List.setIfInBounds_toArray, List.set_cons_zero, List.set_cons_succ]
            refine wpAnyH_take (i := 39) (v := ?_) rfl (by kernel_rfl) (by kernel_rfl) (by kernel_rfl) (fun _ _ _ h => h) (Or.inl ⟨by rfl, ?_⟩) (by assumption) ?_; rotate_left; (focus ((intro w hSw); (try dsimp only at hSw); go_simp; (try (with_reducible rfl)))); try simp only [Act.put, List.getElem_toArray, List.getElem_cons_succ, List.getElem_cons_zero, List.setIfInBounds_toArray, List.set_cons_zero, List.set_cons_succ]
            refine wpAnyH_take (i := 40) (v := ?_) rfl (by kernel_rfl) (by kernel_rfl) (by kernel_rfl) (fun _ _ _ h => h) (Or.inl ⟨by rfl, ?_⟩) (by assumption) ?_; rotate_left; (focus ((intro w hSw); (try dsimp only at hSw); go_simp; (try (with_reducible rfl)))); try simp only [Act.put, List.getElem_toArray, List.getElem_cons_succ, List.getElem_cons_zero, List.setIfInBounds_toArray, List.set_cons_zero, List.set_cons_succ]
            refine wpAnyH_done (by kernel_rfl) ?_ _
            refine NoPanic.normal ?_
            go_wp2_with fail
            go_ret
            exact ⟨rfl, HW7.out.trans (HB14.out.mono HW7.out.size)⟩
end Go.Proofs.Ytecpkoigjnpkfaa
