/- The walk over ValueOrder. -/
import Derived.Test.YtblmnaejkdkndaaValOrderMem
set_option linter.unusedSimpArgs false
set_option linter.unusedVariables false
namespace Go.Proofs.Ytblmnaejkdkndaa
open Go.RowKit Wire

/-- a name of one letter -/
def nmK (k : Nat) : List UInt8 := [UInt8.ofNat (97 + k)]
theorem nmK_by8 (k : Nat) (h : k < 26) : by8 (nmK k) = [Value.int .u8 (97 + (k : Int))] := by
  have e : ((UInt8.ofNat (97 + k)).toNat : Int) = 97 + (k : Int) := by simp; omega
  simp [by8, nmK]; omega
theorem rises_snoc {N : List (List UInt8)} {y : List UInt8} : Rises (N ++ [y]) ↔ Rises N ∧ (N = [] ∨ ∀ h : 0 < N.length, N[N.length - 1] < y) := by
  constructor
  · intro h
    refine ⟨fun j hj => ?_, ?_⟩
    · have := h j (by simp; omega)
      rw [List.getElem_append_left (by omega), List.getElem_append_left (by omega)] at this
      exact this
    · rcases N.eq_nil_or_concat with h0 | ⟨_, _, h0⟩
      · exact .inl h0
      · right
        intro hl
        have := h (N.length - 1) (by simp; omega)
        rw [List.getElem_append_left (by omega), List.getElem_append_right (by omega)] at this
        simpa using this
  · rintro ⟨h, h2⟩ j hj
    simp at hj
    by_cases hjl : j + 1 < N.length
    · rw [List.getElem_append_left (by omega), List.getElem_append_left (by omega)]
      exact h j hjl
    · have e : j + 1 = N.length := by omega
      rcases h2 with h2 | h2
      · subst h2; simp at e
      · have := h2 (by omega)
        rw [List.getElem_append_left (by omega), List.getElem_append_right (by omega)]
        simp only [e, Nat.sub_self, List.getElem_cons_zero]
        have e2 : N.length - 1 = j := by omega
        simp only [e2] at this
        exact this
theorem three_rows (w : World) (a b c : Obj) : ((((w.alloc a).alloc b).alloc c)).heap[w.heap.size]? = some a ∧ ((((w.alloc a).alloc b).alloc c)).heap[w.heap.size + 1]? = some b ∧ ((((w.alloc a).alloc b).alloc c)).heap[w.heap.size + 1 + 1]? = some c := by
  show (((w.heap.push a).push b).push c)[w.heap.size]? = _ ∧ (((w.heap.push a).push b).push c)[w.heap.size + 1]? = _ ∧ (((w.heap.push a).push b).push c)[w.heap.size + 1 + 1]? = _
  refine ⟨?_, ?_, ?_⟩ <;> simp only [Array.getElem?_push, Array.size_push] <;> (repeat (first | rw [if_pos trivial] | rw [if_pos (by omega)] | rw [if_neg (by omega)]))
theorem sumT_ones : ∀ N : List (List UInt8), (∀ x ∈ N, x.length = 1) → sumT N = N.length ∧ sumT (two N) = N.length
  | [], _ => ⟨rfl, rfl⟩
  | x :: N, h => by
    have ih := sumT_ones N fun y hy => h y (List.mem_cons_of_mem _ hy)
    have hx := h x List.mem_cons_self
    constructor
    · have e : sumT (x :: N) = x.length + sumT N := by simp [sumT]
      rw [e, hx, ih.1, List.length_cons]; omega
    · have e : sumT (two (x :: N)) = x.length + sumT (two N) := by simp [sumT, two]
      rw [e, hx, ih.2, List.length_cons]; omega
/-- where ValueOrder's loop stands -/
def OrdRel (B hb n : Nat) (w : World) (rv iv : Value) (wr : World) : Prop :=
  ∃ (N : List (List UInt8)) (vF vS vQ : Value) (b : Bool), N.length ≤ n ∧ (∀ x ∈ N, x.length = 1) ∧ iv = .int .i64 (N.length : Int) ∧ rv = .bool b ∧ (b = true ↔ Rises N) ∧ OrdM B hb (hb + 1) (hb + 1 + 1) wr vF vS vQ N N N ∧ Below w.heap.size w wr ∧ B ≤ wr.heap.size
set_option maxHeartbeats 4000000 in
set_option maxRecDepth 20000 in
theorem valueOrder_walk (p : Option Addr) (c : Nat) (l : List Int) (w : World) (hr : Rd w p (l.map fun x : Int => Value.int .i64 x)) :
    Calls Try.prog 3 #[.slice p l.length c] w fun e w' => e = .returned (.bool true) ∧ Below w.heap.size w w' := by
  go_enter Try.func3, Try.ntmps3
  by_cases hin : 2 ≤ l.length ∧ l.length ≤ 12
  · obtain ⟨hl2, hl12⟩ := hin
    have d1 : decide ((l.length : Int) < 2) = false := by rw [decide_eq_false_iff_not]; omega
    have d2 : decide ((12 : Int) < (l.length : Int)) = false := by rw [decide_eq_false_iff_not]; omega
    obtain ⟨n, hn⟩ : ∃ n, n = l.length := ⟨_, rfl⟩
    have HR := Lib.hid hr
    have HN := Lib.hid hn
    rw [← hn] at d1 d2 hl2 hl12 ⊢
    clear hr hn
    go_wp2_with fail
    obtain ⟨w1, hw1⟩ : ∃ v, v = (((w.alloc (.cells (valC 3 ⟨#[]⟩ (.slice none 0 0) (.slice none 0 0) (.slice none 0 0) (.slice none 0 0)) 29)).alloc (.cells (valC 4 ⟨#[]⟩ (.slice none 0 0) (.slice none 0 0) (.slice none 0 0) (.slice none 0 0)) 29)).alloc (.cells (valC 5 ⟨#[]⟩ (.slice none 0 0) (.slice none 0 0) (.slice none 0 0) (.slice none 0 0)) 29)) := ⟨_, rfl⟩
    have hb1 : Below w.heap.size w w1 := by rw [hw1]; repeat (first | exact Below.refl _ _ | refine grewA ?_ _ | refine Below.drew ?_ | refine grew ?_ (by assumption))
    have hs1 : w1.heap.size = w.heap.size + 1 + 1 + 1 := by rw [hw1]; go_simp
    have hrows : w1.heap[w.heap.size]? = some (.cells (valC 3 ⟨#[]⟩ (.slice none 0 0) (.slice none 0 0) (.slice none 0 0) (.slice none 0 0)) 29 (0, 0)) ∧ w1.heap[w.heap.size + 1]? = some (.cells (valC 4 ⟨#[]⟩ (.slice none 0 0) (.slice none 0 0) (.slice none 0 0) (.slice none 0 0)) 29 (0, 0)) ∧ w1.heap[w.heap.size + 1 + 1]? = some (.cells (valC 5 ⟨#[]⟩ (.slice none 0 0) (.slice none 0 0) (.slice none 0 0) (.slice none 0 0)) 29 (0, 0)) := by
      rw [hw1]
      exact three_rows w _ _ _
    have hm : OrdM w1.heap.size w.heap.size (w.heap.size + 1) (w.heap.size + 1 + 1) w1 (.slice none 0 0) (.slice none 0 0) (.slice none 0 0) [] [] [] :=
      ⟨OwnS.none, OwnS.none, OwnS.none, hrows.1, hrows.2.1, hrows.2.2, by omega, by omega⟩
    obtain ⟨hb, hhb⟩ : ∃ hb, hb = w.heap.size := ⟨_, rfl⟩
    rw [← hw1, ← hhb]
    rw [← hhb] at hm
    have HM := Lib.hid hm
    have HB1 := Lib.hid hb1
    have HHB := Lib.hid hhb
    clear hw1 hb1 hs1 hrows hm hhb
    go_loopw [6, 7] (fun r i wr => OrdRel w1.heap.size hb n w r i wr) (fun _ i _ => n - (intOf i).toNat)
    case atStart => exact ⟨[], (.slice none 0 0), (.slice none 0 0), (.slice none 0 0), true, Nat.zero_le n, by simp, rfl, rfl, ⟨fun _ => rises_nil, fun _ => rfl⟩, HM.out, HB1.out, Nat.le_refl _⟩
    case round =>
      obtain ⟨N, vF, vS, vQ, b, hNn, hN1, rfl, rfl, hb, hm, hbw, hsr⟩ := hrel
      have HSR := Lib.hid hsr
      clear hsr
      obtain ⟨j, hj⟩ : ∃ j, j = N.length := ⟨_, rfl⟩
      have HJ := Lib.hid hj
      have HN1 := Lib.hid hN1
      have HB := Lib.hid hb
      have HM2 := Lib.hid hm
      have HBW := Lib.hid hbw
      rw [← hj] at hNn ⊢
      clear hj hN1 hb
      by_cases hjn : j < n
      · obtain ⟨bp, op, rfl, hcc⟩ := (HR.out.below HBW.out).at (k := j) (by rw [List.length_map]; have := HN.out; omega)
        have c0 := hcc j (by rw [List.length_map]; have := HN.out; omega)
        rw [List.getElem_map] at c0
        generalize l[j]'(by have := HN.out; omega) = x at c0
        obtain ⟨u, k, hu, hk, hk1, hk2⟩ := uint_mod x 26 26 rfl (by omega)
        have i0 : (j : Int) < (n : Int) := by omega
        have i1 : (0 : Int) ≤ (j : Int) := by omega
        have u1 : IntKind.u8.wrap (k : Int) = (k : Int) := by rw [IntKind.wrap_u8']; omega
        have hb8 : Rd8 (wr.alloc (.cells #[.int .u8 (97 + (k : Int))] 5)) (some ⟨wr.heap.size, 0, none⟩) (nmK k) := Rd.of_row (heap_alloc_new _ _) 0 (by rw [nmK_by8 k hk]; exact List.prefix_refl _)
        have HB8 := Lib.hid hb8
        clear hcc hb8 hm hbw
        go_upto_region 9 with (((with_reducible refine L_b2s slB isB isS HB8.out ?_ ?_ ?_); (focus rfl); (focus exact ⟨_, _, rfl, rfl⟩); simp only [Act.put, List.setIfInBounds_toArray, List.set_cons_zero, List.set_cons_succ]))
        obtain ⟨wa, hwa⟩ : ∃ v, v = wr.alloc (.cells #[.int .u8 (97 + (k : Int))] 5) := ⟨_, rfl⟩
        have hba : Below wr.heap.size wr wa := by rw [hwa]; exact (Below.refl _ _).alloc (Nat.le_refl _) _
        rw [← hwa]
        have hma := HM2.out.below hba
        have hy : (nmK k).length = 1 := rfl
        have hbx := HBW.out.trans (hba.mono HBW.out.size)
        generalize nmK k = y at hy ⊢
        have HY := Lib.hid hy
        have hjl : j = N.length := HJ.out
        rw [hjl]
        have HMA := Lib.hid hma
        have HBX := Lib.hid hbx
        have hn12 : N.length ≤ 12 := by omega
        have HSA := Lib.hid (Nat.le_trans HSR.out hba.size)
        clear hwa hba hma hy hbx i0 i1 c0
        -- APPENDS
        have hk0 := HMA.out.keepF
        have q0 := (hk0 _ (Chg.refl _ _)).1
        have HK0 := Lib.hid hk0
        clear hk0
        have hnw0 : Rd (wa.alloc (.cells #[.string (str y), (.string ⟨#[]⟩)] 33)) (some ⟨wa.heap.size, 0, none⟩) (el2 (.string ⟨#[]⟩) [y]) := Rd.of_row (heap_alloc_new _ _) 0 (by simp [el2])
        have HNW0 := Lib.hid hnw0
        clear hnw0
        go_upto_region 10 with ((with_reducible refine L_appR slFd Try.underlying25 (HMA.out.of.alloc _) HNW0.out (el2_one rfl _) (m := 1) rfl ?_ ?_ ?_ ?_ ?_); (focus rfl); (focus rfl); (focus exact ⟨_, rfl⟩); (focus exact ⟨room1 (by omega), by omega, by have := HSA.out; (try simp); (try omega)⟩); intro v4 w4 ho4 hg4 hk4 hn4; clear hn4 hk4; have hap4 : Chg (fun j => vF.ownBlock = some j) wa w4 := (Chg.of_below ((Below.refl _ _).alloc (Nat.le_refl _) _)).trans (Chg.of_grown hg4.by_ fun k e => e) (fun _ _ h => h); obtain ⟨z2, y2⟩ := HK0.out _ hap4; obtain ⟨p0, cap0, rfl, _, _⟩ := ho4.shape; have HO4 := Lib.hid ho4; have HAP4 := Lib.hid hap4; clear ho4 hg4 hap4; simp only [Act.put, List.setIfInBounds_toArray, List.set_cons_zero, List.set_cons_succ])
        obtain ⟨hm0, hc0⟩ := HMA.out.addF HAP4.out HO4.out
        have hbx0 : Below w.heap.size w (w4.setCell ⟨hb, 3, none⟩ (.slice p0 (N.length + 1) cap0)) := HBX.out.trans (hc0.below HBX.out.size (fun j hj => by
          have h1 := HHB.out
          rcases hj with hj | hj
          · have h2 := (HMA.out.of.lt j hj).1; have h3 := HMA.out.lt.1; omega
          · omega))
        have hsz0 : w1.heap.size ≤ (w4.setCell ⟨hb, 3, none⟩ (.slice p0 (N.length + 1) cap0)).heap.size := Nat.le_trans HSA.out hc0.size
        generalize (w4.setCell ⟨hb, 3, none⟩ (.slice p0 (N.length + 1) cap0)) = wc0 at *
        have HMB0 := Lib.hid hm0
        have HBX0 := Lib.hid hbx0
        have HSB0 := Lib.hid hsz0
        clear hm0 hc0 hbx0 hsz0 HAP4 HO4 HNW0 HK0 q0 y2 z2
        have hk1 := HMB0.out.keepS
        have q1 := (hk1 _ (Chg.refl _ _)).1
        have HK1 := Lib.hid hk1
        clear hk1
        have hnw1 : Rd (wc0.alloc (.cells #[.string (str y), (.int .i64 7)] 35)) (some ⟨wc0.heap.size, 0, none⟩) (el2 (.int .i64 7) [y]) := Rd.of_row (heap_alloc_new _ _) 0 (by simp [el2])
        have HNW1 := Lib.hid hnw1
        clear hnw1
        go_upto_region 11 with ((with_reducible refine L_appR slSc Try.underlying26 (HMB0.out.os.alloc _) HNW1.out (el2_one rfl _) (m := 1) rfl ?_ ?_ ?_ ?_ ?_); (focus rfl); (focus rfl); (focus exact ⟨_, rfl⟩); (focus exact ⟨room1 (by omega), by omega, by have := HSB0.out; (try simp); (try omega)⟩); intro v4 w4 ho4 hg4 hk4 hn4; clear hn4 hk4; have hap4 : Chg (fun j => vS.ownBlock = some j) wc0 w4 := (Chg.of_below ((Below.refl _ _).alloc (Nat.le_refl _) _)).trans (Chg.of_grown hg4.by_ fun k e => e) (fun _ _ h => h); obtain ⟨z2, y2⟩ := HK1.out _ hap4; obtain ⟨p1, cap1, rfl, _, _⟩ := ho4.shape; have HO4 := Lib.hid ho4; have HAP4 := Lib.hid hap4; clear ho4 hg4 hap4; simp only [Act.put, List.setIfInBounds_toArray, List.set_cons_zero, List.set_cons_succ])
        obtain ⟨hm1, hc1⟩ := HMB0.out.addS HAP4.out HO4.out
        have hbx1 : Below w.heap.size w (w4.setCell ⟨(hb + 1), 4, none⟩ (.slice p1 (N.length + 1) cap1)) := HBX0.out.trans (hc1.below HBX0.out.size (fun j hj => by
          have h1 := HHB.out
          rcases hj with hj | hj
          · have h2 := (HMB0.out.os.lt j hj).1; have h3 := HMB0.out.lt.1; omega
          · omega))
        have hsz1 : w1.heap.size ≤ (w4.setCell ⟨(hb + 1), 4, none⟩ (.slice p1 (N.length + 1) cap1)).heap.size := Nat.le_trans HSB0.out hc1.size
        generalize (w4.setCell ⟨(hb + 1), 4, none⟩ (.slice p1 (N.length + 1) cap1)) = wc1 at *
        have HMB1 := Lib.hid hm1
        have HBX1 := Lib.hid hbx1
        have HSB1 := Lib.hid hsz1
        clear hm1 hc1 hbx1 hsz1 HAP4 HO4 HNW1 HK1 q1 y2 z2
        have hk2 := HMB1.out.keepQ
        have q2 := (hk2 _ (Chg.refl _ _)).1
        have HK2 := Lib.hid hk2
        clear hk2
        have hnw2 : Rd (wc1.alloc (.cells #[.string (str y), (.complex .f64 0 0)] 38)) (some ⟨wc1.heap.size, 0, none⟩) (el2 (.complex .f64 0 0) [y]) := Rd.of_row (heap_alloc_new _ _) 0 (by simp [el2])
        have HNW2 := Lib.hid hnw2
        clear hnw2
        go_upto_region 12 with ((with_reducible refine L_appR slPt Try.underlying27 (HMB1.out.op.alloc _) HNW2.out (el2_one rfl _) (m := 1) rfl ?_ ?_ ?_ ?_ ?_); (focus rfl); (focus rfl); (focus exact ⟨_, rfl⟩); (focus exact ⟨room1 (by omega), by omega, by have := HSB1.out; (try simp); (try omega)⟩); intro v4 w4 ho4 hg4 hk4 hn4; clear hn4 hk4; have hap4 : Chg (fun j => vQ.ownBlock = some j) wc1 w4 := (Chg.of_below ((Below.refl _ _).alloc (Nat.le_refl _) _)).trans (Chg.of_grown hg4.by_ fun k e => e) (fun _ _ h => h); obtain ⟨z2, y2⟩ := HK2.out _ hap4; obtain ⟨p2, cap2, rfl, _, _⟩ := ho4.shape; have HO4 := Lib.hid ho4; have HAP4 := Lib.hid hap4; clear ho4 hg4 hap4; simp only [Act.put, List.setIfInBounds_toArray, List.set_cons_zero, List.set_cons_succ])
        obtain ⟨hm2, hc2⟩ := HMB1.out.addQ HAP4.out HO4.out
        have hbx2 : Below w.heap.size w (w4.setCell ⟨(hb + 1 + 1), 5, none⟩ (.slice p2 (N.length + 1) cap2)) := HBX1.out.trans (hc2.below HBX1.out.size (fun j hj => by
          have h1 := HHB.out
          rcases hj with hj | hj
          · have h2 := (HMB1.out.op.lt j hj).1; have h3 := HMB1.out.lt.1; omega
          · omega))
        have hsz2 : w1.heap.size ≤ (w4.setCell ⟨(hb + 1 + 1), 5, none⟩ (.slice p2 (N.length + 1) cap2)).heap.size := Nat.le_trans HSB1.out hc2.size
        generalize (w4.setCell ⟨(hb + 1 + 1), 5, none⟩ (.slice p2 (N.length + 1) cap2)) = wc2 at *
        have HMB2 := Lib.hid hm2
        have HBX2 := Lib.hid hbx2
        have HSB2 := Lib.hid hsz2
        clear hm2 hc2 hbx2 hsz2 HAP4 HO4 HNW2 HK2 q2 y2 z2
        -- APPENDED
        have hend : ∀ b' : Bool, (b' = true ↔ Rises (N ++ [y])) → OrdRel w1.heap.size hb n w (.bool b') (.int .i64 ((N.length : Int) + 1)) wc2 ∧ n - (intOf (Value.int .i64 ((N.length : Int) + 1))).toNat < n - (intOf (Value.int .i64 (j : Int))).toNat := by
          intro b' hb'
          have hl : (N ++ [y]).length = N.length + 1 := by simp
          refine ⟨⟨N ++ [y], _, _, _, b', by omega, ?_, by rw [hl]; rfl, rfl, hb', HMB2.out, HBX2.out, HSB2.out⟩, by simp [intOf]; omega⟩
          intro x hx
          rcases List.mem_append.1 hx with h | h
          · exact HN1.out x h
          · simp at h; subst h; exact HY.out
        have HE := Lib.hid hend
        clear hend
        by_cases hb : b = true
        · subst hb
          have hNr : Rises N := HB.out.1 rfl
          by_cases hz : N.length = 0
          · have e0 : ((N.length : Int) == 0) = true := by rw [beq_iff_eq]; omega
            have hfin := HE.out true ⟨fun _ => rises_snoc.2 ⟨hNr, .inl (List.eq_nil_of_length_eq_zero hz)⟩, fun _ => rfl⟩
            have HF := Lib.hid hfin
            clear hfin hNr hz
            go_wp2_with fail
            exact HF.out
          · have e0 : ((N.length : Int) == 0) = false := by rw [beq_eq_false_iff_ne]; omega
            obtain ⟨m, hm⟩ : ∃ m, m = N.length - 1 := ⟨_, rfl⟩
            have e1 : (N.length : Int) - 1 = (m : Int) := by omega
            have hmN : m < N.length := by omega
            have hq := (HMB2.out.keepF _ (Chg.refl _ _)).1
            have hrd : Rd wc2 p0 (el2 (.string ⟨#[]⟩) (N ++ [y])) := by
              obtain ⟨p', c', h1, h2, _⟩ := HMB2.out.of.shape
              simp only [Value.slice.injEq] at h1
              obtain ⟨rfl, _, _⟩ := h1
              exact h2
            obtain ⟨b0, o0, rfl, hcc⟩ := rd_el2 hrd (k := m) (by simp; omega)
            have c0 := (hcc m (by simp; omega)).1
            rw [List.getElem_append_left hmN] at c0
            have i2 : (m : Int) < (N.length : Int) + 1 := by omega
            have i3 : (0 : Int) ≤ (m : Int) := by omega
            have hlast : N[N.length - 1]'(by omega) = N[m] := by simp only [hm]
            have hri : Rises (N ++ [y]) ↔ N[m] < y := by
              rw [rises_snoc]
              constructor
              · rintro ⟨_, h | h⟩
                · exact absurd (by rw [h]; rfl) hz
                · have := h (by omega); rw [hlast] at this; exact this
              · intro h
                exact ⟨hNr, .inr fun _ => by rw [hlast]; exact h⟩
            have HRI := Lib.hid hri
            have hfin := HE.out (decide (N[m] < y)) (by rw [decide_eq_true_iff]; exact hri.symm)
            have HF := Lib.hid hfin
            clear hfin hNr hcc hri hm hz hlast hrd
            go_wp2_with fail
            rw [bless]
            exact HF.out
        · have hbf : b = false := by cases b <;> simp_all
          subst hbf
          have hfin := HE.out false ⟨fun h => absurd h (by simp), fun h => absurd (HB.out.2 (rises_snoc.1 h).1) (by simp)⟩
          have HF := Lib.hid hfin
          clear hfin
          go_wp2_with fail
          exact HF.out
      · obtain rfl : j = n := by omega
        have hjl : j = N.length := HJ.out
        have hln := HN.out
        clear hm hbw
        go_wp2_with fail
        go_fit (told9 _)
        rintro e w2 ⟨rfl, hb2⟩
        obtain ⟨pF, cF, rfl, _, _⟩ := HM2.out.of.shape
        obtain ⟨pS, cS, rfl, _, _⟩ := HM2.out.os.shape
        obtain ⟨pQ, cQ, rfl, _, _⟩ := HM2.out.op.shape
        have hru (u : World) (hu : Below wr.heap.size wr u) : Rd u pF (el2 (.string ⟨#[]⟩) N) ∧ Rd u pS (el2 (.int .i64 7) N) ∧ Rd u pQ (el2 (.complex .f64 0 0) N) := by
          refine ⟨?_, ?_, ?_⟩
          · obtain ⟨p', c', h1, h2, _⟩ := (HM2.out.below hu).of.shape
            simp only [Value.slice.injEq] at h1; obtain ⟨rfl, _, _⟩ := h1; exact h2
          · obtain ⟨p', c', h1, h2, _⟩ := (HM2.out.below hu).os.shape
            simp only [Value.slice.injEq] at h1; obtain ⟨rfl, _, _⟩ := h1; exact h2
          · obtain ⟨p', c', h1, h2, _⟩ := (HM2.out.below hu).op.shape
            simp only [Value.slice.injEq] at h1; obtain ⟨rfl, _, _⟩ := h1; exact h2
        have HRU := Lib.hid hru
        have HCF := Lib.hid (fun u (hu : Below wr.heap.size wr u) => (show u.cell? ⟨hb, 0, none⟩ = some (.int .i64 3) ∧ u.cell? ⟨hb, 1, none⟩ = some (.string ⟨#[]⟩) ∧ u.cell? ⟨hb, 2, none⟩ = some (.slice none 0 0) ∧ u.cell? ⟨hb, 3, none⟩ = some (.slice pF N.length cF) ∧ u.cell? ⟨hb, 4, none⟩ = some (.slice none 0 0) ∧ u.cell? ⟨hb, 5, none⟩ = some (.slice none 0 0) from by
          have h := (HM2.out.below hu).rf
          refine ⟨?_, ?_, ?_, ?_, ?_, ?_⟩ <;> simp [World.cell?, h]))
        have HCS := Lib.hid (fun u (hu : Below wr.heap.size wr u) => (show u.cell? ⟨(hb + 1), 0, none⟩ = some (.int .i64 4) ∧ u.cell? ⟨(hb + 1), 1, none⟩ = some (.string ⟨#[]⟩) ∧ u.cell? ⟨(hb + 1), 2, none⟩ = some (.slice none 0 0) ∧ u.cell? ⟨(hb + 1), 3, none⟩ = some (.slice none 0 0) ∧ u.cell? ⟨(hb + 1), 4, none⟩ = some (.slice pS N.length cS) ∧ u.cell? ⟨(hb + 1), 5, none⟩ = some (.slice none 0 0) from by
          have h := (HM2.out.below hu).rs
          refine ⟨?_, ?_, ?_, ?_, ?_, ?_⟩ <;> simp [World.cell?, h]))
        have HCQ := Lib.hid (fun u (hu : Below wr.heap.size wr u) => (show u.cell? ⟨(hb + 1 + 1), 0, none⟩ = some (.int .i64 5) ∧ u.cell? ⟨(hb + 1 + 1), 1, none⟩ = some (.string ⟨#[]⟩) ∧ u.cell? ⟨(hb + 1 + 1), 2, none⟩ = some (.slice none 0 0) ∧ u.cell? ⟨(hb + 1 + 1), 3, none⟩ = some (.slice none 0 0) ∧ u.cell? ⟨(hb + 1 + 1), 4, none⟩ = some (.slice none 0 0) ∧ u.cell? ⟨(hb + 1 + 1), 5, none⟩ = some (.slice pQ N.length cQ) from by
          have h := (HM2.out.below hu).rp
          refine ⟨?_, ?_, ?_, ?_, ?_, ?_⟩ <;> simp [World.cell?, h]))
        have hs1 := sumT_ones N HN1.out
        have HS1 := Lib.hid hs1
        have hlen : ∀ x ∈ N, x.length ≤ 4096 := fun x hx => by rw [HN1.out x hx]; omega
        have HLEN := Lib.hid hlen
        have hbh : b = true ↔ N.length ≤ 1000 ∧ Rises N ∧ 16 + 16 * N.length + sumT (two N) ≤ 262144 := HB.out.trans ⟨fun h => ⟨by omega, h, by omega⟩, fun h => h.2.1⟩
        have hbs : b = true ↔ N.length ≤ 1000 ∧ Rises N ∧ 16 + 16 * N.length + sumT N ≤ 262144 := HB.out.trans ⟨fun h => ⟨by omega, h, by omega⟩, fun h => h.2.1⟩
        have HBH := Lib.hid hbh
        have HBS := Lib.hid hbs
        have hpz : pS = none → N.length = 0 ∧ cS = 0 := by
          intro h
          rcases (hru wr (Below.refl _ _)).2.1 with h1 | ⟨_, _, h1, _⟩
          · have := congrArg List.length h1
            rw [el2_len] at this; simp at this; omega
          · rw [h] at h1; cases h1
        have HPZ := Lib.hid hpz
        have esz : ((16 + 16 * N.length + sumT N : Nat) : Int) = 16 + 17 * (j : Int) := by omega
        have HESZ := Lib.hid esz
        clear hru hs1 hlen hbh hbs hpz esz
        have HJL := Lib.hid hjl
        clear hjl hln
        have hjN : (N.length : Int) = (j : Int) := by have := HJL.out; omega
        have HJN := Lib.hid hjN
        clear hjN
        have HB2 := Lib.hid hb2
        clear hb2
        obtain ⟨q0, q1, q2, q3, q4, q5⟩ := HCF.out w2 HB2.out
        go_wp2_with fail
        go_fit (may_hash pF N.length cF N rfl (by have := HJL.out; omega) (by have := HJL.out; omega) HLEN.out b HBH.out (by have := HS1.out.2; have := HJL.out; omega) _ (HRU.out _ HB2.out).1)
        rintro e w3 ⟨rfl, hb3⟩
        have HB3 := Lib.hid (HB2.out.trans (hb3.mono HB2.out.size))
        clear hb3 q0 q1 q2 q3 q4 q5
        obtain ⟨q0, q1, q2, q3, q4, q5⟩ := HCS.out w3 HB3.out
        go_wp2_with fail
        go_fit (may_scores pS N.length cS N rfl (by have := HJL.out; omega) (by have := HJL.out; omega) HLEN.out b HBS.out (by have := HS1.out.1; have := HJL.out; omega) _ (HRU.out _ HB3.out).2.1)
        rintro e w4 ⟨rfl, hb4⟩
        have HB4 := Lib.hid (HB3.out.trans (hb4.mono HB3.out.size))
        clear hb4 q0 q1 q2 q3 q4 q5
        obtain ⟨q0, q1, q2, q3, q4, q5⟩ := HCQ.out w4 HB4.out
        go_wp2_with fail
        go_fit (may_points pQ N.length cQ N rfl (by have := HJL.out; omega) (by have := HJL.out; omega) HLEN.out b HBS.out (by have := HS1.out.1; have := HJL.out; omega) _ (HRU.out _ HB4.out).2.2)
        rintro e w5 ⟨rfl, hb5⟩
        have HB5 := Lib.hid (HB4.out.trans (hb5.mono HB4.out.size))
        clear hb5 q0 q1 q2 q3 q4 q5
        obtain ⟨q0, q1, q2, q3, q4, q5⟩ := HCF.out w5 HB5.out
        go_wp2_with fail
        go_fit (len_hash ⟨#[]⟩ none pF none none 0 0 N.length cF 0 0 0 0 _)
        rintro e w6 ⟨rfl, hb6⟩
        have HB6 := Lib.hid (HB5.out.trans (hb6.mono HB5.out.size))
        clear hb6 q0 q1 q2 q3 q4 q5
        rw [HJN.out]
        obtain ⟨q0, q1, q2, q3, q4, q5⟩ := HCS.out w6 HB6.out
        go_wp2_with fail
        go_fit (size_scores ⟨#[]⟩ pS N.length cS N rfl (by have := HJL.out; omega) HPZ.out (by have := HS1.out.1; have := HJL.out; omega) _ (HRU.out _ HB6.out).2.1)
        rintro e w7 ⟨rfl, hb7⟩
        have HB7 := Lib.hid (HB6.out.trans (hb7.mono HB6.out.size))
        clear hb7 q0 q1 q2 q3 q4 q5
        rw [HESZ.out]
        go_wp2_with fail
        go_ret
        exact ⟨rfl, HBW.out.trans (HB7.out.mono HBW.out.size)⟩
  · by_cases h2 : l.length < 2
    · have d1 : decide ((l.length : Int) < 2) = true := by rw [decide_eq_true_iff]; omega
      clear hr
      go_wp2_with fail
      go_fit (told9 _)
      rintro e w1 ⟨rfl, hb1⟩
      go_wp2_with fail
      go_ret
      exact ⟨rfl, hb1⟩
    · have d1 : decide ((l.length : Int) < 2) = false := by rw [decide_eq_false_iff_not]; omega
      have d2 : decide ((12 : Int) < (l.length : Int)) = true := by rw [decide_eq_true_iff]; omega
      clear hr
      go_wp2_with fail
      go_fit (told9 _)
      rintro e w1 ⟨rfl, hb1⟩
      go_wp2_with fail
      go_ret
      exact ⟨rfl, hb1⟩
end Go.Proofs.Ytblmnaejkdkndaa
