/- The walks over the document's disk: a crash. -/
import Derived.Test.YtadnabgnbhpijaaDRefSet
import Derived.Deep.DeepCutAuto
import Derived.Deep.CutBlock
set_option linter.unusedSimpArgs false
set_option linter.unusedVariables false
namespace Go.Proofs.Ytadnabgnbhpijaa
open Go.RowKit Go.Maps
section
variable {S T : Nat → Prop} {w w' : World} {xb room : Nat} {D : Files0} {down : Bool} {v : Value} {name : List UInt8}
/-- the first j files have crashed -/
def crashTo (keep : Int) (garble : Bool) (D : Files0) (j : Nat) : Files0 := kMap (crashF keep garble) (D.take j) ++ D.drop j
theorem crashTo_len (keep : Int) (garble : Bool) (D : Files0) (j : Nat) : (crashTo keep garble D j).length = D.length := by
  unfold crashTo
  rw [List.length_append, kMap_len, ← List.length_append, List.take_append_drop]
theorem crashTo_zero (keep : Int) (garble : Bool) (D : Files0) : crashTo keep garble D 0 = D := by simp [crashTo, kMap]
theorem crashTo_all (keep : Int) (garble : Bool) (D : Files0) : crashTo keep garble D D.length = kMap (crashF keep garble) D := by simp [crashTo]
theorem crashTo_at (keep : Int) (garble : Bool) (D : Files0) (j : Nat) (h : j < D.length) : (crashTo keep garble D j)[j]'(by rw [crashTo_len]; exact h) = D[j] := by
  unfold crashTo
  rw [List.getElem_append_right (by rw [kMap_len, List.length_take]; omega)]
  simp only [kMap_len, List.length_take, List.getElem_drop]
  congr 1
  omega
theorem crashTo_succ (keep : Int) (garble : Bool) (D : Files0) (j : Nat) (h : j < D.length) : (crashTo keep garble D j).set j (D[j].1, crashF keep garble D[j].2) = crashTo keep garble D (j + 1) := by
  unfold crashTo
  rw [List.set_append_right _ _ (by rw [kMap_len, List.length_take]; omega)]
  have e : j - (kMap (crashF keep garble) (D.take j)).length = 0 := by rw [kMap_len, List.length_take]; omega
  rw [e, List.drop_eq_getElem_cons h, List.set_cons_zero, List.take_succ_eq_append_getElem h]
  unfold kMap
  rw [List.map_append, List.append_assoc]; rfl
theorem usedD_crashF (keep : Int) (garble : Bool) : ∀ D : Files0, (∀ p ∈ D, p.2.sync ≤ p.2.b.length) → usedD (kMap (crashF keep garble) D) ≤ usedD D
  | [], _ => Nat.le_refl _
  | p :: D, h => by
    have ih := usedD_crashF keep garble D fun q hq => h q (List.mem_cons_of_mem _ hq)
    have h1 := crashF_len keep garble p.2 (h p List.mem_cons_self)
    have h2 := keepN_le keep p.2 (h p List.mem_cons_self)
    have e : kMap (crashF keep garble) (p :: D) = (p.1, crashF keep garble p.2) :: kMap (crashF keep garble) D := rfl
    rw [e, usedD_cons, usedD_cons, h1.1]
    omega
theorem GoodD.crash {D : Files0} (h : GoodD D) (keep : Int) (garble : Bool) (j : Nat) : GoodD (crashTo keep garble D j) := by
  have hk : (crashTo keep garble D j).map (·.1) = D.map (·.1) := by
    unfold crashTo
    rw [List.map_append, kMap_keys, ← List.map_append, List.take_append_drop]
  have hmem : ∀ p ∈ crashTo keep garble D j, ∃ q ∈ D, p.1 = q.1 ∧ (p.2 = crashF keep garble q.2 ∨ p.2 = q.2) := fun p hp => by
    rcases List.mem_append.1 hp with hp | hp
    · obtain ⟨q, hq, rfl⟩ := List.mem_map.1 hp
      exact ⟨q, List.mem_of_mem_take hq, rfl, .inl rfl⟩
    · exact ⟨p, List.mem_of_mem_drop hp, rfl, .inr rfl⟩
  refine ⟨?_, ?_, fun p hp => ?_, fun p hp => ?_⟩
  · have := h.srt
    unfold Srt at this ⊢
    rw [← List.pairwise_map (f := fun p : List UInt8 × FileV => p.1) (R := fun a b => a < b)] at this ⊢
    rw [hk]; exact this
  · have h1 := usedD_crashF keep garble (D.take j) fun p hp => h.sync p (List.mem_of_mem_take hp)
    have h2 : usedD (crashTo keep garble D j) = usedD (kMap (crashF keep garble) (D.take j)) + usedD (D.drop j) := by unfold crashTo usedD; rw [List.map_append, List.sum_append]
    have h3 : usedD D = usedD (D.take j) + usedD (D.drop j) := by
      unfold usedD
      rw [← List.sum_append, ← List.map_append, List.take_append_drop]
    have := h.used
    omega
  · obtain ⟨q, hq, _, e | e⟩ := hmem p hp
    · have h1 := crashF_len keep garble q.2 (h.sync q hq)
      rw [e, h1.1, h1.2]; exact Nat.le_refl _
    · rw [e]; exact h.sync q hq
  · obtain ⟨q, hq, e, _⟩ := hmem p hp
    rw [e]; exact h.names q hq
def CrashDoes (S : Nat → Prop) (w : World) (xb : Nat) (D : Files0) (room : Nat) (down : Bool) (keep : Int) (garble : Bool) (e : Ending) (w' : World) : Prop :=
  e = .returned (.tuple #[]) ∧ DRef (Up S w) w' xb (if down then D else kMap (crashF keep garble) D) room true ∧ Chg S w w'
def CrashRel3 (S : Nat → Prop) (w : World) (xb : Nat) (D : Files0) (room : Nat) (keep : Int) (garble : Bool) (j : Nat) (wr : World) : Prop :=
  DRef (Up S w) wr xb (crashTo keep garble D j) room true ∧ Chg S w wr
set_option maxHeartbeats 4000000 in
set_option maxRecDepth 20000 in
theorem rcrash_any (h : DRef S w xb D room down) (keep : Int) (garble : Bool) (hk : -9223372036854775808 ≤ keep ∧ keep ≤ 9223372036854775807) (hm : D.length ≤ 100000) :
    Calls Try.prog 60 #[.pointer (some ⟨xb, 0, none⟩), .int .i64 keep, .bool garble] w (CrashDoes S w xb D room down keep garble) := by
  obtain ⟨v, h⟩ := h
  obtain ⟨c0, c1, c2⟩ := h.cells
  have z2 := h.free 2
  have HH := Lib.hid h
  clear h c0 c1
  cases hdn : down
  · subst hdn
    go_enter Try.func60, Try.ntmps60
    go_wp2_with fail
    have h0 := HH.out.setOwn (i := 2) (u := .bool true) (room' := room) (down' := true) rfl HH.out.room_le
    have H0 := Lib.hid h0
    clear h0
    go_loopw [6] (fun i wr => ∃ j : Nat, j ≤ D.length ∧ i = .int .i64 (j : Int) ∧ CrashRel3 S w xb D room keep garble j wr) (fun i _ => D.length - (intOf i).toNat)
    case atStart => exact ⟨0, Nat.zero_le _, rfl, by rw [crashTo_zero]; exact ⟨_, H0.out.1.mono fun _ h => .inl h⟩, H0.out.2⟩
    case round =>
      obtain ⟨wo, hwo⟩ : ∃ v, v = wr := ⟨_, rfl⟩
      subst hwo
      obtain ⟨j, hj, rfl, ⟨v2, hv⟩, hc⟩ := hrel
      obtain ⟨x0, x1, x2⟩ := hv.cells
      obtain ⟨p2, cap2, rfl, _, _⟩ := hv.own.shape
      rw [crashTo_len] at x0
      have HV := Lib.hid hv
      have HC := Lib.hid hc
      clear hv hc x1 x2
      by_cases hjl : j < D.length
      · obtain ⟨b, cg, hp, _, _⟩ := HV.out.own.head (by rw [crashTo_len]; omega)
        obtain ⟨rfl, rfl⟩ : p2 = some ⟨b, 0, none⟩ ∧ cap2 = cg := by simpa using hp
        clear hp
        have hown := HV.out.own
        rw [crashTo_len] at HV
        obtain ⟨e1, y1⟩ := hown.get (j := j * 3 + 1) (by rw [fls_len, crashTo_len]; omega)
        obtain ⟨e2, y2⟩ := hown.get (j := j * 3 + 2) (by rw [fls_len, crashTo_len]; omega)
        rw [fls_get1 _ _ (by rw [crashTo_len]; exact hjl), crashTo_at _ _ _ _ hjl] at e1
        rw [fls_get2 _ _ (by rw [crashTo_len]; exact hjl), crashTo_at _ _ _ _ hjl] at e2
        have hsl : D[j].2.sync ≤ D[j].2.b.length := HH.out.sync _ (List.getElem_mem hjl)
        have hbl : D[j].2.b.length ≤ 16777216 := by
          have h1 := usedD_get (get_at HH.out.srt hjl)
          have h2 := HH.out.used
          omega
        have hkn := keepN_le keep D[j].2 hsl
        obtain ⟨N, hN⟩ : ∃ N, N = keepN keep D[j].2 := ⟨_, rfl⟩
        obtain ⟨a, ha⟩ : ∃ a, a = fromN keep D[j].2 := ⟨_, rfl⟩
        obtain ⟨B, hB⟩ : ∃ B, B = D[j].2.b := ⟨_, rfl⟩
        obtain ⟨sy, hsy⟩ : ∃ sy, sy = D[j].2.sync := ⟨_, rfl⟩
        have hnv : (sy : Int) + max 0 (min keep ((B.length : Int) - (sy : Int))) = (N : Int) := by rw [hN, hB, hsy]; unfold keepN; omega
        have hav : a = max sy ((N - 1) / 512 * 512) := by rw [ha, hsy, hN]; rfl
        have hfi : ∀ k2, (garble = false → k2 = a) → (garble = true → k2 = N) → (⟨garb a k2 (B.take N), N⟩ : FileV) = crashF keep garble D[j].2 := fun k2 h1 h2 => by
          cases garble
          · rw [crashF_off keep false _ (.inl rfl), h1 rfl, garb_none _ _ _ (Nat.le_refl _), hN, hB]
          · rw [crashF_on keep _ hkn.2, h2 rfl, hN, hB, ha]
        rw [← hB] at e1 hsl hbl hkn
        rw [← hsy] at e2 hsl hkn
        rw [← hN] at hkn
        have HFI := Lib.hid hfi
        clear hN ha hfi hown
        have w1 : IntKind.i64.wrap ((B.length : Int) - (sy : Int)) = (B.length : Int) - (sy : Int) := IntWalk.i64_in _ (by omega)
        have w2 : IntKind.i64.wrap ((sy : Int) + max 0 (min keep ((B.length : Int) - (sy : Int)))) = (N : Int) := by rw [hnv]; exact IntWalk.i64_in _ (by omega)
        have HBB := Lib.hid hB
        have HSY := Lib.hid hsy
        have HNV := Lib.hid hnv
        have HAV := Lib.hid hav
        have j0 : (0 : Int) ≤ (j : Int) := by omega
        have j1 : (j : Int) < (D.length : Int) := by omega
        have n0 : (0 : Int) ≤ (N : Int) := by omega
        have n1 : (N : Int) ≤ (B.length : Int) := by omega
        clear hB hsy hnv hav
        go_wp2_with fail
        go_quiet (fail)
        obtain ⟨wq, hwq⟩ : ∃ v, v = wo.drewN nq := ⟨_, rfl⟩
        rw [← hwq]
        have hbq : Below wo.heap.size wo wq := by rw [hwq]; exact below_drewN (Below.refl _ _) _
        have HBQ := Lib.hid hbq
        have E2 := Lib.hid e2
        have Y1 := Lib.hid y1
        have Y2 := Lib.hid y2
        have e1 := cell_below hbq e1
        have htl : (B.take N).length = N := by rw [List.length_take]; omega
        have hmn : min N B.length = N := by omega
        have HTL := Lib.hid htl
        clear hwq hbq e2 y1 y2 x0 w1 w2
        go_upto_region 8 with (first | ((with_reducible refine L_s2b isS slB isB wq.heap.size (l := B.take N) ?_ ?_ ?_ ?_); (focus rfl); (focus rfl); (focus exact ⟨room1 (by omega), Nat.le_refl _⟩); intro cap9 w9 ho9 hb9; have HO9 := Lib.hid ho9; clear ho9; simp only [Act.put, List.setIfInBounds_toArray, List.set_cons_zero, List.set_cons_succ]) | fail)
        rw [HTL.out]
        have ho9 := HO9.out
        rw [HTL.out] at ho9
        obtain ⟨g, hg⟩ : ∃ g, g = wq.heap.size := ⟨_, rfl⟩
        rw [← hg] at ho9 ⊢
        have hgr : wo.heap.size ≤ g := by rw [hg]; exact HBQ.out.size
        have hb9r : Below wo.heap.size wo w9 := HBQ.out.trans (hb9.mono HBQ.out.size)
        have e2 := cell_below hb9 (cell_below HBQ.out E2.out)
        have HO := Lib.hid ho9
        have HB9 := Lib.hid hb9r
        clear HO9 hb9 e1 hg ho9 hb9r hmn
        go_wp2_with fail
        go_loopw [10] (fun i w2 => ∃ L : Nat, i = .int .i64 (L : Int) ∧ L % 512 = 0 ∧ (L = 0 ∨ L < N) ∧ w2 = w9) (fun i _ => N - (intOf i).toNat)
        case atStart => exact ⟨0, rfl, rfl, .inl rfl, rfl⟩
        case round =>
          obtain ⟨L, rfl, hL5, hLN, hw2⟩ := hrel
          have hw2' := hw2.symm
          subst hw2'
          clear hw2
          have hLb : L ≤ 16777216 := by omega
          have wl : IntKind.i64.wrap ((L : Int) + 512) = (L : Int) + 512 := IntWalk.i64_in _ (by omega)
          by_cases hlt : L + 512 < N
          · have dl : decide ((L : Int) + 512 < (N : Int)) = true := by simp; omega
            go_wp2_with fail
            exact ⟨⟨L + 512, by go_num, by omega, .inr hlt, by trivial⟩, by simp [intOf]; omega⟩
          · have dl : decide ((L : Int) + 512 < (N : Int)) = false := by simp; omega
            have hLe : L = (N - 1) / 512 * 512 := by omega
            have hmx : max (L : Int) (sy : Int) = (a : Int) := by rw [HAV.out, ← hLe]; omega
            have haN : a ≤ N := by rw [HAV.out, ← hLe]; omega
            have HLE := Lib.hid hLe
            clear hLe hLN hL5 hlt
            go_wp2_with fail
            go_loopw [11] (fun i w3 => ∃ k2 : Nat, a ≤ k2 ∧ k2 ≤ N ∧ (garble = false → k2 = a) ∧ i = .int .i64 (k2 : Int) ∧ OwnS w3 g 5 1 (.slice (some ⟨g, 0, none⟩) N cap9) N (by8 (garb a k2 (B.take N))) ∧ Below wo.heap.size wo w3) (fun i _ => N - (intOf i).toNat)
            case atStart =>
              refine ⟨a, Nat.le_refl _, haN, fun _ => rfl, rfl, ?_, HB9.out⟩
              rw [garb_none _ _ _ (Nat.le_refl _)]
              exact HO.out.rebase (by omega)
            case round =>
              obtain ⟨k2, hak, hkN, hgk, rfl, ho3, hb3⟩ := hrel
              have HO3 := Lib.hid ho3
              have HB3 := Lib.hid hb3
              have HGK := Lib.hid hgk
              clear ho3 hb3 hgk e2
              by_cases hgo : garble = true ∧ k2 < N
              · obtain ⟨rfl, hlt⟩ := hgo
                have dk : decide ((k2 : Int) < (N : Int)) = true := by simp; omega
                have hlen : (garb a k2 (B.take N)).length = N := by rw [garb_len, HTL.out]
                obtain ⟨e5, y5⟩ := HO3.out.get (j := k2) (by rw [by8_len, hlen]; exact hlt)
                simp only [by8, List.getElem_map] at e5
                have hst := garb_step a k2 (B.take N) hak (by rw [HTL.out]; exact hlt)
                have hset := HO3.out.set (j := k2) (by rw [by8_len, hlen]; exact hlt) (.int .u8 (((garb a k2 (B.take N))[k2]'(by rw [hlen]; exact hlt) ^^^ 0xA5).toNat : Int))
                rw [by8_set, hst] at hset
                have hx := b8_xor_a5 ((garb a k2 (B.take N))[k2]'(by rw [hlen]; exact hlt))
                generalize (garb a k2 (B.take N))[k2]'(by rw [hlen]; exact hlt) = c at *
                have HSET := Lib.hid hset
                have q0 : (0 : Int) ≤ (k2 : Int) := by omega
                have q1 : (k2 : Int) < (N : Int) := by omega
                clear hset hst hlen
                go_wp2_with fail
                exact ⟨⟨k2 + 1, by omega, by omega, (fun h => by cases h), by go_num, HSET.out, (HB3.out.trans ((Chg.setCell (S := fun q => q = g) wr ⟨g, k2, none⟩ _ rfl).below HB3.out.size fun q e => by rw [e]; exact hgr))⟩, by simp [intOf]; omega⟩
              · have hfin : (⟨garb a k2 (B.take N), N⟩ : FileV) = crashF keep garble D[j].2 := HFI.out k2 HGK.out (fun h => by
                  have : ¬ k2 < N := fun h2 => hgo ⟨h, h2⟩
                  omega)
                have HFIN := Lib.hid hfin
                clear hfin
                rcases (show garble = false ∨ (garble = true ∧ k2 = N) by
                  cases garble
                  · exact .inl rfl
                  · exact .inr ⟨rfl, Nat.le_antisymm hkN (Nat.le_of_not_lt fun h => hgo ⟨rfl, h⟩)⟩) with hgf | ⟨hgf, hkk⟩
                · subst hgf
                  clear hgo
                  have hrd9 := HO3.out.txt.2.1
                  have HRD9 := Lib.hid hrd9
                  have HLG := Lib.hid (show N = (garb a k2 (B.take N)).length by rw [garb_len, List.length_take]; omega)
                  clear hrd9
                  have hbel : Below wo.heap.size wo wr := HB3.out
                  have hown3 := HV.out.own.below hbel
                  rw [crashTo_len] at hown3
                  obtain ⟨x1, y1⟩ := hown3.get (j := j * 3 + 1) (by rw [fls_len, crashTo_len]; omega)
                  obtain ⟨x2, y2⟩ := hown3.get (j := j * 3 + 2) (by rw [fls_len, crashTo_len]; omega)
                  rw [fls_get1 _ _ (by rw [crashTo_len]; exact hjl), crashTo_at _ _ _ _ hjl] at x1
                  rw [fls_get2 _ _ (by rw [crashTo_len]; exact hjl), crashTo_at _ _ _ _ hjl] at x2
                  have HBEL := Lib.hid hbel
                  have HOWN := Lib.hid hown3
                  clear hbel hown3
                  go_wp2_with ((with_reducible refine L_b2s slB isB isS HRD9.out ?_ ?_ ?_); (focus rfl); (focus exact ⟨_, _, rfl, HLG.out⟩); simp only [Act.put, List.setIfInBounds_toArray, List.set_cons_zero, List.set_cons_succ])
                  refine ⟨⟨j + 1, by omega, by go_num, ?_⟩, by simp [intOf]; omega⟩
                  have hbel := HBEL.out
                  have hset := (HOWN.out.set (j := j * 3 + 1) (by rw [fls_len, crashTo_len]; omega) (.string (str (garb a k2 (B.take N))))).set (j := j * 3 + 2) (by rw [List.length_set, fls_len, crashTo_len]; omega) (.int .i64 (N : Int))
                  rw [fls_set12 _ _ (by rw [crashTo_len]; exact hjl), crashTo_at _ _ _ _ hjl] at hset
                  have hcf : (⟨garb a k2 (B.take N), N⟩ : FileV) = crashF keep false D[j].2 := HFIN.out
                  have hcs := crashTo_succ keep false D j hjl
                  rw [← hcf] at hcs
                  rw [hcs] at hset
                  have hch : Chg (fun q => q = b) wr ((wr.setCell ⟨b, j * 3 + 1, none⟩ (.string (str (garb a k2 (B.take N))))).setCell ⟨b, j * 3 + 2, none⟩ (.int .i64 (N : Int))) := (Chg.setCell (S := fun q => q = b) _ _ _ rfl).trans (Chg.setCell (S := fun q => q = b) _ _ _ rfl) fun _ _ h => h
                  have h5 := (HV.out.below hbel).setF (b := b) rfl hch (D' := crashTo keep false D (j + 1)) (by rw [crashTo_len, crashTo_len]) (by rw [crashTo_len]; exact hset) (HH.out.good.crash keep false (j + 1))
                  exact ⟨⟨_, h5.1⟩, (HC.out.trans (Chg.of_below (S := S) hbel) fun _ _ h => h).trans h5.2 fun q hq hu => hu.elim id fun h => absurd h (by omega)⟩
                · subst hgf
                  have hkk' := hkk.symm
                  subst hkk'
                  clear hgo hkk
                  have hrd9 := HO3.out.txt.2.1
                  have HRD9 := Lib.hid hrd9
                  have HLG := Lib.hid (show N = (garb a N (B.take N)).length by rw [garb_len, List.length_take]; omega)
                  clear hrd9
                  have hbel : Below wo.heap.size wo wr := HB3.out
                  have hown3 := HV.out.own.below hbel
                  rw [crashTo_len] at hown3
                  obtain ⟨x1, y1⟩ := hown3.get (j := j * 3 + 1) (by rw [fls_len, crashTo_len]; omega)
                  obtain ⟨x2, y2⟩ := hown3.get (j := j * 3 + 2) (by rw [fls_len, crashTo_len]; omega)
                  rw [fls_get1 _ _ (by rw [crashTo_len]; exact hjl), crashTo_at _ _ _ _ hjl] at x1
                  rw [fls_get2 _ _ (by rw [crashTo_len]; exact hjl), crashTo_at _ _ _ _ hjl] at x2
                  have HBEL := Lib.hid hbel
                  have HOWN := Lib.hid hown3
                  clear hbel hown3
                  go_wp2_with ((with_reducible refine L_b2s slB isB isS HRD9.out ?_ ?_ ?_); (focus rfl); (focus exact ⟨_, _, rfl, HLG.out⟩); simp only [Act.put, List.setIfInBounds_toArray, List.set_cons_zero, List.set_cons_succ])
                  refine ⟨⟨j + 1, by omega, by go_num, ?_⟩, by simp [intOf]; omega⟩
                  have hbel := HBEL.out
                  have hset := (HOWN.out.set (j := j * 3 + 1) (by rw [fls_len, crashTo_len]; omega) (.string (str (garb a N (B.take N))))).set (j := j * 3 + 2) (by rw [List.length_set, fls_len, crashTo_len]; omega) (.int .i64 (N : Int))
                  rw [fls_set12 _ _ (by rw [crashTo_len]; exact hjl), crashTo_at _ _ _ _ hjl] at hset
                  have hcf : (⟨garb a N (B.take N), N⟩ : FileV) = crashF keep true D[j].2 := HFIN.out
                  have hcs := crashTo_succ keep true D j hjl
                  rw [← hcf] at hcs
                  rw [hcs] at hset
                  have hch : Chg (fun q => q = b) wr ((wr.setCell ⟨b, j * 3 + 1, none⟩ (.string (str (garb a N (B.take N))))).setCell ⟨b, j * 3 + 2, none⟩ (.int .i64 (N : Int))) := (Chg.setCell (S := fun q => q = b) _ _ _ rfl).trans (Chg.setCell (S := fun q => q = b) _ _ _ rfl) fun _ _ h => h
                  have h5 := (HV.out.below hbel).setF (b := b) rfl hch (D' := crashTo keep true D (j + 1)) (by rw [crashTo_len, crashTo_len]) (by rw [crashTo_len]; exact hset) (HH.out.good.crash keep true (j + 1))
                  exact ⟨⟨_, h5.1⟩, (HC.out.trans (Chg.of_below (S := S) hbel) fun _ _ h => h).trans h5.2 fun q hq hu => hu.elim id fun h => absurd h (by omega)⟩
      · obtain rfl : j = D.length := by omega
        rw [crashTo_all] at HV
        go_wp2_with fail
        go_end0
        exact ⟨rfl, ⟨_, by simpa using HV.out⟩, HC.out⟩
  · subst hdn
    go_enter Try.func60, Try.ntmps60
    go_wp2_with fail
    go_end0
    exact ⟨rfl, ⟨_, HH.out.mono fun _ h => .inl h⟩, Chg.refl _ _⟩
end
end Go.Proofs.Ytadnabgnbhpijaa
