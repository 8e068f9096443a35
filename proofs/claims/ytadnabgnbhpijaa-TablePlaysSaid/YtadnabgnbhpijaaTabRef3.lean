/- The document's table, as a list: its names in order; two lists that are the same. -/
import Derived.Test.YtadnabgnbhpijaaTabRef2
import Derived.Test.YtadnabgnbhpijaaTabNames2
import Derived.Deep.DeepCutAuto
import Derived.Deep.CutBlock
set_option linter.unusedSimpArgs false
set_option linter.unusedVariables false
namespace Go.Proofs.Ytadnabgnbhpijaa
open Go.RowKit Go.Maps
section
variable {S T : Nat → Prop} {w w' : World} {xb : Nat} {m : Slot} {g : Nat} {v : Value} {name : List UInt8}
set_option maxRecDepth 20000 in
theorem texts_eq {p q : Option Addr} {c d : Nat} {L : List (List UInt8)} (h1 : Rd w p (strs L)) (h2 : Rd w q (strs L)) (hl : L.length ≤ 100000) :
    Calls Try.prog 40 #[.slice p L.length c, .slice q L.length d] w fun e w' => e = .returned (.bool true) ∧ Below w.heap.size w w' := by
  have H1 := Lib.hid h1
  have H2 := Lib.hid h2
  clear h1 h2
  go_enter Try.func40, Try.ntmps40
  go_wp2_with fail
  go_loopw [5] (fun i wr => ∃ k, k ≤ L.length ∧ i = .int .i64 (k : Int) ∧ Below w.heap.size w wr) (fun i _ => L.length - (intOf i).toNat)
  case atStart => exact ⟨0, Nat.zero_le _, rfl, Below.refl _ _⟩
  case round =>
    obtain ⟨k, hk, rfl, hb⟩ := hrel
    have HB := Lib.hid hb
    clear hb
    by_cases hkl : k < L.length
    · obtain ⟨b, o, rfl, hc1⟩ := (H1.out.below HB.out).at (k := k) (by rw [strs_len]; omega)
      obtain ⟨b2, o2, rfl, hc2⟩ := (H2.out.below HB.out).at (k := k) (by rw [strs_len]; omega)
      have e1 := hc1 k (by rw [strs_len]; omega)
      have e2 := hc2 k (by rw [strs_len]; omega)
      simp only [strs, List.getElem_map] at e1 e2
      have k0 : (0 : Int) ≤ (k : Int) := by omega
      have k1 : (k : Int) < (L.length : Int) := by omega
      clear hc1 hc2
      go_wp2_with fail
      go_quiet (fail)
      all_goals (go_wp2_with fail)
      all_goals exact ⟨⟨k + 1, by omega, by go_num, below_drewN HB.out _⟩, by simp [intOf]; omega⟩
    · obtain rfl : k = L.length := by omega
      go_wp2_with fail
      go_ret
      exact ⟨rfl, HB.out⟩
/-- a name, put into a list of names -/
def insA (x : List UInt8) (ss : List (List UInt8)) (k : Nat) : List (List UInt8) := ss.take k ++ [x] ++ ss.drop k
theorem insA_perm (x : List UInt8) (ss : List (List UInt8)) (k : Nat) : (insA x ss k).Perm (x :: ss) := by
  have h := List.perm_middle (a := x) (l₁ := ss.take k) (l₂ := ss.drop k)
  rw [List.take_append_drop] at h
  unfold insA
  rw [List.append_assoc]
  exact h
theorem insA_sorted {x : List UInt8} {ss : List (List UInt8)} {k : Nat} (hs : ss.Pairwise (· ≤ ·)) (h1 : ∀ y ∈ ss.take k, y ≤ x) (h2 : ∀ y ∈ ss.drop k, x ≤ y) : (insA x ss k).Pairwise (· ≤ ·) := by
  unfold insA
  have h3 : (ss.take k).Pairwise (· ≤ ·) := hs.sublist (List.take_sublist _ _)
  have h4 : (ss.drop k).Pairwise (· ≤ ·) := hs.sublist (List.drop_sublist _ _)
  have h5 : ∀ a ∈ ss.take k, ∀ b ∈ ss.drop k, a ≤ b := by
    have := hs
    rw [← List.take_append_drop k ss, List.pairwise_append] at this
    exact this.2.2
  rw [List.append_assoc, List.pairwise_append]
  refine ⟨h3, ?_, ?_⟩
  · rw [List.singleton_append, List.pairwise_cons]
    exact ⟨h2, h4⟩
  · intro a ha b hb
    rw [List.singleton_append] at hb
    rcases List.mem_cons.1 hb with rfl | hb
    · exact h1 a ha
    · exact h5 a ha b hb
theorem le_of_sorted {ss : List (List UInt8)} (hs : ss.Pairwise (· ≤ ·)) {j : Nat} (hj : j < ss.length) : ∀ y ∈ ss.take (j + 1), y ≤ ss[j] := by
  intro y hy
  rw [List.take_succ_eq_append_getElem hj] at hy
  rcases List.mem_append.1 hy with hy | hy
  · have := hs
    rw [← List.take_append_drop j ss, List.pairwise_append] at this
    refine this.2.2 y hy _ ?_
    rw [List.drop_eq_getElem_cons hj]
    exact List.mem_cons_self
  · rw [List.mem_singleton.1 hy]
    exact List.le_refl _
theorem sorted_eq {ss ns : List (List UInt8)} (hs : ss.Pairwise (· ≤ ·)) (hp : ss.Perm ns) : ss = sortB ns := by
  have h1 : sortB ss = sortB ns := mergeSort_of_perm hp
  rw [← h1]
  exact (List.mergeSort_of_pairwise (hs.imp fun h => by simpa using h)).symm
theorem row_str (u : World) (x : List UInt8) : Rd (u.alloc (.cells #[.string (str x)] 9)) (some ⟨u.heap.size, 0, none⟩) (strs [x]) := Rd.one u _ _
theorem own_le {base : Nat} {e : TypeId} {sz n c : Nat} {p : Option Addr} {xs : List Value} (h : OwnS w base e sz (.slice p n c) n xs) : n ≤ c := by
  rcases h.2 with ⟨h0, h1⟩ | ⟨g', cap', cur, fr, h0, _, _, _, h1, _⟩
  · rw [h1]; exact Nat.zero_le _
  · cases h0; exact h1
/-- the names of the first i pairs, in order -/
def NamesIn (w : World) (wr : World) (m : Slot) (i : Nat) (out : Value) : Prop :=
  ∃ ss p c, out = .slice p ss.length c ∧ ss.length ≤ c ∧ Rd wr p (strs ss) ∧ ss.Pairwise (· ≤ ·) ∧ ss.Perm ((m.take i).map Prod.fst) ∧ Below w.heap.size w wr
set_option maxHeartbeats 2000000 in
set_option maxRecDepth 20000 in
theorem rnames_any (h : RefT S w xb m g) (hm : m.length ≤ 100000) :
    Calls Try.prog 41 #[.pointer (some ⟨xb, 0, none⟩)] w fun e w' => ∃ p c, e = .returned (.slice p m.length c) ∧ Rd w' p (strs (sortB (m.map Prod.fst))) ∧ Below w.heap.size w w' := by
  obtain ⟨v, h⟩ := h
  obtain ⟨p, cap, rfl, hr, _⟩ := h.own.shape
  have HH := Lib.hid h
  have HR := Lib.hid hr
  clear h hr
  go_enter Try.func41, Try.ntmps41
  go_wp2_with fail
  go_loopw [3, 4] (fun out i wr => ∃ k, k ≤ m.length ∧ i = .int .i64 (k : Int) ∧ NamesIn w wr m k out) (fun _ i _ => m.length - (intOf i).toNat)
  case atStart => exact ⟨0, Nat.zero_le _, rfl, [], none, 0, rfl, Nat.le_refl _, .inl rfl, List.Pairwise.nil, by simp, Below.refl _ _⟩
  case round =>
    obtain ⟨k, hk, rfl, ss, p3, c3, rfl, hsc, hr3, hsrt, hperm, hb⟩ := hrel
    have c0 := (HH.out.below hb).cells.1
    have hsl : ss.length = k := by
      have := hperm.length_eq
      rw [List.length_map, List.length_take] at this; omega
    have HR3 := Lib.hid hr3
    have HSRT := Lib.hid hsrt
    have HPERM := Lib.hid hperm
    have HB := Lib.hid hb
    have HSL := Lib.hid hsl
    have hs5 : ss.length ≤ 100000 := by omega
    clear hr3 hsrt hperm hb hsl
    by_cases hkl : k < m.length
    · obtain ⟨b, o, rfl, hcc⟩ := (HR.out.below HB.out).at (k := k * 2) (by rw [prs_len]; omega)
      have e0 := hcc (k * 2) (by rw [prs_len]; omega)
      rw [prs_get0 _ _ hkl] at e0
      have HE0 := Lib.hid e0
      clear hcc
      have k0 : (0 : Int) ≤ (k : Int) := by omega
      have k1 : (k : Int) < (m.length : Int) := by omega
      go_upto_block 2 with (fail)
      go_cut [5] (fun i wc => ∃ j, j ≤ ss.length ∧ i = .int .i64 (j : Int) ∧ (∀ y ∈ ss.take j, y ≤ m[k].1) ∧ (∀ y ∈ ss.drop j, m[k].1 ≤ y) ∧ ∃ n, wc = wr.drewN n)
      case first =>
        go_wp2_with fail
        go_loopw [5] (fun i w2 => ∃ j, j ≤ ss.length ∧ i = .int .i64 (j : Int) ∧ (∀ y ∈ ss.drop j, m[k].1 ≤ y) ∧ ∃ n, w2 = wr.drewN n) (fun i _ => (intOf i).toNat)
        case atStart => exact ⟨ss.length, Nat.le_refl _, rfl, by simp, 0, rfl⟩
        case round =>
          obtain ⟨j, hj, rfl, hgt, nn, rfl⟩ := hrel
          have HGT := Lib.hid hgt
          clear hgt
          by_cases hj0 : j = 0
          · subst hj0
            go_wp2_with fail
            go_quiet (fail)
            go_wp2_with fail
            go_meet
            exact ⟨0, Nat.zero_le _, rfl, by simp, HGT.out, _, by first | rfl | rw [World.drewN_drewN]⟩
          · obtain ⟨i, rfl⟩ : ∃ i, j = i + 1 := ⟨j - 1, by omega⟩
            obtain ⟨b3, o3, rfl, hc3⟩ := HR3.out.at (k := i) (by rw [strs_len]; omega)
            have e3 := hc3 i (by rw [strs_len]; omega)
            simp only [strs, List.getElem_map] at e3
            clear hc3
            have hwi : IntKind.i64.wrap ((i : Int) + 1 - 1) = (i : Int) := by rw [show (i : Int) + 1 - 1 = (i : Int) by omega]; exact IntWalk.i64_in _ (by omega)
            have i0 : (0 : Int) ≤ (i : Int) := by omega
            have i1 : (i : Int) < (ss.length : Int) := by omega
            have hil : i < ss.length := by omega
            by_cases hlt : m[k].1 < ss[i]
            · have hd : (!Op.bytesLess ss[i] m[k].1 && !ss[i] == m[k].1) = true := by
                rw [bytesLess_eq]
                have h1 : ¬ ss[i] < m[k].1 := fun h => List.lt_irrefl _ (List.lt_trans hlt h)
                have h2 : ¬ ss[i] = m[k].1 := fun h => by rw [h] at hlt; exact List.lt_irrefl _ hlt
                simp [h1, h2]
              have hnx : ∀ y ∈ ss.drop i, m[k].1 ≤ y := fun y hy => by
                rw [List.drop_eq_getElem_cons hil] at hy
                rcases List.mem_cons.1 hy with rfl | hy
                · exact List.le_of_lt hlt
                · exact HGT.out y hy
              have HNX := Lib.hid hnx
              clear hlt hnx
              go_wp2_with fail
              go_quiet (fail)
              go_wp2_with fail
              exact ⟨⟨i, by omega, by go_num, HNX.out, _, by first | rfl | rw [World.drewN_drewN]⟩, by simp [intOf]⟩
            · have hd : (!Op.bytesLess ss[i] m[k].1 && !ss[i] == m[k].1) = false := by
                rw [bytesLess_eq]
                by_cases h1 : ss[i] < m[k].1
                · simp [h1]
                · have h2 : ss[i] = m[k].1 := Classical.byContradiction fun h => hlt (lt_of_not_lt_ne h1 h)
                  simp [h2]
              have hle : ∀ y ∈ ss.take (i + 1), y ≤ m[k].1 := fun y hy => List.le_trans (le_of_sorted HSRT.out hil y hy) (by
                exact hlt)
              have HLE := Lib.hid hle
              clear hlt hle
              go_wp2_with fail
              go_quiet (fail)
              go_wp2_with fail
              go_meet
              exact ⟨i + 1, by omega, rfl, HLE.out, HGT.out, _, by first | rfl | rw [World.drewN_drewN]⟩
      case rest =>
        obtain ⟨j, hj, rfl, hle, hgt, nn, hwc⟩ := hcut
        obtain ⟨wA, hA⟩ : ∃ v, v = wc := ⟨_, rfl⟩
        subst hA
        have hba : Below wr.heap.size wr wA := by rw [hwc]; exact below_drewN (Below.refl _ _) _
        have HBA := Lib.hid hba
        have HLE := Lib.hid hle
        have HGT := Lib.hid hgt
        have hk : ∀ u, Below wA.heap.size wA u → u.cell? ⟨xb, 0, none⟩ = some (.slice (some ⟨b, o, none⟩) m.length cap) ∧ u.cell? ⟨b, o + k * 2, none⟩ = some (.string (str m[k].1)) := fun u hu => ⟨cell_below hu (cell_below HBA.out c0), cell_below hu (cell_below HBA.out HE0.out)⟩
        have HK := Lib.hid hk
        have hs1 := fun u => run_slice_to slStr u p3 ss.length c3 j (by omega)
        have hs2 := fun u => run_slice_from slStr u p3 ss.length c3 j (by omega)
        have hr1 : Rd wA p3 (strs (ss.take j)) := by
          have := (HR3.out.below HBA.out).take j
          simpa [strs, List.map_take] using this
        have hr2 : Rd wA (shift p3 j c3 1) (strs (ss.drop j)) := by
          have := (HR3.out.below HBA.out).shift (l := j) (n := ss.length) (cap := c3) (sz := 1) (strs_len ss) hsc
          simpa [strs, List.map_drop] using this
        have HR1 := Lib.hid hr1
        have HR2 := Lib.hid hr2
        have l1 : (ss.take j).length = j := by rw [List.length_take]; omega
        have l2 : (ss.drop j).length = ss.length - j := List.length_drop
        have HL1 := Lib.hid l1
        have HL2 := Lib.hid l2
        have j0 : (0 : Int) ≤ (j : Int) := by omega
        have j1 : (j : Int) ≤ (ss.length : Int) := by omega
        have j2 : (ss.length : Int) ≤ (c3 : Int) := by omega
        clear hba hle hgt hk hr1 hr2 l1 l2 hwc c0 e0
        obtain ⟨x, hx⟩ : ∃ x, x = m[k].1 := ⟨_, rfl⟩
        simp only [← hx] at HK HLE HGT ⊢
        have HX := Lib.hid hx
        clear hx
        go_wp2_with fail
        have hv2 : Rd ((wA.alloc (.cells #[] 9)).alloc (.cells #[.string (str x)] 9)) (some ⟨wA.heap.size + 1, 0, none⟩) (strs [x]) := by
          have := row_str (wA.alloc (.cells #[] 9)) x
          simpa using this
        have hv3 : Rd ((wA.alloc (.cells #[.string (str x)] 9)).alloc (.cells #[] 9)) (some ⟨wA.heap.size, 0, none⟩) (strs [x]) := (row_str wA x).alloc _
        have ho0 : OwnS ((wA.alloc (.cells #[.string (str x)] 9)).alloc (.cells #[] 9)) wA.heap.size 9 1 (.slice (some ⟨wA.heap.size + 1, 0, none⟩) 0 0) 0 [] := by
          have := OwnS.fresh (w := wA.alloc (.cells #[.string (str x)] 9)) (base := wA.heap.size) (e := 9) (sz := 1) (by simp)
          simpa using this
        have HO0 := Lib.hid ho0
        clear ho0
        have HV2 := Lib.hid hv2
        have HV3 := Lib.hid hv3
        clear hv2 hv3
        go_region_held3 (fun u => u.cell? ⟨xb, 0, none⟩ = some (.slice (some ⟨b, o, none⟩) m.length cap) ∧ u.cell? ⟨b, o + k * 2, none⟩ = some (.string (str x))) ((refine HK.out _ ?_; first | exact hb5 | exact hb4 | exact hb3 | ((repeat (first | exact Below.refl _ _ | refine grewA ?_ _ | refine Below.drew ?_ | refine grew ?_ (by assumption))); done)))
          (first
          | (refine step_append_S (by rfl) _ _ _ _ (by rfl) slStr Try.underlying36 (base := wA.heap.size) (n := 0 + j + 1) (xs := [] ++ strs (ss.take j) ++ strs [x]) HO4.out (by rfl) (HR2.out.below HB4.out) (strs_one _) (m := ss.length - j) (by rw [strs_len, HL2.out, Nat.mul_one]) (c3 - j) (by rfl) ⟨room1 (by omega), by omega, HB4.out.size⟩ ?_; intro v5 w5 ho5 hg5; have hb5 : Below wA.heap.size wA w5 := hg5.below HB4.out HB4.out.size (fun k hk => (HO4.out.lt k hk).1); obtain ⟨p5, cap5, rfl, hr5, _⟩ := ho5.shape; have HR5 := Lib.hid hr5; have HB5 := Lib.hid hb5; have HC5 := Lib.hid (own_le ho5))
          | (refine step_append_S (by rfl) _ _ _ _ (by rfl) slStr Try.underlying36 (base := wA.heap.size) (n := 0 + j) (xs := [] ++ strs (ss.take j)) (by first | exact HO3.out | exact HO3.out.alloc _ | exact (HO3.out.alloc _).drew) (by rfl) (p := some ⟨_, 0, none⟩) (news := strs [x]) (by first | exact HN.out | exact row_str _ x) (strs_one _) (m := 1) (by rfl) 1 (by rfl) ⟨room1 (by omega), by omega, by have := HB3.out.size; first | omega | (simp; omega)⟩ ?_; intro v4 w4 ho4 hg4; have hb4 : Below wA.heap.size wA w4 := hg4.below (by first | exact HB3.out | exact HB3.out.alloc HB3.out.size _) (by have := HB3.out.size; first | omega | (simp; omega)) (fun k hk => (HO3.out.lt k hk).1); have HB4 := Lib.hid hb4; have HO4 := Lib.hid ho4)
          | (refine step_append_S (by rfl) _ _ _ _ (by rfl) slStr Try.underlying36 (base := wA.heap.size) (xs := []) (by first | exact HO0.out | exact HO0.out.drew | exact OwnS.fresh (Nat.le_refl _) | exact OwnS.drew (OwnS.fresh (Nat.le_refl _)) | exact OwnS.alloc (OwnS.fresh (Nat.le_refl _)) _ | exact (OwnS.alloc (OwnS.fresh (Nat.le_refl _)) _).drew) (by rfl) (HR1.out.below (by repeat (first | exact Below.refl _ _ | refine grewA ?_ _ | refine Below.drew ?_ | refine grew ?_ (by assumption)))) (strs_one _) (m := j) (by rw [strs_len, HL1.out, Nat.mul_one]) c3 (by rfl) ⟨room1 (by omega), by omega, by (try simp); (try omega)⟩ ?_; intro v3 w3 ho3 hg3; have hb3 : Below wA.heap.size wA w3 := hg3.below (by repeat (first | exact Below.refl _ _ | refine grewA ?_ _ | refine Below.drew ?_ | refine grew ?_ (by assumption))) (by (try simp); (try omega)) (fun k hk => by simp [Value.ownBlock] at hk; omega); have HB3 := Lib.hid hb3; have HO3 := Lib.hid ho3; first | (have HN := Lib.hid (Rd.app HV2.out hg3 (fun a ha => by cases ha; simp [Value.ownBlock]))) | (have HN := Lib.hid (Rd.app (Rd.drew HV2.out) hg3 (fun a ha => by cases ha; simp [Value.ownBlock]))) | (have HN := Lib.hid (Rd.app HV3.out hg3 (fun a ha => by cases ha; simp [Value.ownBlock]))) | (have HN := Lib.hid (Rd.app (Rd.drew HV3.out) hg3 (fun a ha => by cases ha; simp [Value.ownBlock]))) | skip))
        all_goals
          go_wp2_with fail
          refine ⟨⟨k + 1, by omega, by go_num, insA x ss j, p5, cap5, ?_, ?_, ?_, ?_, ?_, ?_⟩, by simp [intOf]; omega⟩
          · have h1 := (insA_perm x ss j).length_eq
            rw [List.length_cons] at h1
            rw [h1]
            have h2 : j + 1 + (ss.length - j) = ss.length + 1 := by omega
            rw [h2]
          · have h1 := (insA_perm x ss j).length_eq
            rw [List.length_cons] at h1
            have := HC5.out
            omega
          · have h1 := HR5.out
            have h2 : ([] ++ strs (ss.take j) ++ strs [x] ++ strs (ss.drop j)) = strs (insA x ss j) := by unfold insA; simp [strs]
            rw [h2] at h1
            exact h1
          · exact insA_sorted HSRT.out HLE.out HGT.out
          · refine (insA_perm x ss j).trans ?_
            rw [List.take_succ_eq_append_getElem hkl, List.map_append, HX.out]
            exact (HPERM.out.cons _).trans (List.perm_append_comm (l₁ := [m[k].1]) (l₂ := (m.take k).map Prod.fst))
          · exact (HB.out.trans (HBA.out.mono HB.out.size)).trans (HB5.out.mono (Nat.le_trans HB.out.size HBA.out.size))
    · obtain rfl : k = m.length := by omega
      go_wp2_with fail
      go_ret
      have hpm := HPERM.out
      rw [List.take_length] at hpm
      have hq := sorted_eq HSRT.out hpm
      refine ⟨p3, c3, by rw [HSL.out]; rfl, ?_, HB.out⟩
      rw [← hq]; exact HR3.out
end
end Go.Proofs.Ytadnabgnbhpijaa
