/- The walks over the document's disk: a file's place is made. -/
import Derived.Test.YtadnabgnbhpijaaDRefOut
import Derived.Deep.DeepCutAuto
import Derived.Deep.CutBlock
set_option linter.unusedSimpArgs false
set_option linter.unusedVariables false
namespace Go.Proofs.Ytadnabgnbhpijaa
open Go.RowKit Go.Maps
section
variable {S T : Nat → Prop} {w w' : World} {xb room : Nat} {D : Files0} {down : Bool} {v : Value} {name : List UInt8}
/-- a file that is there, or an empty one -/
def oldF (name : List UInt8) (D : Files0) : FileV := (kGet name D).getD ⟨[], 0⟩
theorem fls_ins (D : Files0) (k : Nat) (x : List UInt8 × FileV) : fls (D.take k) ++ fls [x] ++ fls (D.drop k) = fls (D.take k ++ x :: D.drop k) := by
  rw [← fls_append, ← fls_append, List.append_assoc]; rfl
theorem row_file (u : World) (x : List UInt8) : Rd (u.alloc (.cells #[.string (str x), .string ⟨#[]⟩, .int .i64 0] 99)) (some ⟨u.heap.size, 0, none⟩) (fls [(x, ⟨[], 0⟩)]) :=
  Rd.of_row (heap_alloc_new u _) 0 (by simp [fls, str])
theorem put_none (hs : Srt D) (h : kGet name D = none) (f : FileV) : kPut name f D = kIns (name, f) D := by unfold kPut; rw [kDel_none h]
def MadeDoes (S : Nat → Prop) (w : World) (xb : Nat) (D : Files0) (name : List UInt8) (room : Nat) (down : Bool) (e : Ending) (w' : World) : Prop :=
  ∃ n, ∃ h : n < (kPut name (oldF name D) D).length, (kPut name (oldF name D) D)[n].1 = name ∧ e = .returned (.int .i64 ((n : Nat) : Int)) ∧ DRef (Up S w) w' xb (kPut name (oldF name D) D) room down ∧ Chg S w w'
set_option maxHeartbeats 8000000 in
set_option maxRecDepth 20000 in
theorem made_any (h : DRef S w xb D room down) (hl : name.length ≤ 64) (hm : D.length ≤ 100000) :
    Calls Try.prog 74 #[.pointer (some ⟨xb, 0, none⟩), .string (str name)] w (MadeDoes S w xb D name room down) := by
  have HF := Lib.hid (find3_any (name := name) h (by unfold maxLen; omega) hm)
  obtain ⟨v, h⟩ := h
  obtain ⟨c0, c1, c2⟩ := h.cells
  have z0 := h.free 0
  obtain ⟨p, cap, rfl, hr, _⟩ := h.own.shape
  have hcap := own_le3 h.own
  have HH := Lib.hid h
  have HR := Lib.hid hr
  clear h hr c1 c2
  go_enter Try.func74, Try.ntmps74
  go_wp2_with fail
  go_fit HF.out
  rintro e w1 ⟨r, rfl, hd, rfl⟩
  rcases hd with ⟨hno, rfl⟩ | ⟨k, hk, hn, rfl⟩
  · have HNO := Lib.hid hno
    have hgd : GoodD (kPut name (oldF name D) D) := by
      refine HH.out.good.put ?_ ?_ hl
      · rw [usedD_put]
        unfold oldF
        rw [hno, kDel_none hno]
        have := HH.out.used
        simpa using this
      · unfold oldF; rw [hno]; exact Nat.le_refl _
    have HGD := Lib.hid hgd
    clear hno hgd
    go_upto_block 0 with (fail)
    go_cut [6] (fun i wc => ∃ k : Nat, k ≤ D.length ∧ i = .int .i64 (k : Int) ∧ (∀ j (hj : j < D.length), j < k → D[j].1 < name) ∧ (∀ h : k < D.length, name < D[k].1) ∧ wc = w)
    case first =>
      go_wp2_with fail
      go_loopw [6] (fun i wr => ∃ k : Nat, k ≤ D.length ∧ i = .int .i64 (k : Int) ∧ (∀ j (hj : j < D.length), j < k → D[j].1 < name) ∧ wr = w) (fun i _ => D.length - (intOf i).toNat)
      case atStart => exact ⟨0, Nat.zero_le _, rfl, fun j _ hj => absurd hj (by omega), rfl⟩
      case round =>
        obtain ⟨k, hk, rfl, hlt, hwr⟩ := hrel
        have HLT := Lib.hid hlt
        have hwr' := hwr.symm
        subst hwr'
        clear hwr hlt
        by_cases hkl : k < D.length
        · obtain ⟨b, o, rfl, hcc⟩ := HR.out.at (k := k * 3) (by rw [fls_len]; omega)
          have e0 := hcc (k * 3) (by rw [fls_len]; omega)
          rw [fls_get0 _ _ hkl] at e0
          clear hcc
          have k0 : (0 : Int) ≤ (k : Int) := by omega
          have k1 : (k : Int) < (D.length : Int) := by omega
          by_cases he : D[k].1 < name
          · have hd : Op.bytesLess D[k].1 name = true := by rw [bytesLess_eq]; simpa using he
            have HE := Lib.hid he
            clear he
            go_wp2_with fail
            exact ⟨⟨k + 1, by omega, by go_num, fun j hj hjk => by
              rcases Nat.lt_succ_iff_lt_or_eq.1 hjk with h1 | h1
              · exact HLT.out j hj h1
              · subst h1; exact HE.out, by trivial⟩, by simp [intOf]; omega⟩
          · have hd : Op.bytesLess D[k].1 name = false := by rw [bytesLess_eq]; simpa using he
            have hgt : name < D[k].1 := lt_of_not_lt_ne he (kGet_none HNO.out _ (List.getElem_mem hkl))
            have HGT := Lib.hid hgt
            clear he hgt
            go_wp2_with fail
            go_meet
            exact ⟨k, by omega, rfl, HLT.out, fun _ => HGT.out, rfl⟩
        · obtain rfl : k = D.length := by omega
          go_wp2_with fail
          go_meet
          exact ⟨D.length, Nat.le_refl _, rfl, HLT.out, fun h => absurd h (by omega), rfl⟩
    case rest =>
      obtain ⟨k, hk, rfl, hlt, hgt, hwc⟩ := hcut
      have hwc' := hwc.symm
      subst hwc'
      clear hwc
      have hins := kIns_at (name, (⟨[], 0⟩ : FileV)) hk hlt hgt
      have hpd : kPut name (oldF name D) D = D.take k ++ (name, ⟨[], 0⟩) :: D.drop k := by
        unfold oldF
        rw [HNO.out, put_none HH.out.srt HNO.out, hins]; rfl
      have HPD := Lib.hid hpd
      have hs1 := fun u => run_slice_to slF u p D.length cap k (by omega)
      have hs2 := fun u => run_slice_from slF u p D.length cap k (by omega)
      have hr1 : Rd w p (fls (D.take k)) := by rw [← fls_take]; exact HR.out.take _
      have hr2 : Rd w (shift p k cap 3) (fls (D.drop k)) := by
        have := HR.out.shift (l := k) (n := D.length) (cap := cap) (sz := 3) (fls_len D) hcap
        rwa [fls_drop] at this
      have HR1 := Lib.hid hr1
      have HR2 := Lib.hid hr2
      have HXL := Lib.hid (row_lt HH.out.row)
      have l1 : (D.take k).length = k := by rw [List.length_take]; omega
      have l2 : (D.drop k).length = D.length - k := List.length_drop
      have HL1 := Lib.hid l1
      have HL2 := Lib.hid l2
      have C0 := Lib.hid c0
      have Z0 := Lib.hid z0
      have hc : ∀ u, Below w.heap.size w u → u.cell? ⟨xb, 0, none⟩ = some (.slice p D.length cap) := fun u hu => cell_below hu C0.out
      have qa1 := hc (w.alloc (.cells #[] 99)) (by repeat (first | exact Below.refl _ _ | refine grewA ?_ _ | refine Below.drew ?_ | refine grew ?_ (by assumption)))
      have qa2 := hc (w.alloc (.cells #[.string (str name), .string ⟨#[]⟩, .int .i64 0] 99)) (by repeat (first | exact Below.refl _ _ | refine grewA ?_ _ | refine Below.drew ?_ | refine grew ?_ (by assumption)))
      have qa3 := hc ((w.alloc (.cells #[] 99)).alloc (.cells #[.string (str name), .string ⟨#[]⟩, .int .i64 0] 99)) (by repeat (first | exact Below.refl _ _ | refine grewA ?_ _ | refine Below.drew ?_ | refine grew ?_ (by assumption)))
      have qa4 := hc ((w.alloc (.cells #[.string (str name), .string ⟨#[]⟩, .int .i64 0] 99)).alloc (.cells #[] 99)) (by repeat (first | exact Below.refl _ _ | refine grewA ?_ _ | refine Below.drew ?_ | refine grew ?_ (by assumption)))
      have HC := Lib.hid hc
      have k0 : (0 : Int) ≤ (k : Int) := by omega
      have k1 : (k : Int) ≤ (D.length : Int) := by omega
      have k2 : (D.length : Int) ≤ (cap : Int) := by omega
      have hv2 : Rd ((w.alloc (.cells #[] 99)).alloc (.cells #[.string (str name), .string ⟨#[]⟩, .int .i64 0] 99)) (some ⟨w.heap.size + 1, 0, none⟩) (fls [(name, ⟨[], 0⟩)]) := by
        have := row_file (w.alloc (.cells #[] 99)) name
        simpa using this
      have hv3 : Rd ((w.alloc (.cells #[.string (str name), .string ⟨#[]⟩, .int .i64 0] 99)).alloc (.cells #[] 99)) (some ⟨w.heap.size, 0, none⟩) (fls [(name, ⟨[], 0⟩)]) := (row_file w name).alloc _
      have ho0 : OwnS ((w.alloc (.cells #[.string (str name), .string ⟨#[]⟩, .int .i64 0] 99)).alloc (.cells #[] 99)) w.heap.size 99 3 (.slice (some ⟨w.heap.size + 1, 0, none⟩) 0 0) 0 [] := by
        have := OwnS.fresh (w := w.alloc (.cells #[.string (str name), .string ⟨#[]⟩, .int .i64 0] 99)) (base := w.heap.size) (e := 99) (sz := 3) (by simp)
        simpa using this
      have HO0 := Lib.hid ho0
      have HV2 := Lib.hid hv2
      have HV3 := Lib.hid hv3
      clear hv2 hv3 ho0 hr1 hr2 l1 l2 hins hpd hc hlt hgt
      go_upto_region 7 with (fail)
      go_region_law (first
        | (refine step_append_S (by rfl) _ _ _ _ (by rfl) slF Try.underlying53 (base := w.heap.size) (n := 0 + k + 1) (xs := [] ++ fls (D.take k) ++ fls [(name, ⟨[], 0⟩)]) HO4.out (by rfl) (HR2.out.below HB4.out) (fls_one _) (m := D.length - k) (by rw [fls_len, HL2.out]) (cap - k) (by rfl) ⟨room1 (by omega), by omega, HB4.out.size⟩ ?_; intro v5 w5 ho5 hg5; have hb5 : Below w.heap.size w w5 := hg5.below HB4.out HB4.out.size (fun k hk => (HO4.out.lt k hk).1); have q5 := HC.out _ hb5; have y5 : w5.frozen? ⟨xb, 0, none⟩ = false := ((Chg.of_below (S := fun _ => False) hb5).frozen (p := ⟨xb, 0, none⟩) HXL.out (fun h => h)).trans Z0.out; obtain ⟨p5, cap5, rfl, _, _⟩ := ho5.shape; have HB5 := Lib.hid hb5; have HO5 := Lib.hid ho5; clear hb5 ho5 hg5)
        | (refine step_append_S (by rfl) _ _ _ _ (by rfl) slF Try.underlying53 (base := w.heap.size) (n := 0 + k) (xs := [] ++ fls (D.take k)) (by first | exact HO3.out | exact HO3.out.alloc _ | exact (HO3.out.alloc _).drew) (by rfl) (p := some ⟨_, 0, none⟩) (news := fls [(name, ⟨[], 0⟩)]) (by first | exact HN.out | exact row_file _ name) (fls_one _) (m := 1) (by rfl) 1 (by rfl) ⟨room1 (by omega), by omega, by have := HB3.out.size; first | omega | (simp; omega)⟩ ?_; intro v4 w4 ho4 hg4; have hb4 : Below w.heap.size w w4 := hg4.below (by first | exact HB3.out | exact HB3.out.alloc HB3.out.size _) (by have := HB3.out.size; first | omega | (simp; omega)) (fun k hk => (HO3.out.lt k hk).1); have q4 := HC.out _ hb4; have HB4 := Lib.hid hb4; have HO4 := Lib.hid ho4; clear hb4 ho4 hg4)
        | (refine step_append_S (by rfl) _ _ _ _ (by rfl) slF Try.underlying53 (base := w.heap.size) (xs := []) (by first | exact HO0.out | exact HO0.out.drew | exact OwnS.fresh (Nat.le_refl _) | exact OwnS.drew (OwnS.fresh (Nat.le_refl _)) | exact OwnS.alloc (OwnS.fresh (Nat.le_refl _)) _ | exact (OwnS.alloc (OwnS.fresh (Nat.le_refl _)) _).drew) (by rfl) (HR1.out.below (by repeat (first | exact Below.refl _ _ | refine grewA ?_ _ | refine Below.drew ?_ | refine grew ?_ (by assumption)))) (fls_one _) (m := k) (by rw [fls_len, HL1.out]) cap (by rfl) ⟨room1 (by omega), by omega, by (try simp); (try omega)⟩ ?_; intro v3 w3 ho3 hg3; have hb3 : Below w.heap.size w w3 := hg3.below (by repeat (first | exact Below.refl _ _ | refine grewA ?_ _ | refine Below.drew ?_ | refine grew ?_ (by assumption))) (by (try simp); (try omega)) (fun k hk => by simp [Value.ownBlock] at hk; omega); have q3 := HC.out _ hb3; have q3a := HC.out (w3.alloc (.cells #[.string (str name), .string ⟨#[]⟩, .int .i64 0] 99)) (hb3.alloc hb3.size _); have HB3 := Lib.hid hb3; have HO3 := Lib.hid ho3; first | (have HN := Lib.hid (Rd.app HV2.out hg3 (fun a ha => by cases ha; simp [Value.ownBlock]))) | (have HN := Lib.hid (Rd.app (Rd.drew HV2.out) hg3 (fun a ha => by cases ha; simp [Value.ownBlock]))) | (have HN := Lib.hid (Rd.app HV3.out hg3 (fun a ha => by cases ha; simp [Value.ownBlock]))) | (have HN := Lib.hid (Rd.app (Rd.drew HV3.out) hg3 (fun a ha => by cases ha; simp [Value.ownBlock]))) | skip; clear hb3 ho3 hg3))
      all_goals
        go_wp2_with fail
        go_ret
        have h1 := HO5.out
        rw [List.nil_append, fls_ins D k (name, ⟨[], 0⟩), Nat.zero_add] at h1
        have h2 : k + 1 + (D.length - k) = (kPut name (oldF name D) D).length := by rw [HPD.out]; simp; omega
        have ho6 : OwnS w5 0 99 3 (.slice p5 (k + 1 + (D.length - k)) cap5) (kPut name (oldF name D) D).length (fls (kPut name (oldF name D) D)) := by
          rw [← h2, HPD.out]
          exact h1.rebase (Nat.zero_le _)
        have h6 := HH.out.setL (Chg.of_below HB5.out) ho6 (fun j hj => .inr (HO5.out.lt j (by simpa [Value.ownBlock] using hj)).1) HGD.out
        refine ⟨k, by rw [← h2]; omega, ?_, rfl, ⟨_, h6.1⟩, h6.2⟩
        simp only [HPD.out]
        rw [List.getElem_append_right (by rw [HL1.out]; exact Nat.le_refl _)]
        simp [HL1.out]
  · have HN := Lib.hid hn
    have hdk : kPut name (oldF name D) D = D := by
      have hg := get_at HH.out.srt hk
      rw [hn] at hg
      unfold oldF
      rw [hg]
      have h1 := kPut_set (v := D[k].2) HH.out.srt hg
      have h2 := kSet_same HH.out.srt hg
      exact h1.trans h2
    have HDK := Lib.hid hdk
    have d0 : decide ((0 : Int) ≤ (k : Int)) = true := by simp
    clear hn hdk
    go_wp2_with fail
    go_ret
    unfold MadeDoes
    rw [HDK.out]
    exact ⟨k, hk, HN.out, rfl, ⟨_, HH.out.mono fun _ h => .inl h⟩, Chg.refl _ _⟩
end
end Go.Proofs.Ytadnabgnbhpijaa
