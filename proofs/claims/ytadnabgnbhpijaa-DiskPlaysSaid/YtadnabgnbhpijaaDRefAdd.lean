/- The walks over the document's disk: bytes are added; a file gets another name. -/
import Derived.Test.YtadnabgnbhpijaaDRefSet
import Derived.Test.YtadnabgnbhpijaaDRefMade
set_option linter.unusedSimpArgs false
set_option linter.unusedVariables false
namespace Go.Proofs.Ytadnabgnbhpijaa
open Go.RowKit Go.Maps
section
variable {S T : Nat → Prop} {w w' : World} {xb room : Nat} {D : Files0} {down : Bool} {v : Value} {name : List UInt8}
theorem mayN_le (h : mayN name = true) : name.length ≤ 64 := by unfold mayN at h; simp at h; exact h.2
theorem oldF_sync (h : GoodD D) : (oldF name D).sync ≤ (oldF name D).b.length := by
  unfold oldF
  cases hg : kGet name D with
  | none => exact Nat.le_refl _
  | some f => exact h.sync _ (kGet_some hg)
theorem usedD_old (h : GoodD D) (f : FileV) : usedD (kPut name f D) + (oldF name D).b.length = usedD D + f.b.length := by
  rw [usedD_put]
  unfold oldF
  cases hg : kGet name D with
  | none => rw [kDel_none hg]; simp; omega
  | some f' =>
    have := usedD_del_get h.srt hg
    simp only [Option.getD_some]; omega
theorem at_put (h : GoodD D) {u : FileV} {n : Nat} (hn : n < (kPut name u D).length) (e : (kPut name u D)[n].1 = name) : (kPut name u D)[n].2 = u := by
  have h1 := get_at (h.srt.put (k := name) (v := u)) hn
  rw [e, kGet_put] at h1
  exact (Option.some.inj h1).symm
theorem append_put (h : GoodD D) (b : List UInt8) (room : Nat) (hm : mayN name = true) (hr : usedD D + b.length ≤ room) : appendD name b D room false = (kPut name ⟨(oldF name D).b ++ b, (oldF name D).sync⟩ D, 0) := by
  unfold appendD oldF
  rw [hm]
  simp only [Bool.false_eq_true, if_false, if_true, if_pos hr]
  cases hg : kGet name D with
  | none => rfl
  | some f => simp only [Option.getD_some]; rw [kPut_set h.srt hg]
theorem Chg.from_drew {u : World} (h : Chg S w.drew u) : Chg S w u := ⟨h.os, h.tape, h.output, h.size, h.block⟩
theorem DRef.up {w1 w2 : World} (h : DRef (Up (Up S w) w1) w2 xb D room down) (hs : w.heap.size ≤ w1.heap.size) : DRef (Up S w) w2 xb D room down := h.mono fun k hk => Up.up hs hk
theorem Chg.up {w1 w2 : World} (h1 : Chg S w w1) (h2 : Chg (Up S w) w1 w2) : Chg S w w2 := h1.trans h2 fun k hk hu => hu.elim id fun h => absurd h (by omega)
set_option maxHeartbeats 2000000 in
set_option maxRecDepth 20000 in
theorem rappend_any (h : DRef S w xb D room down) (hl : name.length ≤ maxLen) (hm : D.length ≤ 99999) (b : List UInt8) (hb : b.length ≤ 1000000) :
    Calls Try.prog 53 #[.pointer (some ⟨xb, 0, none⟩), .string (str name), .string (str b)] w fun e w' => e = .returned (.int .i64 (appendD name b D room down).2) ∧ DRef (Up S w) w' xb (appendD name b D room down).1 room down ∧ Chg S w w' := by
  have HN := Lib.hid (named_any name w hl)
  have HU := Lib.hid (rused_any (h.below ((Below.refl _ _).drew)) (by omega))
  have HH := Lib.hid h
  have hgd : GoodD D := by obtain ⟨v, hv⟩ := h; exact hv.good
  have hrl : room ≤ 16777216 := by obtain ⟨v, hv⟩ := h; exact hv.room_le
  have hus := hgd.used
  have HGD := Lib.hid hgd
  obtain ⟨v, h⟩ := h
  obtain ⟨c0, c1, c2⟩ := h.cells
  clear h c0 hgd
  cases hdn : down
  · subst hdn
    cases hmy : mayN name
    · rw [hmy] at HN
      go_enter Try.func53, Try.ntmps53
      go_wp2_with fail
      go_fit HN.out
      rintro e w1 ⟨rfl, rfl⟩
      go_wp2_with fail
      go_ret
      unfold appendD
      rw [hmy]
      exact ⟨rfl, HH.out.mono fun _ h => .inl h, Chg.refl _ _⟩
    · rw [hmy] at HN
      have HMY := Lib.hid hmy
      clear hmy
      have wu : IntKind.i64.wrap ((room : Int) - (usedD D : Int)) = (room : Int) - (usedD D : Int) := IntWalk.i64_in _ (by omega)
      have hbl : b.length ≤ 9223372036854775807 := by omega
      by_cases hfit : usedD D + b.length ≤ room
      · have df : decide ((room : Int) - (usedD D : Int) < (b.length : Int)) = false := by simp; omega
        have HFIT := Lib.hid hfit
        have HMD := Lib.hid (made_any (HH.out.below (Below.refl _ _).drew) (mayN_le HMY.out) (by omega))
        clear hfit
        go_enter Try.func53, Try.ntmps53
        go_wp2_with fail
        go_fit HN.out
        rintro e w1 ⟨rfl, rfl⟩
        go_wp2_with fail
        go_region_with (go_at_call 62; refine HU.out.mono ?_; rintro e w2 ⟨rfl, rfl⟩)
        all_goals
          go_wp2_with fail
          go_fit HMD.out
          rintro e w2 ⟨n, hn, hnm, rfl, ⟨v2, hv2⟩, hc2⟩
          have hat := at_put HGD.out hn hnm
          have hlen := len_kPut name (oldF name D) D
          have hks := fun f => kSet_put (k := name) (u := oldF name D) (v := f) HGD.out.srt
          have hgd3 : GoodD (kPut name ⟨(oldF name D).b ++ b, (oldF name D).sync⟩ D) := HGD.out.put (by
            have h1 := usedD_old (name := name) HGD.out ⟨(oldF name D).b ++ b, (oldF name D).sync⟩
            have h2 := HFIT.out
            rw [List.length_append] at h1
            omega) (by have := oldF_sync (name := name) HGD.out; simp only [List.length_append]; omega) (mayN_le HMY.out)
          have hput := append_put HGD.out b room HMY.out HFIT.out
          clear HMD
          generalize oldF name D = O at *
          have hks := hks ⟨O.b ++ b, O.sync⟩
          generalize kPut name O D = D2 at *
          have HPUT := Lib.hid hput
          have HGD3 := Lib.hid hgd3
          have HKS := Lib.hid hks
          have HNM := Lib.hid hnm
          have HAT := Lib.hid hat
          clear hput hgd3 hks
          have hol : O.b.length ≤ 16777216 := by
            have h1 := usedD_get (get_at hv2.srt hn)
            rw [hat] at h1
            have h2 := hv2.used
            omega
          obtain ⟨c0, _, _⟩ := hv2.cells
          obtain ⟨p2, cap2, rfl, _, _⟩ := hv2.own.shape
          obtain ⟨g2, cg, hp, _, _⟩ := hv2.own.head (by omega)
          obtain ⟨rfl, rfl⟩ : p2 = some ⟨g2, 0, none⟩ ∧ cap2 = cg := by simpa using hp
          have hown := hv2.own
          have HV2 := Lib.hid hv2
          have HC2 := Lib.hid hc2
          obtain ⟨e1, y1⟩ := hown.get (j := n * 3 + 1) (by rw [fls_len]; omega)
          rw [fls_get1 _ _ hn, hat] at e1
          have hset := hown.set (j := n * 3 + 1) (by rw [fls_len]; omega) (.string (str (O.b ++ b)))
          rw [fls_set1 _ _ hn, set_kSet HV2.out.srt hn, hat, hnm] at hset
          have HSET := Lib.hid hset
          have n0 : (0 : Int) ≤ (n : Int) := by omega
          have n1 : (n : Int) < (D2.length : Int) := by omega
          have nl : D2.length ≤ 100000 := by omega
          clear hp hown hset hv2 hc2 hnm hat
          go_wp2_with fail
          go_region_with (fail)
          all_goals
            go_wp2_with fail
            go_ret
            have hch : Chg (fun q => q = g2) w2 (w2.setCell ⟨g2, n * 3 + 1, none⟩ (.string (str (O.b ++ b)))) := Chg.setCell _ _ _ rfl
            have h5 := HV2.out.wrote rfl hch (D' := kPut name ⟨O.b ++ b, O.sync⟩ D) (by rw [← HKS.out, kSet_len]) (by rw [← HKS.out, kSet_len]; exact HSET.out) HGD3.out
            rw [HPUT.out]
            have hsz : w.heap.size ≤ w2.heap.size := HC2.out.size
            refine ⟨rfl, (DRef.up (w := w) (w1 := w2) h5.1 hsz).below (Below.refl _ _).drew, (Chg.up (w := w) HC2.out.from_drew h5.2).drawn⟩
      · have df : decide ((room : Int) - (usedD D : Int) < (b.length : Int)) = true := by simp; omega
        have HFIT := Lib.hid hfit
        clear hfit
        go_enter Try.func53, Try.ntmps53
        go_wp2_with fail
        go_fit HN.out
        rintro e w1 ⟨rfl, rfl⟩
        go_wp2_with fail
        go_region_with (go_at_call 62; refine HU.out.mono ?_; rintro e w2 ⟨rfl, rfl⟩)
        all_goals
          go_wp2_with fail
          go_ret
          unfold appendD
          rw [HMY.out]
          simp only [Bool.false_eq_true, if_false, if_true, if_neg HFIT.out]
          exact ⟨rfl, (HH.out.below (Below.refl _ _).drew).mono fun _ h => .inl h, (Chg.refl S w).drawn⟩
  · subst hdn
    go_enter Try.func53, Try.ntmps53
    go_wp2_with fail
    go_ret
    exact ⟨rfl, HH.out.mono fun _ h => .inl h, Chg.refl _ _⟩
end
end Go.Proofs.Ytadnabgnbhpijaa
