/- The walks over the document's disk: a file is taken away. -/
import Derived.Test.YtadnabgnbhpijaaDRefOps
import Derived.Test.YtadnabgnbhpijaaTabMove
set_option linter.unusedSimpArgs false
set_option linter.unusedVariables false
namespace Go.Proofs.Ytadnabgnbhpijaa
open Go.RowKit Go.Maps
theorem GoodD.del {D : Files0} (h : GoodD D) (name : List UInt8) : GoodD (kDel name D) :=
  ⟨h.srt.del, Nat.le_trans (usedD_del name D) h.used, fun p hp => h.sync p (mem_kDel.1 hp).1, fun p hp => h.names p (mem_kDel.1 hp).1⟩
theorem GoodD.put {D : Files0} (h : GoodD D) {name : List UInt8} {f : FileV} (hu : usedD (kPut name f D) ≤ 16777216) (hs : f.sync ≤ f.b.length) (hn : name.length ≤ 64) : GoodD (kPut name f D) := by
  refine ⟨h.srt.put, hu, fun p hp => ?_, fun p hp => ?_⟩
  · rcases mem_kIns.1 hp with rfl | hp
    · exact hs
    · exact h.sync p (mem_kDel.1 hp).1
  · rcases mem_kIns.1 hp with rfl | hp
    · exact hn
    · exact h.names p (mem_kDel.1 hp).1
theorem fls_erase (D : Files0) (k : Nat) : fls (D.take k) ++ fls (D.drop (k + 1)) = fls (D.eraseIdx k) := by
  rw [← fls_append, List.eraseIdx_eq_take_drop_succ]
theorem own_le3 {w : World} {base : Nat} {e : TypeId} {sz n c : Nat} {p : Option Addr} {xs : List Value} (h : OwnS w base e sz (.slice p n c) n xs) : n ≤ c := by
  rcases h.2 with ⟨h0, h1⟩ | ⟨g', cap', cur, fr, h0, _, _, _, h1, _⟩
  · rw [h1]; exact Nat.zero_le _
  · cases h0; exact h1
section
variable {S T : Nat → Prop} {w w' : World} {xb room : Nat} {D : Files0} {down : Bool} {v : Value} {name : List UInt8}
set_option maxHeartbeats 2000000 in
set_option maxRecDepth 20000 in
theorem out_any (h : DRef S w xb D room down) (hm : D.length ≤ 100000) {k : Nat} (hk : k < D.length) :
    Calls Try.prog 76 #[.pointer (some ⟨xb, 0, none⟩), .int .i64 (k : Int)] w fun e w' => e = .returned (.tuple #[]) ∧ DRef (Up S w) w' xb (kDel D[k].1 D) room down ∧ Chg S w w' := by
  obtain ⟨v, h⟩ := h
  obtain ⟨c0, c1, c2⟩ := h.cells
  have z0 := h.free 0
  obtain ⟨p, cap, rfl, hr, _⟩ := h.own.shape
  have hcap := own_le3 h.own
  have HH := Lib.hid h
  have hdm := erase_kDel h.srt hk
  have hgd := h.good.del D[k].1
  have HDM := Lib.hid hdm
  have HGD := Lib.hid hgd
  obtain ⟨b, o, rfl, _⟩ := hr.at (k := k * 3) (by rw [fls_len]; omega)
  have hs1 := fun u => run_slice_to slF u (some ⟨b, o, none⟩) D.length cap k (by omega)
  have hs2 : ∀ u, (Instr.slice 53 (.slice (some ⟨b, o, none⟩) D.length cap) (some (.int .i64 ((k : Int) + 1))) none none).run Try.prog u = .ok (.slice (shift (some ⟨b, o, none⟩) (k + 1) cap 3) (D.length - (k + 1)) (cap - (k + 1))) u := fun u => run_slice_from slF u (some ⟨b, o, none⟩) D.length cap (k + 1) (by omega)
  have hr1 : Rd w (some ⟨b, o, none⟩) (fls (D.take k)) := by rw [← fls_take]; exact hr.take _
  have hr2 : Rd w (shift (some ⟨b, o, none⟩) (k + 1) cap 3) (fls (D.drop (k + 1))) := by
    have := hr.shift (l := k + 1) (n := D.length) (cap := cap) (sz := 3) (fls_len D) hcap
    rwa [fls_drop] at this
  have HR1 := Lib.hid hr1
  have HR2 := Lib.hid hr2
  have HXL := Lib.hid (row_lt HH.out.row)
  have l1 : (D.take k).length = k := by rw [List.length_take]; omega
  have l2 : (D.drop (k + 1)).length = D.length - (k + 1) := List.length_drop
  have HL1 := Lib.hid l1
  have HL2 := Lib.hid l2
  have hba : Below w.heap.size w (w.alloc (.cells #[] 99)) := (Below.refl _ _).alloc (Nat.le_refl _) _
  have HBA := Lib.hid hba
  have C0 := Lib.hid c0
  have Z0 := Lib.hid z0
  have qa := cell_below HBA.out C0.out
  have hwk : IntKind.i64.wrap ((k : Int) + 1) = (k : Int) + 1 := IntWalk.i64_in _ (by omega)
  have k0 : (0 : Int) ≤ (k : Int) := by omega
  have k1 : (k : Int) < (D.length : Int) := by omega
  clear h hr hdm hgd hr1 hr2 l1 l2 hba c1 c2
  go_enter Try.func76, Try.ntmps76
  go_wp2_with fail
  go_region_law (first
    | (refine step_append_S (by rfl) _ _ _ _ (by rfl) slF Try.underlying53 (base := w.heap.size) (xs := []) (by first | exact OwnS.fresh (Nat.le_refl _) | exact (OwnS.fresh (Nat.le_refl _)).drew) (by rfl) (by first | exact HR1.out.below HBA.out | exact HR1.out.below HBA.out.drew) (fls_one _) (m := k) (by rw [fls_len, HL1.out]) cap (by rfl) ⟨room1 (by omega), by omega, by simp⟩ ?_; intro v3 w3 ho3 hg3; have hb3 : Below w.heap.size w w3 := hg3.below (by first | exact HBA.out | exact HBA.out.drew) (by simp) (fun k hk => by simp [Value.ownBlock] at hk; omega); have q3 := cell_below hb3 C0.out; have HB3 := Lib.hid hb3; have HO3 := Lib.hid ho3; clear hb3 hg3 ho3)
    | (refine step_append_S (by rfl) _ _ _ _ (by rfl) slF Try.underlying53 HO3.out (by rfl) (HR2.out.below HB3.out) (fls_one _) (m := D.length - (k + 1)) (by rw [fls_len, HL2.out]) (cap - (k + 1)) (by rfl) ⟨room1 (by omega), by omega, HB3.out.size⟩ ?_; intro v4 w4 ho4 hg4; have hb4 : Below w.heap.size w w4 := hg4.below HB3.out HB3.out.size (fun k hk => (HO3.out.lt k hk).1); have q4 := cell_below hb4 C0.out; have y4 : w4.frozen? ⟨xb, 0, none⟩ = false := ((Chg.of_below (S := fun _ => False) hb4).frozen (p := ⟨xb, 0, none⟩) HXL.out (fun h => h)).trans Z0.out; obtain ⟨p4, cap4, rfl, _, _⟩ := ho4.shape; have HB4 := Lib.hid hb4; have HO4 := Lib.hid ho4; clear hb4 hg4 ho4))
  all_goals
    go_wp2_with fail
    go_end0
    have ho5 : OwnS w4 0 99 3 (.slice p4 (k + (D.length - (k + 1))) cap4) (kDel D[k].1 D).length (fls (kDel D[k].1 D)) := by
      have h1 := HO4.out
      rw [List.nil_append, fls_erase D k, Nat.zero_add] at h1
      have h2 : k + (D.length - (k + 1)) = (D.eraseIdx k).length := by rw [List.length_eraseIdx]; simp only [hk, if_true]; omega
      rw [← HDM.out, ← h2]
      exact h1.rebase (Nat.zero_le _)
    have h6 := HH.out.setL (Chg.of_below HB4.out) ho5 (fun j hj => .inr (HO4.out.lt j (by simpa [Value.ownBlock] using hj)).1) HGD.out
    exact ⟨rfl, ⟨_, h6.1⟩, h6.2⟩
theorem rdelete_any (h : DRef S w xb D room down) (hl : name.length ≤ maxLen) (hm : D.length ≤ 100000) :
    Calls Try.prog 58 #[.pointer (some ⟨xb, 0, none⟩), .string (str name)] w fun e w' => e = .returned (.int .i64 (deleteD name D down).2) ∧ DRef (Up S w) w' xb (deleteD name D down).1 room down ∧ Chg S w w' := by
  have HF := Lib.hid (have_any (name := name) h hl hm)
  have HO := Lib.hid (fun k hk => out_any (k := k) h hm hk)
  have HS : Hid (Srt D) := by obtain ⟨v, hv⟩ := h; exact Lib.hid hv.srt
  have HH := Lib.hid h
  clear h
  go_enter Try.func58, Try.ntmps58
  go_wp2_with fail
  go_fit HF.out
  rintro e w1 ⟨k, r, rfl, hd, rfl⟩
  rcases hd with ⟨h1, rfl, rfl⟩ | ⟨h1, h2, rfl, rfl⟩ | ⟨h1, rfl, hk, hn⟩
  · go_wp2_with fail
    go_ret
    subst h1
    exact ⟨rfl, HH.out.mono fun _ h => .inl h, Chg.refl _ _⟩
  · have H2 := Lib.hid h2
    clear h2
    go_wp2_with fail
    go_ret
    subst h1
    unfold deleteD
    rw [H2.out]
    exact ⟨rfl, HH.out.mono fun _ h => .inl h, Chg.refl _ _⟩
  · have HN := Lib.hid hn
    clear hn
    go_wp2_with fail
    go_fit (HO.out k hk)
    rintro e w2 ⟨rfl, hd2, hc2⟩
    have HD2 := Lib.hid hd2
    have HC2 := Lib.hid hc2
    clear hd2 hc2
    go_wp2_with fail
    go_ret
    subst h1
    have hg := get_at HS.out hk
    rw [HN.out] at hg
    have hd3 := HD2.out
    rw [HN.out] at hd3
    unfold deleteD
    rw [hg]
    exact ⟨rfl, hd3, HC2.out⟩
end
end Go.Proofs.Ytadnabgnbhpijaa
