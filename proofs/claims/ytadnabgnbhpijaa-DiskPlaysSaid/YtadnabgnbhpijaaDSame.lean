/- The program's disk and the document's tell the same: the walk over Same. -/
import Derived.Test.YtadnabgnbhpijaaDBoth
set_option linter.unusedSimpArgs false
set_option linter.unusedVariables false
namespace Go.Proofs.Ytadnabgnbhpijaa
open Go.RowKit Go.Maps
section
variable {S T X : Nat → Prop} {w w' w0 : World} {db xb r : Nat} {D : Files0} {d : Bool} {name : List UInt8}
theorem size_at (h : DiskAt S w db D r d) (hl : name.length ≤ maxLen) {f : FileV} (hg : kGet name D = some f) :
    Calls Try.prog 25 #[.pointer (some ⟨db, 0, none⟩), .string (str name)] w fun e w' => e = .returned (.int .i64 (f.b.length : Int)) ∧ w = w' := by
  obtain ⟨mb, E, hd, rfl⟩ := h
  rw [get_file] at hg
  cases hx : kGet name E with
  | none => rw [hx] at hg; cases hg
  | some x =>
    rw [hx] at hg
    cases hg
    exact size_some hd hl hx
theorem synced_at (h : DiskAt S w db D r d) (hl : name.length ≤ maxLen) {f : FileV} (hg : kGet name D = some f) :
    Calls Try.prog 22 #[.pointer (some ⟨db, 0, none⟩), .string (str name)] w fun e w' => e = .returned (.int .i64 (f.sync : Int)) ∧ w = w' := by
  obtain ⟨mb, E, hd, rfl⟩ := h
  rw [get_file] at hg
  cases hx : kGet name E with
  | none => rw [hx] at hg; cases hg
  | some x =>
    rw [hx] at hg
    cases hg
    exact synced_some hd hl hx
set_option maxHeartbeats 4000000 in
set_option maxRecDepth 20000 in
theorem same_any (h : BothD (fun _ => False) w0 w db xb D r d D r d) (hm : D.length ≤ 1000) :
    Calls Try.prog 37 #[.pointer (some ⟨db, 0, none⟩), .pointer (some ⟨xb, 0, none⟩)] w fun e w' => e = .returned (.bool true) ∧ Below w.heap.size w w' := by
  have HH := Lib.hid h
  have HG := Lib.hid h.good
  have hcell : ∃ p c, w.cell? ⟨xb, 0, none⟩ = some (.slice p D.length c) ∧ Rd w p (fls D) := by
    obtain ⟨S2, v, hv⟩ := h.doc_
    obtain ⟨p, c, rfl, hr, _⟩ := hv.own.shape
    exact ⟨p, c, hv.cells.1, hr⟩
  obtain ⟨px, cx, hc0, hrx⟩ := hcell
  have HC0 := Lib.hid hc0
  have HRX := Lib.hid hrx
  clear h hc0 hrx
  go_enter Try.func37, Try.ntmps37
  go_wp2_with fail
  go_fit (HH.out.rdP fun S hS => names_B hS (by omega))
  rintro e w1 ⟨p1, cp1, rfl, hr1, hb1⟩
  have HR1 := Lib.hid hr1
  have HB1 := Lib.hid hb1
  have H1 := Lib.hid (HH.out.grow hb1)
  have q0 := cell_below hb1 HC0.out
  clear hr1 hb1
  go_wp2_with (first
    | (go_at_call 20; refine (H1.out.rdP fun S hS => used_any hS (by omega)).mono ?_; rintro e w2 ⟨rfl, hb2⟩; have HB2 := Lib.hid hb2; have H2 := Lib.hid (H1.out.grow hb2); clear hb2)
    | (go_at_call 62; refine (H2.out.rdD fun S hS => rused_any hS (by omega)).mono ?_; rintro e w3 ⟨rfl, rfl⟩))
  have HB12 := Lib.hid (HB1.out.trans (HB2.out.mono HB1.out.size))
  clear q0
  go_loopw [6] (fun i wr => ∃ k, k ≤ D.length ∧ i = .int .i64 (k : Int) ∧ Below w2.heap.size w2 wr) (fun i _ => D.length - (intOf i).toNat)
  case atStart => exact ⟨0, Nat.zero_le _, rfl, Below.refl _ _⟩
  case round =>
    obtain ⟨k, hk, rfl, hb⟩ := hrel
    have hbw : Below w.heap.size w wr := HB12.out.trans (hb.mono HB12.out.size)
    have HBW := Lib.hid hbw
    have HB := Lib.hid hb
    clear hb hbw
    by_cases hkl : k < D.length
    · obtain ⟨b, o, rfl, hcc⟩ := (HRX.out.below HBW.out).at (k := k * 3) (by rw [fls_len]; omega)
      have e0 := hcc (k * 3) (by rw [fls_len]; omega)
      have e1 := hcc (k * 3 + 1) (by rw [fls_len]; omega)
      have e2 := hcc (k * 3 + 2) (by rw [fls_len]; omega)
      rw [fls_get0 _ _ hkl] at e0
      rw [fls_get1 _ _ hkl, ← Nat.add_assoc] at e1
      rw [fls_get2 _ _ hkl, ← Nat.add_assoc] at e2
      obtain ⟨b1, o1, rfl, hc1⟩ := ((HR1.out.below HB2.out).below HB.out).at (k := k) (by simpa using hkl)
      have g0 := hc1 k (by simpa using hkl)
      simp only [List.getElem_map] at g0
      have x0 := cell_below HBW.out HC0.out
      have hg := get_at HG.out.srt hkl
      have hln : D[k].1.length ≤ maxLen := by
        have := HG.out.names _ (List.getElem_mem hkl)
        unfold maxLen; omega
      have hwn := World.new_ne wr _ g0
      have k0 : (0 : Int) ≤ (k : Int) := by omega
      have k1 : (k : Int) < (D.length : Int) := by omega
      have HGT := Lib.hid hg
      have HLN := Lib.hid hln
      clear hcc hc1 hg hln
      have HBR := Lib.hid (H2.out.grow HB.out)
      go_upto_region 8 with (fail)
      have hbal : Below wr.heap.size wr (wr.alloc (.cells #[.string (str D[k].1), .string (str D[k].2.b), .int .i64 (D[k].2.sync : Int)] 99)) := (Below.refl _ _).alloc (Nat.le_refl _) _
      have ht := heap_alloc_new wr (.cells #[.string (str D[k].1), .string (str D[k].2.b), .int .i64 (D[k].2.sync : Int)] 99)
      generalize wr.alloc (.cells #[.string (str D[k].1), .string (str D[k].2.b), .int .i64 (D[k].2.sync : Int)] 99) = wa at *
      obtain ⟨tb, htb⟩ : ∃ tb, tb = wr.heap.size := ⟨_, rfl⟩
      rw [← htb] at ht ⊢
      have f0 : wa.cell? ⟨tb, 0, none⟩ = some (.string (str D[k].1)) := by simp [World.cell?, ht]
      have f1 : wa.cell? ⟨tb, 1, none⟩ = some (.string (str D[k].2.b)) := by simp [World.cell?, ht]
      have f2 : wa.cell? ⟨tb, 2, none⟩ = some (.int .i64 (D[k].2.sync : Int)) := by simp [World.cell?, ht]
      have g0 := cell_below hbal g0
      have HA := Lib.hid (HBR.out.grow hbal)
      have HBA := Lib.hid (HB.out.trans (hbal.mono HB.out.size))
      have hgl : ∀ u, u = kGet D[k].1 D → u = some D[k].2 := fun u hu => hu.trans HGT.out
      clear hbal ht htb e0 e1 e2 x0 hwn hgl
      generalize hnm : D[k].1 = nm at *
      generalize hfl : D[k].2 = fl at *
      go_wp2_with fail
      go_fit (HA.out.rdP fun S hS => read_any hS nm HLN.out)
      rintro e w5 ⟨v5, rfl, ho5, hb5⟩
      have HRD3 := Lib.hid (fun u (hu : BothD (fun _ => False) w0 u db xb D r d D r d) => hu.rdD fun S hS => rread_any (name := nm) hS HLN.out (by omega))
      generalize readD nm D d = rd at *
      obtain ⟨rb, re⟩ := rd
      simp only at ho5 HRD3 ⊢
      obtain ⟨p5, c5, rfl, hr5, _⟩ := ho5.shape
      have HR5 := Lib.hid (show Rd8 w5 p5 rb from hr5)
      have H5 := Lib.hid (HA.out.grow hb5)
      have HB5 := Lib.hid (HBA.out.trans (hb5.mono HBA.out.size))
      have f0 := cell_below hb5 f0
      have f1 := cell_below hb5 f1
      have f2 := cell_below hb5 f2
      have g0 := cell_below hb5 g0
      clear ho5 hr5 hb5
      go_wp2_with fail
      go_fit (HRD3.out w5 H5.out)
      rintro e w6 ⟨rfl, rfl⟩
      have hk : ∀ u, Below w5.heap.size w5 u → u.cell? ⟨b1, o1 + k, none⟩ = some (.string (str nm)) ∧ u.cell? ⟨tb, 0, none⟩ = some (.string (str nm)) ∧ u.cell? ⟨tb, 1, none⟩ = some (.string (str fl.b)) ∧ u.cell? ⟨tb, 2, none⟩ = some (.int .i64 (fl.sync : Int)) ∧ (convert 22 9 (.slice p5 rb.length c5)).run Try.prog u = .ok (.string (str rb)) u := fun u hu => ⟨cell_below hu g0, cell_below hu f0, cell_below hu f1, cell_below hu f2, run_b2s slB isB isS (HR5.out.below hu)⟩
      have HK := Lib.hid hk
      have H6 := Lib.hid (H5.out.grow (Below.refl _ _).drew)
      clear hk f0 f1 f2 g0
      go_upto_region 10 with (fail)
      go_region_held3 (fun u => u.cell? ⟨b1, o1 + k, none⟩ = some (.string (str nm)) ∧ u.cell? ⟨tb, 0, none⟩ = some (.string (str nm)) ∧ u.cell? ⟨tb, 1, none⟩ = some (.string (str fl.b)) ∧ u.cell? ⟨tb, 2, none⟩ = some (.int .i64 (fl.sync : Int)) ∧ (convert 22 9 (.slice p5 rb.length c5)).run Try.prog u = .ok (.string (str rb)) u) ((exact HK.out _ (Below.refl _ _).drew))
        (first
        | (go_at_call 25; refine (H6.out.rdP fun S hS => size_at hS HLN.out HGT.out).mono ?_; rintro e w7 ⟨rfl, rfl⟩)
        | (go_at_call 22; refine (H6.out.rdP fun S hS => synced_at hS HLN.out HGT.out).mono ?_; rintro e w7 ⟨rfl, rfl⟩))
      go_wp2_with fail
      exact ⟨⟨k + 1, by omega, by go_num, HB5.out.drew⟩, by simp [intOf]; omega⟩
    · obtain rfl : k = D.length := by omega
      go_wp2_with fail
      go_ret
      exact ⟨rfl, HBW.out⟩
end
end Go.Proofs.Ytadnabgnbhpijaa
