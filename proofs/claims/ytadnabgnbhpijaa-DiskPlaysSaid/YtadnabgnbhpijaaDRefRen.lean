/- The walks over the document's disk: a file gets another name. -/
import Derived.Test.YtadnabgnbhpijaaDRefAdd
set_option linter.unusedSimpArgs false
set_option linter.unusedVariables false
namespace Go.Proofs.Ytadnabgnbhpijaa
open Go.RowKit Go.Maps
theorem fls_set012 : ∀ (D : Files0) (j : Nat) (h : j < D.length) (t s : List UInt8) (n : Nat), (((fls D).set (j * 3) (.string (str t))).set (j * 3 + 1) (.string (str s))).set (j * 3 + 2) (.int .i64 (n : Int)) = fls (D.set j (t, ⟨s, n⟩))
  | p :: D, 0, h, t, s, n => rfl
  | p :: D, j + 1, h, t, s, n => by
    have ih := fls_set012 D j (by simpa using h) t s n
    have e : (j + 1) * 3 + 2 = j * 3 + 2 + 1 + 1 + 1 := by omega
    have e1 : (j + 1) * 3 + 1 = j * 3 + 1 + 1 + 1 + 1 := by omega
    have e0 : (j + 1) * 3 = j * 3 + 1 + 1 + 1 := by omega
    simp only [fls_cons, e, e1, e0, List.set_cons_succ, List.getElem_cons_succ, ih]
section
variable {S T : Nat → Prop} {w w' : World} {xb room : Nat} {D : Files0} {down : Bool} {v : Value} {name to_ : List UInt8}
theorem DRef.good (h : DRef S w xb D room down) : GoodD D := by obtain ⟨v, hv⟩ := h; exact hv.good
theorem DRef.unlt (h : DRef (Up (fun k => S k ∧ k < w.heap.size) w) w' xb D room down) : DRef (Up S w) w' xb D room down := h.mono fun k hk => hk.imp (fun h => h.1) id
set_option maxHeartbeats 2000000 in
set_option maxRecDepth 20000 in
theorem rrename_any (h : DRef S w xb D room down) (hl : name.length ≤ maxLen) (hl2 : to_.length ≤ maxLen) (hm : D.length ≤ 99999) :
    Calls Try.prog 57 #[.pointer (some ⟨xb, 0, none⟩), .string (str name), .string (str to_)] w fun e w' => e = .returned (.int .i64 (renameD name to_ D down).2) ∧ DRef (Up S w) w' xb (renameD name to_ D down).1 room down ∧ Chg S w w' := by
  have HF := Lib.hid (have_any (name := name) h hl (by omega))
  have HN := Lib.hid (named_any to_ w hl2)
  have HH := Lib.hid h
  have HGD := Lib.hid h.good
  go_enter Try.func57, Try.ntmps57
  clear h
  go_wp2_with fail
  go_fit HF.out
  rintro e w1 ⟨k, r, rfl, hd, rfl⟩
  rcases hd with ⟨h1, rfl, rfl⟩ | ⟨h1, h2, rfl, rfl⟩ | ⟨h1, rfl, hk, hn⟩
  · go_wp2_with fail
    go_ret
    subst h1
    exact ⟨rfl, HH.out.mono fun _ h => .inl h, Chg.refl _ _⟩
  · have H2 := Lib.hid h2
    clear h2
    go_wp2_with fail
    go_ret
    subst h1
    unfold renameD
    rw [H2.out]
    exact ⟨rfl, HH.out.mono fun _ h => .inl h, Chg.refl _ _⟩
  · have HNM := Lib.hid hn
    have hg := get_at HGD.out.srt hk
    rw [hn] at hg
    have HG := Lib.hid hg
    clear hg hn
    go_wp2_with fail
    go_fit HN.out
    rintro e w1 ⟨rfl, rfl⟩
    cases hmy : mayN to_
    · have HMY := Lib.hid hmy
      clear hmy
      go_wp2_with fail
      go_ret
      subst h1
      unfold renameD
      rw [HG.out, HMY.out]
      exact ⟨rfl, HH.out.mono fun _ h => .inl h, Chg.refl _ _⟩
    · have HMY := Lib.hid hmy
      clear hmy
      by_cases hsame : name = to_
      · have hq : (name == to_) = true := by simpa using hsame
        have HSM := Lib.hid hsame
        clear hsame
        go_wp2_with fail
        go_ret
        subst h1
        have hsm := HSM.out
        subst hsm
        have e : kPut name D[k].2 (kDel name D) = D := by
          have h1 := kPut_set (v := D[k].2) HGD.out.srt HG.out
          have h2 := kSet_same HGD.out.srt HG.out
          unfold kPut at h1 ⊢
          rw [kDel_kDel, h1, h2]
        unfold renameD
        rw [HG.out, HMY.out]
        simp only [Bool.false_eq_true, if_false, if_true, e]
        exact ⟨rfl, HH.out.mono fun _ h => .inl h, Chg.refl _ _⟩
      · have hq : (name == to_) = false := by simpa using hsame
        have HSM := Lib.hid hsame
        clear hsame
        obtain ⟨v0, hv0⟩ := HH.out
        obtain ⟨c0, _, _⟩ := hv0.cells
        obtain ⟨p, cap, rfl, _, _⟩ := hv0.own.shape
        obtain ⟨b, cg, hp, _, _⟩ := hv0.own.head (by omega)
        obtain ⟨rfl, rfl⟩ : p = some ⟨b, 0, none⟩ ∧ cap = cg := by simpa using hp
        obtain ⟨e0, _⟩ := hv0.own.get (j := k * 3) (by rw [fls_len]; omega)
        obtain ⟨e1, _⟩ := hv0.own.get (j := k * 3 + 1) (by rw [fls_len]; omega)
        obtain ⟨e2, _⟩ := hv0.own.get (j := k * 3 + 2) (by rw [fls_len]; omega)
        rw [fls_get0 _ _ hk] at e0
        rw [fls_get1 _ _ hk] at e1
        rw [fls_get2 _ _ hk] at e2
        have k0 : (0 : Int) ≤ (k : Int) := by omega
        have k1 : (k : Int) < (D.length : Int) := by omega
        clear hp hv0
        go_wp2_with fail
        have hbal : Below w.heap.size w (w.alloc (.cells #[.string (str D[k].1), .string (str D[k].2.b), .int .i64 (D[k].2.sync : Int)] 99)) := (Below.refl _ _).alloc (Nat.le_refl _) _
        have HBAL := Lib.hid hbal
        have hlt := HH.out.lt.below hbal
        have ht := heap_alloc_new w (.cells #[.string (str D[k].1), .string (str D[k].2.b), .int .i64 (D[k].2.sync : Int)] 99)
        have hsz : (w.alloc (.cells #[.string (str D[k].1), .string (str D[k].2.b), .int .i64 (D[k].2.sync : Int)] 99)).heap.size = w.heap.size + 1 := by simp
        generalize w.alloc (.cells #[.string (str D[k].1), .string (str D[k].2.b), .int .i64 (D[k].2.sync : Int)] 99) = wa at *
        have HT := Lib.hid ht
        have HSZ := Lib.hid hsz
        have HOUT := Lib.hid (out_any hlt (by omega) hk)
        clear hbal hlt ht hsz c0 e0 e1 e2
        go_fit HOUT.out
        rintro e w2 ⟨rfl, hd2, hc2⟩
        rw [HNM.out] at hd2
        have hnt : ¬ (S w.heap.size ∧ w.heap.size < w.heap.size) := fun h => by omega
        have ht2 := hc2.row HT.out hnt
        have hmd := made_any hd2 (mayN_le HMY.out) (by have := len_kDel name D; omega)
        have HMD := Lib.hid hmd
        have HC2 := Lib.hid hc2
        have HT2 := Lib.hid ht2
        have HNT := Lib.hid hnt
        have HG2 := Lib.hid hd2.good
        clear hd2 hc2 ht2 hnt hmd
        go_wp2_with fail
        go_fit HMD.out
        rintro e w3 ⟨n, hn, hnm, rfl, ⟨v2, hv2⟩, hc3⟩
        have ht3 := hc3.row HT2.out (fun h => h.elim HNT.out fun h => by have := HSZ.out; omega)
        have f0 : w3.cell? ⟨w.heap.size, 0, none⟩ = some (.string (str D[k].1)) := by simp [World.cell?, ht3]
        have f1 : w3.cell? ⟨w.heap.size, 1, none⟩ = some (.string (str D[k].2.b)) := by simp [World.cell?, ht3]
        have f2 : w3.cell? ⟨w.heap.size, 2, none⟩ = some (.int .i64 (D[k].2.sync : Int)) := by simp [World.cell?, ht3]
        have hlen := len_kPut to_ (oldF to_ (kDel name D)) (kDel name D)
        have hlen2 := len_kDel name D
        have hks := kSet_put (k := to_) (u := oldF to_ (kDel name D)) (v := D[k].2) HG2.out.srt
        have hfs := HGD.out.sync _ (List.getElem_mem hk)
        have hgd3 : GoodD (kPut to_ D[k].2 (kDel name D)) := HG2.out.put (by
          have h1 := usedD_old (name := to_) HG2.out D[k].2
          have h2 := usedD_del_get HGD.out.srt HG.out
          have h3 := HGD.out.used
          omega) hfs (mayN_le HMY.out)
        have HGD3 := Lib.hid hgd3
        clear HMD
        generalize kPut to_ (oldF to_ (kDel name D)) (kDel name D) = D2 at *
        have HKS := Lib.hid hks
        have HNM2 := Lib.hid hnm
        obtain ⟨c0, _, _⟩ := hv2.cells
        obtain ⟨p2, cap2, rfl, _, _⟩ := hv2.own.shape
        obtain ⟨g2, cg, hp, _, _⟩ := hv2.own.head (by omega)
        obtain ⟨rfl, rfl⟩ : p2 = some ⟨g2, 0, none⟩ ∧ cap2 = cg := by simpa using hp
        have hown := hv2.own
        have HV2 := Lib.hid hv2
        have HC3 := Lib.hid hc3
        obtain ⟨x0, y0⟩ := hown.get (j := n * 3) (by rw [fls_len]; omega)
        obtain ⟨x1, y1⟩ := hown.get (j := n * 3 + 1) (by rw [fls_len]; omega)
        obtain ⟨x2, y2⟩ := hown.get (j := n * 3 + 2) (by rw [fls_len]; omega)
        rw [fls_get0 _ _ hn] at x0
        rw [fls_get1 _ _ hn] at x1
        rw [fls_get2 _ _ hn] at x2
        have hset := ((hown.set (j := n * 3) (by rw [fls_len]; omega) (.string (str to_))).set (j := n * 3 + 1) (by rw [List.length_set, fls_len]; omega) (.string (str D[k].2.b))).set (j := n * 3 + 2) (by rw [List.length_set, List.length_set, fls_len]; omega) (.int .i64 (D[k].2.sync : Int))
        rw [fls_set012 _ _ hn] at hset
        have hset2 := set_kSet HV2.out.srt hn D[k].2
        rw [hnm] at hset2
        have hset3 : D2.set n (to_, (⟨D[k].2.b, D[k].2.sync⟩ : FileV)) = kPut to_ D[k].2 (kDel name D) := hset2.trans hks
        rw [hset3] at hset
        have HSET := Lib.hid hset
        have hl3 : (kPut to_ D[k].2 (kDel name D)).length = D2.length := by rw [← hks, kSet_len]
        have HL3 := Lib.hid hl3
        have n0 : (0 : Int) ≤ (n : Int) := by omega
        have n1 : (n : Int) < (D2.length : Int) := by omega
        clear hp hown hset hset2 hset3 hl3 hks hv2 hc3 hnm hfs hgd3 ht3 hlen hlen2
        go_wp2_with fail
        go_region_with (fail)
        all_goals
          go_wp2_with fail
          go_ret
          have hch : Chg (fun q => q = g2) w3 (((w3.setCell ⟨g2, n * 3, none⟩ (.string (str to_))).setCell ⟨g2, n * 3 + 1, none⟩ (.string (str D[k].2.b))).setCell ⟨g2, n * 3 + 2, none⟩ (.int .i64 (D[k].2.sync : Int))) := ((Chg.setCell (S := fun q => q = g2) _ _ _ rfl).trans (Chg.setCell (S := fun q => q = g2) _ _ _ rfl) fun _ _ h => h).trans (Chg.setCell (S := fun q => q = g2) _ _ _ rfl) fun _ _ h => h
          have h5 := HV2.out.wrote rfl hch (D' := kPut to_ D[k].2 (kDel name D)) HL3.out (by rw [HL3.out]; exact HSET.out) HGD3.out
          have s1 := HSZ.out
          have s2 := HC2.out.size
          have s3 := HC3.out.size
          have hcw := (((Chg.of_below (S := S) HBAL.out).trans HC2.out fun q _ hq => hq.1).trans HC3.out fun q hq hu => hu.elim (fun h => h.1) fun h => absurd h (by omega)).trans h5.2 fun q hq hu => hu.elim (fun h => h.elim (fun h => h.1) fun h => absurd h (by omega)) fun h => absurd h (by omega)
          have hdr : DRef (Up S w) _ xb (kPut to_ D[k].2 (kDel name D)) room down := h5.1.mono fun q hq => hq.elim (fun h => h.elim (fun h => h.elim (fun h => .inl h.1) fun h => .inr (by omega)) fun h => .inr (by omega)) fun h => .inr (by omega)
          subst h1
          unfold renameD
          rw [HG.out, HMY.out]
          exact ⟨rfl, hdr.below (Below.refl _ _).drew, hcw.drawn⟩
end
end Go.Proofs.Ytadnabgnbhpijaa
