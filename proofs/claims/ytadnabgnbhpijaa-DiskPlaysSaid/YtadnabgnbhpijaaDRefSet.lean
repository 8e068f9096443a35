/- The walks over the document's disk: a file is synced, cut. -/
import Derived.Test.YtadnabgnbhpijaaDRefOut
set_option linter.unusedSimpArgs false
set_option linter.unusedVariables false
namespace Go.Proofs.Ytadnabgnbhpijaa
open Go.RowKit Go.Maps
theorem GoodD.set {D : Files0} (h : GoodD D) {name : List UInt8} {f g : FileV} (hg : kGet name D = some f) (hl : g.b.length ≤ f.b.length) (hs : g.sync ≤ g.b.length) : GoodD (kSet name g D) := by
  have hu := usedD_set (g := g) h.srt hg
  have hf := usedD_get hg
  refine ⟨h.srt.set hg, by have := h.used; omega, fun p hp => ?_, fun p hp => ?_⟩
  · obtain ⟨q, hq, rfl⟩ := List.mem_map.1 hp
    by_cases e : q.1 = name
    · simp only [e, if_true]; exact hs
    · simp only [e, if_false]; exact h.sync q hq
  · obtain ⟨q, hq, rfl⟩ := List.mem_map.1 hp
    by_cases e : q.1 = name
    · simp only [e, if_true]; rw [← e]; exact h.names q hq
    · simp only [e, if_false]; exact h.names q hq
section
variable {S T : Nat → Prop} {w w' : World} {xb room : Nat} {D : Files0} {down : Bool} {v : Value} {name : List UInt8}
theorem DRefV.wrote {b cap : Nat} (h : DRefV S w xb D room down (.slice (some ⟨b, 0, none⟩) D.length cap)) (hn : D.length = D.length) {w1 : World} (hc : Chg (fun j => j = b) w w1) {D' : Files0} (hl : D'.length = D.length) (hown : OwnS w1 0 99 3 (.slice (some ⟨b, 0, none⟩) D.length cap) D'.length (fls D')) (hg : GoodD D') :
    DRef (Up S w) w1 xb D' room down ∧ Chg S w w1 := by
  have h5 := h.setF (b := b) rfl hc hl hown hg
  exact ⟨⟨_, h5.1.mono fun _ h => .inl h⟩, h5.2⟩
set_option maxHeartbeats 1000000 in
set_option maxRecDepth 20000 in
theorem rsync_any (h : DRef S w xb D room down) (hl : name.length ≤ maxLen) (hm : D.length ≤ 100000) :
    Calls Try.prog 54 #[.pointer (some ⟨xb, 0, none⟩), .string (str name)] w fun e w' => e = .returned (.int .i64 (syncD name D down).2) ∧ DRef (Up S w) w' xb (syncD name D down).1 room down ∧ Chg S w w' := by
  have HF := Lib.hid (have_any (name := name) h hl hm)
  obtain ⟨v, h⟩ := h
  obtain ⟨c0, c1, c2⟩ := h.cells
  obtain ⟨p, cap, rfl, hr, _⟩ := h.own.shape
  have HH := Lib.hid h
  clear h hr c1 c2
  go_enter Try.func54, Try.ntmps54
  go_wp2_with fail
  go_fit HF.out
  rintro e w1 ⟨k, r, rfl, hd, rfl⟩
  rcases hd with ⟨h1, rfl, rfl⟩ | ⟨h1, h2, rfl, rfl⟩ | ⟨h1, rfl, hk, hn⟩
  · go_wp2_with fail
    go_ret
    subst h1
    exact ⟨rfl, ⟨_, HH.out.mono fun _ h => .inl h⟩, Chg.refl _ _⟩
  · have H2 := Lib.hid h2
    clear h2
    go_wp2_with fail
    go_ret
    subst h1
    unfold syncD
    rw [H2.out]
    exact ⟨rfl, ⟨_, HH.out.mono fun _ h => .inl h⟩, Chg.refl _ _⟩
  · have HN := Lib.hid hn
    obtain ⟨b, cg, hp, _, _⟩ := HH.out.own.head (by omega)
    obtain ⟨rfl, rfl⟩ : p = some ⟨b, 0, none⟩ ∧ cap = cg := by simpa using hp
    clear hp hn
    have hown := HH.out.own
    obtain ⟨e1, y1⟩ := hown.get (j := k * 3 + 1) (by rw [fls_len]; omega)
    obtain ⟨e2, y2⟩ := hown.get (j := k * 3 + 2) (by rw [fls_len]; omega)
    rw [fls_get1 _ _ hk] at e1
    rw [fls_get2 _ _ hk] at e2
    have k0 : (0 : Int) ≤ (k : Int) := by omega
    have k1 : (k : Int) < (D.length : Int) := by omega
    have hset := hown.set (j := k * 3 + 2) (by rw [fls_len]; omega) (.int .i64 (D[k].2.b.length : Int))
    rw [fls_set2 _ _ hk, set_kSet HH.out.srt hk] at hset
    have HSET := Lib.hid hset
    have hg := get_at HH.out.srt hk
    have hgd := HH.out.good.set (g := ⟨D[k].2.b, D[k].2.b.length⟩) hg (Nat.le_refl _) (Nat.le_refl _)
    have HG := Lib.hid hg
    have HGD := Lib.hid hgd
    clear hown hset hg hgd
    go_wp2_with fail
    go_region_with (fail)
    all_goals
      go_wp2_with fail
      go_ret
      have hch : Chg (fun j => j = b) w (w.setCell ⟨b, k * 3 + 2, none⟩ (.int .i64 (D[k].2.b.length : Int))) := Chg.setCell _ _ _ rfl
      have h5 := HH.out.wrote rfl hch (kSet_len _ _ _) (by rw [kSet_len]; exact HSET.out) HGD.out
      have hg := HG.out
      rw [HN.out] at hg h5
      subst h1
      unfold syncD
      rw [hg]
      exact ⟨rfl, h5.1.below (Below.refl _ _).drew, h5.2.trans (Chg.of_below (S := S) (Below.refl _ _).drew) fun _ _ h => h⟩
theorem Chg.drawn {S : Nat → Prop} {w u : World} (h : Chg S w u) : Chg S w u.drew := ⟨h.os, h.tape, h.output, h.size, h.block⟩
theorem fls_set12 : ∀ (D : Files0) (j : Nat) (h : j < D.length) (s : List UInt8) (n : Nat), ((fls D).set (j * 3 + 1) (.string (str s))).set (j * 3 + 2) (.int .i64 (n : Int)) = fls (D.set j (D[j].1, ⟨s, n⟩))
  | p :: D, 0, h, s, n => rfl
  | p :: D, j + 1, h, s, n => by
    have ih := fls_set12 D j (by simpa using h) s n
    have e : (j + 1) * 3 + 2 = j * 3 + 2 + 1 + 1 + 1 := by omega
    have e1 : (j + 1) * 3 + 1 = j * 3 + 1 + 1 + 1 + 1 := by omega
    simp only [fls_cons, e, e1, List.set_cons_succ, List.getElem_cons_succ, ih]
set_option maxHeartbeats 4000000 in
set_option maxRecDepth 20000 in
theorem rcut_any (h : DRef S w xb D room down) (n : Int) (hl : name.length ≤ maxLen) (hm : D.length ≤ 100000) :
    Calls Try.prog 56 #[.pointer (some ⟨xb, 0, none⟩), .string (str name), .int .i64 n] w fun e w' => e = .returned (.int .i64 (cutD name n D down).2) ∧ DRef (Up S w) w' xb (cutD name n D down).1 room down ∧ Chg S w w' := by
  have HF := Lib.hid (have_any (name := name) h hl hm)
  obtain ⟨v, h⟩ := h
  obtain ⟨c0, c1, c2⟩ := h.cells
  obtain ⟨p, cap, rfl, hr, _⟩ := h.own.shape
  have HH := Lib.hid h
  clear h hr c1 c2
  go_enter Try.func56, Try.ntmps56
  go_wp2_with fail
  go_fit HF.out
  rintro e w1 ⟨k, r, rfl, hd, rfl⟩
  rcases hd with ⟨h1, rfl, rfl⟩ | ⟨h1, h2, rfl, rfl⟩ | ⟨h1, rfl, hk, hn⟩
  · go_wp2_with fail
    go_ret
    subst h1
    exact ⟨rfl, ⟨_, HH.out.mono fun _ h => .inl h⟩, Chg.refl _ _⟩
  · have H2 := Lib.hid h2
    clear h2
    go_wp2_with fail
    go_ret
    subst h1
    unfold cutD
    rw [H2.out]
    exact ⟨rfl, ⟨_, HH.out.mono fun _ h => .inl h⟩, Chg.refl _ _⟩
  · have HN := Lib.hid hn
    obtain ⟨b, cg, hp, _, _⟩ := HH.out.own.head (by omega)
    obtain ⟨rfl, rfl⟩ : p = some ⟨b, 0, none⟩ ∧ cap = cg := by simpa using hp
    clear hp hn
    have hown := HH.out.own
    obtain ⟨e1, y1⟩ := hown.get (j := k * 3 + 1) (by rw [fls_len]; omega)
    obtain ⟨e2, y2⟩ := hown.get (j := k * 3 + 2) (by rw [fls_len]; omega)
    rw [fls_get1 _ _ hk] at e1
    rw [fls_get2 _ _ hk] at e2
    have k0 : (0 : Int) ≤ (k : Int) := by omega
    have k1 : (k : Int) < (D.length : Int) := by omega
    have hg := get_at HH.out.srt hk
    have HG := Lib.hid hg
    by_cases hn0 : n < 0
    · have dn : decide (n < 0) = true := by simpa using hn0
      have HN0 := Lib.hid hn0
      clear hg hown hn0
      go_wp2_with fail
      go_ret
      subst h1
      have hg := HG.out
      rw [HN.out] at hg
      unfold cutD
      rw [hg]
      simp only [Bool.false_eq_true, if_false, if_pos (show n < 0 ∨ (D[k].2.b.length : Int) < n from .inl HN0.out)]
      exact ⟨rfl, ⟨_, HH.out.mono fun _ h => .inl h⟩, Chg.refl _ _⟩
    · have dn : decide (n < 0) = false := by simpa using hn0
      by_cases hnl : (D[k].2.b.length : Int) < n
      · have dl : decide ((D[k].2.b.length : Int) < n) = true := by simpa using hnl
        have HNL := Lib.hid hnl
        clear hg hown hn0 hnl
        go_wp2_with fail
        go_ret
        subst h1
        have hg := HG.out
        rw [HN.out] at hg
        unfold cutD
        rw [hg]
        simp only [Bool.false_eq_true, if_false, if_pos (show n < 0 ∨ (D[k].2.b.length : Int) < n from .inr HNL.out)]
        exact ⟨rfl, ⟨_, HH.out.mono fun _ h => .inl h⟩, Chg.refl _ _⟩
      · have dl : decide ((D[k].2.b.length : Int) < n) = false := by simpa using hnl
        obtain ⟨m, rfl⟩ : ∃ m : Nat, n = (m : Int) := ⟨n.toNat, by omega⟩
        have hml : m ≤ D[k].2.b.length := by omega
        have hset := (hown.set (j := k * 3 + 1) (by rw [fls_len]; omega) (.string (str (D[k].2.b.take m)))).set (j := k * 3 + 2) (by rw [List.length_set, fls_len]; omega) (.int .i64 (m : Int))
        have hset2 := (hown.set (j := k * 3 + 2) (by rw [fls_len]; omega) (.int .i64 (m : Int))).set (j := k * 3 + 1) (by rw [List.length_set, fls_len]; omega) (.string (str (D[k].2.b.take m)))
        rw [List.set_comm _ _ (show k * 3 + 2 ≠ k * 3 + 1 by omega)] at hset2
        rw [fls_set12 _ _ hk, set_kSet HH.out.srt hk] at hset hset2
        have HSET := Lib.hid hset
        have HSET2 := Lib.hid hset2
        have hgd := HH.out.good.set (g := ⟨D[k].2.b.take m, m⟩) hg (by simp only [List.length_take]; omega) (by simp only [List.length_take]; omega)
        have HGD := Lib.hid hgd
        have hxb : xb ≠ b := fun e => HH.out.ne b rfl e.symm
        have hS : ∀ u, Chg (fun j => j = b) w u → u.cell? ⟨xb, 0, none⟩ = some (.slice (some ⟨b, 0, none⟩) D.length cap) := fun u hu => by
          have := hu.cell (p := ⟨xb, 0, none⟩) (row_lt HH.out.row) hxb
          rw [this]; exact HH.out.cells.1
        have HS := Lib.hid hS
        have m0 : (0 : Int) ≤ (m : Int) := by omega
        have m1 : (m : Int) ≤ (D[k].2.b.length : Int) := by omega
        clear hg hown hn0 hnl hset hset2 hgd hS
        go_upto_region 6 with (fail)
        refine wp_region_noPanic ?_
        refine wp_region_held_drew (S := fun u => u.cell? ⟨xb, 0, none⟩ = some (.slice (some ⟨b, 0, none⟩) D.length cap)) (by kernel_rfl) c0 (fun hHeld => ?_)
        refine wpAnyH_take (i := 0) (v := ?_) rfl (by kernel_rfl) (by kernel_rfl) (by kernel_rfl) (fun _ _ _ h => h) (Or.inl ⟨by rfl, ?_⟩) (by assumption) ?_; rotate_left; (focus ((intro w hSw); (try dsimp only at hSw); go_simp; (try (with_reducible rfl)))); try simp only [Act.put, List.getElem_toArray, List.getElem_cons_succ, List.getElem_cons_zero, List.setIfInBounds_toArray, List.set_cons_zero, List.set_cons_succ]
        refine wpAnyH_take (i := 1) (v := ?_) rfl (by kernel_rfl) (by kernel_rfl) (by kernel_rfl) (fun _ _ _ h => h) (Or.inl ⟨by rfl, ?_⟩) (by assumption) ?_; rotate_left; (focus ((intro w hSw); (try dsimp only at hSw); go_simp; (try (with_reducible rfl)))); try simp only [Act.put, List.getElem_toArray, List.getElem_cons_succ, List.getElem_cons_zero, List.setIfInBounds_toArray, List.set_cons_zero, List.set_cons_succ]
        refine wpAnyH_take (i := 2) (v := ?_) rfl (by kernel_rfl) (by kernel_rfl) (by kernel_rfl) (fun _ _ _ h => h) (Or.inl ⟨by rfl, ?_⟩) (by assumption) ?_; rotate_left; (focus ((intro w hSw); (try dsimp only at hSw); go_simp; (try (with_reducible rfl)))); try simp only [Act.put, List.getElem_toArray, List.getElem_cons_succ, List.getElem_cons_zero, List.setIfInBounds_toArray, List.set_cons_zero, List.set_cons_succ]
        refine wpAnyH_take (i := 3) (v := ?_) rfl (by kernel_rfl) (by kernel_rfl) (by kernel_rfl) (fun _ _ _ h => h) (Or.inl ⟨by rfl, ?_⟩) (by assumption) ?_; rotate_left; (focus ((intro w hSw); (try dsimp only at hSw); go_simp; (try (with_reducible rfl)))); try simp only [Act.put, List.getElem_toArray, List.getElem_cons_succ, List.getElem_cons_zero, List.setIfInBounds_toArray, List.set_cons_zero, List.set_cons_succ]
        refine wpAnyH_take (i := 4) (v := ?_) rfl (by kernel_rfl) (by kernel_rfl) (by kernel_rfl) (fun _ _ _ h => h) (Or.inl ⟨by rfl, ?_⟩) (by assumption) ?_; rotate_left; (focus ((intro w hSw); (try dsimp only at hSw); go_simp; (try (with_reducible rfl)))); try simp only [Act.put, List.getElem_toArray, List.getElem_cons_succ, List.getElem_cons_zero, List.setIfInBounds_toArray, List.set_cons_zero, List.set_cons_succ]
        refine wpAnyH_take (i := 5) (v := ?_) rfl (by kernel_rfl) (by kernel_rfl) (by kernel_rfl) (fun _ _ _ h => h) (Or.inl ⟨by rfl, ?_⟩) (by assumption) ?_; rotate_left; (focus ((intro w hSw); (try dsimp only at hSw); go_simp; (try (with_reducible rfl)))); try simp only [Act.put, List.getElem_toArray, List.getElem_cons_succ, List.getElem_cons_zero, List.setIfInBounds_toArray, List.set_cons_zero, List.set_cons_succ]
        refine wpAnyH_take (i := 6) (v := ?_) rfl (by kernel_rfl) (by kernel_rfl) (by kernel_rfl) (fun _ _ _ h => h) (Or.inl ⟨by rfl, ?_⟩) (by assumption) ?_; rotate_left; (focus ((intro w hSw); (try dsimp only at hSw); go_simp; (try (with_reducible rfl)))); try simp only [Act.put, List.getElem_toArray, List.getElem_cons_succ, List.getElem_cons_zero, List.setIfInBounds_toArray, List.set_cons_zero, List.set_cons_succ]
        refine wpAnyH_take (i := 7) (v := ?_) rfl (by kernel_rfl) (by kernel_rfl) (by kernel_rfl) (fun _ _ _ h => h) (Or.inl ⟨by rfl, ?_⟩) (by assumption) ?_; rotate_left; (focus ((intro w hSw); (try dsimp only at hSw); go_simp; (try (with_reducible rfl)))); try simp only [Act.put, List.getElem_toArray, List.getElem_cons_succ, List.getElem_cons_zero, List.setIfInBounds_toArray, List.set_cons_zero, List.set_cons_succ]
        refine wpAnyH_take (i := 8) (v := ?_) rfl (by kernel_rfl) (by kernel_rfl) (by kernel_rfl) (fun _ _ _ h => h) (Or.inl ⟨by rfl, ?_⟩) (by assumption) ?_; rotate_left; (focus ((intro w hSw); (try dsimp only at hSw); go_simp; (try (with_reducible rfl)))); try simp only [Act.put, List.getElem_toArray, List.getElem_cons_succ, List.getElem_cons_zero, List.setIfInBounds_toArray, List.set_cons_zero, List.set_cons_succ]
        refine wpAnyH_take (i := 9) (v := ?_) rfl (by kernel_rfl) (by kernel_rfl) (by kernel_rfl) (fun _ _ _ h => h) (Or.inl ⟨by rfl, ?_⟩) (by assumption) ?_; rotate_left; (focus ((intro w hSw); (try dsimp only at hSw); go_simp; (try (with_reducible rfl)))); try simp only [Act.put, List.getElem_toArray, List.getElem_cons_succ, List.getElem_cons_zero, List.setIfInBounds_toArray, List.set_cons_zero, List.set_cons_succ]
        refine wpAnyH_take (i := 10) (v := ?_) rfl (by kernel_rfl) (by kernel_rfl) (by kernel_rfl) (fun _ _ _ h => h) (Or.inl ⟨by rfl, ?_⟩) (by assumption) ?_; rotate_left; (focus ((intro w hSw); (try dsimp only at hSw); go_simp; (try (with_reducible rfl)))); try simp only [Act.put, List.getElem_toArray, List.getElem_cons_succ, List.getElem_cons_zero, List.setIfInBounds_toArray, List.set_cons_zero, List.set_cons_succ]
        refine wpAnyH_take (i := 11) (v := ?_) rfl (by kernel_rfl) (by kernel_rfl) (by kernel_rfl) (fun _ _ _ h => h) (Or.inl ⟨by rfl, ?_⟩) (by assumption) ?_; rotate_left; (focus ((intro w hSw); (try dsimp only at hSw); go_simp; (try (with_reducible rfl)))); try simp only [Act.put, List.getElem_toArray, List.getElem_cons_succ, List.getElem_cons_zero, List.setIfInBounds_toArray, List.set_cons_zero, List.set_cons_succ]
        refine wpAnyH_take (i := 12) (v := ?_) rfl (by kernel_rfl) (by kernel_rfl) (by kernel_rfl) (fun _ _ _ h => h) (Or.inl ⟨by rfl, ?_⟩) (by assumption) ?_; rotate_left; (focus ((intro w hSw); (try dsimp only at hSw); go_simp; (try (with_reducible rfl)))); try simp only [Act.put, List.getElem_toArray, List.getElem_cons_succ, List.getElem_cons_zero, List.setIfInBounds_toArray, List.set_cons_zero, List.set_cons_succ]
        refine wpAnyH_take (i := 13) (v := ?_) rfl (by kernel_rfl) (by kernel_rfl) (by kernel_rfl) (fun _ _ _ h => h) (Or.inl ⟨by rfl, ?_⟩) (by assumption) ?_; rotate_left; (focus ((intro w hSw); (try dsimp only at hSw); go_simp; (try (with_reducible rfl)))); try simp only [Act.put, List.getElem_toArray, List.getElem_cons_succ, List.getElem_cons_zero, List.setIfInBounds_toArray, List.set_cons_zero, List.set_cons_succ]
        refine wpAnyH_take (i := 14) (v := ?_) rfl (by kernel_rfl) (by kernel_rfl) (by kernel_rfl) (fun _ _ _ h => h) (Or.inl ⟨by rfl, ?_⟩) (by assumption) ?_; rotate_left; (focus ((intro w hSw); (try dsimp only at hSw); go_simp; (try (with_reducible rfl)))); try simp only [Act.put, List.getElem_toArray, List.getElem_cons_succ, List.getElem_cons_zero, List.setIfInBounds_toArray, List.set_cons_zero, List.set_cons_succ]
        refine wpAnyH_take (i := 15) (v := ?_) rfl (by kernel_rfl) (by kernel_rfl) (by kernel_rfl) (fun _ _ _ h => h) (Or.inl ⟨by rfl, ?_⟩) (by assumption) ?_; rotate_left; (focus ((intro w hSw); (try dsimp only at hSw); go_simp; (try (with_reducible rfl)))); try simp only [Act.put, List.getElem_toArray, List.getElem_cons_succ, List.getElem_cons_zero, List.setIfInBounds_toArray, List.set_cons_zero, List.set_cons_succ]
        refine wpAnyH_take (i := 16) (v := ?_) rfl (by kernel_rfl) (by kernel_rfl) (by kernel_rfl) (fun _ _ _ h => h) (Or.inl ⟨by rfl, ?_⟩) (by assumption) ?_; rotate_left; (focus ((intro w hSw); (try dsimp only at hSw); go_simp; (try (with_reducible rfl)))); try simp only [Act.put, List.getElem_toArray, List.getElem_cons_succ, List.getElem_cons_zero, List.setIfInBounds_toArray, List.set_cons_zero, List.set_cons_succ]
        refine wpAnyH_take (i := 18) (v := ?_) rfl (by kernel_rfl) (by kernel_rfl) (by kernel_rfl) (fun _ _ _ h => h) (Or.inl ⟨by rfl, ?_⟩) (by assumption) ?_; rotate_left; (focus ((intro w hSw); (try dsimp only at hSw); go_simp; (try (with_reducible rfl)))); try simp only [Act.put, List.getElem_toArray, List.getElem_cons_succ, List.getElem_cons_zero, List.setIfInBounds_toArray, List.set_cons_zero, List.set_cons_succ]
        refine wpAnyH_take (i := 20) (v := ?_) rfl (by kernel_rfl) (by kernel_rfl) (by kernel_rfl) (fun _ _ _ h => h) (Or.inl ⟨by rfl, ?_⟩) (by assumption) ?_; rotate_left; (focus ((intro w hSw); (try dsimp only at hSw); go_simp; (try (with_reducible rfl)))); try simp only [Act.put, List.getElem_toArray, List.getElem_cons_succ, List.getElem_cons_zero, List.setIfInBounds_toArray, List.set_cons_zero, List.set_cons_succ]
        refine wpAnyH_ready (rs := [17]) (by kernel_rfl) (by simp) (AllReadyH.cons rfl (fun K hK => ?_) AllReadyH.nil); go_simp; refine hK.out _ _ ?_ (fun hHeld => ?_); (focus (exact c0)); clear hK K; try simp only [Act.put, List.getElem_toArray, List.getElem_cons_succ, List.getElem_cons_zero, List.setIfInBounds_toArray, List.set_cons_zero, List.set_cons_succ]
        refine wpAnyH_take (i := 19) (v := ?_) rfl (by kernel_rfl) (by kernel_rfl) (by kernel_rfl) (fun _ _ _ h => h) (Or.inl ⟨by rfl, ?_⟩) (by assumption) ?_; rotate_left; (focus ((intro w hSw); (try dsimp only at hSw); go_simp; (try (with_reducible rfl)))); try simp only [Act.put, List.getElem_toArray, List.getElem_cons_succ, List.getElem_cons_zero, List.setIfInBounds_toArray, List.set_cons_zero, List.set_cons_succ]
        refine wpAnyH_take (i := 21) (v := ?_) rfl (by kernel_rfl) (by kernel_rfl) (by kernel_rfl) (fun _ _ _ h => h) (Or.inl ⟨by rfl, ?_⟩) (by assumption) ?_; rotate_left; (focus ((intro w hSw); (try dsimp only at hSw); go_simp; (try (with_reducible rfl)))); try simp only [Act.put, List.getElem_toArray, List.getElem_cons_succ, List.getElem_cons_zero, List.setIfInBounds_toArray, List.set_cons_zero, List.set_cons_succ]
        refine wpAnyH_take (i := 22) (v := ?_) rfl (by kernel_rfl) (by kernel_rfl) (by kernel_rfl) (fun _ _ _ h => h) (Or.inl ⟨by rfl, ?_⟩) (by assumption) ?_; rotate_left; (focus ((intro w hSw); (try dsimp only at hSw); go_simp; (try (with_reducible rfl)))); try simp only [Act.put, List.getElem_toArray, List.getElem_cons_succ, List.getElem_cons_zero, List.setIfInBounds_toArray, List.set_cons_zero, List.set_cons_succ]
        refine wpAnyH_ready (rs := [23]) (by kernel_rfl) (by simp) (AllReadyH.cons rfl (fun K hK => ?_) AllReadyH.nil); go_simp; refine hK.out _ _ ?_ (fun hHeld => ?_); (focus (refine HS.out _ ?_; exact (Chg.setCell (S := fun j => j = b) w ⟨b, k * 3 + 1, none⟩ _ rfl).drawn)); clear hK K; try simp only [Act.put, List.getElem_toArray, List.getElem_cons_succ, List.getElem_cons_zero, List.setIfInBounds_toArray, List.set_cons_zero, List.set_cons_succ]
        refine wpAnyH_take (i := 24) (v := ?_) rfl (by kernel_rfl) (by kernel_rfl) (by kernel_rfl) (fun _ _ _ h => h) (Or.inl ⟨by rfl, ?_⟩) (by assumption) ?_; rotate_left; (focus ((intro w hSw); (try dsimp only at hSw); go_simp; (try (with_reducible rfl)))); try simp only [Act.put, List.getElem_toArray, List.getElem_cons_succ, List.getElem_cons_zero, List.setIfInBounds_toArray, List.set_cons_zero, List.set_cons_succ]
        refine wpAnyH_take (i := 25) (v := ?_) rfl (by kernel_rfl) (by kernel_rfl) (by kernel_rfl) (fun _ _ _ h => h) (Or.inl ⟨by rfl, ?_⟩) (by assumption) ?_; rotate_left; (focus ((intro w hSw); (try dsimp only at hSw); go_simp; (try (with_reducible rfl)))); try simp only [Act.put, List.getElem_toArray, List.getElem_cons_succ, List.getElem_cons_zero, List.setIfInBounds_toArray, List.set_cons_zero, List.set_cons_succ]
        refine wpAnyH_ready (rs := [26]) (by kernel_rfl) (by simp) (AllReadyH.cons rfl (fun K hK => ?_) AllReadyH.nil); go_simp; refine hK.out _ _ ?_ (fun hHeld => ?_); (focus (refine HS.out _ ?_; exact ((Chg.setCell (S := fun j => j = b) w ⟨b, k * 3 + 1, none⟩ _ rfl).trans (Chg.setCell (S := fun j => j = b) _ ⟨b, k * 3 + 2, none⟩ _ rfl) fun _ _ h => h).drawn)); clear hK K; try simp only [Act.put, List.getElem_toArray, List.getElem_cons_succ, List.getElem_cons_zero, List.setIfInBounds_toArray, List.set_cons_zero, List.set_cons_succ]
        refine wpAnyH_done (by kernel_rfl) ?_ _
        refine NoPanic.normal ?_
        go_wp2_with fail
        go_ret
        have hch : Chg (fun j => j = b) w ((w.setCell ⟨b, k * 3 + 1, none⟩ (.string (str (D[k].2.b.take m)))).setCell ⟨b, k * 3 + 2, none⟩ (.int .i64 (m : Int))) := (Chg.setCell (S := fun j => j = b) _ _ _ rfl).trans (Chg.setCell (S := fun j => j = b) _ _ _ rfl) fun _ _ h => h
        have h5 := HH.out.wrote rfl hch (kSet_len _ _ _) (by rw [kSet_len]; exact HSET.out) HGD.out
        have hg := HG.out
        rw [HN.out] at hg h5
        subst h1
        unfold cutD
        rw [hg]
        simp only [Bool.false_eq_true, if_false, if_neg (show ¬ ((m : Int) < 0 ∨ (D[k].2.b.length : Int) < (m : Int)) by omega), Int.toNat_natCast]
        exact ⟨rfl, h5.1.below (Below.refl _ _).drew, h5.2.trans (Chg.of_below (S := S) (Below.refl _ _).drew) fun _ _ h => h⟩
end
end Go.Proofs.Ytadnabgnbhpijaa
