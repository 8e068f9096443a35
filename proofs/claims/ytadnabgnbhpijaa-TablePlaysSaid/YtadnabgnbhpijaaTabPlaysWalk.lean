/- The walk over TablePlays. -/
import Derived.Test.YtadnabgnbhpijaaTabBoth
set_option linter.unusedSimpArgs false
set_option linter.unusedVariables false
namespace Go.Proofs.Ytadnabgnbhpijaa
open Go.RowKit Go.Maps
/-- the ops at p on are L -/
def RdOp (w : World) (p : Option Addr) (L : List OpT) : Prop :=
  L = [] ∨ ∃ b o, p = some ⟨b, o, none⟩ ∧ ∀ i (h : i < L.length), w.cell? ⟨b, o + i * 3, none⟩ = some (.int .i64 L[i].1) ∧ w.cell? ⟨b, o + i * 3 + 1, none⟩ = some (.int .i64 L[i].2.1) ∧ w.cell? ⟨b, o + i * 3 + 2, none⟩ = some (.string (str L[i].2.2))
theorem RdOp.at {w : World} {p : Option Addr} {L : List OpT} (h : RdOp w p L) {k : Nat} (hk : k < L.length) :
    ∃ b o, p = some ⟨b, o, none⟩ ∧ w.cell? ⟨b, o + k * 3, none⟩ = some (.int .i64 L[k].1) ∧ w.cell? ⟨b, o + k * 3 + 1, none⟩ = some (.int .i64 L[k].2.1) ∧ w.cell? ⟨b, o + k * 3 + 2, none⟩ = some (.string (str L[k].2.2)) := by
  rcases h with rfl | ⟨b, o, hp, hc⟩
  · simp at hk
  · exact ⟨b, o, hp, hc k hk⟩
section
variable {X : Nat → Prop} {w0 w : World} {tb xb : Nat} {m mr : Slot} {g gr : Nat}
theorem Both.cells (h : Both X w0 w tb xb m g mr gr) : ∃ p c, w.cell? ⟨xb, 0, none⟩ = some (.slice p mr.length c) ∧ w.cell? ⟨xb, 1, none⟩ = some (.int .i64 (gr : Int)) := by
  obtain ⟨S1, S2, t, h1, h2, h3, h4, h5, ⟨v, h6⟩, h7, h8⟩ := h
  obtain ⟨p, c, rfl, _, _⟩ := h6.own.shape
  exact ⟨p, c, h6.cells.1, h6.cells.2⟩
theorem lenB (h : Both X w0 w tb xb m g mr gr) : Calls Try.prog 29 #[.pointer (some ⟨tb, 0, none⟩)] w fun e w' => e = .returned (.int .i64 (m.length : Int)) ∧ w = w' := by
  obtain ⟨S1, S2, t, h1, h2, h3, h4, h5, h6, h7, h8⟩ := h
  have := tlen_any h4
  rw [h5.inv.len] at this
  exact this
theorem workB (h : Both X w0 w tb xb m g mr gr) : Calls Try.prog 39 #[.pointer (some ⟨tb, 0, none⟩)] w fun e w' => ∃ s : Nat, e = .returned (.int .i64 (s : Int)) ∧ s ≤ 8 ∧ w = w' := by
  obtain ⟨S1, S2, t, h1, h2, h3, h4, h5, h6, h7, h8⟩ := h
  exact (work_ok h4).mono fun e w' ⟨he, hw⟩ => ⟨t.work, he, h5.work, hw⟩
theorem slotsB (h : Both X w0 w tb xb m g mr gr) (hg : g ≤ 100000) : Calls Try.prog 35 #[.pointer (some ⟨tb, 0, none⟩)] w fun e w' => ∃ s : Nat, e = .returned (.int .i64 (s : Int)) ∧ s ≤ 8 + 8 * g ∧ Below w.heap.size w w' := by
  obtain ⟨S1, S2, t, h1, h2, h3, h4, h5, h6, h7, h8⟩ := h
  exact (slots_ok h4 h5 hg).mono fun e w' ⟨he, hw⟩ => ⟨_, he, h5.slots, hw⟩
theorem sortB_len (m : Slot) : (sortB (m.map Prod.fst)).length = m.length := by rw [List.length_mergeSort, List.length_map]
theorem namesB (h : Both X w0 w tb xb m g mr gr) :
    Calls Try.prog 30 #[.pointer (some ⟨tb, 0, none⟩)] w fun e w' => ∃ p c, e = .returned (.slice p (sortB (m.map Prod.fst)).length c) ∧ Rd w' p (strs (sortB (m.map Prod.fst))) ∧ Below w.heap.size w w' := by
  obtain ⟨S1, S2, t, h1, h2, h3, h4, h5, h6, h7, h8⟩ := h
  rw [sortB_len]
  exact names_ok h4 h5
theorem rnamesB (h : Both X w0 w tb xb m g mr gr) (hm : mr.length ≤ 1000) :
    Calls Try.prog 41 #[.pointer (some ⟨xb, 0, none⟩)] w fun e w' => ∃ p c, e = .returned (.slice p (sortB (mr.map Prod.fst)).length c) ∧ Rd w' p (strs (sortB (mr.map Prod.fst))) ∧ Below w.heap.size w w' := by
  obtain ⟨S1, S2, t, h1, h2, h3, h4, h5, h6, h7, h8⟩ := h
  rw [sortB_len]
  exact rnames_any h6 (by omega)
theorem both0 {B : Nat} {w1 : World} {t : Tab} (hB : B = w.heap.size) (hA : TabA (B ≤ ·) w1 tb t) (hk : Ok t [] 0) (hb : Below B w w1) : Both (fun _ => False) w (w1.alloc (.cells #[.slice none 0 0, .int .i64 0] 65)) tb w1.heap.size [] 0 [] 0 := by
  subst hB
  have hbal : Below w1.heap.size w1 (w1.alloc (.cells #[.slice none 0 0, .int .i64 0] 65)) := (Below.refl _ _).alloc (Nat.le_refl _) _
  have := hb.size
  refine ⟨_, fun k => k = w1.heap.size, t, ?_, fun k hk => ?_, fun k hk => ?_, (hA.lt).below hbal, hk, ⟨.slice none 0 0, rfl, heap_alloc_new w1 _, OwnS.none, fun k hk => by simp [Value.ownBlock] at hk⟩, hb.alloc (by omega) _, fun k hk => hk.elim⟩
  · rintro k ⟨_, hk⟩ rfl; omega
  · exact ⟨hk.1, by have := hk.2; simp; omega⟩
  · subst hk; exact ⟨by omega, by simp⟩
end
theorem wpAnyH_weak {P : Program} {md : Region.Mode} {ops : Array Oper} {Q : Exit → Act → World → Prop} {S S' : World → Prop} (hs : ∀ w, S' w → S w) : ∀ (fuel : Nat) (listed : Array Bool) (a : Act) (w : World), wpAnyH P md ops Q S' fuel listed a w → wpAnyH P md ops Q S fuel listed a w
  | 0, _, _, _, h => h
  | fuel + 1, _, _, _, h => ⟨h.1, fun i hi => wpOp_mono (fun a' w' h' => ⟨hs _ h'.1, wpAnyH_weak hs fuel _ a' w' h'.2⟩) (h.2 i hi)⟩
def PlaysRel (w : World) (tb xb k : Nat) (wr : World) : Prop := ∃ m g, Both (fun _ => False) w wr tb xb m g m g ∧ m.length ≤ k ∧ g ≤ k
set_option maxHeartbeats 4000000 in
set_option maxRecDepth 20000 in
theorem tablePlays_walk (p : Option Addr) (cap : Nat) (L : List OpT) (w : World) (hr : RdOp w p L) (hcap : L.length ≤ cap) (hmax : cap ≤ maxLen) :
    Calls Try.prog 9 #[.slice p L.length cap] w fun e w' => e = .returned (.bool true) ∧ Below w.heap.size w w' := by
  have hl63 : L.length ≤ 9223372036854775807 := by unfold maxLen at hmax; omega
  have HR := Lib.hid hr
  clear hr hmax
  go_enter Try.func9, Try.ntmps9
  go_wp2_with fail
  go_fit (new_A w)
  rintro e w1 ⟨tb, rfl, hd1, hb1⟩
  have hbo := both0 rfl hd1 ok0 hb1
  have HBO := Lib.hid hbo
  clear hd1 hb1 hbo
  go_upto_block 0 with (fail)
  obtain ⟨xb, hxb⟩ : ∃ v, v = w1.heap.size := ⟨_, rfl⟩
  obtain ⟨w2, hw2⟩ : ∃ v, v = w1.alloc (.cells #[.slice none 0 0, .int .i64 0] 65) := ⟨_, rfl⟩
  rw [← hw2, ← hxb] at HBO
  simp only [← hxb, ← hw2]
  clear hxb hw2
  go_cut [] (fun wc => PlaysRel w tb xb 300 wc)
  case first =>
    go_wp2_with fail
    go_loopw [5] (fun i wr => ∃ k, k ≤ L.length ∧ k ≤ 300 ∧ i = .int .i64 (k : Int) ∧ PlaysRel w tb xb k wr) (fun i _ => 300 - (intOf i).toNat)
    case atStart => exact ⟨0, Nat.zero_le _, Nat.zero_le _, rfl, [], 0, HBO.out, Nat.le_refl _, Nat.le_refl _⟩
    case round =>
      obtain ⟨k, hk, hk3, rfl, m, g, hB, hmk, hgk⟩ := hrel
      have HB := Lib.hid hB
      clear hB HBO
      by_cases hkl : k < L.length
      · have d1 : decide ((k : Int) < (L.length : Int)) = true := by simp; omega
        by_cases hk30 : k < 300
        · have d2 : decide ((k : Int) < 300) = true := by simp; omega
          obtain ⟨b, o, rfl, c0, c1, c2⟩ := HR.out.at hkl
          have c0 := cell_below HB.out.base c0
          have c1 := cell_below HB.out.base c1
          have c2 := cell_below HB.out.base c2
          have k0 : (0 : Int) ≤ (k : Int) := by omega
          have k1 : (k : Int) < (L.length : Int) := by omega
          by_cases h20 : L[k].2.2.length ≤ 20
          · have d20 : decide ((20 : Int) < (L[k].2.2.length : Int)) = false := by simp; omega
            have hact : Calls Try.prog 38 #[.pointer (some ⟨tb, 0, none⟩), .pointer (some ⟨xb, 0, none⟩), .agg #[.int .i64 L[k].1, .int .i64 L[k].2.1, .string (str L[k].2.2)]] wr.drew (ActDoes w tb xb m g) := act_any (HB.out.below (Below.refl _ _).drew) L[k] (by omega) (by omega) (by omega)
            have HACT := Lib.hid hact
            clear hact
            have HCP := Lib.hid hcap
            have HL3 := Lib.hid hl63
            go_upto_region 10 with (fail)
            clear hcap
            have hk : ∀ u, Below w.heap.size w u → u.cell? ⟨b, o + k * 3, none⟩ = some (.int .i64 L[k].1) ∧ u.cell? ⟨b, o + k * 3 + 1, none⟩ = some (.int .i64 L[k].2.1) ∧ u.cell? ⟨b, o + k * 3 + 2, none⟩ = some (.string (str L[k].2.2)) := fun u hu => by
              obtain ⟨b', o', hp, y0, y1, y2⟩ := HR.out.at hkl
              cases hp
              exact ⟨cell_below hu y0, cell_below hu y1, cell_below hu y2⟩
            have HK := Lib.hid hk
            clear hk
            refine wp_region_noPanic ?_
            refine wp_region_held_drew (S := (fun u => u.cell? ⟨b, o + k * 3, none⟩ = some (.int .i64 L[k].1) ∧ u.cell? ⟨b, o + k * 3 + 1, none⟩ = some (.int .i64 L[k].2.1) ∧ u.cell? ⟨b, o + k * 3 + 2, none⟩ = some (.string (str L[k].2.2)))) (by kernel_rfl) ⟨c0, c1, c2⟩ (fun hHeld => ?_)
            clear c0 c1 c2
            refine wpAnyH_take (i := 0) (v := ?_) rfl (by kernel_rfl) (by kernel_rfl) (by kernel_rfl) (fun _ _ _ h => h) (Or.inl ⟨by rfl, ?_⟩) (by assumption) ?_; rotate_left; (focus ((intro w hSw); (try dsimp only at hSw); go_simp; (try (with_reducible rfl)))); try simp only [Act.put, List.getElem_toArray, List.getElem_cons_succ, List.getElem_cons_zero, List.setIfInBounds_toArray, List.set_cons_zero, List.set_cons_succ]
            refine wpAnyH_take (i := 1) (v := ?_) rfl (by kernel_rfl) (by kernel_rfl) (by kernel_rfl) (fun _ _ _ h => h) (Or.inl ⟨by rfl, ?_⟩) (by assumption) ?_; rotate_left; (focus ((intro w hSw); (try dsimp only at hSw); go_simp; (try (with_reducible rfl)))); try simp only [Act.put, List.getElem_toArray, List.getElem_cons_succ, List.getElem_cons_zero, List.setIfInBounds_toArray, List.set_cons_zero, List.set_cons_succ]
            refine wpAnyH_take (i := 2) (v := ?_) rfl (by kernel_rfl) (by kernel_rfl) (by kernel_rfl) (fun _ _ _ h => h) (Or.inl ⟨by rfl, ?_⟩) (by assumption) ?_; rotate_left; (focus ((intro w hSw); (try dsimp only at hSw); go_simp; (try (with_reducible rfl)))); try simp only [Act.put, List.getElem_toArray, List.getElem_cons_succ, List.getElem_cons_zero, List.setIfInBounds_toArray, List.set_cons_zero, List.set_cons_succ]
            refine wpAnyH_take (i := 3) (v := ?_) rfl (by kernel_rfl) (by kernel_rfl) (by kernel_rfl) (fun _ _ _ h => h) (Or.inl ⟨by rfl, ?_⟩) (by assumption) ?_; rotate_left; (focus ((intro w hSw); (try dsimp only at hSw); go_simp; (try (with_reducible rfl)))); try simp only [Act.put, List.getElem_toArray, List.getElem_cons_succ, List.getElem_cons_zero, List.setIfInBounds_toArray, List.set_cons_zero, List.set_cons_succ]
            refine wpAnyH_take (i := 4) (v := ?_) rfl (by kernel_rfl) (by kernel_rfl) (by kernel_rfl) (fun _ _ _ h => h) (Or.inl ⟨by rfl, ?_⟩) (by assumption) ?_; rotate_left; (focus ((intro w hSw); (try dsimp only at hSw); go_simp; (try (with_reducible rfl)))); try simp only [Act.put, List.getElem_toArray, List.getElem_cons_succ, List.getElem_cons_zero, List.setIfInBounds_toArray, List.set_cons_zero, List.set_cons_succ]
            refine wpAnyH_take (i := 5) (v := ?_) rfl (by kernel_rfl) (by kernel_rfl) (by kernel_rfl) (fun _ _ _ h => h) (Or.inl ⟨by rfl, ?_⟩) (by assumption) ?_; rotate_left; (focus ((intro w hSw); (try dsimp only at hSw); go_simp; (try (with_reducible rfl)))); try simp only [Act.put, List.getElem_toArray, List.getElem_cons_succ, List.getElem_cons_zero, List.setIfInBounds_toArray, List.set_cons_zero, List.set_cons_succ]
            refine wpAnyH_ready (rs := [6]) (by kernel_rfl) (by simp) (AllReadyH.cons rfl (fun K hK => ?_) AllReadyH.nil); go_simp; (go_at_call 38; refine HACT.out.mono ?_; rintro e w3 ⟨rfl, m2, g2, hB3, hml, hgl⟩; have HB3 := Lib.hid hB3; clear hB3; go_wp2_with fail); refine hK.out _ _ ?_ (fun hHeld => ?_); (focus (exact HK.out _ HB3.out.base)); clear hK K; try simp only [Act.put, List.getElem_toArray, List.getElem_cons_succ, List.getElem_cons_zero, List.setIfInBounds_toArray, List.set_cons_zero, List.set_cons_succ]
            obtain ⟨q3, cq3, x0, x1⟩ := HB3.out.cells
            have hg3 : g2 ≤ 301 := by omega
            have hv1 : IntKind.i64.wrap (8 * (g2 : Int)) = 8 * (g2 : Int) := IntWalk.i64_in _ (by omega)
            have hv2 : IntKind.i64.wrap (16 + 8 * (g2 : Int)) = 16 + 8 * (g2 : Int) := IntWalk.i64_in _ (by omega)
            refine wpAnyH_weak (S' := (fun u => (u.cell? ⟨b, o + k * 3, none⟩ = some (.int .i64 L[k].1) ∧ u.cell? ⟨b, o + k * 3 + 1, none⟩ = some (.int .i64 L[k].2.1) ∧ u.cell? ⟨b, o + k * 3 + 2, none⟩ = some (.string (str L[k].2.2))) ∧ u.cell? ⟨xb, 0, none⟩ = some (.slice q3 m2.length cq3) ∧ u.cell? ⟨xb, 1, none⟩ = some (.int .i64 (g2 : Int)))) (fun _ h => h.1) _ _ _ _ ?_
            have hS1 : (fun u => (u.cell? ⟨b, o + k * 3, none⟩ = some (.int .i64 L[k].1) ∧ u.cell? ⟨b, o + k * 3 + 1, none⟩ = some (.int .i64 L[k].2.1) ∧ u.cell? ⟨b, o + k * 3 + 2, none⟩ = some (.string (str L[k].2.2))) ∧ u.cell? ⟨xb, 0, none⟩ = some (.slice q3 m2.length cq3) ∧ u.cell? ⟨xb, 1, none⟩ = some (.int .i64 (g2 : Int))) w3 := ⟨hHeld, x0, x1⟩
            have HX0 := Lib.hid x0
            have HX1 := Lib.hid x1
            clear hHeld x0 x1
            refine wpAnyH_take (i := 7) (v := ?_) rfl (by kernel_rfl) (by kernel_rfl) (by kernel_rfl) (fun _ _ _ h => h) (Or.inl ⟨by rfl, ?_⟩) (by assumption) ?_; rotate_left; (focus ((intro w hSw); (try dsimp only at hSw); go_simp; (try (with_reducible rfl)))); try simp only [Act.put, List.getElem_toArray, List.getElem_cons_succ, List.getElem_cons_zero, List.setIfInBounds_toArray, List.set_cons_zero, List.set_cons_succ]
            refine wpAnyH_take (i := 8) (v := ?_) rfl (by kernel_rfl) (by kernel_rfl) (by kernel_rfl) (fun _ _ _ h => h) (Or.inl ⟨by rfl, ?_⟩) (by assumption) ?_; rotate_left; (focus ((intro w hSw); (try dsimp only at hSw); go_simp; (try (with_reducible rfl)))); try simp only [Act.put, List.getElem_toArray, List.getElem_cons_succ, List.getElem_cons_zero, List.setIfInBounds_toArray, List.set_cons_zero, List.set_cons_succ]
            refine wpAnyH_take (i := 9) (v := ?_) rfl (by kernel_rfl) (by kernel_rfl) (by kernel_rfl) (fun _ _ _ h => h) (Or.inl ⟨by rfl, ?_⟩) (by assumption) ?_; rotate_left; (focus ((intro w hSw); (try dsimp only at hSw); go_simp; (try (with_reducible rfl)))); try simp only [Act.put, List.getElem_toArray, List.getElem_cons_succ, List.getElem_cons_zero, List.setIfInBounds_toArray, List.set_cons_zero, List.set_cons_succ]
            refine wpAnyH_take (i := 11) (v := ?_) rfl (by kernel_rfl) (by kernel_rfl) (by kernel_rfl) (fun _ _ _ h => h) (Or.inl ⟨by rfl, ?_⟩) (by assumption) ?_; rotate_left; (focus ((intro w hSw); (try dsimp only at hSw); go_simp; (try (with_reducible rfl)))); try simp only [Act.put, List.getElem_toArray, List.getElem_cons_succ, List.getElem_cons_zero, List.setIfInBounds_toArray, List.set_cons_zero, List.set_cons_succ]
            refine wpAnyH_take (i := 12) (v := ?_) rfl (by kernel_rfl) (by kernel_rfl) (by kernel_rfl) (fun _ _ _ h => h) (Or.inl ⟨by rfl, ?_⟩) (by assumption) ?_; rotate_left; (focus ((intro w hSw); (try dsimp only at hSw); go_simp; (try (with_reducible rfl)))); try simp only [Act.put, List.getElem_toArray, List.getElem_cons_succ, List.getElem_cons_zero, List.setIfInBounds_toArray, List.set_cons_zero, List.set_cons_succ]
            refine wpAnyH_take (i := 13) (v := ?_) rfl (by kernel_rfl) (by kernel_rfl) (by kernel_rfl) (fun _ _ _ h => h) (Or.inl ⟨by rfl, ?_⟩) (by assumption) ?_; rotate_left; (focus ((intro w hSw); (try dsimp only at hSw); go_simp; (try (with_reducible rfl)))); try simp only [Act.put, List.getElem_toArray, List.getElem_cons_succ, List.getElem_cons_zero, List.setIfInBounds_toArray, List.set_cons_zero, List.set_cons_succ]
            refine wpAnyH_take (i := 14) (v := ?_) rfl (by kernel_rfl) (by kernel_rfl) (by kernel_rfl) (fun _ _ _ h => h) (Or.inl ⟨by rfl, ?_⟩) (by assumption) ?_; rotate_left; (focus ((intro w hSw); (try dsimp only at hSw); go_simp; (try (with_reducible rfl)))); try simp only [Act.put, List.getElem_toArray, List.getElem_cons_succ, List.getElem_cons_zero, List.setIfInBounds_toArray, List.set_cons_zero, List.set_cons_succ]
            refine wpAnyH_take (i := 15) (v := ?_) rfl (by kernel_rfl) (by kernel_rfl) (by kernel_rfl) (fun _ _ _ h => h) (Or.inl ⟨by rfl, ?_⟩) (by assumption) ?_; rotate_left; (focus ((intro w hSw); (try dsimp only at hSw); go_simp; (try (with_reducible rfl)))); try simp only [Act.put, List.getElem_toArray, List.getElem_cons_succ, List.getElem_cons_zero, List.setIfInBounds_toArray, List.set_cons_zero, List.set_cons_succ]
            refine wpAnyH_ready (rs := [10]) (by kernel_rfl) (by simp) (AllReadyH.cons rfl (fun K hK => ?_) AllReadyH.nil); go_simp; (go_at_call 29; refine (lenB HB3.out).mono ?_; rintro e w4 ⟨rfl, rfl⟩; go_wp2_with fail); refine hK.out _ _ ?_ (fun hHeld => ?_); (focus (assumption)); clear hK K; try simp only [Act.put, List.getElem_toArray, List.getElem_cons_succ, List.getElem_cons_zero, List.setIfInBounds_toArray, List.set_cons_zero, List.set_cons_succ]
            clear hS1
            refine wpAnyH_take (i := 16) (v := ?_) rfl (by kernel_rfl) (by kernel_rfl) (by kernel_rfl) (fun _ _ _ h => h) (Or.inl ⟨by rfl, ?_⟩) (by assumption) ?_; rotate_left; (focus ((intro w hSw); (try dsimp only at hSw); go_simp; (try (with_reducible rfl)))); try simp only [Act.put, List.getElem_toArray, List.getElem_cons_succ, List.getElem_cons_zero, List.setIfInBounds_toArray, List.set_cons_zero, List.set_cons_succ]
            refine wpAnyH_take (i := 17) (v := ?_) rfl (by kernel_rfl) (by kernel_rfl) (by kernel_rfl) (fun _ _ _ h => h) (Or.inl ⟨by rfl, ?_⟩) (by assumption) ?_; rotate_left; (focus ((intro w hSw); (try dsimp only at hSw); go_simp; (try (with_reducible rfl)))); try simp only [Act.put, List.getElem_toArray, List.getElem_cons_succ, List.getElem_cons_zero, List.setIfInBounds_toArray, List.set_cons_zero, List.set_cons_succ]
            refine wpAnyH_take (i := 18) (v := ?_) rfl (by kernel_rfl) (by kernel_rfl) (by kernel_rfl) (fun _ _ _ h => h) (Or.inl ⟨by rfl, ?_⟩) (by assumption) ?_; rotate_left; (focus ((intro w hSw); (try dsimp only at hSw); go_simp; (try (with_reducible rfl)))); try simp only [Act.put, List.getElem_toArray, List.getElem_cons_succ, List.getElem_cons_zero, List.setIfInBounds_toArray, List.set_cons_zero, List.set_cons_succ]
            refine wpAnyH_take (i := 19) (v := ?_) rfl (by kernel_rfl) (by kernel_rfl) (by kernel_rfl) (fun _ _ _ h => h) (Or.inl ⟨by rfl, ?_⟩) (by assumption) ?_; rotate_left; (focus ((intro w hSw); (try dsimp only at hSw); go_simp; (try (with_reducible rfl)))); try simp only [Act.put, List.getElem_toArray, List.getElem_cons_succ, List.getElem_cons_zero, List.setIfInBounds_toArray, List.set_cons_zero, List.set_cons_succ]
            refine wpAnyH_take (i := 21) (v := ?_) rfl (by kernel_rfl) (by kernel_rfl) (by kernel_rfl) (fun _ _ _ h => h) (Or.inl ⟨by rfl, ?_⟩) (by assumption) ?_; rotate_left; (focus ((intro w hSw); (try dsimp only at hSw); go_simp; (try (with_reducible rfl)))); try simp only [Act.put, List.getElem_toArray, List.getElem_cons_succ, List.getElem_cons_zero, List.setIfInBounds_toArray, List.set_cons_zero, List.set_cons_succ]
            refine wpAnyH_take (i := 22) (v := ?_) rfl (by kernel_rfl) (by kernel_rfl) (by kernel_rfl) (fun _ _ _ h => h) (Or.inl ⟨by rfl, ?_⟩) (by assumption) ?_; rotate_left; (focus ((intro w hSw); (try dsimp only at hSw); go_simp; (try (with_reducible rfl)))); try simp only [Act.put, List.getElem_toArray, List.getElem_cons_succ, List.getElem_cons_zero, List.setIfInBounds_toArray, List.set_cons_zero, List.set_cons_succ]
            refine wpAnyH_take (i := 23) (v := ?_) rfl (by kernel_rfl) (by kernel_rfl) (by kernel_rfl) (fun _ _ _ h => h) (Or.inl ⟨by rfl, ?_⟩) (by assumption) ?_; rotate_left; (focus ((intro w hSw); (try dsimp only at hSw); go_simp; (try (with_reducible rfl)))); try simp only [Act.put, List.getElem_toArray, List.getElem_cons_succ, List.getElem_cons_zero, List.setIfInBounds_toArray, List.set_cons_zero, List.set_cons_succ]
            refine wpAnyH_take (i := 24) (v := ?_) rfl (by kernel_rfl) (by kernel_rfl) (by kernel_rfl) (fun _ _ _ h => h) (Or.inl ⟨by rfl, ?_⟩) (by assumption) ?_; rotate_left; (focus ((intro w hSw); (try dsimp only at hSw); go_simp; (try (with_reducible rfl)))); try simp only [Act.put, List.getElem_toArray, List.getElem_cons_succ, List.getElem_cons_zero, List.setIfInBounds_toArray, List.set_cons_zero, List.set_cons_succ]
            refine wpAnyH_take (i := 25) (v := ?_) rfl (by kernel_rfl) (by kernel_rfl) (by kernel_rfl) (fun _ _ _ h => h) (Or.inl ⟨by rfl, ?_⟩) (by assumption) ?_; rotate_left; (focus ((intro w hSw); (try dsimp only at hSw); go_simp; (try (with_reducible rfl)))); try simp only [Act.put, List.getElem_toArray, List.getElem_cons_succ, List.getElem_cons_zero, List.setIfInBounds_toArray, List.set_cons_zero, List.set_cons_succ]
            refine wpAnyH_take (i := 26) (v := ?_) rfl (by kernel_rfl) (by kernel_rfl) (by kernel_rfl) (fun _ _ _ h => h) (Or.inl ⟨by rfl, ?_⟩) (by assumption) ?_; rotate_left; (focus ((intro w hSw); (try dsimp only at hSw); go_simp; (try (with_reducible rfl)))); try simp only [Act.put, List.getElem_toArray, List.getElem_cons_succ, List.getElem_cons_zero, List.setIfInBounds_toArray, List.set_cons_zero, List.set_cons_succ]
            refine wpAnyH_ready (rs := [20]) (by kernel_rfl) (by simp) (AllReadyH.cons rfl (fun K hK => ?_) AllReadyH.nil); go_simp; (go_at_call 35; refine (slotsB HB3.out (by omega)).mono ?_; rintro e w5 ⟨s5, rfl, hs5, hb5⟩; have HB5 := Lib.hid (HB3.out.below hb5); have HX5 := Lib.hid hb5; clear hb5; go_wp2_with fail); refine hK.out _ _ ?_ (fun hHeld => ?_); (focus (exact ⟨HK.out _ HB5.out.base, cell_below HX5.out HX0.out, cell_below HX5.out HX1.out⟩)); clear hK K; try simp only [Act.put, List.getElem_toArray, List.getElem_cons_succ, List.getElem_cons_zero, List.setIfInBounds_toArray, List.set_cons_zero, List.set_cons_succ]
            have ds5 : decide ((16 : Int) + 8 * (g2 : Int) < (s5 : Int)) = false := by simp; omega
            refine wpAnyH_take (i := 27) (v := ?_) rfl (by kernel_rfl) (by kernel_rfl) (by kernel_rfl) (fun _ _ _ h => h) (Or.inl ⟨by rfl, ?_⟩) (by assumption) ?_; rotate_left; (focus ((intro w hSw); (try dsimp only at hSw); go_simp; (try (with_reducible rfl)))); try simp only [Act.put, List.getElem_toArray, List.getElem_cons_succ, List.getElem_cons_zero, List.setIfInBounds_toArray, List.set_cons_zero, List.set_cons_succ]
            refine wpAnyH_take (i := 28) (v := ?_) rfl (by kernel_rfl) (by kernel_rfl) (by kernel_rfl) (fun _ _ _ h => h) (Or.inl ⟨by rfl, ?_⟩) (by assumption) ?_; rotate_left; (focus ((intro w hSw); (try dsimp only at hSw); go_simp; (try (with_reducible rfl)))); try simp only [Act.put, List.getElem_toArray, List.getElem_cons_succ, List.getElem_cons_zero, List.setIfInBounds_toArray, List.set_cons_zero, List.set_cons_succ]
            refine wpAnyH_take (i := 29) (v := ?_) rfl (by kernel_rfl) (by kernel_rfl) (by kernel_rfl) (fun _ _ _ h => h) (Or.inl ⟨by rfl, ?_⟩) (by assumption) ?_; rotate_left; (focus ((intro w hSw); (try dsimp only at hSw); go_simp; (try (with_reducible rfl)))); try simp only [Act.put, List.getElem_toArray, List.getElem_cons_succ, List.getElem_cons_zero, List.setIfInBounds_toArray, List.set_cons_zero, List.set_cons_succ]
            refine wpAnyH_take (i := 30) (v := ?_) rfl (by kernel_rfl) (by kernel_rfl) (by kernel_rfl) (fun _ _ _ h => h) (Or.inl ⟨by rfl, ?_⟩) (by assumption) ?_; rotate_left; (focus ((intro w hSw); (try dsimp only at hSw); go_simp; (try (with_reducible rfl)))); try simp only [Act.put, List.getElem_toArray, List.getElem_cons_succ, List.getElem_cons_zero, List.setIfInBounds_toArray, List.set_cons_zero, List.set_cons_succ]
            refine wpAnyH_ready (rs := [31]) (by kernel_rfl) (by simp) (AllReadyH.cons rfl (fun K hK => ?_) AllReadyH.nil); go_simp; (go_at_call 39; refine (workB HB5.out).mono ?_; rintro e w6 ⟨s6, rfl, hs6, rfl⟩; go_wp2_with fail); refine hK.out _ _ ?_ (fun hHeld => ?_); (focus (assumption)); clear hK K; try simp only [Act.put, List.getElem_toArray, List.getElem_cons_succ, List.getElem_cons_zero, List.setIfInBounds_toArray, List.set_cons_zero, List.set_cons_succ]
            have d6 : decide ((s6 : Int) < 0) = false := by simp
            refine wpAnyH_take (i := 32) (v := ?_) rfl (by kernel_rfl) (by kernel_rfl) (by kernel_rfl) (fun _ _ _ h => h) (Or.inl ⟨by rfl, ?_⟩) (by assumption) ?_; rotate_left; (focus ((intro w hSw); (try dsimp only at hSw); go_simp; (try (with_reducible rfl)))); try simp only [Act.put, List.getElem_toArray, List.getElem_cons_succ, List.getElem_cons_zero, List.setIfInBounds_toArray, List.set_cons_zero, List.set_cons_succ]
            refine wpAnyH_take (i := 33) (v := ?_) rfl (by kernel_rfl) (by kernel_rfl) (by kernel_rfl) (fun _ _ _ h => h) (Or.inl ⟨by rfl, ?_⟩) (by assumption) ?_; rotate_left; (focus ((intro w hSw); (try dsimp only at hSw); go_simp; (try (with_reducible rfl)))); try simp only [Act.put, List.getElem_toArray, List.getElem_cons_succ, List.getElem_cons_zero, List.setIfInBounds_toArray, List.set_cons_zero, List.set_cons_succ]
            refine wpAnyH_take (i := 34) (v := ?_) rfl (by kernel_rfl) (by kernel_rfl) (by kernel_rfl) (fun _ _ _ h => h) (Or.inl ⟨by rfl, ?_⟩) (by assumption) ?_; rotate_left; (focus ((intro w hSw); (try dsimp only at hSw); go_simp; (try (with_reducible rfl)))); try simp only [Act.put, List.getElem_toArray, List.getElem_cons_succ, List.getElem_cons_zero, List.setIfInBounds_toArray, List.set_cons_zero, List.set_cons_succ]
            refine wpAnyH_take (i := 35) (v := ?_) rfl (by kernel_rfl) (by kernel_rfl) (by kernel_rfl) (fun _ _ _ h => h) (Or.inl ⟨by rfl, ?_⟩) (by assumption) ?_; rotate_left; (focus ((intro w hSw); (try dsimp only at hSw); go_simp; (try (with_reducible rfl)))); try simp only [Act.put, List.getElem_toArray, List.getElem_cons_succ, List.getElem_cons_zero, List.setIfInBounds_toArray, List.set_cons_zero, List.set_cons_succ]
            refine wpAnyH_ready (rs := [36]) (by kernel_rfl) (by simp) (AllReadyH.cons rfl (fun K hK => ?_) AllReadyH.nil); go_simp; (go_at_call 39; refine (workB HB5.out).mono ?_; rintro e w7 ⟨s7, rfl, hs7, rfl⟩; go_wp2_with fail); refine hK.out _ _ ?_ (fun hHeld => ?_); (focus (assumption)); clear hK K; try simp only [Act.put, List.getElem_toArray, List.getElem_cons_succ, List.getElem_cons_zero, List.setIfInBounds_toArray, List.set_cons_zero, List.set_cons_succ]
            have d7 : decide ((8 : Int) < (s7 : Int)) = false := by simp; omega
            refine wpAnyH_take (i := 37) (v := ?_) rfl (by kernel_rfl) (by kernel_rfl) (by kernel_rfl) (fun _ _ _ h => h) (Or.inl ⟨by rfl, ?_⟩) (by assumption) ?_; rotate_left; (focus ((intro w hSw); (try dsimp only at hSw); go_simp; (try (with_reducible rfl)))); try simp only [Act.put, List.getElem_toArray, List.getElem_cons_succ, List.getElem_cons_zero, List.setIfInBounds_toArray, List.set_cons_zero, List.set_cons_succ]
            refine wpAnyH_take (i := 38) (v := ?_) rfl (by kernel_rfl) (by kernel_rfl) (by kernel_rfl) (fun _ _ _ h => h) (Or.inl ⟨by rfl, ?_⟩) (by assumption) ?_; rotate_left; (focus ((intro w hSw); (try dsimp only at hSw); go_simp; (try (with_reducible rfl)))); try simp only [Act.put, List.getElem_toArray, List.getElem_cons_succ, List.getElem_cons_zero, List.setIfInBounds_toArray, List.set_cons_zero, List.set_cons_succ]
            refine wpAnyH_done (by kernel_rfl) ?_ _
            refine NoPanic.normal ?_
            go_wp2_with fail
            exact ⟨⟨k + 1, by omega, by omega, by go_num, m2, g2, HB5.out, by omega, by omega⟩, by simp [intOf]; omega⟩
          · have d20 : decide ((20 : Int) < (L[k].2.2.length : Int)) = true := by simp; omega
            go_wp2_with fail
            go_fit (told6_any _)
            rintro e w3 ⟨rfl, hb3⟩
            go_wp2_with fail
            go_ret
            exact ⟨rfl, HB.out.base.trans (hb3.mono HB.out.base.size)⟩
        · have d2 : decide ((k : Int) < 300) = false := by simp; omega
          go_wp2_with fail
          go_meet
          exact ⟨m, g, HB.out, by omega, by omega⟩
      · have d1 : decide ((k : Int) < (L.length : Int)) = false := by simp; omega
        go_wp2_with fail
        go_meet
        exact ⟨m, g, HB.out, by omega, by omega⟩
  case rest =>
    obtain ⟨m, g, hB, hmk, hgk⟩ := hcut
    obtain ⟨wA, hA⟩ : ∃ v, v = wc := ⟨_, rfl⟩
    subst hA
    have HB := Lib.hid hB
    clear hB HBO
    have hN := fun u (h : Both (fun _ => False) w u tb xb m g m g) => namesB h
    have hR := fun u (h : Both (fun _ => False) w u tb xb m g m g) => rnamesB h (by omega)
    have hln : (sortB (m.map Prod.fst)).length ≤ 100000 := by rw [sortB_len]; omega
    generalize sortB (m.map Prod.fst) = ns at *
    have HN := Lib.hid hN
    have HRR := Lib.hid hR
    have HLN := Lib.hid hln
    clear hN hR hln
    go_wp2_with fail
    go_fit (told6_any _)
    rintro e w3 ⟨rfl, hb3⟩
    have HB3 := Lib.hid (HB.out.below hb3)
    clear hb3
    go_wp2_with (first
      | (go_at_call 30; refine (HN.out _ HB3.out).mono ?_; rintro e w4 ⟨p4, c4, rfl, hr4, hb4⟩; have HB4 := Lib.hid (HB3.out.below hb4); have HR4 := Lib.hid hr4; clear hr4 hb4)
      | (go_at_call 41; refine (HRR.out _ HB4.out).mono ?_; rintro e w5 ⟨p5, c5, rfl, hr5, hb5⟩; have HB5 := Lib.hid (HB4.out.below hb5); have HR5 := Lib.hid hr5; have HR45 := Lib.hid (HR4.out.below hb5); clear hr5 hb5)
      | (go_at_call 40; refine (texts_eq HR45.out HR5.out HLN.out).mono ?_; rintro e w6 ⟨rfl, hb6⟩; have HB6 := Lib.hid (HB5.out.below hb6); clear hb6))
    go_ret
    exact ⟨rfl, HB6.out.base⟩
end Go.Proofs.Ytadnabgnbhpijaa
