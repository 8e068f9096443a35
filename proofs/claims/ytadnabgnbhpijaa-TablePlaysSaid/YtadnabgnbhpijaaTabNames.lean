/- The walks over slices.Grow, slices.Concat, slices.Sort as Table.Names calls them. -/
import Derived.Test.YtadnabgnbhpijaaTabOk
import Derived.Test.YtadnabgnbhpijaaIter
import Derived.Sort.OwnSorted
import Derived.Lib.AppendZerosOnto
set_option linter.unusedSimpArgs false
set_option linter.unusedVariables false
namespace Go.Proofs.Ytadnabgnbhpijaa
open Go.RowKit Go.Maps Go.Sort Go.Shelf

/-- texts as cells -/
def strs (ss : List (List UInt8)) : List Value := ss.map fun l => Value.string (str l)
theorem strs_enc (ss : List (List UInt8)) : strs ss = ss.map encStr := rfl
theorem strs_len (ss : List (List UInt8)) : (strs ss).length = ss.length * 1 := by simp [strs]
theorem strs_append (a b : List (List UInt8)) : strs (a ++ b) = strs a ++ strs b := by simp [strs]
theorem strs_one (ss : List (List UInt8)) : ∀ u ∈ strs ss, u.oneCell' = true := by
  intro u hu
  obtain ⟨l, _, rfl⟩ := List.mem_map.1 hu
  rfl
theorem slStr : SlT Try.prog 36 9 1 16 := SlT.of (z := .string .empty) (by kernel_rfl) rfl (by decide) Try.underlying36
theorem slRow : SlT Try.prog 85 93 1 24 := SlT.of (z := .slice none 0 0) (by kernel_rfl) rfl (by decide) Try.underlying85
abbrev sortB (ss : List (List UInt8)) : List (List UInt8) := ss.mergeSort fun x y => decide (x ≤ y)
theorem sort_own {w : World} {base : Nat} {v : Value} {ss : List (List UInt8)} (hown : OwnS w base 9 1 v ss.length (strs ss)) (hl : ss.length ≤ 1000000) :
    Calls Try.prog 51 #[v] w fun e w' => e = .returned (.tuple #[]) ∧ OwnS w' base 9 1 v ss.length (strs (sortB ss)) ∧ App w w' v v := by
  rcases hown.2 with ⟨rfl, h0⟩ | ⟨g, cap, cur, fr, rfl, hbg, hg, hfr, hnc, hcm, hcs, htake⟩
  · have hs : ss = [] := List.length_eq_zero_iff.1 h0
    subst hs
    refine (AnyM.slices_Sort_string_none Try.sort51 none 0 w).mono fun e w' ⟨he, hw⟩ => ?_
    subst hw
    exact ⟨he, by simpa [sortB, strs] using hown, App.refl _ _⟩
  · have hH : Holds encStr w g 0 ss.toArray := by
      intro j hj
      have hj' : j < ss.length := by simpa using hj
      obtain ⟨h1, h2⟩ := hown.get (j := j) (by rw [strs_len]; omega)
      rw [Nat.zero_add]
      refine ⟨?_, h2⟩
      rw [h1]
      simp [strs, encStr, str, hj']
    refine (AnyM.slices_Sort_string Try.sort51 g 0 cap ss w hH (row_lt hg) (by omega)).mono fun e w' ⟨he, n, os, hw⟩ => ?_
    subst hw
    have hlen : (sortB ss).length = ss.length := List.length_mergeSort _
    refine ⟨he, ⟨by rw [strs_len, hlen], .inr ⟨g, cap, _, fr, rfl, hbg, heap_sorted _ hg, ?_, hnc, hcm, ?_, ?_⟩⟩, ⟨grownBy_sorted _, .inl rfl⟩⟩
    · have : (putCells encStr 0 (sortB ss).toArray cur).size = cur.size := by simp [putCells]
      rw [this]; exact hfr
    · have : (putCells encStr 0 (sortB ss).toArray cur).size = cur.size := by simp [putCells]
      rw [this]; exact hcs
    · rw [Nat.mul_one, ← hlen]
      exact take_putCells cur (sortB ss) (by omega)
theorem L_app_run {P : Program} {ops : Array Oper} {rest : List Oper} {d : Option Tmp} {t0 : TypeId} {pos : String} {af : Array Edge} {tmps : Array Value} {dfs : List Deferred} {w w' : World} {Q : Exit → Act → World → Prop} {t tx : TypeId} {s x : Operand} {v xv r : Value}
    (hs : (⟨tmps, dfs⟩ : Act).eval s = v) (hx : (⟨tmps, dfs⟩ : Act).eval x = xv) (hrun : (Builtin.append_ #[t, tx] t0 #[v, xv]).run P w = .ok r w') (hK : wpList P ops Q rest ((⟨tmps, dfs⟩ : Act).put d r) w') :
    wpList P ops Q ({ dst := d, op := .call { callee := .builtin .append, args := #[s, x], argTypes := #[t, tx] }, type := t0, pos := pos, after := af, guard := none } :: rest) ⟨tmps, dfs⟩ w := by
  refine wpList_plain rfl fun K' hK' => ?_
  unfold Oper.wp
  simp [execOp, resolve, invoke, builtin, hs, hx, hrun, Result.andThen]
  exact hK' _ _ hK
set_option maxHeartbeats 1000000 in
set_option maxRecDepth 20000 in
theorem grow_nil (w : World) (k : Nat) (hk0 : 0 < k) (hk : k ≤ 4194304) :
    Calls Try.prog 70 #[.slice none 0 0, .int .i64 (k : Int)] w fun e w' => ∃ v, e = .returned v ∧ OwnS w' w.heap.size 93 1 v 0 [] ∧ Below w.heap.size w w' := by
  have hi' : (Try.prog.info? 93).map (fun i => (i.zero, i.size, i.bytes)) = some (some (.slice none 0 0), 1, 24) := by kernel_rfl
  obtain ⟨i, hi, hz, hsz, hby⟩ := info_parts hi'
  have hnx : Builtin.nextslicecap (0 + k) 0 = k := by unfold Builtin.nextslicecap; simp [hk0]
  have hrun := fun ty => Lib.run_append_grow_zeros (P := Try.prog) w 85 3 ty 93 i (.slice none 0 0) .i64 .i64 slRow.und (by rw [Try.underlying3]) hi hz none 0 0 [] (by simp [Builtin.firstCells]) k hk0 (by omega) (by omega) (by omega) (by rw [hby]; omega) (by rw [hnx, hby]; omega)
  have HR := Lib.hid hrun
  clear hrun
  have hz0 : ((k : Int) - 0) = (k : Int) := by omega
  have kw : IntKind.i64.wrap (k : Int) = (k : Int) := IntWalk.i64_in _ (by omega)
  have k1 : decide ((k : Int) < 0) = false := by simp
  have k2 : decide (0 < (k : Int)) = true := by simp; omega
  go_enter Try.func70, Try.ntmps70
  go_wp2_with ((with_reducible refine L_app_run ?_ ?_ (HR.out _) ?_); (focus rfl); (focus rfl); simp only [Act.put, List.setIfInBounds_toArray, List.set_cons_zero, List.set_cons_succ])
  go_ret
  have hge := grownCap_ge w k 0 93
  have hle := grownCap_le_maxLen w k 0 93 (by unfold maxLen; omega)
  generalize grownCap w k 0 93 = cp at *
  refine ⟨_, rfl, ?_, ((Below.refl _ _).alloc (Nat.le_refl _) _).drew⟩
  refine OwnS.mkLe _ cp _ (0, 0) (Nat.le_refl _) (heap_alloc_new w _) (.inl rfl) (Nat.zero_le _) hle ?_ (by simp)
  simp only [Array.size_append, Builtin.zeroCells, Array.size_ofFn]
  simp
  omega
/-- a row of slots, or none -/
structure RowV (w : World) (v : Value) (R : List Value) : Prop where
  sh : ∃ p c, v = .slice p R.length c ∧ Rd w p R
  one : ∀ u ∈ R, u.oneCell' = true
set_option maxHeartbeats 1000000 in
set_option maxRecDepth 20000 in
theorem concat_two {w : World} {a : Nat} {v1 v2 : Value} {R1 R2 : List Value} (h1 : RowV w v1 R1) (h2 : RowV w v2 R2) (c1 : w.cell? ⟨a, 0, none⟩ = some v1) (c2 : w.cell? ⟨a, 1, none⟩ = some v2) (hp : 0 < R1.length) (hl1 : R1.length ≤ 1048576) (hl2 : R2.length ≤ 2097152) :
    Calls Try.prog 50 #[.slice (some ⟨a, 0, none⟩) 2 2] w fun e w' => ∃ v, e = .returned v ∧ OwnS w' w.heap.size 93 1 v (R1.length + R2.length) (R1 ++ R2) ∧ Below w.heap.size w w' := by
  obtain ⟨⟨p1, k1, rfl, hr1⟩, ho1⟩ := h1
  obtain ⟨⟨p2, k2, rfl, hr2⟩, ho2⟩ := h2
  have e1 : IntKind.i64.wrap (0 + (R1.length : Int)) = (R1.length : Int) := by rw [Int.zero_add]; exact IntWalk.i64_in _ (by omega)
  have e1' : IntKind.i64.wrap (R1.length : Int) = (R1.length : Int) := IntWalk.i64_in _ (by omega)
  have e2 : IntKind.i64.wrap ((R1.length : Int) + (R2.length : Int)) = ((R1.length + R2.length : Nat) : Int) := by rw [IntWalk.i64_in _ (by omega)]; omega
  have d1 : decide ((R1.length : Int) < 0) = false := by simp
  have d2 : decide (((R1.length + R2.length : Nat) : Int) < 0) = false := by simp; omega
  have d2' : decide ((R1.length : Int) + (R2.length : Int) < 0) = false := by simp; omega
  have HR1 := Lib.hid hr1
  have HR2 := Lib.hid hr2
  have HO1 := Lib.hid ho1
  have HO2 := Lib.hid ho2
  have HP := Lib.hid hp
  have HGR : Hid (∀ u : World, Calls Try.prog 70 #[.slice none 0 0, .int .i64 ((R1.length : Int) + (R2.length : Int))] u fun e w' => ∃ v, e = .returned v ∧ OwnS w' u.heap.size 93 1 v 0 [] ∧ Below u.heap.size u w') := fun u => by
    have := grow_nil u (R1.length + R2.length) (by omega) (by omega)
    simpa using this
  clear hr1 hr2 ho1 ho2 hp
  go_enter Try.func50, Try.ntmps50
  go_wp2_with fail
  refine wp_loop_rounds 3 ?_
  rw [rounds_succ]
  go_wp2_with fail
  rw [rounds_succ]
  go_wp2_with fail
  rw [rounds_succ]
  go_wp2_with fail
  go_fit (HGR.out w)
  rintro e w1 ⟨v, rfl, ho, hb⟩
  have HB := Lib.hid hb
  have HO := Lib.hid ho
  have q1 := cell_below hb c1
  have q2 := cell_below hb c2
  have C2 := Lib.hid c2
  clear ho hb c1 c2
  go_wp2_with fail
  refine wp_loop_rounds 3 ?_
  rw [rounds_succ]
  go_wp2_with ((with_reducible refine L_appR slRow Try.underlying85 HO.out (HR1.out.below HB.out) HO1.out (show R1.length = R1.length * 1 by omega) ?_ ?_ ?_ ?_ ?_); (focus rfl); (focus rfl); (focus exact ⟨_, rfl⟩); (focus exact ⟨by unfold maxLen; omega, by omega, HB.out.size⟩); intro va wa hoa hga hka hna; clear hna; have HOA := Lib.hid hoa; have HGA := Lib.hid hga; have HKA := Lib.hid hka; clear hoa hga hka; simp only [Act.put, List.setIfInBounds_toArray, List.set_cons_zero, List.set_cons_succ])
  have hbA : Below w.heap.size w wa := HGA.out.below HB.out HB.out.size HKA.out
  have q2 := cell_below hbA C2.out
  have HBA := Lib.hid hbA
  clear hbA q1
  rw [rounds_succ]
  go_wp2_with ((with_reducible refine L_appR slRow Try.underlying85 HOA.out (HR2.out.below HBA.out) HO2.out (show R2.length = R2.length * 1 by omega) ?_ ?_ ?_ ?_ ?_); (focus rfl); (focus rfl); (focus exact ⟨_, rfl⟩); (focus exact ⟨by unfold maxLen; omega, by omega, HBA.out.size⟩); intro vc wc hoc hgc hkc hnc; clear hnc; have HOC := Lib.hid hoc; have HGC := Lib.hid hgc; have HKC := Lib.hid hkc; clear hoc hgc hkc; simp only [Act.put, List.setIfInBounds_toArray, List.set_cons_zero, List.set_cons_succ])
  rw [rounds_succ]
  go_wp2_with fail
  go_ret
  refine ⟨vc, rfl, ?_, HGC.out.below HBA.out HBA.out.size HKC.out⟩
  have := HOC.out
  simpa using this
end Go.Proofs.Ytadnabgnbhpijaa
