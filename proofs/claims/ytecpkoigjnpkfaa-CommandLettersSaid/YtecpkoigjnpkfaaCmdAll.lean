/- The walk over command.All: the table's rows, in some order. -/
import Derived.Test.YtecpkoigjnpkfaaCmdFind
import Derived.Test.YtecpkoigjnpkfaaSortLay
set_option linter.unusedSimpArgs false
set_option linter.unusedVariables false
namespace Go.Proofs.Ytecpkoigjnpkfaa
open Go.RowKit Cmd

instance : Inhabited CRow := ⟨rowZ⟩
/-- how names compare -/
def cfR (x y : CRow) : Int := Lib.compareBytes x.name y.name
theorem cb_cons (x y : UInt8) (a b : List UInt8) : Lib.compareBytes (x :: a) (y :: b) < 0 ↔ x.toNat < y.toNat ∨ (x.toNat = y.toNat ∧ Lib.compareBytes a b < 0) := by
  simp only [Lib.compareBytes, UInt8.lt_iff_toNat_lt]
  by_cases h1 : x.toNat < y.toNat
  · rw [if_pos h1]; simp [h1]
  · rw [if_neg h1]
    by_cases h2 : y.toNat < x.toNat
    · rw [if_pos h2]; constructor
      · intro h; omega
      · intro h; omega
    · rw [if_neg h2]; constructor
      · intro h; exact .inr ⟨by omega, h⟩
      · intro h; rcases h with h | ⟨_, h⟩
        · omega
        · exact h
theorem cb_self : ∀ a : List UInt8, ¬ Lib.compareBytes a a < 0
  | [] => by simp [Lib.compareBytes]
  | x :: a => by have ih := cb_self a; rw [cb_cons]; omega
theorem cb_trans : ∀ a b c : List UInt8, Lib.compareBytes a b < 0 → Lib.compareBytes b c < 0 → Lib.compareBytes a c < 0
  | [], [], c, h, _ => by simp [Lib.compareBytes] at h
  | [], y :: b, [], _, h => by simp [Lib.compareBytes] at h
  | [], _ :: _, z :: c, _, _ => by simp [Lib.compareBytes]
  | x :: a, [], _, h, _ => by simp [Lib.compareBytes] at h
  | x :: a, y :: b, [], _, h => by simp [Lib.compareBytes] at h
  | x :: a, y :: b, z :: c, h1, h2 => by
    have ih := cb_trans a b c
    rw [cb_cons] at h1 h2 ⊢
    rcases h1 with h1 | ⟨h1, h1'⟩ <;> rcases h2 with h2 | ⟨h2, h2'⟩
    · exact .inl (by omega)
    · exact .inl (by omega)
    · exact .inl (by omega)
    · exact .inr ⟨by omega, ih h1' h2'⟩
theorem cb_ntrans : ∀ a b c : List UInt8, ¬ Lib.compareBytes a b < 0 → ¬ Lib.compareBytes b c < 0 → ¬ Lib.compareBytes a c < 0
  | [], [], c, _, h => h
  | [], y :: b, _, h, _ => by simp [Lib.compareBytes] at h
  | x :: a, [], [], _, _ => by simp [Lib.compareBytes]
  | x :: a, [], z :: c, _, h => by simp [Lib.compareBytes] at h
  | x :: a, y :: b, [], _, _ => by simp [Lib.compareBytes]
  | x :: a, y :: b, z :: c, h1, h2 => by
    have ih := cb_ntrans a b c
    rw [cb_cons] at h1 h2 ⊢
    intro h3
    by_cases k1 : Lib.compareBytes a b < 0 <;> by_cases k2 : Lib.compareBytes b c < 0
    · omega
    · omega
    · omega
    · have := ih k1 k2
      omega
theorem swoR : Go.Sort.SWO (ltOf cfR) where
  irrefl x := by unfold ltOf cfR; exact decide_eq_false (cb_self _)
  trans x y z h1 h2 := by
    unfold ltOf cfR at *
    exact decide_eq_true (cb_trans _ _ _ (of_decide_eq_true h1) (of_decide_eq_true h2))
  ntrans x y z h1 h2 := by
    unfold ltOf cfR at *
    exact decide_eq_false (cb_ntrans _ _ _ (of_decide_eq_false h1) (of_decide_eq_false h2))

set_option maxHeartbeats 1000000 in
theorem cmp_any (x y : CRow) (W : World) : Calls Try.prog 14 #[.agg (cellsR x).toArray, .agg (cellsR y).toArray] W fun e w' => e = .returned (.int .i64 (cfR x y)) ∧ ∃ q os', w' = Go.Sort.grow (W.drewN q) os' := by
  have hcon := fun W' => Any.strings_Compare Try.strCmp (str x.name) (str y.name) W'
  rw [str_data, str_data] at hcon
  change ∀ W', Calls Try.prog 15 _ _ _ at hcon
  unfold cfR
  generalize Lib.compareBytes x.name y.name = r at hcon ⊢
  rw [show (cellsR x).toArray = #[.string (str x.name), .int .i64 x.least, .int .i64 x.most, .bool x.write, .int .i64 x.first, .int .i64 x.last, .int .i64 x.step] from rfl, show (cellsR y).toArray = #[.string (str y.name), .int .i64 y.least, .int .i64 y.most, .bool y.write, .int .i64 y.first, .int .i64 y.last, .int .i64 y.step] from rfl]
  go_enter Try.func14, Try.ntmps14
  go_wp2_with (go_at_call 15; refine (hcon _).mono ?_; rintro e w' ⟨rfl, rfl⟩)
  go_ret
  exact ⟨rfl, 0, _, by rw [Go.Sort.alloc_eq_grow, Go.Sort.alloc_eq_grow, Go.Sort.grow_grow]; rfl⟩
theorem cmpLays (blk off size : Nat) (w : World) : CmpLays Try.prog 14 #[] cellsR 7 cfR blk off size w :=
  fun _ _ _ _ x y => cmp_any x y _
theorem below_sortK {α : Type} [Inhabited α] {enc : α → List Value} {k : Nat} {B : Nat} {w w1 : World} {blk off n : Nat} {d : Array α} {os : Array Obj} (hb : Below B w w1) (h1 : B ≤ blk) (h2 : B ≤ w1.heap.size) : Below B w (sortWorldK enc k w1 blk off n d os) := by
  refine hb.trans ⟨rfl, rfl, rfl, ?_, ?_⟩
  · have : (sortWorldK enc k w1 blk off n d os).heap.size = w1.heap.size + os.size := by simp [sortWorldK, Go.Sort.grow, Go.Sort.putRowK]
    omega
  · intro j hj
    have e1 : (sortWorldK enc k w1 blk off n d os).heap[j]? = (Go.Sort.putRowK enc k (Go.Sort.ahead w1 n) blk off d).heap[j]? := by
      unfold sortWorldK
      exact Go.Sort.heap_grow_old _ _ (by simp [Go.Sort.putRowK]; omega)
    rw [e1]
    unfold Go.Sort.putRowK Go.Sort.putRow Go.Sort.mapBlock
    simp only [Array.getElem?_modify]
    rw [if_neg (by omega)]
    rfl
theorem cellsRs_len : ∀ L : List CRow, (cellsRs L).length = L.length * 7
  | [] => rfl
  | r :: L => by
    show (cellsR r ++ cellsRs L).length = _
    rw [List.length_append, cellsRs_len L, cellsR_len, List.length_cons]; omega
theorem holds_rows (w : World) : Go.Sort.HoldsK cellsR 7 (w.alloc (.cells (cellsRs rowsL).toArray 27)) w.heap.size 0 rowsL.toArray := by
  intro j hj
  have hj' : j < rowsL.toArray.size * 7 := by simpa using hj
  have hrow := heap_alloc_new w (.cells (cellsRs rowsL).toArray 27)
  refine ⟨?_, frozen_free hrow (.inl rfl) (by rw [List.size_toArray, cellsRs_len, Nat.zero_add]; simpa using hj')⟩
  rw [Go.Sort.get_flatK _ _ _ _ hj', Nat.zero_add, cell_of_row _ _ _ _ _ _ hrow]
  have hk : j / 7 < rowsL.length := by simp at hj'; omega
  have h := cellsRs_get rowsL (j / 7) hk (j % 7) (Nat.mod_lt _ (by omega))
  rw [show j / 7 * 7 + j % 7 = j by omega] at h
  have hlt : j % 7 < (cellsR rowsL[j / 7]).length := by rw [cellsR_len]; exact Nat.mod_lt _ (by omega)
  simp only [List.getElem?_toArray, h, id]
  rw [List.getElem?_eq_getElem hlt, show rowsL.toArray[j / 7]! = rowsL[j / 7] by simp [hk], getElem!_pos (cellsR rowsL[j / 7]) (j % 7) hlt]
/-- what All hands back: rows of the table -/
def AllAt (w' : World) (b : Nat) (L : List CRow) : Prop :=
  L.length = 82 ∧ (∀ r ∈ L, r ∈ rowsL) ∧ b < w'.heap.size ∧ ∀ k (hk : k < L.length) j, j < 7 → w'.cell? ⟨b, k * 7 + j, none⟩ = (cellsR L[k])[j]?
set_option maxHeartbeats 1000000 in
set_option maxRecDepth 20000 in
theorem all_any (w : World) : Calls Try.prog 6 #[] w fun e w' => ∃ L b, e = .returned (.slice (some ⟨b, 0, none⟩) 82 82) ∧ AllAt w' b L ∧ w.heap.size ≤ b ∧ Below w.heap.size w w' := by
  have eg : ∀ args w, (callFunc 14 args).run Try.prog w = .ok (.enter 14 args) w := enters_of Try.func14 (by kernel_rfl) rfl
  have hsz : rowsL.toArray.size = 82 := by rw [List.size_toArray, rowsL_len]
  have hcon := fun w1 hH hblk => AnyQ.slices_SortFunc Try.sortRow 7 Try.isAgg27 Try.sizeOf27 cellsR cellsR_len (fun x v hv => by simp [cellsR] at hv; rcases hv with rfl | rfl | rfl | rfl | rfl | rfl | rfl <;> rfl) cfR swoR 14 #[] w.heap.size 0 82 rowsL.toArray w1 eg (cmpLays w.heap.size 0 rowsL.toArray.size w1) hH hblk (by rw [hsz]; decide)
  rw [hsz] at hcon
  change ∀ w1 hH hblk, Calls Try.prog 13 _ _ _ at hcon
  have HH := Lib.hid (holds_rows w)
  have HC := Lib.hid (hcon _ HH.out (by go_simp))
  have HSZ := Lib.hid hsz
  clear hcon eg hsz
  go_enter Try.func6, Try.ntmps6
  go_wp2_with fail
  go_fit (rows_any _)
  rintro e w1 ⟨rfl, rfl⟩
  go_wp2_with (go_at_call 13; refine HC.out.mono ?_; rintro e w' ⟨rfl, d', n, os, hp, hs, rfl⟩)
  go_ret
  have hds : d'.size = 82 := hp.1.trans HSZ.out
  have hkeep := Go.Sort.holdsK_grow (os := os) (blk := w.heap.size) (off := 0) (d := d') (enc := cellsR) (k := 7) (Go.Sort.putRowK cellsR 7 (Go.Sort.ahead (w.alloc (.cells (cellsRs rowsL).toArray 27)) n) w.heap.size 0 d') (by simp [Go.Sort.putRowK]) (Go.Sort.holdsK_putRowK cellsR 7 _ _ _ rowsL.toArray d' (Go.Sort.holdsK_ahead cellsR 7 _ n _ _ _ HH.out) hp.1)
  have hbl : Below w.heap.size w (sortWorldK cellsR 7 (w.alloc (.cells (cellsRs rowsL).toArray 27)) w.heap.size 0 n d' os) := below_sortK ((Below.refl _ _).alloc (Nat.le_refl _) _) (Nat.le_refl _) (by go_simp)
  refine ⟨d'.toList, w.heap.size, rfl, ⟨by simpa using hds, ?_, ?_, ?_⟩, Nat.le_refl _, hbl⟩
  · intro r hr
    have h2 := hp.2.2
    have e1 : (d'.extract 0 82).toList = d'.toList := by rw [← hds]; simp
    have e2 : (rowsL.toArray.extract 0 82).toList = rowsL := by rw [← HSZ.out]; simp
    rw [e1, e2] at h2
    exact h2.mem_iff.1 hr
  · have : (sortWorldK cellsR 7 (w.alloc (.cells (cellsRs rowsL).toArray 27)) w.heap.size 0 n d' os).heap.size = (w.alloc (.cells (cellsRs rowsL).toArray 27)).heap.size + os.size := by simp [sortWorldK, Go.Sort.grow, Go.Sort.putRowK]
    rw [this]; go_simp; omega
  · intro k hk j hj
    have hk' : k < d'.size := by simpa using hk
    have h := (hkeep.cell hk' hj).1
    rw [Nat.zero_add] at h
    refine h.trans ?_
    rw [getElem!_pos d' k hk', getElem!_pos (cellsR d'[k]) j (by rw [cellsR_len]; exact hj), List.getElem?_eq_getElem (by rw [cellsR_len]; exact hj)]
    simp
end Go.Proofs.Ytecpkoigjnpkfaa
