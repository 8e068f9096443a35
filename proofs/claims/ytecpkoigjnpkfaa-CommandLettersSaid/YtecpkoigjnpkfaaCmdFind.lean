/- The walk over command.Find. -/
import Derived.Test.YtecpkoigjnpkfaaCmdRows
import Derived.Test.YtecpkoigjnpkfaaCmdUpper
set_option linter.unusedSimpArgs false
set_option linter.unusedVariables false
namespace Go.Proofs.Ytecpkoigjnpkfaa
open Go.RowKit Cmd

def rowZ : CRow := ⟨[], 0, 0, false, 0, 0, 0⟩
/-- what Find answers -/
def foundR (o : Option CRow) : CRow := o.getD rowZ
theorem cellsR_len (r : CRow) : (cellsR r).length = 7 := rfl
theorem cellsRs_get : ∀ (L : List CRow) (k : Nat) (h : k < L.length) (j : Nat) (hj : j < 7), (cellsRs L)[k * 7 + j]? = (cellsR L[k])[j]?
  | r :: L, 0, h, j, hj => by
    show (cellsR r ++ cellsRs L)[0 * 7 + j]? = _
    rw [List.getElem?_append_left (by rw [cellsR_len]; omega)]; simp
  | r :: L, k + 1, h, j, hj => by
    have ih := cellsRs_get L k (by simpa using h) j hj
    show (cellsR r ++ cellsRs L)[(k + 1) * 7 + j]? = _
    rw [List.getElem?_append_right (by rw [cellsR_len]; omega), cellsR_len, ← (show (k * 7 + j) = (k + 1) * 7 + j - 7 by omega), ih]
    simp
theorem rowsL_len : rowsL.length = 82 := rfl
theorem find_at {l : List UInt8} {k : Nat} (h : k < rowsL.length) (he : rowsL[k].name = upL l) (hno : ∀ i (hi : i < rowsL.length), i < k → rowsL[i].name ≠ upL l) : findP l = some rowsL[k] := by
  unfold findP
  rw [List.find?_eq_some_iff_getElem]
  exact ⟨by simp [he], k, h, rfl, fun j hj => by simpa using hno j (by omega) hj⟩
theorem find_no {l : List UInt8} (hno : ∀ i (hi : i < rowsL.length), rowsL[i].name ≠ upL l) : findP l = none := by
  unfold findP
  rw [List.find?_eq_none]
  intro x hx
  obtain ⟨i, hi, rfl⟩ := List.getElem_of_mem hx
  simpa using hno i hi
theorem box_row {w w1 : World} {C : Array Value} {t : TypeId} (hb : Below (w.alloc (.cells C t)).heap.size (w.alloc (.cells C t)) w1) : w1.heap[w.heap.size]? = some (.cells C t (0, 0)) := by
  have h := heap_alloc_new w (.cells C t)
  rw [hb.block _ (Array.getElem?_eq_some_iff.1 h).1]; exact h
theorem box_under {w w1 : World} {o : Obj} (hb : Below (w.alloc o).heap.size (w.alloc o) w1) : Below w.heap.size w w1 :=
  ((Below.refl _ _).alloc (Nat.le_refl _) o).trans (hb.mono (by go_simp))
theorem row_size {r : CRow} : (Try.prog.info? 27).map (·.size) = some (cellsR r).toArray.size := by kernel_rfl
theorem row_size0 : (Try.prog.info? 27).map (·.size) = some (#[Value.string ⟨#[]⟩, .int .i64 0, .int .i64 0, .bool false, .int .i64 0, .int .i64 0, .int .i64 0] : Array Value).size := by kernel_rfl
theorem setRow_cell {w : World} {b : Nat} {cs : Array Value} {t : TypeId} {fr : Nat × Nat} (h : w.heap[b]? = some (.cells cs t fr)) (i : Nat) (u : Value) : (w.setCell ⟨b, i, none⟩ u).heap[b]? = some (.cells (cs.setIfInBounds i u) t fr) := by
  rw [setCell_eq_setRow w b i cs t fr u h]
  exact setRow_heap w b cs _ t _ h
def FindRel (l : List UInt8) (w2 : World) (i : Value) (wr : World) : Prop :=
  ∃ k : Nat, k ≤ 82 ∧ i = .int .i64 (k : Int) ∧ (∀ i (hi : i < rowsL.length), i < k → rowsL[i].name ≠ upL l) ∧ Below w2.heap.size w2 wr
set_option maxHeartbeats 2000000 in
set_option maxRecDepth 20000 in
theorem find_any (l : List UInt8) (hl : l.length ≤ 1048576) (w : World) : Calls Try.prog 8 #[.string (str l)] w fun e w' => e = .returned (.tuple #[.agg (cellsR (foundR (findP l))).toArray, .bool (findP l).isSome]) ∧ Below w.heap.size w w' := by
  obtain ⟨oF, hoF⟩ : ∃ oF, findP l = oF := ⟨_, rfl⟩
  rw [hoF]
  have HOF := Lib.hid hoF
  clear hoF
  go_enter Try.func8, Try.ntmps8
  go_wp2_with fail
  go_fit (upper_any l hl _)
  rintro e w1 ⟨rfl, hb1⟩
  have HB1 := Lib.hid hb1
  clear hb1
  go_wp2_with fail
  go_fit (rows_any _)
  rintro e w2 ⟨rfl, hw2⟩
  obtain ⟨rb, hrb⟩ : ∃ rb, rb = w.heap.size := ⟨_, rfl⟩
  obtain ⟨tb, htb⟩ : ∃ tb, tb = w1.heap.size := ⟨_, rfl⟩
  have hz := box_row HB1.out
  have hbw1 := box_under HB1.out
  have hb2 : Below w1.heap.size w1 w2 := by rw [hw2]; exact (Below.refl _ _).alloc (Nat.le_refl _) _
  have htr : w2.heap[tb]? = some (.cells (cellsRs rowsL).toArray 27 (0, 0)) := by rw [hw2, htb]; exact heap_alloc_new _ _
  have hzr : w2.heap[rb]? = some (.cells (cellsR rowZ).toArray 27 (0, 0)) := by
    rw [hrb, hb2.block _ (Array.getElem?_eq_some_iff.1 hz).1]; exact hz
  have hb02 : Below w.heap.size w w2 := hbw1.trans (hb2.mono hbw1.size)
  rw [← hrb, ← htb]
  have HRB := Lib.hid hrb
  have HTR := Lib.hid htr
  have HZR := Lib.hid hzr
  have HB2 := Lib.hid hb02
  clear hw2 hz hbw1 hb2 htr hzr hb02 htb hrb HB1
  obtain ⟨wx, hwx⟩ : ∃ v, v = w2 := ⟨_, rfl⟩
  subst hwx
  go_wp2_with fail
  go_loopw [10] (fun i wr => FindRel l wx i wr) (fun i _ => 82 - (intOf i).toNat)
  case atStart => exact ⟨0, by omega, rfl, fun i hi h => absurd h (by omega), Below.refl _ _⟩
  case round =>
    obtain ⟨k, hk, rfl, hno, hb⟩ := hrel
    have HNO := Lib.hid hno
    have hrow (j : Nat) (o : Obj) (h : wx.heap[j]? = some o) : wr.heap[j]? = some o := by rw [hb.block j (Array.getElem?_eq_some_iff.1 h).1]; exact h
    have ht := hrow _ _ HTR.out
    have hz := hrow _ _ HZR.out
    have HB := Lib.hid hb
    have HBW := Lib.hid (HB2.out.trans (hb.mono HB2.out.size))
    clear hno hb hrow
    by_cases hkl : k < 82
    · have hkr : k < rowsL.length := by rw [rowsL_len]; exact hkl
      have HF := Lib.hid fun (he : rowsL[k].name = upL l) => (show oF = some rowsL[k] from HOF.out.symm.trans (find_at hkr he HNO.out))
      have HN1 := Lib.hid fun (he : ¬ rowsL[k].name = upL l) => (show ∀ i (hi : i < rowsL.length), i < k + 1 → rowsL[i].name ≠ upL l from fun i hi hik => by
        by_cases h : i = k
        · subst h; exact he
        · exact HNO.out i hi (by omega))
      have hc (j : Nat) (hj : j < 7) : wr.cell? ⟨tb, k * 7 + j, none⟩ = (cellsR rowsL[k])[j]? := by
        rw [cell_of_row _ _ _ _ _ _ ht]
        have := cellsRs_get rowsL k hkr j hj
        simpa using this
      generalize rowsL[k] = r at *
      have c0 : wr.cell? ⟨tb, k * 7, none⟩ = some (.string (str r.name)) := hc 0 (by omega)
      have c1 : wr.cell? ⟨tb, k * 7 + 1, none⟩ = some (.int .i64 r.least) := hc 1 (by omega)
      have c2 : wr.cell? ⟨tb, k * 7 + 2, none⟩ = some (.int .i64 r.most) := hc 2 (by omega)
      have c3 : wr.cell? ⟨tb, k * 7 + 3, none⟩ = some (.bool r.write) := hc 3 (by omega)
      have c4 : wr.cell? ⟨tb, k * 7 + 4, none⟩ = some (.int .i64 r.first) := hc 4 (by omega)
      have c5 : wr.cell? ⟨tb, k * 7 + 5, none⟩ = some (.int .i64 r.last) := hc 5 (by omega)
      have c6 : wr.cell? ⟨tb, k * 7 + 6, none⟩ = some (.int .i64 r.step) := hc 6 (by omega)
      have i0 : (k : Int) < 82 := by omega
      have i1 : (0 : Int) ≤ (k : Int) := by omega
      have HZ := Lib.hid hz
      clear hc ht hz
      go_upto_region 5 with (fail)
      obtain ⟨wr2, hwr2⟩ : ∃ v, v = wr.alloc (.cells (cellsR r).toArray 27) := ⟨_, rfl⟩
      obtain ⟨vb, hvb⟩ : ∃ vb, vb = wr.heap.size := ⟨_, rfl⟩
      have hv2 : wr2.heap[vb]? = some (.cells (cellsR r).toArray 27 (0, 0)) := by rw [hwr2, hvb]; exact heap_alloc_new _ _
      have hbr : Below wr.heap.size wr wr2 := by rw [hwr2]; exact (Below.refl _ _).alloc (Nat.le_refl _) _
      have hz2 : wr2.heap[rb]? = some (.cells (cellsR rowZ).toArray 27 (0, 0)) := by rw [hbr.block _ (Array.getElem?_eq_some_iff.1 HZ.out).1]; exact HZ.out
      change Code.wp _ _ _ _ (wr.alloc (.cells (cellsR r).toArray 27))
      rw [← hwr2, ← hvb]
      have v0 : wr2.cell? ⟨vb, 0, none⟩ = some (.string (str r.name)) := by simp [World.cell?, hv2, cellsR]
      have v1 : wr2.cell? ⟨vb, 1, none⟩ = some (.int .i64 r.least) := by simp [World.cell?, hv2, cellsR]
      have v2 : wr2.cell? ⟨vb, 2, none⟩ = some (.int .i64 r.most) := by simp [World.cell?, hv2, cellsR]
      have v3 : wr2.cell? ⟨vb, 3, none⟩ = some (.bool r.write) := by simp [World.cell?, hv2, cellsR]
      have v4 : wr2.cell? ⟨vb, 4, none⟩ = some (.int .i64 r.first) := by simp [World.cell?, hv2, cellsR]
      have v5 : wr2.cell? ⟨vb, 5, none⟩ = some (.int .i64 r.last) := by simp [World.cell?, hv2, cellsR]
      have v6 : wr2.cell? ⟨vb, 6, none⟩ = some (.int .i64 r.step) := by simp [World.cell?, hv2, cellsR]
      have n0 : wr2.cell? ⟨rb, 0, none⟩ = some (.string (str [])) := by simp [World.cell?, hz2, cellsR, rowZ]
      have n1 : wr2.cell? ⟨rb, 1, none⟩ = some (.int .i64 0) := by simp [World.cell?, hz2, cellsR, rowZ]
      have n2 : wr2.cell? ⟨rb, 2, none⟩ = some (.int .i64 0) := by simp [World.cell?, hz2, cellsR, rowZ]
      have n3 : wr2.cell? ⟨rb, 3, none⟩ = some (.bool false) := by simp [World.cell?, hz2, cellsR, rowZ]
      have n4 : wr2.cell? ⟨rb, 4, none⟩ = some (.int .i64 0) := by simp [World.cell?, hz2, cellsR, rowZ]
      have n5 : wr2.cell? ⟨rb, 5, none⟩ = some (.int .i64 0) := by simp [World.cell?, hz2, cellsR, rowZ]
      have n6 : wr2.cell? ⟨rb, 6, none⟩ = some (.int .i64 0) := by simp [World.cell?, hz2, cellsR, rowZ]
      have f0 : wr2.frozen? ⟨rb, 0, none⟩ = false := by simp [World.frozen?, hz2]
      have f1 : wr2.frozen? ⟨rb, 1, none⟩ = false := by simp [World.frozen?, hz2]
      have f2 : wr2.frozen? ⟨rb, 2, none⟩ = false := by simp [World.frozen?, hz2]
      have f3 : wr2.frozen? ⟨rb, 3, none⟩ = false := by simp [World.frozen?, hz2]
      have f4 : wr2.frozen? ⟨rb, 4, none⟩ = false := by simp [World.frozen?, hz2]
      have f5 : wr2.frozen? ⟨rb, 5, none⟩ = false := by simp [World.frozen?, hz2]
      have f6 : wr2.frozen? ⟨rb, 6, none⟩ = false := by simp [World.frozen?, hz2]
      have HW2 := Lib.hid hz2
      have HBW2 := Lib.hid (HBW.out.trans (hbr.mono HBW.out.size))
      have HBR := Lib.hid (HB.out.trans (hbr.mono HB.out.size))
      clear hv2 hbr hz2 hwr2 hvb
      by_cases he : r.name = upL l
      · have hfind := HF.out he
        have HFD := Lib.hid hfind
        clear hfind
        rw [he] at v0
        clear HF HN1
        have HE := Lib.hid he
        clear he
        go_wp2_with fail
        have hf := (setRow_cell (setRow_cell (setRow_cell (setRow_cell (setRow_cell (setRow_cell (setRow_cell HW2.out 0 (.string (str (upL l)))) 1 (.int .i64 r.least)) 2 (.int .i64 r.most)) 3 (.bool r.write)) 4 (.int .i64 r.first)) 5 (.int .i64 r.last)) 6 (.int .i64 r.step))
        simp [cellsR, rowZ] at hf
        have hbz : Below w.heap.size w (((((((wr2.setCell ⟨rb, 0, none⟩ (.string (str (upL l)))).setCell ⟨rb, 1, none⟩ (.int .i64 r.least)).setCell ⟨rb, 2, none⟩ (.int .i64 r.most)).setCell ⟨rb, 3, none⟩ (.bool r.write)).setCell ⟨rb, 4, none⟩ (.int .i64 r.first)).setCell ⟨rb, 5, none⟩ (.int .i64 r.last)).setCell ⟨rb, 6, none⟩ (.int .i64 r.step)) := (((((((HBW2.out.setCell (by have := HRB.out; simp; omega) _).setCell (by have := HRB.out; simp; omega) _).setCell (by have := HRB.out; simp; omega) _).setCell (by have := HRB.out; simp; omega) _).setCell (by have := HRB.out; simp; omega) _).setCell (by have := HRB.out; simp; omega) _).setCell (by have := HRB.out; simp; omega) _)
        generalize (((((((wr2.setCell ⟨rb, 0, none⟩ (.string (str (upL l)))).setCell ⟨rb, 1, none⟩ (.int .i64 r.least)).setCell ⟨rb, 2, none⟩ (.int .i64 r.most)).setCell ⟨rb, 3, none⟩ (.bool r.write)).setCell ⟨rb, 4, none⟩ (.int .i64 r.first)).setCell ⟨rb, 5, none⟩ (.int .i64 r.last)).setCell ⟨rb, 6, none⟩ (.int .i64 r.step)) = wf at hf hbz ⊢
        refine bodyPost_ret (v := .tuple #[.agg (cellsR r).toArray, .bool true]) ?_ rfl ⟨by rw [HFD.out]; rfl, hbz⟩
        rw [results_cell_tmp rfl]
        simp [asAddr, Result.andThen, run_loadVar_row (P := Try.prog) wf _ _ 27 _ _ _ hf Try.underlying27 rfl row_size, cellsR, rowZ, HE.out]
      · have hne3 : (r.name == upL l) = false := by rw [beq_eq_false_iff_ne]; exact he
        have hne2 : ¬ str r.name = str (upL l) := fun h => he (str_inj h)
        have HNN := Lib.hid (HN1.out he)
        clear HF HN1
        go_wp2_with fail
        exact ⟨⟨k + 1, by omega, by go_num, HNN.out, HBR.out⟩, by simp [intOf]; omega⟩
    · obtain rfl : k = 82 := by omega
      have n0 : wr.cell? ⟨rb, 0, none⟩ = some (.string (str [])) := by simp [World.cell?, hz, cellsR, rowZ]
      have n1 : wr.cell? ⟨rb, 1, none⟩ = some (.int .i64 0) := by simp [World.cell?, hz, cellsR, rowZ]
      have n2 : wr.cell? ⟨rb, 2, none⟩ = some (.int .i64 0) := by simp [World.cell?, hz, cellsR, rowZ]
      have n3 : wr.cell? ⟨rb, 3, none⟩ = some (.bool false) := by simp [World.cell?, hz, cellsR, rowZ]
      have n4 : wr.cell? ⟨rb, 4, none⟩ = some (.int .i64 0) := by simp [World.cell?, hz, cellsR, rowZ]
      have n5 : wr.cell? ⟨rb, 5, none⟩ = some (.int .i64 0) := by simp [World.cell?, hz, cellsR, rowZ]
      have n6 : wr.cell? ⟨rb, 6, none⟩ = some (.int .i64 0) := by simp [World.cell?, hz, cellsR, rowZ]
      have f0 : wr.frozen? ⟨rb, 0, none⟩ = false := by simp [World.frozen?, hz]
      have f1 : wr.frozen? ⟨rb, 1, none⟩ = false := by simp [World.frozen?, hz]
      have f2 : wr.frozen? ⟨rb, 2, none⟩ = false := by simp [World.frozen?, hz]
      have f3 : wr.frozen? ⟨rb, 3, none⟩ = false := by simp [World.frozen?, hz]
      have f4 : wr.frozen? ⟨rb, 4, none⟩ = false := by simp [World.frozen?, hz]
      have f5 : wr.frozen? ⟨rb, 5, none⟩ = false := by simp [World.frozen?, hz]
      have f6 : wr.frozen? ⟨rb, 6, none⟩ = false := by simp [World.frozen?, hz]
      have HZ := Lib.hid hz
      have HFN := Lib.hid (show oF = none from HOF.out.symm.trans <| find_no (l := l) fun i hi => HNO.out i hi (Nat.lt_of_lt_of_eq hi rowsL_len))
      have hfin : Ending.returned (.tuple #[.agg (cellsR rowZ).toArray, .bool false]) = .returned (.tuple #[.agg (cellsR (foundR oF)).toArray, .bool oF.isSome]) := by rw [HFN.out]; rfl
      have HFI := Lib.hid hfin
      clear hfin
      clear ht hz
      go_wp2_with fail
      have hf := (setRow_cell (setRow_cell (setRow_cell (setRow_cell (setRow_cell (setRow_cell (setRow_cell HZ.out 0 (.string ⟨#[]⟩)) 1 (.int .i64 0)) 2 (.int .i64 0)) 3 (.bool false)) 4 (.int .i64 0)) 5 (.int .i64 0)) 6 (.int .i64 0))
      simp [cellsR, rowZ] at hf
      have hbz : Below w.heap.size w (((((((wr.setCell ⟨rb, 0, none⟩ (.string ⟨#[]⟩)).setCell ⟨rb, 1, none⟩ (.int .i64 0)).setCell ⟨rb, 2, none⟩ (.int .i64 0)).setCell ⟨rb, 3, none⟩ (.bool false)).setCell ⟨rb, 4, none⟩ (.int .i64 0)).setCell ⟨rb, 5, none⟩ (.int .i64 0)).setCell ⟨rb, 6, none⟩ (.int .i64 0)) := (((((((HBW.out.setCell (by have := HRB.out; simp; omega) _).setCell (by have := HRB.out; simp; omega) _).setCell (by have := HRB.out; simp; omega) _).setCell (by have := HRB.out; simp; omega) _).setCell (by have := HRB.out; simp; omega) _).setCell (by have := HRB.out; simp; omega) _).setCell (by have := HRB.out; simp; omega) _)
      generalize (((((((wr.setCell ⟨rb, 0, none⟩ (.string ⟨#[]⟩)).setCell ⟨rb, 1, none⟩ (.int .i64 0)).setCell ⟨rb, 2, none⟩ (.int .i64 0)).setCell ⟨rb, 3, none⟩ (.bool false)).setCell ⟨rb, 4, none⟩ (.int .i64 0)).setCell ⟨rb, 5, none⟩ (.int .i64 0)).setCell ⟨rb, 6, none⟩ (.int .i64 0)) = wf at hf hbz ⊢
      refine bodyPost_ret (v := .tuple #[.agg (cellsR rowZ).toArray, .bool false]) ?_ rfl ⟨HFI.out, hbz⟩
      rw [results_cell_tmp rfl]
      simp [asAddr, Result.andThen, run_loadVar_row (P := Try.prog) wf _ _ 27 _ _ _ hf Try.underlying27 rfl row_size0, cellsR, rowZ, (show str [] = (⟨#[]⟩ : ByteArray) from rfl)]
end Go.Proofs.Ytecpkoigjnpkfaa
