/- The walk of the law CrcXors. -/
import Derived.Test.YtfeefpaclaonfaaRCrcLaws
set_option linter.unusedSimpArgs false
set_option linter.unusedVariables false
namespace Go.Proofs.YtfeefpaclaonfaaR
open Go.RowKit Crc

/-- the row behind k rounds -/
def xrow (la lb lc : List UInt8) (n k : Nat) : Array Value := (by8 (xor3 la lb lc k ++ List.replicate (n - k) 0)).toArray

theorem xrow_size (la lb lc : List UInt8) (n k : Nat) (h : k ≤ n) : (xrow la lb lc n k).size = n := by
  simp [xrow, by8, xor3_len]; omega
theorem xrow_at (la lb lc : List UInt8) (n k : Nat) (h : k < n) : (xrow la lb lc n k)[k]? = some (.int .u8 0) := by
  have e : n - k = (n - k - 1) + 1 := by omega
  simp only [xrow, List.getElem?_toArray, by8, List.getElem?_map]
  rw [List.getElem?_append_right (by rw [xor3_len]; exact Nat.le_refl _), xor3_len, Nat.sub_self, e, List.replicate_succ]
  rfl
theorem xrow_set (la lb lc : List UInt8) (n k : Nat) (h : k < n) (x : UInt8) (hx : x = la.getD k 0 ^^^ lb.getD k 0 ^^^ lc.getD k 0) :
    (xrow la lb lc n k).setIfInBounds k (.int .u8 (x.toNat : Int)) = xrow la lb lc n (k + 1) := by
  have e : n - k = (n - (k + 1)) + 1 := by omega
  apply Array.toList_inj.1
  simp only [xrow, Array.toList_setIfInBounds, by8, xor3_succ, ← hx, e, List.replicate_succ, List.map_append, List.map_cons, List.append_assoc, List.map_nil, List.cons_append, List.nil_append]
  rw [List.set_append_right _ _ (by simp [xor3_len])]
  simp [xor3_len]
theorem xrow_rd (la lb lc : List UInt8) (n : Nat) {w : World} {g : Nat} {t : TypeId} (hg : w.heap[g]? = some (.cells (xrow la lb lc n n) t (0, 0))) : Rd8 w (some ⟨g, 0, none⟩) (xor3 la lb lc n) := by
  refine Rd.of_row hg 0 ?_
  simp [xrow]

set_option maxRecDepth 20000 in
set_option maxHeartbeats 400000 in
theorem crcXors_walk (pa pb pc : Option Addr) (ca cb cc : Nat) (la lb lc : List UInt8) (w : World) (ha : Rd8 w pa la) (hb : Rd8 w pb lb) (hc : Rd8 w pc lc) (ka : la.length ≤ ca) (kb : lb.length ≤ cb) (kc : lc.length ≤ cc) :
    Calls Try.prog 5 #[.slice pa la.length ca, .slice pb lb.length cb, .slice pc lc.length cc] w fun e w' => e = .returned (.bool true) ∧ Below w.heap.size w w' := by
  have HA := Lib.hid ha
  have HB := Lib.hid hb
  have HC := Lib.hid hc
  clear ha hb hc
  obtain ⟨n, hn⟩ : ∃ n : Nat, n = min (min (min la.length lb.length) lc.length) 300 := ⟨_, rfl⟩
  have hmin : ∀ u : World, (Builtin.min_ #[3, 3, 3, 3] 3 #[.int .i64 la.length, .int .i64 lb.length, .int .i64 lc.length, .int .i64 300]).run Try.prog u = .ok (.int .i64 (n : Int)) u := fun u => by
    rw [run_min_int4]
    have : min (min (min (la.length : Int) lb.length) lc.length) 300 = (n : Int) := by omega
    rw [this]
  have n1 : n ≤ la.length := by omega
  have n2 : n ≤ lb.length := by omega
  have n3 : n ≤ lc.length := by omega
  have n4 : n ≤ 300 := by omega
  clear hn
  have hmk : ∀ u : World, (Instr.makeSlice 23 (.int .i64 (n : Int)) (.int .i64 (n : Int))).run Try.prog u =
      .ok (.slice (some ⟨u.heap.size, 0, none⟩) n n) (u.alloc (.cells (xrow la lb lc n 0) 5)) := fun u => by
    obtain ⟨i, z, hi, hz, h1, h2, h3⟩ := slB.inf
    have hi' : (Try.prog.info? 5).map (fun i => (i.zero, i.size, i.bytes)) = some (some (.int .u8 0), 1, 1) := by kernel_rfl
    obtain ⟨i0, hi0, hz0, hs0, hb0⟩ := info_parts hi'
    have h := run_make (P := Try.prog) u 23 5 i0 (.int .u8 0) Try.underlying23 hi0 hz0 .i64 .i64 (n : Int) (n : Int) (by omega) (Int.le_refl _) (by rw [hb0]; omega) (by omega)
    rw [h]
    simp only [Int.toNat_natCast, hs0, Nat.mul_one]
    have e : madeCells (Value.int .u8 0).cells n = xrow la lb lc n 0 := by
      show madeCells #[_] n = _
      rw [madeCells_one]
      simp [xrow, xor3, by8]
    rw [e]
  go_enter Try.func5, Try.ntmps5
  go_wp2_with fail
  go_loopw [9] (fun i wr => ∃ k : Nat, k ≤ n ∧ i = .int .i64 k ∧ wr.heap[w.heap.size]? = some (.cells (xrow la lb lc n k) 5 (0, 0)) ∧ Below w.heap.size w wr) (fun i _ => n - (intOf i).toNat)
  case atStart => exact ⟨0, by omega, rfl, heap_alloc_new _ _, by go_grown⟩
  case round =>
    obtain ⟨k, hk, rfl, hg, hbel⟩ := hrel
    by_cases hlt : k < n
    · obtain ⟨b1, o1, rfl, hc1⟩ := (HA.out.below hbel).at (k := k) (by omega)
      obtain ⟨b2, o2, rfl, hc2⟩ := (HB.out.below hbel).at (k := k) (by omega)
      obtain ⟨b3, o3, rfl, hc3⟩ := (HC.out.below hbel).at (k := k) (by omega)
      have e1 := hc1 k (by omega)
      have e2 := hc2 k (by omega)
      have e3 := hc3 k (by omega)
      have ed : wr.cell? ⟨w.heap.size, k, none⟩ = some (.int .u8 0) := by
        rw [cell_of_row _ _ _ _ _ _ hg]; exact xrow_at la lb lc n k hlt
      have ef : wr.frozen? ⟨w.heap.size, k, none⟩ = false := frozen_of_row _ _ _ _ _ hg
      have HG := Lib.hid hg
      clear hc1 hc2 hc3 hg
      have HX : Hid ((la[k] ^^^ lb[k] ^^^ lc[k]) = la.getD k 0 ^^^ lb.getD k 0 ^^^ lc.getD k 0) := by
        unfold Hid
        simp [List.getD, show k < la.length by omega, show k < lb.length by omega, show k < lc.length by omega]
      generalize la[k] = x1 at e1 HX
      generalize lb[k] = x2 at e2 HX
      generalize lc[k] = x3 at e3 HX
      go_wp2_with fail
      go_region
      go_wp2
      refine ⟨⟨k + 1, by omega, by go_num, ?_, ?_⟩, by simp [intOf]; omega⟩
      · rw [b8_xor, b8_xor]
        show (World.setCell wr _ _).heap[w.heap.size]? = _
        rw [heap_setCell_same _ _ _ _ _ _ HG.out, xrow_set la lb lc n k hlt _ HX.out]
      · exact (hbel.setCell (by simp) _).drew
    · obtain rfl : k = n := by omega
      have HD := Lib.hid (xrow_rd la lb lc k hg)
      have h1 : ∀ d os, Calls Try.prog 14 #[] (Go.Sort.grow (redrawn wr d) os) fun e w'' => e = .returned (.bool true) ∧ ∃ p : Regrown, w'' = Go.Sort.grow (redrawn wr p.d) p.os := fun d os => Calls.regrown_of (told2_any _)
      have h2 : ∀ d os, Calls Try.prog 17 #[.slice (some ⟨w.heap.size, 0, none⟩) k k] (Go.Sort.grow (redrawn wr d) os) fun e w'' => e = .returned (.int .u32 ((upd 0#32 (xor3 la lb lc k)).toNat : Int)) ∧ ∃ p : Regrown, w'' = Go.Sort.grow (redrawn wr p.d) p.os :=
        fun d os => Calls.regrown_of (sum_n _ _ _ _ _ (HD.out.below (below_regrown wr d os)) (xor3_len la lb lc k).symm (by omega))
      have sl : ∀ (p : Option Addr) (c : Nat) (l : List UInt8), Rd8 w p l → k ≤ l.length → ∀ d os, Calls Try.prog 17 #[.slice p k c] (Go.Sort.grow (redrawn wr d) os) fun e w'' => e = .returned (.int .u32 ((upd 0#32 (l.take k)).toNat : Int)) ∧ ∃ p : Regrown, w'' = Go.Sort.grow (redrawn wr p.d) p.os :=
        fun p c l hl hk' d os => Calls.regrown_of (sum_n _ _ _ _ _ (((hl.below hbel).take k).below (below_regrown wr d os)) (by rw [List.length_take]; omega) (by omega))
      have h3 := sl pa ca la HA.out n1
      have h4 := sl pb cb lb HB.out n2
      have h5 := sl pc cc lc HC.out n3
      have s1 : ∀ u, (Instr.slice 23 (.slice pa la.length ca) none (some (.int .i64 (k : Int))) none).run Try.prog u = .ok (.slice pa k ca) u := fun u => run_slice_to slB u pa la.length ca k (by omega)
      have s2 : ∀ u, (Instr.slice 23 (.slice pb lb.length cb) none (some (.int .i64 (k : Int))) none).run Try.prog u = .ok (.slice pb k cb) u := fun u => run_slice_to slB u pb lb.length cb k (by omega)
      have s3 : ∀ u, (Instr.slice 23 (.slice pc lc.length cc) none (some (.int .i64 (k : Int))) none).run Try.prog u = .ok (.slice pc k cc) u := fun u => run_slice_to slB u pc lc.length cc k (by omega)
      have HE := Lib.hid (upd_xor3 la lb lc k n1 n2 n3)
      have K1 := Lib.hid h1
      have K2 := Lib.hid h2
      have K3 := Lib.hid h3
      have K4 := Lib.hid h4
      have K5 := Lib.hid h5
      clear h1 h2 h3 h4 h5 sl hg
      go_wp2_with fail
      refine wp_region_quiet_below (by kernel_rfl) (by kernel_rfl) ?_
      repeat (quiet_step (first | exact K1.out _ _ | exact K2.out _ _ | exact K3.out _ _ | exact K4.out _ _ | exact K5.out _ _))
      refine wpQuiet_nil ?_
      intro _ hw'
      obtain ⟨⟨dq, osq⟩, hw''⟩ := hw'
      subst hw''
      have hq := below_regrown wr dq osq
      generalize Go.Sort.grow (redrawn wr dq) osq = w1 at *
      go_wp2
      go_ret
      refine ⟨?_, hbel.trans (hq.mono hbel.size)⟩
      show Ending.returned (Value.bool (_ == _)) = _
      rw [b32_xor, b32_xor, HE.out, beq_self_eq_true]
end Go.Proofs.YtfeefpaclaonfaaR
