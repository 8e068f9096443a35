/- The walk over the document's hex, and its Sum. -/
import Derived.Test.YtfeefpaclaonfaaRShaRef
set_option linter.unusedSimpArgs false
set_option linter.unusedVariables false
namespace Go.Proofs.YtfeefpaclaonfaaR
open Go.RowKit Go.BigFrame Sha Wire

/-- bytes as digits -/
def hexb (l : List UInt8) : List UInt8 := (l.map fun c => [digit (c.toNat / 16), digit (c.toNat % 16)]).flatten
theorem hexb_step (l : List UInt8) (k : Nat) (h : k < l.length) : hexb (l.take (k + 1)) = hexb (l.take k) ++ [digit (l[k].toNat / 16), digit (l[k].toNat % 16)] := by
  unfold hexb
  rw [List.take_succ_eq_append_getElem h, List.map_append, List.flatten_append]
  simp
theorem hexb_len (l : List UInt8) : (hexb l).length = 2 * l.length := by
  induction l with
  | nil => rfl
  | cons c l ih => simp only [hexb, List.map_cons, List.flatten_cons, List.length_append, List.length_cons, List.length_nil] at *; omega
theorem hexb_word (x : W) : hexb [UInt8.ofNat (x.toNat / 16777216), UInt8.ofNat (x.toNat / 65536), UInt8.ofNat (x.toNat / 256), UInt8.ofNat x.toNat] = hexW x := by
  have hx := x.isLt
  simp only [hexb, hexW, List.map_cons, List.map_nil, List.flatten_cons, List.flatten_nil, List.append_nil, List.cons_append, List.nil_append, UInt8.toNat_ofNat']
  congr 1
  · congr 1; omega
  congr 1
  · congr 1; omega
  congr 1
  · congr 1; omega
  congr 1
  · congr 1; omega
  congr 1
  · congr 1; omega
  congr 1
  · congr 1; omega
  congr 1
  · congr 1; omega
  congr 1
  congr 1; omega
theorem hexb_append (a b : List UInt8) : hexb (a ++ b) = hexb a ++ hexb b := by simp [hexb]
theorem hexb_out (s : St) : hexb (outB s) = (s.list.map hexW).flatten := by
  unfold outB St.list
  simp only [List.map_cons, List.map_nil, List.flatten_cons, List.flatten_nil, hexb_append, hexb_word]
  rfl
theorem outB_len (s : St) : (outB s).length = 32 := rfl
theorem dslice_run (d : Nat) (hd : d < 16) (u : World) : (Instr.slice 9 (.string ⟨#[48, 49, 50, 51, 52, 53, 54, 55, 56, 57, 97, 98, 99, 100, 101, 102]⟩) (some (.int .u8 (d : Int))) (some (.int .u8 ((d : Int) + 1))) none).run Try.prog u = .ok (.string (str [digit d])) u := by
  obtain rfl | rfl | rfl | rfl | rfl | rfl | rfl | rfl | rfl | rfl | rfl | rfl | rfl | rfl | rfl | rfl : d = 0 ∨ d = 1 ∨ d = 2 ∨ d = 3 ∨ d = 4 ∨ d = 5 ∨ d = 6 ∨ d = 7 ∨ d = 8 ∨ d = 9 ∨ d = 10 ∨ d = 11 ∨ d = 12 ∨ d = 13 ∨ d = 14 ∨ d = 15 := by omega
  all_goals kernel_rfl

set_option maxRecDepth 100000 in
set_option maxHeartbeats 2000000 in
theorem hex_any (s : St) (w : World) :
    Calls Try.prog 38 #[.agg (outTo s 32)] w fun e w' => e = .returned (.string (str ((s.list.map hexW).flatten))) ∧ Below w.heap.size w w' := by
  go_enter Try.func38, Try.ntmps38
  go_wp2_with fail
  have HO1 := Lib.hid (heap_alloc_new w (.cells (outTo s 32) 69))
  have qb : Below w.heap.size w (w.alloc (.cells (outTo s 32) 69)) := (Below.refl _ _).alloc (Nat.le_refl _) _
  generalize w.alloc (.cells (outTo s 32) 69) = wb at *
  go_loopw [3, 4] (fun t i wr => ∃ k : Nat, k ≤ 32 ∧ i = .int .i64 k ∧ t = .string (str (hexb ((outB s).take k))) ∧ Below wb.heap.size wb wr) (fun _ i _ => 32 - (intOf i).toNat)
  case atStart => exact ⟨0, by omega, rfl, rfl, Below.refl _ _⟩
  case round =>
    obtain ⟨k, hk, rfl, rfl, hbel⟩ := hrel
    by_cases hk32 : k < 32
    · have hbk := (Array.getElem?_eq_some_iff.1 HO1.out).1
      have cO : wr.cell? ⟨w.heap.size, k, none⟩ = some (.int .u8 (((outB s)[k]?.getD 0).toNat : Int)) := by
        rw [cell_of_row _ _ _ _ _ _ (show wr.heap[w.heap.size]? = _ by rw [hbel.block _ hbk]; exact HO1.out), outTo_get _ _ _ hk32, if_pos hk32]
      have hgd : (outB s)[k]?.getD 0 = (outB s)[k]'(by rw [outB_len]; exact hk32) := by
        rw [List.getElem?_eq_getElem (by rw [outB_len]; exact hk32)]; rfl
      have HS := Lib.hid (hexb_step (outB s) k (by rw [outB_len]; exact hk32))
      rw [hgd] at cO
      generalize (outB s)[k]'(by rw [outB_len]; exact hk32) = c at *
      have hlen : (hexb ((outB s).take k)).length ≤ 64 := by rw [hexb_len, List.length_take, outB_len]; omega
      have hc := c.toNat_lt
      obtain ⟨d1, hd1⟩ : ∃ d, c.toNat / 16 = d := ⟨_, rfl⟩
      obtain ⟨d2, hd2⟩ : ∃ d, c.toNat % 16 = d := ⟨_, rfl⟩
      have k1 : d1 < 16 := by omega
      have k2 : d2 < 16 := by omega
      have e1 : (c.toNat : Int) / 16 = (d1 : Int) := by omega
      have e2 : (c.toNat : Int) % 16 = (d2 : Int) := by omega
      have r1 := dslice_run d1 k1
      have r2 := dslice_run d2 k2
      rw [hd1, hd2] at HS
      clear hd1 hd2 hgd
      generalize hexb ((outB s).take k) = t at *
      go_wp2_with fail
      go_quiet (fail)
      go_wp2_with fail
      exact ⟨⟨k + 1, by omega, by go_num, by rw [HS.out], hbel.trans ⟨rfl, rfl, rfl, Nat.le_refl _, fun _ _ => rfl⟩⟩, by simp [intOf]; omega⟩
    · obtain rfl : k = 32 := by omega
      go_wp2_with fail
      go_ret
      refine ⟨?_, qb.trans (hbel.mono qb.size)⟩
      rw [← hexb_out, show outB s = (outB s).take 32 from rfl]; rfl

theorem refSum_any (l : List UInt8) (w : World) (hl : l.length ≤ 1048576) :
    Calls Try.prog 27 #[.string (str l)] w fun e w' => e = .returned (.string (str (sha l))) ∧ Below w.heap.size w w' := by
  go_enter Try.func27, Try.ntmps27
  go_wp2_with (first | ((with_reducible refine L_s2b isS slB isB w.heap.size (l := l) ?_ ?_ ?_ ?_); (focus rfl); (focus rfl); (focus exact ⟨room1 (by omega), Nat.le_refl _⟩); intro cap2 w2 ho2 hb2; have HO2 := Lib.hid ho2; clear ho2; simp only [Act.put, List.setIfInBounds_toArray, List.set_cons_zero, List.set_cons_succ]) | fail)
  obtain ⟨_, hr2, _, _, _⟩ := HO2.out.text
  go_fit (refsum_any l _ l.length cap2 w2 hr2 rfl hl)
  rintro e w3 ⟨rfl, hb3⟩
  go_wp2_with fail
  go_fit (hex_any (Sha.sum l) w3)
  rintro e w4 ⟨rfl, hb4⟩
  go_wp2_with fail
  go_ret
  exact ⟨rfl, grew (grew hb2 hb3) hb4⟩
end Go.Proofs.YtfeefpaclaonfaaR
