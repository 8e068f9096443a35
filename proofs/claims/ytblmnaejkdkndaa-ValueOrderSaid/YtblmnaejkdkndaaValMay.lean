/- The walks over value.May, of values of one kind. Printed by wip/gen_may.py. -/
import Derived.Test.YtblmnaejkdkndaaValMay0
import Derived.Deep.DeepCutAuto
import Derived.Deep.CutBlock
import Derived.Lib.QuietBelow
set_option linter.unusedSimpArgs false
set_option linter.unusedVariables false
namespace Go.Proofs.Ytblmnaejkdkndaa
open Go.RowKit

theorem rises_nodup {N : List (List UInt8)} (h : Rises N) : N.Nodup := by
  have hp : N.Pairwise (· < ·) := by
    rw [List.pairwise_iff_getElem]
    intro i j hi hj hij
    induction j with
    | zero => omega
    | succ j ih =>
      have hlt := h j hj
      by_cases he : i = j
      · subst he; exact hlt
      · exact List.lt_trans (ih (by omega) (by omega)) hlt
  exact hp.imp fun {a b} hab he => by subst he; exact List.lt_irrefl _ hab
theorem rises_nil : Rises [] := fun j h => absurd h (by simp)
/-- where a loop that only counts stands -/
def CntRel (w0 : World) (m : Nat) (i : Value) (wr : World) : Prop := ∃ k : Nat, k ≤ m ∧ i = .int .i64 (k : Int) ∧ Below w0.heap.size w0 wr
theorem may_dec {b : Bool} {n s sz : Nat} (h : b = true ↔ 16 + 16 * n + s ≤ 262144) (hsz : sz = 16 + 16 * n + s) : decide ((sz : Int) ≤ 262144) = b := by
  subst hsz
  by_cases h2 : 16 + 16 * n + s ≤ 262144
  · rw [h.2 h2, decide_eq_true_iff]; omega
  · cases b
    · rw [decide_eq_false_iff_not]; omega
    · exact absurd (h.1 rfl) h2
theorem two_mem {N : List (List UInt8)} {x : List UInt8} (h : x ∈ two N) : x ∈ N ∨ x = [] := by
  simp only [two, List.mem_flatMap, List.mem_cons, List.not_mem_nil, or_false] at h
  obtain ⟨a, ha, rfl | rfl⟩ := h
  · exact .inl ha
  · exact .inr rfl

set_option maxHeartbeats 4000000 in
set_option maxRecDepth 20000 in
theorem may_list (p : Option Addr) (n cap : Nat) (N : List (List UInt8)) (hn : n = N.length) (h1 : 1 ≤ n) (hs : n ≤ 2000) (ht : ∀ x ∈ N, x.length ≤ 4096) (b : Bool) (hb : b = true ↔ n ≤ 1000 ∧ 16 + 16 * n + sumT (N) ≤ 262144) (hsz : sumT (N) ≤ 16777216) (w : World) (hr : Rd w p (sts N)) :
    Calls Try.prog 7 #[.agg (valC 2 ⟨#[]⟩ (.slice p n cap) (.slice none 0 0) (.slice none 0 0) (.slice none 0 0))] w fun e w' => e = .returned (.bool b) ∧ Below w.heap.size w w' := by
  obtain ⟨m, hm⟩ : ∃ m, m = (N).length := ⟨_, rfl⟩
  have hx : ∀ x ∈ (N), x.length ≤ 4096 := ht
  have h0 : p = none → n = 0 ∧ cap = 0 := by
    obtain ⟨b, o, hp, _⟩ := hr.at (k := 0) (by rw [sts, List.length_map]; omega)
    intro h; rw [hp] at h; cases h
  have hm2 : (m : Int) ≤ 4000 := by
    have h : m ≤ 2 * N.length := by rw [hm]; omega
    omega
  have n1 : (1 : Int) ≤ (n : Int) := by omega
  have n2 : (n : Int) ≤ 2000 := by omega
  have hs' : n ≤ 1048576 := by omega
  have HN := Lib.hid hn
  have HM := Lib.hid hm
  have HX := Lib.hid hx
  have H0 := Lib.hid h0
  have HS := Lib.hid hs'
  have HTL := Lib.hid ht
  have HB := Lib.hid hb
  have HZ := Lib.hid hsz
  have HR := Lib.hid hr
  clear hn hm hx h0 hs hs' ht hb hsz hr h1
  go_enter Try.func7, Try.ntmps7
  go_wp2_with fail
  go_fit (count_any 2 ⟨#[]⟩ p none none none n cap 0 0 0 0 0 0 _)
  rintro e w1 ⟨rfl, hb1⟩
  have k0 := box_cells hb1 0
  have k1 := box_cells hb1 1
  have k2 := box_cells hb1 2
  have k3 := box_cells hb1 3
  have k4 := box_cells hb1 4
  have k5 := box_cells hb1 5
  simp at k0 k1 k2 k3 k4 k5
  have HB1 := Lib.hid (box_below hb1)
  clear hb1
  by_cases hle : n ≤ 1000
  · have n3 : (n : Int) ≤ 1000 := by omega
    have k0a := cell_alloc k0
    have k1a := cell_alloc k1
    have k2a := cell_alloc k2
    have k3a := cell_alloc k3
    have k4a := cell_alloc k4
    have k5a := cell_alloc k5
    go_wp2_with fail
    obtain ⟨wa, hwa⟩ : ∃ v, v = w1.alloc (.cells #[.int .i64 (n : Int), .int .i64 0, .int .i64 0, .int .i64 0] 67) := ⟨_, rfl⟩
    replace k0a := k0a (.cells #[.int .i64 (n : Int), .int .i64 0, .int .i64 0, .int .i64 0] 67)
    replace k1a := k1a (.cells #[.int .i64 (n : Int), .int .i64 0, .int .i64 0, .int .i64 0] 67)
    replace k2a := k2a (.cells #[.int .i64 (n : Int), .int .i64 0, .int .i64 0, .int .i64 0] 67)
    replace k3a := k3a (.cells #[.int .i64 (n : Int), .int .i64 0, .int .i64 0, .int .i64 0] 67)
    replace k4a := k4a (.cells #[.int .i64 (n : Int), .int .i64 0, .int .i64 0, .int .i64 0] 67)
    replace k5a := k5a (.cells #[.int .i64 (n : Int), .int .i64 0, .int .i64 0, .int .i64 0] 67)
    rw [← hwa] at k0a k1a k2a k3a k4a k5a ⊢
    have hba : Below w.heap.size w wa := by rw [hwa]; exact HB1.out.alloc HB1.out.size _
    clear hwa HB1 k0 k1 k2 k3 k4 k5
    have HBA := Lib.hid hba
    have HK := Lib.hid fun u (hu : Below wa.heap.size wa u) => And.intro (cell_below hu k0a) (And.intro (cell_below hu k1a) (And.intro (cell_below hu k2a) (And.intro (cell_below hu k3a) (And.intro (cell_below hu k4a) (cell_below hu k5a)))))
    have HRA := Lib.hid fun u (hu : Below wa.heap.size wa u) => (HR.out.below hba).below hu
    clear hba k0a k1a k2a k3a k4a k5a
    go_fit (texts_list 2 ⟨#[]⟩ p n cap N HN.out HS.out H0.out m HM.out _ (HRA.out _ (Below.refl _ _)))
    rintro e w2 ⟨q, c, rfl, hq, hb2⟩
    have HQ := Lib.hid hq
    have HB2 := Lib.hid hb2
    clear hq hb2
    go_wp2_with fail
    go_loopw [6, 62] (fun _ i wr => CntRel w2 m i wr) (fun _ i _ => m - (intOf i).toNat)
    case atStart => exact ⟨0, by omega, rfl, Below.refl _ _⟩
    case round =>
      obtain ⟨j, hj, rfl, hb⟩ := hrel
      have HB3 := Lib.hid hb
      have hbw : Below wa.heap.size wa wr := HB2.out.trans (hb.mono HB2.out.size)
      have HBW := Lib.hid hbw
      by_cases hjm : j < m
      · obtain ⟨bq, oq, rfl, hcc⟩ := rd_sts (HQ.out.below hb) (k := j) (by have := HM.out; omega)
        have hjx : j < (N).length := by have := HM.out; omega
        have c0 := hcc j hjx
        have hxl := HX.out _ (List.getElem_mem hjx)
        generalize (N)[j]'hjx = x at *
        have i0 : (j : Int) < (m : Int) := by omega
        have i1 : (0 : Int) ≤ (j : Int) := by omega
        have i2 : (x.length : Int) ≤ 4096 := by omega
        clear hcc hb hbw hxl hjx
        go_wp2_with fail
        exact ⟨⟨j + 1, hjm, by go_num, HB3.out⟩, by simp [intOf]; omega⟩
      · obtain rfl : j = m := by omega
        obtain ⟨q0, q1, q2, q3, q4, q5⟩ := HK.out wr hbw
        clear hb hbw hjm hj
        go_wp2_with fail
        clear q0 q1 q2 q3 q4 q5
        obtain ⟨w3, hw3⟩ : ∃ v, v = wr := ⟨_, rfl⟩
        subst hw3
        go_loopw [8, 73] (fun _ i wr => CntRel w3 0 i wr) (fun _ i _ => 0 - (intOf i).toNat)
        case atStart => exact ⟨0, by omega, rfl, Below.refl _ _⟩
        case round =>
          obtain ⟨j, hj, rfl, hb⟩ := hrel
          have HB4 := Lib.hid hb
          have hbw : Below wa.heap.size wa wr := HBW.out.trans (hb.mono HBW.out.size)
          have HBX := Lib.hid hbw
          obtain rfl : j = 0 := by omega
          have hr := HRA.out wr hbw
          obtain ⟨q0, q1, q2, q3, q4, q5⟩ := HK.out wr hbw
          clear hb hbw hj
          clear hr
          obtain ⟨sz, hsz⟩ : ∃ sz, sz = 16 + 16 * n + sumT (N) := ⟨_, rfl⟩
          have HD := Lib.hid (p := decide ((sz : Int) ≤ 262144) = b) (may_dec (HB.out.trans ⟨fun h => h.2, fun h => ⟨hle, h⟩⟩) hsz)
          have HSZ := Lib.hid hsz.symm
          clear hsz
          have hd : decide ((sz : Int) ≤ 262144) = b := HD.out 
          go_wp2_with fail
          go_fit (rise_f none 0 0 [] rfl (by omega) true ⟨fun _ => rises_nil, fun _ => rfl⟩ _ (.inl rfl))
          rintro e w5 ⟨rfl, hb5⟩
          have hb6 := HBX.out.trans (hb5.mono HBX.out.size)
          clear HBX q0 q1 q2 q3 q4 q5 hb5
          obtain ⟨q0, q1, q2, q3, q4, q5⟩ := HK.out w5 hb6
          have HBX := Lib.hid hb6
          clear hb6
          (try dsimp only)
          (repeat (first | go_values | go_skip | go_guarded | go_step | go_upon))
          go_fit (rise_p none 0 0 [] rfl (by omega) true ⟨fun _ => rises_nil, fun _ => rfl⟩ _ (.inl rfl))
          rintro e w5 ⟨rfl, hb5⟩
          have hb6 := HBX.out.trans (hb5.mono HBX.out.size)
          clear HBX q0 q1 q2 q3 q4 q5 hb5
          obtain ⟨q0, q1, q2, q3, q4, q5⟩ := HK.out w5 hb6
          have HBX := Lib.hid hb6
          clear hb6
          (try dsimp only)
          (repeat (first | go_values | go_skip | go_guarded | go_step | go_upon))
          go_fit (rise_s none 0 0 [] rfl (by omega) true ⟨fun _ => rises_nil, fun _ => rfl⟩ _ (.inl rfl))
          rintro e w5 ⟨rfl, hb5⟩
          have hb6 := HBX.out.trans (hb5.mono HBX.out.size)
          clear HBX q0 q1 q2 q3 q4 q5 hb5
          obtain ⟨q0, q1, q2, q3, q4, q5⟩ := HK.out w5 hb6
          have HBX := Lib.hid hb6
          clear hb6
          (try dsimp only)
          (repeat (first | go_values | go_skip | go_guarded | go_step | go_upon))
          go_fit (once_any none 0 0 [] rfl (by omega) List.nodup_nil (fun x hx => absurd hx (by simp)) _ (.inl rfl))
          rintro e w5 ⟨rfl, hb5⟩
          have hb6 := HBX.out.trans (hb5.mono HBX.out.size)
          clear HBX q0 q1 q2 q3 q4 q5 hb5
          obtain ⟨q0, q1, q2, q3, q4, q5⟩ := HK.out w5 hb6
          have HBX := Lib.hid hb6
          clear hb6
          (try dsimp only)
          (repeat (first | go_values | go_skip | go_guarded | go_step | go_upon))
          go_fit (size_list ⟨#[]⟩ p n cap N HN.out HS.out H0.out HZ.out _ (HRA.out _ HBX.out))
          rintro e w5 ⟨rfl, hb5⟩
          have hb6 := HBX.out.trans (hb5.mono HBX.out.size)
          clear HBX q0 q1 q2 q3 q4 q5 hb5
          obtain ⟨q0, q1, q2, q3, q4, q5⟩ := HK.out w5 hb6
          have HBX := Lib.hid hb6
          clear hb6
          rw [HSZ.out]
          (try dsimp only)
          (repeat (first | go_values | go_skip | go_guarded | go_step | go_upon))
          go_ret
          exact ⟨rfl, HBA.out.trans (HBX.out.mono HBA.out.size)⟩
  · have n3 : (1000 : Int) < (n : Int) := by omega
    have hbf : b = false := by
      cases hbb : b with
      | false => rfl
      | true => exact absurd (HB.out.1 hbb).1 hle
    subst hbf
    have k0a := cell_alloc k0
    have k1a := cell_alloc k1
    clear hle k2 k3 k4 k5
    go_wp2_with fail
    go_ret
    exact ⟨rfl, HB1.out.alloc HB1.out.size _⟩

set_option maxHeartbeats 4000000 in
set_option maxRecDepth 20000 in
theorem may_hash (p : Option Addr) (n cap : Nat) (N : List (List UInt8)) (hn : n = N.length) (h1 : 1 ≤ n) (hs : n ≤ 2000) (ht : ∀ x ∈ N, x.length ≤ 4096) (b : Bool) (hb : b = true ↔ n ≤ 1000 ∧ Rises N ∧ 16 + 16 * n + sumT (two N) ≤ 262144) (hsz : sumT (two N) ≤ 16777216) (w : World) (hr : Rd w p (el2 (.string ⟨#[]⟩) N)) :
    Calls Try.prog 7 #[.agg (valC 3 ⟨#[]⟩ (.slice none 0 0) (.slice p n cap) (.slice none 0 0) (.slice none 0 0))] w fun e w' => e = .returned (.bool b) ∧ Below w.heap.size w w' := by
  obtain ⟨m, hm⟩ : ∃ m, m = (two N).length := ⟨_, rfl⟩
  have hx : ∀ x ∈ (two N), x.length ≤ 4096 := fun x hx => (two_mem hx).elim (ht x) (fun e => by rw [e]; simp)
  have h0 : p = none → n = 0 ∧ cap = 0 := by
    obtain ⟨b, o, hp, _⟩ := hr.at (k := 0) (by rw [el2_len]; omega)
    intro h; rw [hp] at h; cases h
  have hm2 : (m : Int) ≤ 4000 := by
    have h : m ≤ 2 * N.length := by rw [hm]; rw [two_len]; omega
    omega
  have n1 : (1 : Int) ≤ (n : Int) := by omega
  have n2 : (n : Int) ≤ 2000 := by omega
  have hs' : n ≤ 1048576 := by omega
  have HN := Lib.hid hn
  have HM := Lib.hid hm
  have HX := Lib.hid hx
  have H0 := Lib.hid h0
  have HS := Lib.hid hs'
  have HTL := Lib.hid ht
  have HB := Lib.hid hb
  have HZ := Lib.hid hsz
  have HR := Lib.hid hr
  clear hn hm hx h0 hs hs' ht hb hsz hr h1
  go_enter Try.func7, Try.ntmps7
  go_wp2_with fail
  go_fit (count_any 3 ⟨#[]⟩ none p none none 0 0 n cap 0 0 0 0 _)
  rintro e w1 ⟨rfl, hb1⟩
  have k0 := box_cells hb1 0
  have k1 := box_cells hb1 1
  have k2 := box_cells hb1 2
  have k3 := box_cells hb1 3
  have k4 := box_cells hb1 4
  have k5 := box_cells hb1 5
  simp at k0 k1 k2 k3 k4 k5
  have HB1 := Lib.hid (box_below hb1)
  clear hb1
  by_cases hle : n ≤ 1000
  · have n3 : (n : Int) ≤ 1000 := by omega
    have k0a := cell_alloc k0
    have k1a := cell_alloc k1
    have k2a := cell_alloc k2
    have k3a := cell_alloc k3
    have k4a := cell_alloc k4
    have k5a := cell_alloc k5
    go_wp2_with fail
    obtain ⟨wa, hwa⟩ : ∃ v, v = w1.alloc (.cells #[.int .i64 0, .int .i64 (n : Int), .int .i64 0, .int .i64 0] 67) := ⟨_, rfl⟩
    replace k0a := k0a (.cells #[.int .i64 0, .int .i64 (n : Int), .int .i64 0, .int .i64 0] 67)
    replace k1a := k1a (.cells #[.int .i64 0, .int .i64 (n : Int), .int .i64 0, .int .i64 0] 67)
    replace k2a := k2a (.cells #[.int .i64 0, .int .i64 (n : Int), .int .i64 0, .int .i64 0] 67)
    replace k3a := k3a (.cells #[.int .i64 0, .int .i64 (n : Int), .int .i64 0, .int .i64 0] 67)
    replace k4a := k4a (.cells #[.int .i64 0, .int .i64 (n : Int), .int .i64 0, .int .i64 0] 67)
    replace k5a := k5a (.cells #[.int .i64 0, .int .i64 (n : Int), .int .i64 0, .int .i64 0] 67)
    rw [← hwa] at k0a k1a k2a k3a k4a k5a ⊢
    have hba : Below w.heap.size w wa := by rw [hwa]; exact HB1.out.alloc HB1.out.size _
    clear hwa HB1 k0 k1 k2 k3 k4 k5
    have HBA := Lib.hid hba
    have HK := Lib.hid fun u (hu : Below wa.heap.size wa u) => And.intro (cell_below hu k0a) (And.intro (cell_below hu k1a) (And.intro (cell_below hu k2a) (And.intro (cell_below hu k3a) (And.intro (cell_below hu k4a) (cell_below hu k5a)))))
    have HRA := Lib.hid fun u (hu : Below wa.heap.size wa u) => (HR.out.below hba).below hu
    clear hba k0a k1a k2a k3a k4a k5a
    go_fit (texts_hash 3 ⟨#[]⟩ p n cap N HN.out HS.out H0.out m HM.out _ (HRA.out _ (Below.refl _ _)))
    rintro e w2 ⟨q, c, rfl, hq, hb2⟩
    have HQ := Lib.hid hq
    have HB2 := Lib.hid hb2
    clear hq hb2
    go_wp2_with fail
    go_loopw [6, 62] (fun _ i wr => CntRel w2 m i wr) (fun _ i _ => m - (intOf i).toNat)
    case atStart => exact ⟨0, by omega, rfl, Below.refl _ _⟩
    case round =>
      obtain ⟨j, hj, rfl, hb⟩ := hrel
      have HB3 := Lib.hid hb
      have hbw : Below wa.heap.size wa wr := HB2.out.trans (hb.mono HB2.out.size)
      have HBW := Lib.hid hbw
      by_cases hjm : j < m
      · obtain ⟨bq, oq, rfl, hcc⟩ := rd_sts (HQ.out.below hb) (k := j) (by have := HM.out; omega)
        have hjx : j < (two N).length := by have := HM.out; omega
        have c0 := hcc j hjx
        have hxl := HX.out _ (List.getElem_mem hjx)
        generalize (two N)[j]'hjx = x at *
        have i0 : (j : Int) < (m : Int) := by omega
        have i1 : (0 : Int) ≤ (j : Int) := by omega
        have i2 : (x.length : Int) ≤ 4096 := by omega
        clear hcc hb hbw hxl hjx
        go_wp2_with fail
        exact ⟨⟨j + 1, hjm, by go_num, HB3.out⟩, by simp [intOf]; omega⟩
      · obtain rfl : j = m := by omega
        obtain ⟨q0, q1, q2, q3, q4, q5⟩ := HK.out wr hbw
        clear hb hbw hjm hj
        go_wp2_with fail
        clear q0 q1 q2 q3 q4 q5
        obtain ⟨w3, hw3⟩ : ∃ v, v = wr := ⟨_, rfl⟩
        subst hw3
        go_loopw [8, 73] (fun _ i wr => CntRel w3 0 i wr) (fun _ i _ => 0 - (intOf i).toNat)
        case atStart => exact ⟨0, by omega, rfl, Below.refl _ _⟩
        case round =>
          obtain ⟨j, hj, rfl, hb⟩ := hrel
          have HB4 := Lib.hid hb
          have hbw : Below wa.heap.size wa wr := HBW.out.trans (hb.mono HBW.out.size)
          have HBX := Lib.hid hbw
          obtain rfl : j = 0 := by omega
          have hr := HRA.out wr hbw
          obtain ⟨q0, q1, q2, q3, q4, q5⟩ := HK.out wr hbw
          clear hb hbw hj
          clear hr
          obtain ⟨sz, hsz⟩ : ∃ sz, sz = 16 + 16 * n + sumT (two N) := ⟨_, rfl⟩
          have HD := Lib.hid fun (hR : Rises N) => may_dec (HB.out.trans ⟨fun h => h.2.2, fun h => ⟨hle, hR, h⟩⟩) hsz
          have HF0 := Lib.hid fun (hR : ¬ Rises N) => (show b = false by
            cases hbb : b with
            | false => rfl
            | true => exact absurd (HB.out.1 hbb).2.1 hR)
          have HSZ := Lib.hid hsz.symm
          clear hsz
          obtain ⟨bR, hbR⟩ : ∃ bR : Bool, bR = true ↔ Rises N := ⟨@decide (Rises N) (Classical.propDecidable _), by simp⟩
          cases bR
          · have hbf : b = false := HF0.out (fun h => absurd (hbR.2 h) (by simp))
            subst hbf
            have hri : ¬ Rises N := fun h => absurd (hbR.2 h) (by simp)
            have HRI := Lib.hid hri
            clear hri hbR
            go_wp2_with fail
            go_fit (rise_f p n cap N HN.out (by have := HS.out; omega) false ⟨fun h => absurd h (by simp), fun h => absurd h HRI.out⟩ _ (HRA.out _ HBX.out))
            rintro e w5 ⟨rfl, hb5⟩
            have hb6 := HBX.out.trans (hb5.mono HBX.out.size)
            clear HBX q0 q1 q2 q3 q4 q5 hb5
            obtain ⟨q0, q1, q2, q3, q4, q5⟩ := HK.out w5 hb6
            have HBX := Lib.hid hb6
            clear hb6
            (try dsimp only)
            (repeat (first | go_values | go_skip | go_guarded | go_step | go_upon))
            go_ret
            exact ⟨rfl, HBA.out.trans (HBX.out.mono HBA.out.size)⟩
          · have hd : decide ((sz : Int) ≤ 262144) = b := HD.out (hbR.1 rfl)
            have hri : Rises N := hbR.1 rfl
            have HRI := Lib.hid hri
            clear hri hbR
            go_wp2_with fail
            go_fit (rise_f p n cap N HN.out (by have := HS.out; omega) true ⟨fun _ => HRI.out, fun _ => rfl⟩ _ (HRA.out _ HBX.out))
            rintro e w5 ⟨rfl, hb5⟩
            have hb6 := HBX.out.trans (hb5.mono HBX.out.size)
            clear HBX q0 q1 q2 q3 q4 q5 hb5
            obtain ⟨q0, q1, q2, q3, q4, q5⟩ := HK.out w5 hb6
            have HBX := Lib.hid hb6
            clear hb6
            (try dsimp only)
            (repeat (first | go_values | go_skip | go_guarded | go_step | go_upon))
            go_fit (rise_p none 0 0 [] rfl (by omega) true ⟨fun _ => rises_nil, fun _ => rfl⟩ _ (.inl rfl))
            rintro e w5 ⟨rfl, hb5⟩
            have hb6 := HBX.out.trans (hb5.mono HBX.out.size)
            clear HBX q0 q1 q2 q3 q4 q5 hb5
            obtain ⟨q0, q1, q2, q3, q4, q5⟩ := HK.out w5 hb6
            have HBX := Lib.hid hb6
            clear hb6
            (try dsimp only)
            (repeat (first | go_values | go_skip | go_guarded | go_step | go_upon))
            go_fit (rise_s none 0 0 [] rfl (by omega) true ⟨fun _ => rises_nil, fun _ => rfl⟩ _ (.inl rfl))
            rintro e w5 ⟨rfl, hb5⟩
            have hb6 := HBX.out.trans (hb5.mono HBX.out.size)
            clear HBX q0 q1 q2 q3 q4 q5 hb5
            obtain ⟨q0, q1, q2, q3, q4, q5⟩ := HK.out w5 hb6
            have HBX := Lib.hid hb6
            clear hb6
            (try dsimp only)
            (repeat (first | go_values | go_skip | go_guarded | go_step | go_upon))
            go_fit (once_any none 0 0 [] rfl (by omega) List.nodup_nil (fun x hx => absurd hx (by simp)) _ (.inl rfl))
            rintro e w5 ⟨rfl, hb5⟩
            have hb6 := HBX.out.trans (hb5.mono HBX.out.size)
            clear HBX q0 q1 q2 q3 q4 q5 hb5
            obtain ⟨q0, q1, q2, q3, q4, q5⟩ := HK.out w5 hb6
            have HBX := Lib.hid hb6
            clear hb6
            (try dsimp only)
            (repeat (first | go_values | go_skip | go_guarded | go_step | go_upon))
            go_fit (size_hash ⟨#[]⟩ p n cap N HN.out HS.out H0.out HZ.out _ (HRA.out _ HBX.out))
            rintro e w5 ⟨rfl, hb5⟩
            have hb6 := HBX.out.trans (hb5.mono HBX.out.size)
            clear HBX q0 q1 q2 q3 q4 q5 hb5
            obtain ⟨q0, q1, q2, q3, q4, q5⟩ := HK.out w5 hb6
            have HBX := Lib.hid hb6
            clear hb6
            rw [HSZ.out]
            (try dsimp only)
            (repeat (first | go_values | go_skip | go_guarded | go_step | go_upon))
            go_ret
            exact ⟨rfl, HBA.out.trans (HBX.out.mono HBA.out.size)⟩
  · have n3 : (1000 : Int) < (n : Int) := by omega
    have hbf : b = false := by
      cases hbb : b with
      | false => rfl
      | true => exact absurd (HB.out.1 hbb).1 hle
    subst hbf
    have k0a := cell_alloc k0
    have k1a := cell_alloc k1
    clear hle k2 k3 k4 k5
    go_wp2_with fail
    go_ret
    exact ⟨rfl, HB1.out.alloc HB1.out.size _⟩

set_option maxHeartbeats 4000000 in
set_option maxRecDepth 20000 in
theorem may_scores (p : Option Addr) (n cap : Nat) (N : List (List UInt8)) (hn : n = N.length) (h1 : 1 ≤ n) (hs : n ≤ 2000) (ht : ∀ x ∈ N, x.length ≤ 4096) (b : Bool) (hb : b = true ↔ n ≤ 1000 ∧ Rises N ∧ 16 + 16 * n + sumT (N) ≤ 262144) (hsz : sumT (N) ≤ 16777216) (w : World) (hr : Rd w p (el2 (.int .i64 7) N)) :
    Calls Try.prog 7 #[.agg (valC 4 ⟨#[]⟩ (.slice none 0 0) (.slice none 0 0) (.slice p n cap) (.slice none 0 0))] w fun e w' => e = .returned (.bool b) ∧ Below w.heap.size w w' := by
  obtain ⟨m, hm⟩ : ∃ m, m = (N).length := ⟨_, rfl⟩
  have hx : ∀ x ∈ (N), x.length ≤ 4096 := ht
  have h0 : p = none → n = 0 ∧ cap = 0 := by
    obtain ⟨b, o, hp, _⟩ := hr.at (k := 0) (by rw [el2_len]; omega)
    intro h; rw [hp] at h; cases h
  have hm2 : (m : Int) ≤ 4000 := by
    have h : m ≤ 2 * N.length := by rw [hm]; omega
    omega
  have n1 : (1 : Int) ≤ (n : Int) := by omega
  have n2 : (n : Int) ≤ 2000 := by omega
  have hs' : n ≤ 1048576 := by omega
  have HN := Lib.hid hn
  have HM := Lib.hid hm
  have HX := Lib.hid hx
  have H0 := Lib.hid h0
  have HS := Lib.hid hs'
  have HTL := Lib.hid ht
  have HB := Lib.hid hb
  have HZ := Lib.hid hsz
  have HR := Lib.hid hr
  clear hn hm hx h0 hs hs' ht hb hsz hr h1
  go_enter Try.func7, Try.ntmps7
  go_wp2_with fail
  go_fit (count_any 4 ⟨#[]⟩ none none p none 0 0 0 0 n cap 0 0 _)
  rintro e w1 ⟨rfl, hb1⟩
  have k0 := box_cells hb1 0
  have k1 := box_cells hb1 1
  have k2 := box_cells hb1 2
  have k3 := box_cells hb1 3
  have k4 := box_cells hb1 4
  have k5 := box_cells hb1 5
  simp at k0 k1 k2 k3 k4 k5
  have HB1 := Lib.hid (box_below hb1)
  clear hb1
  by_cases hle : n ≤ 1000
  · have n3 : (n : Int) ≤ 1000 := by omega
    have k0a := cell_alloc k0
    have k1a := cell_alloc k1
    have k2a := cell_alloc k2
    have k3a := cell_alloc k3
    have k4a := cell_alloc k4
    have k5a := cell_alloc k5
    go_wp2_with fail
    obtain ⟨wa, hwa⟩ : ∃ v, v = w1.alloc (.cells #[.int .i64 0, .int .i64 0, .int .i64 (n : Int), .int .i64 0] 67) := ⟨_, rfl⟩
    replace k0a := k0a (.cells #[.int .i64 0, .int .i64 0, .int .i64 (n : Int), .int .i64 0] 67)
    replace k1a := k1a (.cells #[.int .i64 0, .int .i64 0, .int .i64 (n : Int), .int .i64 0] 67)
    replace k2a := k2a (.cells #[.int .i64 0, .int .i64 0, .int .i64 (n : Int), .int .i64 0] 67)
    replace k3a := k3a (.cells #[.int .i64 0, .int .i64 0, .int .i64 (n : Int), .int .i64 0] 67)
    replace k4a := k4a (.cells #[.int .i64 0, .int .i64 0, .int .i64 (n : Int), .int .i64 0] 67)
    replace k5a := k5a (.cells #[.int .i64 0, .int .i64 0, .int .i64 (n : Int), .int .i64 0] 67)
    rw [← hwa] at k0a k1a k2a k3a k4a k5a ⊢
    have hba : Below w.heap.size w wa := by rw [hwa]; exact HB1.out.alloc HB1.out.size _
    clear hwa HB1 k0 k1 k2 k3 k4 k5
    have HBA := Lib.hid hba
    have HK := Lib.hid fun u (hu : Below wa.heap.size wa u) => And.intro (cell_below hu k0a) (And.intro (cell_below hu k1a) (And.intro (cell_below hu k2a) (And.intro (cell_below hu k3a) (And.intro (cell_below hu k4a) (cell_below hu k5a)))))
    have HRA := Lib.hid fun u (hu : Below wa.heap.size wa u) => (HR.out.below hba).below hu
    clear hba k0a k1a k2a k3a k4a k5a
    go_fit (texts_scores 4 ⟨#[]⟩ p n cap N HN.out HS.out H0.out m HM.out _ (HRA.out _ (Below.refl _ _)))
    rintro e w2 ⟨q, c, rfl, hq, hb2⟩
    have HQ := Lib.hid hq
    have HB2 := Lib.hid hb2
    clear hq hb2
    go_wp2_with fail
    go_loopw [6, 62] (fun _ i wr => CntRel w2 m i wr) (fun _ i _ => m - (intOf i).toNat)
    case atStart => exact ⟨0, by omega, rfl, Below.refl _ _⟩
    case round =>
      obtain ⟨j, hj, rfl, hb⟩ := hrel
      have HB3 := Lib.hid hb
      have hbw : Below wa.heap.size wa wr := HB2.out.trans (hb.mono HB2.out.size)
      have HBW := Lib.hid hbw
      by_cases hjm : j < m
      · obtain ⟨bq, oq, rfl, hcc⟩ := rd_sts (HQ.out.below hb) (k := j) (by have := HM.out; omega)
        have hjx : j < (N).length := by have := HM.out; omega
        have c0 := hcc j hjx
        have hxl := HX.out _ (List.getElem_mem hjx)
        generalize (N)[j]'hjx = x at *
        have i0 : (j : Int) < (m : Int) := by omega
        have i1 : (0 : Int) ≤ (j : Int) := by omega
        have i2 : (x.length : Int) ≤ 4096 := by omega
        clear hcc hb hbw hxl hjx
        go_wp2_with fail
        exact ⟨⟨j + 1, hjm, by go_num, HB3.out⟩, by simp [intOf]; omega⟩
      · obtain rfl : j = m := by omega
        obtain ⟨q0, q1, q2, q3, q4, q5⟩ := HK.out wr hbw
        clear hb hbw hjm hj
        go_wp2_with fail
        clear q0 q1 q2 q3 q4 q5
        obtain ⟨w3, hw3⟩ : ∃ v, v = wr := ⟨_, rfl⟩
        subst hw3
        go_loopw [8, 73] (fun _ i wr => CntRel w3 0 i wr) (fun _ i _ => 0 - (intOf i).toNat)
        case atStart => exact ⟨0, by omega, rfl, Below.refl _ _⟩
        case round =>
          obtain ⟨j, hj, rfl, hb⟩ := hrel
          have HB4 := Lib.hid hb
          have hbw : Below wa.heap.size wa wr := HBW.out.trans (hb.mono HBW.out.size)
          have HBX := Lib.hid hbw
          obtain rfl : j = 0 := by omega
          have hr := HRA.out wr hbw
          obtain ⟨q0, q1, q2, q3, q4, q5⟩ := HK.out wr hbw
          clear hb hbw hj
          clear hr
          obtain ⟨sz, hsz⟩ : ∃ sz, sz = 16 + 16 * n + sumT (N) := ⟨_, rfl⟩
          have HD := Lib.hid fun (hR : Rises N) => may_dec (HB.out.trans ⟨fun h => h.2.2, fun h => ⟨hle, hR, h⟩⟩) hsz
          have HF0 := Lib.hid fun (hR : ¬ Rises N) => (show b = false by
            cases hbb : b with
            | false => rfl
            | true => exact absurd (HB.out.1 hbb).2.1 hR)
          have HSZ := Lib.hid hsz.symm
          clear hsz
          obtain ⟨bR, hbR⟩ : ∃ bR : Bool, bR = true ↔ Rises N := ⟨@decide (Rises N) (Classical.propDecidable _), by simp⟩
          cases bR
          · have hbf : b = false := HF0.out (fun h => absurd (hbR.2 h) (by simp))
            subst hbf
            have hri : ¬ Rises N := fun h => absurd (hbR.2 h) (by simp)
            have HRI := Lib.hid hri
            clear hri hbR
            go_wp2_with fail
            go_fit (rise_f none 0 0 [] rfl (by omega) true ⟨fun _ => rises_nil, fun _ => rfl⟩ _ (.inl rfl))
            rintro e w5 ⟨rfl, hb5⟩
            have hb6 := HBX.out.trans (hb5.mono HBX.out.size)
            clear HBX q0 q1 q2 q3 q4 q5 hb5
            obtain ⟨q0, q1, q2, q3, q4, q5⟩ := HK.out w5 hb6
            have HBX := Lib.hid hb6
            clear hb6
            (try dsimp only)
            (repeat (first | go_values | go_skip | go_guarded | go_step | go_upon))
            go_fit (rise_p none 0 0 [] rfl (by omega) true ⟨fun _ => rises_nil, fun _ => rfl⟩ _ (.inl rfl))
            rintro e w5 ⟨rfl, hb5⟩
            have hb6 := HBX.out.trans (hb5.mono HBX.out.size)
            clear HBX q0 q1 q2 q3 q4 q5 hb5
            obtain ⟨q0, q1, q2, q3, q4, q5⟩ := HK.out w5 hb6
            have HBX := Lib.hid hb6
            clear hb6
            (try dsimp only)
            (repeat (first | go_values | go_skip | go_guarded | go_step | go_upon))
            go_fit (rise_s p n cap N HN.out (by have := HS.out; omega) false ⟨fun h => absurd h (by simp), fun h => absurd h HRI.out⟩ _ (HRA.out _ HBX.out))
            rintro e w5 ⟨rfl, hb5⟩
            have hb6 := HBX.out.trans (hb5.mono HBX.out.size)
            clear HBX q0 q1 q2 q3 q4 q5 hb5
            obtain ⟨q0, q1, q2, q3, q4, q5⟩ := HK.out w5 hb6
            have HBX := Lib.hid hb6
            clear hb6
            (try dsimp only)
            (repeat (first | go_values | go_skip | go_guarded | go_step | go_upon))
            go_ret
            exact ⟨rfl, HBA.out.trans (HBX.out.mono HBA.out.size)⟩
          · have hd : decide ((sz : Int) ≤ 262144) = b := HD.out (hbR.1 rfl)
            have hri : Rises N := hbR.1 rfl
            have HRI := Lib.hid hri
            clear hri hbR
            go_wp2_with fail
            go_fit (rise_f none 0 0 [] rfl (by omega) true ⟨fun _ => rises_nil, fun _ => rfl⟩ _ (.inl rfl))
            rintro e w5 ⟨rfl, hb5⟩
            have hb6 := HBX.out.trans (hb5.mono HBX.out.size)
            clear HBX q0 q1 q2 q3 q4 q5 hb5
            obtain ⟨q0, q1, q2, q3, q4, q5⟩ := HK.out w5 hb6
            have HBX := Lib.hid hb6
            clear hb6
            (try dsimp only)
            (repeat (first | go_values | go_skip | go_guarded | go_step | go_upon))
            go_fit (rise_p none 0 0 [] rfl (by omega) true ⟨fun _ => rises_nil, fun _ => rfl⟩ _ (.inl rfl))
            rintro e w5 ⟨rfl, hb5⟩
            have hb6 := HBX.out.trans (hb5.mono HBX.out.size)
            clear HBX q0 q1 q2 q3 q4 q5 hb5
            obtain ⟨q0, q1, q2, q3, q4, q5⟩ := HK.out w5 hb6
            have HBX := Lib.hid hb6
            clear hb6
            (try dsimp only)
            (repeat (first | go_values | go_skip | go_guarded | go_step | go_upon))
            go_fit (rise_s p n cap N HN.out (by have := HS.out; omega) true ⟨fun _ => HRI.out, fun _ => rfl⟩ _ (HRA.out _ HBX.out))
            rintro e w5 ⟨rfl, hb5⟩
            have hb6 := HBX.out.trans (hb5.mono HBX.out.size)
            clear HBX q0 q1 q2 q3 q4 q5 hb5
            obtain ⟨q0, q1, q2, q3, q4, q5⟩ := HK.out w5 hb6
            have HBX := Lib.hid hb6
            clear hb6
            (try dsimp only)
            (repeat (first | go_values | go_skip | go_guarded | go_step | go_upon))
            go_fit (once_any p n cap N HN.out HS.out (rises_nodup HRI.out) (fun x hx => Nat.le_trans (HTL.out x hx) (by unfold maxLen; omega)) _ (HRA.out _ HBX.out))
            rintro e w5 ⟨rfl, hb5⟩
            have hb6 := HBX.out.trans (hb5.mono HBX.out.size)
            clear HBX q0 q1 q2 q3 q4 q5 hb5
            obtain ⟨q0, q1, q2, q3, q4, q5⟩ := HK.out w5 hb6
            have HBX := Lib.hid hb6
            clear hb6
            (try dsimp only)
            (repeat (first | go_values | go_skip | go_guarded | go_step | go_upon))
            go_fit (size_scores ⟨#[]⟩ p n cap N HN.out HS.out H0.out HZ.out _ (HRA.out _ HBX.out))
            rintro e w5 ⟨rfl, hb5⟩
            have hb6 := HBX.out.trans (hb5.mono HBX.out.size)
            clear HBX q0 q1 q2 q3 q4 q5 hb5
            obtain ⟨q0, q1, q2, q3, q4, q5⟩ := HK.out w5 hb6
            have HBX := Lib.hid hb6
            clear hb6
            rw [HSZ.out]
            (try dsimp only)
            (repeat (first | go_values | go_skip | go_guarded | go_step | go_upon))
            go_ret
            exact ⟨rfl, HBA.out.trans (HBX.out.mono HBA.out.size)⟩
  · have n3 : (1000 : Int) < (n : Int) := by omega
    have hbf : b = false := by
      cases hbb : b with
      | false => rfl
      | true => exact absurd (HB.out.1 hbb).1 hle
    subst hbf
    have k0a := cell_alloc k0
    have k1a := cell_alloc k1
    clear hle k2 k3 k4 k5
    go_wp2_with fail
    go_ret
    exact ⟨rfl, HB1.out.alloc HB1.out.size _⟩

set_option maxHeartbeats 4000000 in
set_option maxRecDepth 20000 in
theorem may_points (p : Option Addr) (n cap : Nat) (N : List (List UInt8)) (hn : n = N.length) (h1 : 1 ≤ n) (hs : n ≤ 2000) (ht : ∀ x ∈ N, x.length ≤ 4096) (b : Bool) (hb : b = true ↔ n ≤ 1000 ∧ Rises N ∧ 16 + 16 * n + sumT (N) ≤ 262144) (hsz : sumT (N) ≤ 16777216) (w : World) (hr : Rd w p (el2 (.complex .f64 0 0) N)) :
    Calls Try.prog 7 #[.agg (valC 5 ⟨#[]⟩ (.slice none 0 0) (.slice none 0 0) (.slice none 0 0) (.slice p n cap))] w fun e w' => e = .returned (.bool b) ∧ Below w.heap.size w w' := by
  obtain ⟨m, hm⟩ : ∃ m, m = (N).length := ⟨_, rfl⟩
  have hx : ∀ x ∈ (N), x.length ≤ 4096 := ht
  have h0 : p = none → n = 0 ∧ cap = 0 := by
    obtain ⟨b, o, hp, _⟩ := hr.at (k := 0) (by rw [el2_len]; omega)
    intro h; rw [hp] at h; cases h
  have hm2 : (m : Int) ≤ 4000 := by
    have h : m ≤ 2 * N.length := by rw [hm]; omega
    omega
  have n1 : (1 : Int) ≤ (n : Int) := by omega
  have n2 : (n : Int) ≤ 2000 := by omega
  have hs' : n ≤ 1048576 := by omega
  have HN := Lib.hid hn
  have HM := Lib.hid hm
  have HX := Lib.hid hx
  have H0 := Lib.hid h0
  have HS := Lib.hid hs'
  have HTL := Lib.hid ht
  have HB := Lib.hid hb
  have HZ := Lib.hid hsz
  have HR := Lib.hid hr
  clear hn hm hx h0 hs hs' ht hb hsz hr h1
  go_enter Try.func7, Try.ntmps7
  go_wp2_with fail
  go_fit (count_any 5 ⟨#[]⟩ none none none p 0 0 0 0 0 0 n cap _)
  rintro e w1 ⟨rfl, hb1⟩
  have k0 := box_cells hb1 0
  have k1 := box_cells hb1 1
  have k2 := box_cells hb1 2
  have k3 := box_cells hb1 3
  have k4 := box_cells hb1 4
  have k5 := box_cells hb1 5
  simp at k0 k1 k2 k3 k4 k5
  have HB1 := Lib.hid (box_below hb1)
  clear hb1
  by_cases hle : n ≤ 1000
  · have n3 : (n : Int) ≤ 1000 := by omega
    have k0a := cell_alloc k0
    have k1a := cell_alloc k1
    have k2a := cell_alloc k2
    have k3a := cell_alloc k3
    have k4a := cell_alloc k4
    have k5a := cell_alloc k5
    go_wp2_with fail
    obtain ⟨wa, hwa⟩ : ∃ v, v = w1.alloc (.cells #[.int .i64 0, .int .i64 0, .int .i64 0, .int .i64 (n : Int)] 67) := ⟨_, rfl⟩
    replace k0a := k0a (.cells #[.int .i64 0, .int .i64 0, .int .i64 0, .int .i64 (n : Int)] 67)
    replace k1a := k1a (.cells #[.int .i64 0, .int .i64 0, .int .i64 0, .int .i64 (n : Int)] 67)
    replace k2a := k2a (.cells #[.int .i64 0, .int .i64 0, .int .i64 0, .int .i64 (n : Int)] 67)
    replace k3a := k3a (.cells #[.int .i64 0, .int .i64 0, .int .i64 0, .int .i64 (n : Int)] 67)
    replace k4a := k4a (.cells #[.int .i64 0, .int .i64 0, .int .i64 0, .int .i64 (n : Int)] 67)
    replace k5a := k5a (.cells #[.int .i64 0, .int .i64 0, .int .i64 0, .int .i64 (n : Int)] 67)
    rw [← hwa] at k0a k1a k2a k3a k4a k5a ⊢
    have hba : Below w.heap.size w wa := by rw [hwa]; exact HB1.out.alloc HB1.out.size _
    clear hwa HB1 k0 k1 k2 k3 k4 k5
    have HBA := Lib.hid hba
    have HK := Lib.hid fun u (hu : Below wa.heap.size wa u) => And.intro (cell_below hu k0a) (And.intro (cell_below hu k1a) (And.intro (cell_below hu k2a) (And.intro (cell_below hu k3a) (And.intro (cell_below hu k4a) (cell_below hu k5a)))))
    have HRA := Lib.hid fun u (hu : Below wa.heap.size wa u) => (HR.out.below hba).below hu
    clear hba k0a k1a k2a k3a k4a k5a
    go_fit (texts_points 5 ⟨#[]⟩ p n cap N HN.out HS.out H0.out m HM.out _ (HRA.out _ (Below.refl _ _)))
    rintro e w2 ⟨q, c, rfl, hq, hb2⟩
    have HQ := Lib.hid hq
    have HB2 := Lib.hid hb2
    clear hq hb2
    go_wp2_with fail
    go_loopw [6, 62] (fun _ i wr => CntRel w2 m i wr) (fun _ i _ => m - (intOf i).toNat)
    case atStart => exact ⟨0, by omega, rfl, Below.refl _ _⟩
    case round =>
      obtain ⟨j, hj, rfl, hb⟩ := hrel
      have HB3 := Lib.hid hb
      have hbw : Below wa.heap.size wa wr := HB2.out.trans (hb.mono HB2.out.size)
      have HBW := Lib.hid hbw
      by_cases hjm : j < m
      · obtain ⟨bq, oq, rfl, hcc⟩ := rd_sts (HQ.out.below hb) (k := j) (by have := HM.out; omega)
        have hjx : j < (N).length := by have := HM.out; omega
        have c0 := hcc j hjx
        have hxl := HX.out _ (List.getElem_mem hjx)
        generalize (N)[j]'hjx = x at *
        have i0 : (j : Int) < (m : Int) := by omega
        have i1 : (0 : Int) ≤ (j : Int) := by omega
        have i2 : (x.length : Int) ≤ 4096 := by omega
        clear hcc hb hbw hxl hjx
        go_wp2_with fail
        exact ⟨⟨j + 1, hjm, by go_num, HB3.out⟩, by simp [intOf]; omega⟩
      · obtain rfl : j = m := by omega
        obtain ⟨q0, q1, q2, q3, q4, q5⟩ := HK.out wr hbw
        clear hb hbw hjm hj
        go_wp2_with fail
        clear q0 q1 q2 q3 q4 q5
        obtain ⟨w3, hw3⟩ : ∃ v, v = wr := ⟨_, rfl⟩
        subst hw3
        go_loopw [8, 73] (fun _ i wr => CntRel w3 n i wr) (fun _ i _ => n - (intOf i).toNat)
        case atStart => exact ⟨0, by omega, rfl, Below.refl _ _⟩
        case round =>
          obtain ⟨j, hj, rfl, hb⟩ := hrel
          have HB4 := Lib.hid hb
          have hbw : Below wa.heap.size wa wr := HBW.out.trans (hb.mono HBW.out.size)
          have HBX := Lib.hid hbw
          by_cases hjn : j < n
          · obtain ⟨bp, op, rfl, hcc⟩ := rd_el2 (HRA.out wr hbw) (k := j) (by have := HN.out; omega)
            have hjx : j < N.length := by have := HN.out; omega
            obtain ⟨c0, c1⟩ := hcc j hjx
            generalize N[j]'hjx = x at *
            have i0 : (j : Int) < (n : Int) := by omega
            have i1 : (0 : Int) ≤ (j : Int) := by omega
            have hst := run_store_cx
            clear hcc hb hbw hjx
            go_wp2_with fail
            go_fit (pmay_zero _)
            rintro e w4 ⟨rfl, rfl⟩
            go_wp2_with fail
            exact ⟨⟨j + 1, hjn, by go_num, HB4.out.alloc HB4.out.size _⟩, by simp [intOf]; omega⟩
          · obtain rfl : n = j := by omega
            have hr := HRA.out wr hbw
            obtain ⟨q0, q1, q2, q3, q4, q5⟩ := HK.out wr hbw
            clear hb hbw hj hjn
            clear hr
            obtain ⟨sz, hsz⟩ : ∃ sz, sz = 16 + 16 * n + sumT (N) := ⟨_, rfl⟩
            have HD := Lib.hid fun (hR : Rises N) => may_dec (HB.out.trans ⟨fun h => h.2.2, fun h => ⟨hle, hR, h⟩⟩) hsz
            have HF0 := Lib.hid fun (hR : ¬ Rises N) => (show b = false by
              cases hbb : b with
              | false => rfl
              | true => exact absurd (HB.out.1 hbb).2.1 hR)
            have HSZ := Lib.hid hsz.symm
            clear hsz
            obtain ⟨bR, hbR⟩ : ∃ bR : Bool, bR = true ↔ Rises N := ⟨@decide (Rises N) (Classical.propDecidable _), by simp⟩
            cases bR
            · have hbf : b = false := HF0.out (fun h => absurd (hbR.2 h) (by simp))
              subst hbf
              have hri : ¬ Rises N := fun h => absurd (hbR.2 h) (by simp)
              have HRI := Lib.hid hri
              clear hri hbR
              go_wp2_with fail
              go_fit (rise_f none 0 0 [] rfl (by omega) true ⟨fun _ => rises_nil, fun _ => rfl⟩ _ (.inl rfl))
              rintro e w5 ⟨rfl, hb5⟩
              have hb6 := HBX.out.trans (hb5.mono HBX.out.size)
              clear HBX q0 q1 q2 q3 q4 q5 hb5
              obtain ⟨q0, q1, q2, q3, q4, q5⟩ := HK.out w5 hb6
              have HBX := Lib.hid hb6
              clear hb6
              (try dsimp only)
              (repeat (first | go_values | go_skip | go_guarded | go_step | go_upon))
              go_fit (rise_p p n cap N HN.out (by have := HS.out; omega) false ⟨fun h => absurd h (by simp), fun h => absurd h HRI.out⟩ _ (HRA.out _ HBX.out))
              rintro e w5 ⟨rfl, hb5⟩
              have hb6 := HBX.out.trans (hb5.mono HBX.out.size)
              clear HBX q0 q1 q2 q3 q4 q5 hb5
              obtain ⟨q0, q1, q2, q3, q4, q5⟩ := HK.out w5 hb6
              have HBX := Lib.hid hb6
              clear hb6
              (try dsimp only)
              (repeat (first | go_values | go_skip | go_guarded | go_step | go_upon))
              go_ret
              exact ⟨rfl, HBA.out.trans (HBX.out.mono HBA.out.size)⟩
            · have hd : decide ((sz : Int) ≤ 262144) = b := HD.out (hbR.1 rfl)
              have hri : Rises N := hbR.1 rfl
              have HRI := Lib.hid hri
              clear hri hbR
              go_wp2_with fail
              go_fit (rise_f none 0 0 [] rfl (by omega) true ⟨fun _ => rises_nil, fun _ => rfl⟩ _ (.inl rfl))
              rintro e w5 ⟨rfl, hb5⟩
              have hb6 := HBX.out.trans (hb5.mono HBX.out.size)
              clear HBX q0 q1 q2 q3 q4 q5 hb5
              obtain ⟨q0, q1, q2, q3, q4, q5⟩ := HK.out w5 hb6
              have HBX := Lib.hid hb6
              clear hb6
              (try dsimp only)
              (repeat (first | go_values | go_skip | go_guarded | go_step | go_upon))
              go_fit (rise_p p n cap N HN.out (by have := HS.out; omega) true ⟨fun _ => HRI.out, fun _ => rfl⟩ _ (HRA.out _ HBX.out))
              rintro e w5 ⟨rfl, hb5⟩
              have hb6 := HBX.out.trans (hb5.mono HBX.out.size)
              clear HBX q0 q1 q2 q3 q4 q5 hb5
              obtain ⟨q0, q1, q2, q3, q4, q5⟩ := HK.out w5 hb6
              have HBX := Lib.hid hb6
              clear hb6
              (try dsimp only)
              (repeat (first | go_values | go_skip | go_guarded | go_step | go_upon))
              go_fit (rise_s none 0 0 [] rfl (by omega) true ⟨fun _ => rises_nil, fun _ => rfl⟩ _ (.inl rfl))
              rintro e w5 ⟨rfl, hb5⟩
              have hb6 := HBX.out.trans (hb5.mono HBX.out.size)
              clear HBX q0 q1 q2 q3 q4 q5 hb5
              obtain ⟨q0, q1, q2, q3, q4, q5⟩ := HK.out w5 hb6
              have HBX := Lib.hid hb6
              clear hb6
              (try dsimp only)
              (repeat (first | go_values | go_skip | go_guarded | go_step | go_upon))
              go_fit (once_any none 0 0 [] rfl (by omega) List.nodup_nil (fun x hx => absurd hx (by simp)) _ (.inl rfl))
              rintro e w5 ⟨rfl, hb5⟩
              have hb6 := HBX.out.trans (hb5.mono HBX.out.size)
              clear HBX q0 q1 q2 q3 q4 q5 hb5
              obtain ⟨q0, q1, q2, q3, q4, q5⟩ := HK.out w5 hb6
              have HBX := Lib.hid hb6
              clear hb6
              (try dsimp only)
              (repeat (first | go_values | go_skip | go_guarded | go_step | go_upon))
              go_fit (size_points ⟨#[]⟩ p n cap N HN.out HS.out H0.out HZ.out _ (HRA.out _ HBX.out))
              rintro e w5 ⟨rfl, hb5⟩
              have hb6 := HBX.out.trans (hb5.mono HBX.out.size)
              clear HBX q0 q1 q2 q3 q4 q5 hb5
              obtain ⟨q0, q1, q2, q3, q4, q5⟩ := HK.out w5 hb6
              have HBX := Lib.hid hb6
              clear hb6
              rw [HSZ.out]
              (try dsimp only)
              (repeat (first | go_values | go_skip | go_guarded | go_step | go_upon))
              go_ret
              exact ⟨rfl, HBA.out.trans (HBX.out.mono HBA.out.size)⟩
  · have n3 : (1000 : Int) < (n : Int) := by omega
    have hbf : b = false := by
      cases hbb : b with
      | false => rfl
      | true => exact absurd (HB.out.1 hbb).1 hle
    subst hbf
    have k0a := cell_alloc k0
    have k1a := cell_alloc k1
    clear hle k2 k3 k4 k5
    go_wp2_with fail
    go_ret
    exact ⟨rfl, HB1.out.alloc HB1.out.size _⟩
end Go.Proofs.Ytblmnaejkdkndaa
