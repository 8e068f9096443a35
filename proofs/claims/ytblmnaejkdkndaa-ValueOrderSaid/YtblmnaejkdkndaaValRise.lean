/- The walks over value.rise, for elements of a name and a fixed second cell. Printed by wip/gen_value.py. -/
import Derived.Test.YtblmnaejkdkndaaValBase
import Derived.Deep.DeepCutAuto
import Derived.Deep.CutBlock
import Derived.Lib.QuietBelow
set_option linter.unusedSimpArgs false
set_option linter.unusedVariables false
namespace Go.Proofs.Ytblmnaejkdkndaa
open Go.RowKit

/-- elements of a name and a fixed second cell, as cells -/
def el2 (v : Value) (N : List (List UInt8)) : List Value := N.flatMap fun n => [.string (str n), v]
theorem el2_nil (v : Value) : el2 v [] = [] := rfl
theorem el2_cons (v : Value) (p : List UInt8) (N : List (List UInt8)) : el2 v (p :: N) = .string (str p) :: v :: el2 v N := rfl
theorem el2_append (v : Value) (N M : List (List UInt8)) : el2 v (N ++ M) = el2 v N ++ el2 v M := by simp [el2, List.flatMap_append]
theorem el2_len (v : Value) : ∀ N : List (List UInt8), (el2 v N).length = N.length * 2
  | [] => rfl
  | p :: N => by rw [el2_cons]; simp only [List.length_cons, el2_len v N]; omega
theorem el2_one {v : Value} (hv : v.oneCell' = true) (N : List (List UInt8)) : ∀ u ∈ el2 v N, u.oneCell' = true := by
  intro u hu
  simp only [el2, List.mem_flatMap] at hu
  obtain ⟨p, _, hp⟩ := hu
  simp only [List.mem_cons, List.not_mem_nil, or_false] at hp
  rcases hp with rfl | rfl
  · rfl
  · exact hv
theorem el2_get0 (v : Value) : ∀ (N : List (List UInt8)) (j : Nat) (h : j < N.length), (el2 v N)[j * 2]'(by rw [el2_len]; omega) = .string (str N[j])
  | p :: N, 0, h => rfl
  | p :: N, j + 1, h => by
    have ih := el2_get0 v N j (by simpa using h)
    have e : (j + 1) * 2 = j * 2 + 1 + 1 := by omega
    simp only [el2_cons, e, List.getElem_cons_succ]
    exact ih
theorem el2_get1 (v : Value) : ∀ (N : List (List UInt8)) (j : Nat) (h : j < N.length), (el2 v N)[j * 2 + 1]'(by rw [el2_len]; omega) = v
  | p :: N, 0, h => rfl
  | p :: N, j + 1, h => by
    have ih := el2_get1 v N j (by simpa using h)
    have e : (j + 1) * 2 + 1 = j * 2 + 1 + 1 + 1 := by omega
    simp only [el2_cons, e, List.getElem_cons_succ]
    exact ih
theorem rd_el2 {w : World} {p : Option Addr} {v : Value} {N : List (List UInt8)} (h : Rd w p (el2 v N)) {k : Nat} (hk : k < N.length) :
    ∃ b o, p = some ⟨b, o, none⟩ ∧ ∀ i (h : i < N.length), w.cell? ⟨b, o + i * 2, none⟩ = some (.string (str N[i])) ∧ w.cell? ⟨b, o + i * 2 + 1, none⟩ = some v := by
  obtain ⟨b, o, hp, hc⟩ := h.at (k := k * 2) (by rw [el2_len]; omega)
  refine ⟨b, o, hp, fun i hi => ⟨?_, ?_⟩⟩
  · rw [hc (i * 2) (by rw [el2_len]; omega), el2_get0 v N i hi]
  · rw [Nat.add_assoc, hc (i * 2 + 1) (by rw [el2_len]; omega), el2_get1 v N i hi]
/-- names rise strictly -/
def Rises (N : List (List UInt8)) : Prop := ∀ j (h : j + 1 < N.length), N[j]'(by omega) < N[j + 1]
/-- ahead of place k they do -/
def RiseTo (N : List (List UInt8)) (k : Nat) : Prop := ∀ j (h : j + 1 < N.length), j + 1 < k → N[j]'(by omega) < N[j + 1]
def RiseRel (N : List (List UInt8)) (w : World) (i : Value) (wr : World) : Prop := ∃ k : Nat, 1 ≤ k ∧ i = .int .i64 (k : Int) ∧ RiseTo N k ∧ Below w.heap.size w wr

set_option maxHeartbeats 1000000 in
set_option maxRecDepth 20000 in
theorem rise_f (p : Option Addr) (n cap : Nat) (N : List (List UInt8)) (hn : n = N.length) (hs : n ≤ 1099511627776) (b : Bool) (hb : b = true ↔ Rises N) (w : World) (hr : Rd w p (el2 (.string ⟨#[]⟩) N)) :
    Calls Try.prog 28 #[.slice p n cap, .func (Fn.func 29) #[] #[]] w fun e w' => e = .returned (.bool b) ∧ Below w.heap.size w w' := by
  subst hn
  have HR := Lib.hid hr
  have HB0 := Lib.hid hb
  clear hr hb
  go_enter Try.func28, Try.ntmps28
  go_wp2_with fail
  go_loopw [5] (fun i wr => RiseRel N w i wr) (fun i _ => N.length - (intOf i).toNat)
  case atStart => exact ⟨1, by omega, rfl, fun j h hj => absurd hj (by omega), Below.refl _ _⟩
  case round =>
    obtain ⟨k, hk, rfl, hno, hb⟩ := hrel
    have HN := Lib.hid hno
    have HB := Lib.hid hb
    clear hno hb
    by_cases hkl : k < N.length
    · obtain ⟨m, hm⟩ : ∃ m, m + 1 = k := ⟨k - 1, by omega⟩
      obtain ⟨bk, o, rfl, hcc⟩ := rd_el2 (HR.out.below HB.out) hkl
      have hkm : (k : Int) - 1 = (m : Int) := by omega
      have i1 : (k : Int) < (N.length : Int) := by omega
      have i0 : (m : Int) < (N.length : Int) := by omega
      have m0 : (0 : Int) ≤ (m : Int) := by omega
      have m1 : (0 : Int) ≤ (k : Int) := by omega
      have hmN : m < N.length := by omega
      obtain ⟨c0, c1⟩ := hcc m hmN
      obtain ⟨c2, c3⟩ := hcc k hkl
      have HLT : Hid (N[m]'hmN < N[k]'hkl → RiseTo N (k + 1)) := Lib.hid fun h j hj hj2 => by
        by_cases he : j = m
        · subst he; subst hm; exact h
        · exact HN.out j hj (by omega)
      have HNT : Hid (¬ N[m]'hmN < N[k]'hkl → b = false) := Lib.hid fun h => by
        cases hbb : b with
        | false => rfl
        | true => subst hm; exact absurd (HB0.out.1 hbb m hkl) h
      clear hcc HN hm
      generalize N[m]'hmN = x at *
      generalize N[k]'hkl = y at *
      clear hmN
      have r0 := cell_regrown c0
      have r1 := cell_regrown c1
      have r2 := cell_regrown c2
      have r3 := cell_regrown c3
      have HL := Lib.hid (rg_below (w := wr) fun u _ => less_f x (.string ⟨#[]⟩) y (.string ⟨#[]⟩) rfl rfl u)
      clear c0 c1 c2 c3
      go_upto_region 4 with (fail)
      refine wp_region_quiet_below (by kernel_rfl) (by kernel_rfl) ?_; (repeat (first | go_big_quiet_step (first | with_reducible exact HL.out _ _ | fail) | quiet_step (first | with_reducible exact HL.out _ _ | fail))); refine wpQuiet_nil ?_; intro _ hw'; obtain ⟨⟨dq, osq⟩, hw''⟩ := hw'; subst hw''; have hq := below_regrown wr dq osq; generalize Go.Sort.grow (redrawn wr dq) osq = w2 at *; clear dq osq
      clear r0 r1 r2 r3 hkm i0 m0
      have hb2 := HB.out.trans (hq.mono HB.out.size)
      by_cases hxy : x < y
      · have hd : decide (x < y) = true := decide_eq_true hxy
        rw [hd]
        clear hd
        have hto := HLT.out hxy
        have HT := Lib.hid hto
        clear hto hxy
        go_wp2_with fail
        exact ⟨⟨k + 1, by omega, by go_num, HT.out, hb2⟩, by simp [intOf]; omega⟩
      · have hd : decide (x < y) = false := decide_eq_false hxy
        rw [hd]
        clear hd
        obtain rfl := HNT.out hxy
        clear hxy
        go_wp2_with fail
        go_ret
        exact ⟨rfl, hb2⟩
    · have hbt : b = true := HB0.out.2 fun j hj => HN.out j hj (by omega)
      subst hbt
      go_wp2_with fail
      go_ret
      exact ⟨rfl, HB.out⟩

set_option maxHeartbeats 1000000 in
set_option maxRecDepth 20000 in
theorem rise_p (p : Option Addr) (n cap : Nat) (N : List (List UInt8)) (hn : n = N.length) (hs : n ≤ 1099511627776) (b : Bool) (hb : b = true ↔ Rises N) (w : World) (hr : Rd w p (el2 (.complex .f64 0 0) N)) :
    Calls Try.prog 30 #[.slice p n cap, .func (Fn.func 31) #[] #[]] w fun e w' => e = .returned (.bool b) ∧ Below w.heap.size w w' := by
  subst hn
  have HR := Lib.hid hr
  have HB0 := Lib.hid hb
  clear hr hb
  go_enter Try.func30, Try.ntmps30
  go_wp2_with fail
  go_loopw [5] (fun i wr => RiseRel N w i wr) (fun i _ => N.length - (intOf i).toNat)
  case atStart => exact ⟨1, by omega, rfl, fun j h hj => absurd hj (by omega), Below.refl _ _⟩
  case round =>
    obtain ⟨k, hk, rfl, hno, hb⟩ := hrel
    have HN := Lib.hid hno
    have HB := Lib.hid hb
    clear hno hb
    by_cases hkl : k < N.length
    · obtain ⟨m, hm⟩ : ∃ m, m + 1 = k := ⟨k - 1, by omega⟩
      obtain ⟨bk, o, rfl, hcc⟩ := rd_el2 (HR.out.below HB.out) hkl
      have hkm : (k : Int) - 1 = (m : Int) := by omega
      have i1 : (k : Int) < (N.length : Int) := by omega
      have i0 : (m : Int) < (N.length : Int) := by omega
      have m0 : (0 : Int) ≤ (m : Int) := by omega
      have m1 : (0 : Int) ≤ (k : Int) := by omega
      have hmN : m < N.length := by omega
      obtain ⟨c0, c1⟩ := hcc m hmN
      obtain ⟨c2, c3⟩ := hcc k hkl
      have HLT : Hid (N[m]'hmN < N[k]'hkl → RiseTo N (k + 1)) := Lib.hid fun h j hj hj2 => by
        by_cases he : j = m
        · subst he; subst hm; exact h
        · exact HN.out j hj (by omega)
      have HNT : Hid (¬ N[m]'hmN < N[k]'hkl → b = false) := Lib.hid fun h => by
        cases hbb : b with
        | false => rfl
        | true => subst hm; exact absurd (HB0.out.1 hbb m hkl) h
      clear hcc HN hm
      generalize N[m]'hmN = x at *
      generalize N[k]'hkl = y at *
      clear hmN
      have r0 := cell_regrown c0
      have r1 := cell_regrown c1
      have r2 := cell_regrown c2
      have r3 := cell_regrown c3
      have HL := Lib.hid (rg_below (w := wr) fun u _ => less_p x (.complex .f64 0 0) y (.complex .f64 0 0) rfl rfl u)
      clear c0 c1 c2 c3
      go_upto_region 4 with (fail)
      refine wp_region_quiet_below (by kernel_rfl) (by kernel_rfl) ?_; (repeat (first | go_big_quiet_step (first | with_reducible exact HL.out _ _ | fail) | quiet_step (first | with_reducible exact HL.out _ _ | fail))); refine wpQuiet_nil ?_; intro _ hw'; obtain ⟨⟨dq, osq⟩, hw''⟩ := hw'; subst hw''; have hq := below_regrown wr dq osq; generalize Go.Sort.grow (redrawn wr dq) osq = w2 at *; clear dq osq
      clear r0 r1 r2 r3 hkm i0 m0
      have hb2 := HB.out.trans (hq.mono HB.out.size)
      by_cases hxy : x < y
      · have hd : decide (x < y) = true := decide_eq_true hxy
        rw [hd]
        clear hd
        have hto := HLT.out hxy
        have HT := Lib.hid hto
        clear hto hxy
        go_wp2_with fail
        exact ⟨⟨k + 1, by omega, by go_num, HT.out, hb2⟩, by simp [intOf]; omega⟩
      · have hd : decide (x < y) = false := decide_eq_false hxy
        rw [hd]
        clear hd
        obtain rfl := HNT.out hxy
        clear hxy
        go_wp2_with fail
        go_ret
        exact ⟨rfl, hb2⟩
    · have hbt : b = true := HB0.out.2 fun j hj => HN.out j hj (by omega)
      subst hbt
      go_wp2_with fail
      go_ret
      exact ⟨rfl, HB.out⟩

set_option maxHeartbeats 1000000 in
set_option maxRecDepth 20000 in
theorem rise_s (p : Option Addr) (n cap : Nat) (N : List (List UInt8)) (hn : n = N.length) (hs : n ≤ 1099511627776) (b : Bool) (hb : b = true ↔ Rises N) (w : World) (hr : Rd w p (el2 (.int .i64 7) N)) :
    Calls Try.prog 32 #[.slice p n cap, .func (Fn.func 33) #[] #[]] w fun e w' => e = .returned (.bool b) ∧ Below w.heap.size w w' := by
  subst hn
  have HR := Lib.hid hr
  have HB0 := Lib.hid hb
  clear hr hb
  go_enter Try.func32, Try.ntmps32
  go_wp2_with fail
  go_loopw [5] (fun i wr => RiseRel N w i wr) (fun i _ => N.length - (intOf i).toNat)
  case atStart => exact ⟨1, by omega, rfl, fun j h hj => absurd hj (by omega), Below.refl _ _⟩
  case round =>
    obtain ⟨k, hk, rfl, hno, hb⟩ := hrel
    have HN := Lib.hid hno
    have HB := Lib.hid hb
    clear hno hb
    by_cases hkl : k < N.length
    · obtain ⟨m, hm⟩ : ∃ m, m + 1 = k := ⟨k - 1, by omega⟩
      obtain ⟨bk, o, rfl, hcc⟩ := rd_el2 (HR.out.below HB.out) hkl
      have hkm : (k : Int) - 1 = (m : Int) := by omega
      have i1 : (k : Int) < (N.length : Int) := by omega
      have i0 : (m : Int) < (N.length : Int) := by omega
      have m0 : (0 : Int) ≤ (m : Int) := by omega
      have m1 : (0 : Int) ≤ (k : Int) := by omega
      have hmN : m < N.length := by omega
      obtain ⟨c0, c1⟩ := hcc m hmN
      obtain ⟨c2, c3⟩ := hcc k hkl
      have HLT : Hid (N[m]'hmN < N[k]'hkl → RiseTo N (k + 1)) := Lib.hid fun h j hj hj2 => by
        by_cases he : j = m
        · subst he; subst hm; exact h
        · exact HN.out j hj (by omega)
      have HNT : Hid (¬ N[m]'hmN < N[k]'hkl → b = false) := Lib.hid fun h => by
        cases hbb : b with
        | false => rfl
        | true => subst hm; exact absurd (HB0.out.1 hbb m hkl) h
      clear hcc HN hm
      generalize N[m]'hmN = x at *
      generalize N[k]'hkl = y at *
      clear hmN
      have r0 := cell_regrown c0
      have r1 := cell_regrown c1
      have r2 := cell_regrown c2
      have r3 := cell_regrown c3
      have HL := Lib.hid (rg_below (w := wr) fun u _ => less_s x y 7 u)
      clear c0 c1 c2 c3
      go_upto_region 4 with (fail)
      refine wp_region_quiet_below (by kernel_rfl) (by kernel_rfl) ?_; (repeat (first | go_big_quiet_step (first | with_reducible exact HL.out _ _ | fail) | quiet_step (first | with_reducible exact HL.out _ _ | fail))); refine wpQuiet_nil ?_; intro _ hw'; obtain ⟨⟨dq, osq⟩, hw''⟩ := hw'; subst hw''; have hq := below_regrown wr dq osq; generalize Go.Sort.grow (redrawn wr dq) osq = w2 at *; clear dq osq
      clear r0 r1 r2 r3 hkm i0 m0
      have hb2 := HB.out.trans (hq.mono HB.out.size)
      by_cases hxy : x < y
      · have hd : decide (x < y) = true := decide_eq_true hxy
        rw [hd]
        clear hd
        have hto := HLT.out hxy
        have HT := Lib.hid hto
        clear hto hxy
        go_wp2_with fail
        exact ⟨⟨k + 1, by omega, by go_num, HT.out, hb2⟩, by simp [intOf]; omega⟩
      · have hd : decide (x < y) = false := decide_eq_false hxy
        rw [hd]
        clear hd
        obtain rfl := HNT.out hxy
        clear hxy
        go_wp2_with fail
        go_ret
        exact ⟨rfl, hb2⟩
    · have hbt : b = true := HB0.out.2 fun j hj => HN.out j hj (by omega)
      subst hbt
      go_wp2_with fail
      go_ret
      exact ⟨rfl, HB.out⟩
end Go.Proofs.Ytblmnaejkdkndaa
