/- value.texts of values of one kind; the walks over value.Size. Printed by wip/gen_size.py. -/
import Derived.Test.YtblmnaejkdkndaaValCount
set_option linter.unusedSimpArgs false
set_option linter.unusedVariables false
namespace Go.Proofs.Ytblmnaejkdkndaa
open Go.RowKit

/-- how long texts are in all -/
def sumT (X : List (List UInt8)) : Nat := (X.map List.length).sum
theorem sumT_succ (X : List (List UInt8)) (k : Nat) (h : k < X.length) : sumT (X.take (k + 1)) = sumT (X.take k) + (X[k]).length := by
  unfold sumT; rw [List.take_succ_eq_append_getElem h, List.map_append, List.sum_append]; simp
theorem sumT_le (X : List (List UInt8)) (k : Nat) : sumT (X.take k) ≤ sumT X := by
  have h : sumT X = sumT (X.take k) + sumT (X.drop k) := by
    unfold sumT; rw [← List.sum_append, ← List.map_append, List.take_append_drop]
  omega
theorem rd_sts {w : World} {p : Option Addr} {X : List (List UInt8)} (h : Rd w p (sts X)) {k : Nat} (hk : k < X.length) :
    ∃ b o, p = some ⟨b, o, none⟩ ∧ ∀ i (h : i < X.length), w.cell? ⟨b, o + i, none⟩ = some (.string (str X[i])) := by
  obtain ⟨b, o, hp, hc⟩ := h.at (k := k) (by simpa [sts] using hk)
  exact ⟨b, o, hp, fun i hi => by rw [hc i (by simpa [sts] using hi)]; simp [sts]⟩
/-- where a loop that adds lengths stands -/
def SumRel (w0 : World) (X : List (List UInt8)) (a : Nat) (s i : Value) (wr : World) : Prop :=
  ∃ k m : Nat, k ≤ X.length ∧ m = a + sumT (X.take k) ∧ i = .int .i64 (k : Int) ∧ s = .int .i64 (m : Int) ∧ Below w0.heap.size w0 wr

theorem texts_list (kd : Int) (t : ByteArray) (p : Option Addr) (n cap : Nat) (N : List (List UInt8)) (hn : n = N.length) (hs : n ≤ 1048576) (h0 : p = none → n = 0 ∧ cap = 0) (m : Nat) (hm : m = (N).length) (w : World) (hr : Rd w p (sts N)) :
    Calls Try.prog 26 #[.agg (valC kd t (.slice p n cap) (.slice none 0 0) (.slice none 0 0) (.slice none 0 0))] w fun e w' => ∃ q c, e = .returned (.slice q m c) ∧ Rd w' q (sts (N)) ∧ Below w.heap.size w w' := by
  refine (texts_any kd t p n cap N none 0 0 [] none 0 0 [] none 0 0 [] hn rfl rfl rfl ⟨hs, by omega, by omega, by omega⟩ h0 w hr (.inl rfl) (.inl rfl) (.inl rfl)).mono ?_
  rintro e w' ⟨v, rfl, ho, hb⟩
  have e : N ++ two [] ++ [] ++ [] = N := by simp [two]
  rw [e, ← hm] at ho
  obtain ⟨q, c, rfl, hq, _⟩ := ho.shape
  exact ⟨q, c, rfl, hq, hb⟩

theorem texts_hash (kd : Int) (t : ByteArray) (p : Option Addr) (n cap : Nat) (N : List (List UInt8)) (hn : n = N.length) (hs : n ≤ 1048576) (h0 : p = none → n = 0 ∧ cap = 0) (m : Nat) (hm : m = (two N).length) (w : World) (hr : Rd w p (el2 (.string ⟨#[]⟩) N)) :
    Calls Try.prog 26 #[.agg (valC kd t (.slice none 0 0) (.slice p n cap) (.slice none 0 0) (.slice none 0 0))] w fun e w' => ∃ q c, e = .returned (.slice q m c) ∧ Rd w' q (sts (two N)) ∧ Below w.heap.size w w' := by
  refine (texts_any kd t none 0 0 [] p n cap N none 0 0 [] none 0 0 [] rfl hn rfl rfl ⟨by omega, hs, by omega, by omega⟩ (fun _ => ⟨rfl, rfl⟩) w (.inl rfl) hr (.inl rfl) (.inl rfl)).mono ?_
  rintro e w' ⟨v, rfl, ho, hb⟩
  have e : [] ++ two N ++ [] ++ [] = two N := by simp [two]
  rw [e, ← hm] at ho
  obtain ⟨q, c, rfl, hq, _⟩ := ho.shape
  exact ⟨q, c, rfl, hq, hb⟩

theorem texts_scores (kd : Int) (t : ByteArray) (p : Option Addr) (n cap : Nat) (N : List (List UInt8)) (hn : n = N.length) (hs : n ≤ 1048576) (h0 : p = none → n = 0 ∧ cap = 0) (m : Nat) (hm : m = (N).length) (w : World) (hr : Rd w p (el2 (.int .i64 7) N)) :
    Calls Try.prog 26 #[.agg (valC kd t (.slice none 0 0) (.slice none 0 0) (.slice p n cap) (.slice none 0 0))] w fun e w' => ∃ q c, e = .returned (.slice q m c) ∧ Rd w' q (sts (N)) ∧ Below w.heap.size w w' := by
  refine (texts_any kd t none 0 0 [] none 0 0 [] p n cap N none 0 0 [] rfl rfl hn rfl ⟨by omega, by omega, hs, by omega⟩ (fun _ => ⟨rfl, rfl⟩) w (.inl rfl) (.inl rfl) hr (.inl rfl)).mono ?_
  rintro e w' ⟨v, rfl, ho, hb⟩
  have e : [] ++ two [] ++ N ++ [] = N := by simp [two]
  rw [e, ← hm] at ho
  obtain ⟨q, c, rfl, hq, _⟩ := ho.shape
  exact ⟨q, c, rfl, hq, hb⟩

theorem texts_points (kd : Int) (t : ByteArray) (p : Option Addr) (n cap : Nat) (N : List (List UInt8)) (hn : n = N.length) (hs : n ≤ 1048576) (h0 : p = none → n = 0 ∧ cap = 0) (m : Nat) (hm : m = (N).length) (w : World) (hr : Rd w p (el2 (.complex .f64 0 0) N)) :
    Calls Try.prog 26 #[.agg (valC kd t (.slice none 0 0) (.slice none 0 0) (.slice none 0 0) (.slice p n cap))] w fun e w' => ∃ q c, e = .returned (.slice q m c) ∧ Rd w' q (sts (N)) ∧ Below w.heap.size w w' := by
  refine (texts_any kd t none 0 0 [] none 0 0 [] none 0 0 [] p n cap N rfl rfl rfl hn ⟨by omega, by omega, by omega, hs⟩ (fun _ => ⟨rfl, rfl⟩) w (.inl rfl) (.inl rfl) (.inl rfl) hr).mono ?_
  rintro e w' ⟨v, rfl, ho, hb⟩
  have e : [] ++ two [] ++ [] ++ N = N := by simp [two]
  rw [e, ← hm] at ho
  obtain ⟨q, c, rfl, hq, _⟩ := ho.shape
  exact ⟨q, c, rfl, hq, hb⟩

set_option maxHeartbeats 2000000 in
set_option maxRecDepth 20000 in
theorem size_list (t : ByteArray) (p : Option Addr) (n cap : Nat) (N : List (List UInt8)) (hn : n = N.length) (hs : n ≤ 1048576) (h0 : p = none → n = 0 ∧ cap = 0) (ht : sumT (N) ≤ 16777216) (w : World) (hr : Rd w p (sts N)) :
    Calls Try.prog 9 #[.agg (valC 2 t (.slice p n cap) (.slice none 0 0) (.slice none 0 0) (.slice none 0 0))] w fun e w' => e = .returned (.int .i64 ((16 + 16 * n + sumT (N) : Nat) : Int)) ∧ Below w.heap.size w w' := by
  obtain ⟨m, hm⟩ : ∃ m, m = (N).length := ⟨_, rfl⟩
  have hm2 : (m : Int) ≤ 2097152 := by
    have h : m ≤ 2 * N.length := by rw [hm]; omega
    omega
  obtain ⟨a0, ha0⟩ : ∃ a0 : Nat, a0 = 16 + 16 * n := ⟨_, rfl⟩
  have hA : (16 : Int) + 16 * (n : Int) = (a0 : Int) := by omega
  have hab : a0 ≤ 16777232 := by omega
  rw [← ha0]
  have HA0 := Lib.hid ha0
  clear ha0
  have HR := Lib.hid hr
  have HN := Lib.hid hn
  have HM := Lib.hid hm
  have H0 := Lib.hid h0
  have HS := Lib.hid hs
  have HT := Lib.hid ht
  have hn0 : (n : Int) ≤ 1048576 := by omega
  have hn1 : (0 : Int) ≤ (n : Int) := by omega
  clear hr hn hm h0 hs ht
  go_enter Try.func9, Try.ntmps9
  go_wp2_with fail
  go_fit (len_list t p none none none n cap 0 0 0 0 0 0 _)
  rintro e w1 ⟨rfl, hb1⟩
  obtain ⟨w0, hw0⟩ : ∃ v, v = (w.alloc (.cells (valC 2 t (.slice p n cap) (.slice none 0 0) (.slice none 0 0) (.slice none 0 0)) 29)).alloc (.cells #[.int .i64 0, .string ⟨#[]⟩, .slice p n cap, .slice none 0 0, .slice none 0 0, .slice none 0 0] 29) := ⟨_, rfl⟩
  have hb0 : Below w.heap.size w w0 := by subst hw0; repeat (first | exact Below.refl _ _ | refine grewA ?_ _ | refine Below.drew ?_ | refine grew ?_ (by assumption))
  have hs0 : w0.heap.size = w.heap.size + 2 := by subst hw0; go_simp
  have hrow : w0.heap[w.heap.size + 1]? = some (.cells #[.int .i64 0, .string ⟨#[]⟩, .slice p n cap, .slice none 0 0, .slice none 0 0, .slice none 0 0] 29 (0, 0)) := by rw [hw0]; exact heap_alloc2_new _ _ _
  rw [← hw0] at hb1
  clear hw0
  have hk : ∀ i : Nat, w1.cell? ⟨w.heap.size + 1, i, none⟩ = #[Value.int .i64 0, .string ⟨#[]⟩, .slice p n cap, .slice none 0 0, .slice none 0 0, .slice none 0 0][i]? := by
    intro i
    rw [hb1.cell (p := ⟨w.heap.size + 1, i, none⟩) (by show w.heap.size + 1 < w0.heap.size; omega)]
    exact cell_of_row _ _ _ _ _ _ hrow
  have k0 := hk 0
  have k1 := hk 1
  have k2 := hk 2
  have k3 := hk 3
  have k4 := hk 4
  have k5 := hk 5
  simp at k0 k1 k2 k3 k4 k5
  have HB0 := Lib.hid hb0
  have HB1 := Lib.hid hb1
  clear hk hrow hb0 hb1
  go_wp2_with fail
  go_fit (texts_list 0 ⟨#[]⟩ p n cap N HN.out HS.out H0.out m HM.out _ ((HR.out.below HB0.out).below HB1.out))
  rintro e w2 ⟨q, c, rfl, hq, hb2⟩
  have HQ := Lib.hid hq
  have HB2 := Lib.hid hb2
  clear hq hb2
  go_wp2_with fail
  go_loopw [4, 6, 44] (fun s _ i wr => SumRel w2 (N) a0 s i wr) (fun _ _ i _ => (N).length - (intOf i).toNat)
  case atStart => exact ⟨0, a0, by omega, by simp [sumT], rfl, rfl, Below.refl _ _⟩
  case round =>
    obtain ⟨k, a, hk, ha, rfl, rfl, hb⟩ := hrel
    have HB := Lib.hid hb
    have hmk := HM.out
    by_cases hkl : k < (N).length
    · obtain ⟨bq, oq, rfl, hcc⟩ := rd_sts (HQ.out.below hb) hkl
      have c0 := hcc k hkl
      have hsu := sumT_succ (N) k hkl
      have hle := sumT_le (N) (k + 1)
      have hst := HT.out
      have hns := HS.out
      have i0 : (k : Int) < (m : Int) := by omega
      have i1 : (0 : Int) ≤ (k : Int) := by omega
      generalize (N)[k]'hkl = x at *
      have i2 : (a : Int) + (x.length : Int) ≤ 33554448 := by omega
      have i3 : (0 : Int) ≤ (a : Int) := by omega
      have i4 : (0 : Int) ≤ (x.length : Int) := by omega
      have hlen : (a + x.length : Nat) = a0 + sumT ((N).take (k + 1)) := by omega
      have HL := Lib.hid hlen
      clear hcc hb hmk ha hsu hle hst hns hlen
      go_wp2_with fail
      exact ⟨⟨k + 1, a + x.length, hkl, HL.out, by go_num, by go_num, HB.out⟩, by simp [intOf]; omega⟩
    · have hkm : k = m := by omega
      subst hkm
      have e : a = a0 + sumT (N) := by rw [ha, hmk, List.take_length]
      subst e
      clear hb hmk ha
      go_wp2_with fail
      go_ret
      exact ⟨rfl, HB0.out.trans ((HB1.out.mono HB0.out.size).trans ((HB2.out.mono (by have := HB0.out.size; have := HB1.out.size; omega)).trans (HB.out.mono (by have := HB0.out.size; have := HB1.out.size; have := HB2.out.size; omega))))⟩

set_option maxHeartbeats 2000000 in
set_option maxRecDepth 20000 in
theorem size_hash (t : ByteArray) (p : Option Addr) (n cap : Nat) (N : List (List UInt8)) (hn : n = N.length) (hs : n ≤ 1048576) (h0 : p = none → n = 0 ∧ cap = 0) (ht : sumT (two N) ≤ 16777216) (w : World) (hr : Rd w p (el2 (.string ⟨#[]⟩) N)) :
    Calls Try.prog 9 #[.agg (valC 3 t (.slice none 0 0) (.slice p n cap) (.slice none 0 0) (.slice none 0 0))] w fun e w' => e = .returned (.int .i64 ((16 + 16 * n + sumT (two N) : Nat) : Int)) ∧ Below w.heap.size w w' := by
  obtain ⟨m, hm⟩ : ∃ m, m = (two N).length := ⟨_, rfl⟩
  have hm2 : (m : Int) ≤ 2097152 := by
    have h : m ≤ 2 * N.length := by rw [hm]; rw [two_len]; omega
    omega
  obtain ⟨a0, ha0⟩ : ∃ a0 : Nat, a0 = 16 + 16 * n := ⟨_, rfl⟩
  have hA : (16 : Int) + 16 * (n : Int) = (a0 : Int) := by omega
  have hab : a0 ≤ 16777232 := by omega
  rw [← ha0]
  have HA0 := Lib.hid ha0
  clear ha0
  have HR := Lib.hid hr
  have HN := Lib.hid hn
  have HM := Lib.hid hm
  have H0 := Lib.hid h0
  have HS := Lib.hid hs
  have HT := Lib.hid ht
  have hn0 : (n : Int) ≤ 1048576 := by omega
  have hn1 : (0 : Int) ≤ (n : Int) := by omega
  clear hr hn hm h0 hs ht
  go_enter Try.func9, Try.ntmps9
  go_wp2_with fail
  go_fit (len_hash t none p none none 0 0 n cap 0 0 0 0 _)
  rintro e w1 ⟨rfl, hb1⟩
  obtain ⟨w0, hw0⟩ : ∃ v, v = (w.alloc (.cells (valC 3 t (.slice none 0 0) (.slice p n cap) (.slice none 0 0) (.slice none 0 0)) 29)).alloc (.cells #[.int .i64 0, .string ⟨#[]⟩, .slice none 0 0, .slice p n cap, .slice none 0 0, .slice none 0 0] 29) := ⟨_, rfl⟩
  have hb0 : Below w.heap.size w w0 := by subst hw0; repeat (first | exact Below.refl _ _ | refine grewA ?_ _ | refine Below.drew ?_ | refine grew ?_ (by assumption))
  have hs0 : w0.heap.size = w.heap.size + 2 := by subst hw0; go_simp
  have hrow : w0.heap[w.heap.size + 1]? = some (.cells #[.int .i64 0, .string ⟨#[]⟩, .slice none 0 0, .slice p n cap, .slice none 0 0, .slice none 0 0] 29 (0, 0)) := by rw [hw0]; exact heap_alloc2_new _ _ _
  rw [← hw0] at hb1
  clear hw0
  have hk : ∀ i : Nat, w1.cell? ⟨w.heap.size + 1, i, none⟩ = #[Value.int .i64 0, .string ⟨#[]⟩, .slice none 0 0, .slice p n cap, .slice none 0 0, .slice none 0 0][i]? := by
    intro i
    rw [hb1.cell (p := ⟨w.heap.size + 1, i, none⟩) (by show w.heap.size + 1 < w0.heap.size; omega)]
    exact cell_of_row _ _ _ _ _ _ hrow
  have k0 := hk 0
  have k1 := hk 1
  have k2 := hk 2
  have k3 := hk 3
  have k4 := hk 4
  have k5 := hk 5
  simp at k0 k1 k2 k3 k4 k5
  have HB0 := Lib.hid hb0
  have HB1 := Lib.hid hb1
  clear hk hrow hb0 hb1
  go_wp2_with fail
  go_fit (texts_hash 0 ⟨#[]⟩ p n cap N HN.out HS.out H0.out m HM.out _ ((HR.out.below HB0.out).below HB1.out))
  rintro e w2 ⟨q, c, rfl, hq, hb2⟩
  have HQ := Lib.hid hq
  have HB2 := Lib.hid hb2
  clear hq hb2
  go_wp2_with fail
  go_loopw [4, 6, 44] (fun s _ i wr => SumRel w2 (two N) a0 s i wr) (fun _ _ i _ => (two N).length - (intOf i).toNat)
  case atStart => exact ⟨0, a0, by omega, by simp [sumT], rfl, rfl, Below.refl _ _⟩
  case round =>
    obtain ⟨k, a, hk, ha, rfl, rfl, hb⟩ := hrel
    have HB := Lib.hid hb
    have hmk := HM.out
    by_cases hkl : k < (two N).length
    · obtain ⟨bq, oq, rfl, hcc⟩ := rd_sts (HQ.out.below hb) hkl
      have c0 := hcc k hkl
      have hsu := sumT_succ (two N) k hkl
      have hle := sumT_le (two N) (k + 1)
      have hst := HT.out
      have hns := HS.out
      have i0 : (k : Int) < (m : Int) := by omega
      have i1 : (0 : Int) ≤ (k : Int) := by omega
      generalize (two N)[k]'hkl = x at *
      have i2 : (a : Int) + (x.length : Int) ≤ 33554448 := by omega
      have i3 : (0 : Int) ≤ (a : Int) := by omega
      have i4 : (0 : Int) ≤ (x.length : Int) := by omega
      have hlen : (a + x.length : Nat) = a0 + sumT ((two N).take (k + 1)) := by omega
      have HL := Lib.hid hlen
      clear hcc hb hmk ha hsu hle hst hns hlen
      go_wp2_with fail
      exact ⟨⟨k + 1, a + x.length, hkl, HL.out, by go_num, by go_num, HB.out⟩, by simp [intOf]; omega⟩
    · have hkm : k = m := by omega
      subst hkm
      have e : a = a0 + sumT (two N) := by rw [ha, hmk, List.take_length]
      subst e
      clear hb hmk ha
      go_wp2_with fail
      go_ret
      exact ⟨rfl, HB0.out.trans ((HB1.out.mono HB0.out.size).trans ((HB2.out.mono (by have := HB0.out.size; have := HB1.out.size; omega)).trans (HB.out.mono (by have := HB0.out.size; have := HB1.out.size; have := HB2.out.size; omega))))⟩

set_option maxHeartbeats 2000000 in
set_option maxRecDepth 20000 in
theorem size_scores (t : ByteArray) (p : Option Addr) (n cap : Nat) (N : List (List UInt8)) (hn : n = N.length) (hs : n ≤ 1048576) (h0 : p = none → n = 0 ∧ cap = 0) (ht : sumT (N) ≤ 16777216) (w : World) (hr : Rd w p (el2 (.int .i64 7) N)) :
    Calls Try.prog 9 #[.agg (valC 4 t (.slice none 0 0) (.slice none 0 0) (.slice p n cap) (.slice none 0 0))] w fun e w' => e = .returned (.int .i64 ((16 + 16 * n + sumT (N) : Nat) : Int)) ∧ Below w.heap.size w w' := by
  obtain ⟨m, hm⟩ : ∃ m, m = (N).length := ⟨_, rfl⟩
  have hm2 : (m : Int) ≤ 2097152 := by
    have h : m ≤ 2 * N.length := by rw [hm]; omega
    omega
  obtain ⟨a0, ha0⟩ : ∃ a0 : Nat, a0 = 16 + 16 * n := ⟨_, rfl⟩
  have hA : (16 : Int) + 16 * (n : Int) = (a0 : Int) := by omega
  have hab : a0 ≤ 16777232 := by omega
  rw [← ha0]
  have HA0 := Lib.hid ha0
  clear ha0
  have HR := Lib.hid hr
  have HN := Lib.hid hn
  have HM := Lib.hid hm
  have H0 := Lib.hid h0
  have HS := Lib.hid hs
  have HT := Lib.hid ht
  have hn0 : (n : Int) ≤ 1048576 := by omega
  have hn1 : (0 : Int) ≤ (n : Int) := by omega
  clear hr hn hm h0 hs ht
  go_enter Try.func9, Try.ntmps9
  go_wp2_with fail
  go_fit (len_scores t none none p none 0 0 0 0 n cap 0 0 _)
  rintro e w1 ⟨rfl, hb1⟩
  obtain ⟨w0, hw0⟩ : ∃ v, v = (w.alloc (.cells (valC 4 t (.slice none 0 0) (.slice none 0 0) (.slice p n cap) (.slice none 0 0)) 29)).alloc (.cells #[.int .i64 0, .string ⟨#[]⟩, .slice none 0 0, .slice none 0 0, .slice p n cap, .slice none 0 0] 29) := ⟨_, rfl⟩
  have hb0 : Below w.heap.size w w0 := by subst hw0; repeat (first | exact Below.refl _ _ | refine grewA ?_ _ | refine Below.drew ?_ | refine grew ?_ (by assumption))
  have hs0 : w0.heap.size = w.heap.size + 2 := by subst hw0; go_simp
  have hrow : w0.heap[w.heap.size + 1]? = some (.cells #[.int .i64 0, .string ⟨#[]⟩, .slice none 0 0, .slice none 0 0, .slice p n cap, .slice none 0 0] 29 (0, 0)) := by rw [hw0]; exact heap_alloc2_new _ _ _
  rw [← hw0] at hb1
  clear hw0
  have hk : ∀ i : Nat, w1.cell? ⟨w.heap.size + 1, i, none⟩ = #[Value.int .i64 0, .string ⟨#[]⟩, .slice none 0 0, .slice none 0 0, .slice p n cap, .slice none 0 0][i]? := by
    intro i
    rw [hb1.cell (p := ⟨w.heap.size + 1, i, none⟩) (by show w.heap.size + 1 < w0.heap.size; omega)]
    exact cell_of_row _ _ _ _ _ _ hrow
  have k0 := hk 0
  have k1 := hk 1
  have k2 := hk 2
  have k3 := hk 3
  have k4 := hk 4
  have k5 := hk 5
  simp at k0 k1 k2 k3 k4 k5
  have HB0 := Lib.hid hb0
  have HB1 := Lib.hid hb1
  clear hk hrow hb0 hb1
  go_wp2_with fail
  go_fit (texts_scores 0 ⟨#[]⟩ p n cap N HN.out HS.out H0.out m HM.out _ ((HR.out.below HB0.out).below HB1.out))
  rintro e w2 ⟨q, c, rfl, hq, hb2⟩
  have HQ := Lib.hid hq
  have HB2 := Lib.hid hb2
  clear hq hb2
  go_wp2_with fail
  go_loopw [4, 6, 44] (fun s _ i wr => SumRel w2 (N) a0 s i wr) (fun _ _ i _ => (N).length - (intOf i).toNat)
  case atStart => exact ⟨0, a0, by omega, by simp [sumT], rfl, rfl, Below.refl _ _⟩
  case round =>
    obtain ⟨k, a, hk, ha, rfl, rfl, hb⟩ := hrel
    have HB := Lib.hid hb
    have hmk := HM.out
    by_cases hkl : k < (N).length
    · obtain ⟨bq, oq, rfl, hcc⟩ := rd_sts (HQ.out.below hb) hkl
      have c0 := hcc k hkl
      have hsu := sumT_succ (N) k hkl
      have hle := sumT_le (N) (k + 1)
      have hst := HT.out
      have hns := HS.out
      have i0 : (k : Int) < (m : Int) := by omega
      have i1 : (0 : Int) ≤ (k : Int) := by omega
      generalize (N)[k]'hkl = x at *
      have i2 : (a : Int) + (x.length : Int) ≤ 33554448 := by omega
      have i3 : (0 : Int) ≤ (a : Int) := by omega
      have i4 : (0 : Int) ≤ (x.length : Int) := by omega
      have hlen : (a + x.length : Nat) = a0 + sumT ((N).take (k + 1)) := by omega
      have HL := Lib.hid hlen
      clear hcc hb hmk ha hsu hle hst hns hlen
      go_wp2_with fail
      exact ⟨⟨k + 1, a + x.length, hkl, HL.out, by go_num, by go_num, HB.out⟩, by simp [intOf]; omega⟩
    · have hkm : k = m := by omega
      subst hkm
      have e : a = a0 + sumT (N) := by rw [ha, hmk, List.take_length]
      subst e
      clear hb hmk ha
      go_wp2_with fail
      go_ret
      exact ⟨rfl, HB0.out.trans ((HB1.out.mono HB0.out.size).trans ((HB2.out.mono (by have := HB0.out.size; have := HB1.out.size; omega)).trans (HB.out.mono (by have := HB0.out.size; have := HB1.out.size; have := HB2.out.size; omega))))⟩

set_option maxHeartbeats 2000000 in
set_option maxRecDepth 20000 in
theorem size_points (t : ByteArray) (p : Option Addr) (n cap : Nat) (N : List (List UInt8)) (hn : n = N.length) (hs : n ≤ 1048576) (h0 : p = none → n = 0 ∧ cap = 0) (ht : sumT (N) ≤ 16777216) (w : World) (hr : Rd w p (el2 (.complex .f64 0 0) N)) :
    Calls Try.prog 9 #[.agg (valC 5 t (.slice none 0 0) (.slice none 0 0) (.slice none 0 0) (.slice p n cap))] w fun e w' => e = .returned (.int .i64 ((16 + 16 * n + sumT (N) : Nat) : Int)) ∧ Below w.heap.size w w' := by
  obtain ⟨m, hm⟩ : ∃ m, m = (N).length := ⟨_, rfl⟩
  have hm2 : (m : Int) ≤ 2097152 := by
    have h : m ≤ 2 * N.length := by rw [hm]; omega
    omega
  obtain ⟨a0, ha0⟩ : ∃ a0 : Nat, a0 = 16 + 16 * n := ⟨_, rfl⟩
  have hA : (16 : Int) + 16 * (n : Int) = (a0 : Int) := by omega
  have hab : a0 ≤ 16777232 := by omega
  rw [← ha0]
  have HA0 := Lib.hid ha0
  clear ha0
  have HR := Lib.hid hr
  have HN := Lib.hid hn
  have HM := Lib.hid hm
  have H0 := Lib.hid h0
  have HS := Lib.hid hs
  have HT := Lib.hid ht
  have hn0 : (n : Int) ≤ 1048576 := by omega
  have hn1 : (0 : Int) ≤ (n : Int) := by omega
  clear hr hn hm h0 hs ht
  go_enter Try.func9, Try.ntmps9
  go_wp2_with fail
  go_fit (len_points t none none none p 0 0 0 0 0 0 n cap _)
  rintro e w1 ⟨rfl, hb1⟩
  obtain ⟨w0, hw0⟩ : ∃ v, v = (w.alloc (.cells (valC 5 t (.slice none 0 0) (.slice none 0 0) (.slice none 0 0) (.slice p n cap)) 29)).alloc (.cells #[.int .i64 0, .string ⟨#[]⟩, .slice none 0 0, .slice none 0 0, .slice none 0 0, .slice p n cap] 29) := ⟨_, rfl⟩
  have hb0 : Below w.heap.size w w0 := by subst hw0; repeat (first | exact Below.refl _ _ | refine grewA ?_ _ | refine Below.drew ?_ | refine grew ?_ (by assumption))
  have hs0 : w0.heap.size = w.heap.size + 2 := by subst hw0; go_simp
  have hrow : w0.heap[w.heap.size + 1]? = some (.cells #[.int .i64 0, .string ⟨#[]⟩, .slice none 0 0, .slice none 0 0, .slice none 0 0, .slice p n cap] 29 (0, 0)) := by rw [hw0]; exact heap_alloc2_new _ _ _
  rw [← hw0] at hb1
  clear hw0
  have hk : ∀ i : Nat, w1.cell? ⟨w.heap.size + 1, i, none⟩ = #[Value.int .i64 0, .string ⟨#[]⟩, .slice none 0 0, .slice none 0 0, .slice none 0 0, .slice p n cap][i]? := by
    intro i
    rw [hb1.cell (p := ⟨w.heap.size + 1, i, none⟩) (by show w.heap.size + 1 < w0.heap.size; omega)]
    exact cell_of_row _ _ _ _ _ _ hrow
  have k0 := hk 0
  have k1 := hk 1
  have k2 := hk 2
  have k3 := hk 3
  have k4 := hk 4
  have k5 := hk 5
  simp at k0 k1 k2 k3 k4 k5
  have HB0 := Lib.hid hb0
  have HB1 := Lib.hid hb1
  clear hk hrow hb0 hb1
  go_wp2_with fail
  go_fit (texts_points 0 ⟨#[]⟩ p n cap N HN.out HS.out H0.out m HM.out _ ((HR.out.below HB0.out).below HB1.out))
  rintro e w2 ⟨q, c, rfl, hq, hb2⟩
  have HQ := Lib.hid hq
  have HB2 := Lib.hid hb2
  clear hq hb2
  go_wp2_with fail
  go_loopw [4, 6, 44] (fun s _ i wr => SumRel w2 (N) a0 s i wr) (fun _ _ i _ => (N).length - (intOf i).toNat)
  case atStart => exact ⟨0, a0, by omega, by simp [sumT], rfl, rfl, Below.refl _ _⟩
  case round =>
    obtain ⟨k, a, hk, ha, rfl, rfl, hb⟩ := hrel
    have HB := Lib.hid hb
    have hmk := HM.out
    by_cases hkl : k < (N).length
    · obtain ⟨bq, oq, rfl, hcc⟩ := rd_sts (HQ.out.below hb) hkl
      have c0 := hcc k hkl
      have hsu := sumT_succ (N) k hkl
      have hle := sumT_le (N) (k + 1)
      have hst := HT.out
      have hns := HS.out
      have i0 : (k : Int) < (m : Int) := by omega
      have i1 : (0 : Int) ≤ (k : Int) := by omega
      generalize (N)[k]'hkl = x at *
      have i2 : (a : Int) + (x.length : Int) ≤ 33554448 := by omega
      have i3 : (0 : Int) ≤ (a : Int) := by omega
      have i4 : (0 : Int) ≤ (x.length : Int) := by omega
      have hlen : (a + x.length : Nat) = a0 + sumT ((N).take (k + 1)) := by omega
      have HL := Lib.hid hlen
      clear hcc hb hmk ha hsu hle hst hns hlen
      go_wp2_with fail
      exact ⟨⟨k + 1, a + x.length, hkl, HL.out, by go_num, by go_num, HB.out⟩, by simp [intOf]; omega⟩
    · have hkm : k = m := by omega
      subst hkm
      have e : a = a0 + sumT (N) := by rw [ha, hmk, List.take_length]
      subst e
      clear hb hmk ha
      go_wp2_with fail
      go_ret
      exact ⟨rfl, HB0.out.trans ((HB1.out.mono HB0.out.size).trans ((HB2.out.mono (by have := HB0.out.size; have := HB1.out.size; omega)).trans (HB.out.mono (by have := HB0.out.size; have := HB1.out.size; have := HB2.out.size; omega))))⟩

set_option maxHeartbeats 1000000 in
set_option maxRecDepth 20000 in
theorem size_text (l : List UInt8) (hl : l.length ≤ 1048576) (w : World) :
    Calls Try.prog 9 #[.agg (valC 1 (str l) (.slice none 0 0) (.slice none 0 0) (.slice none 0 0) (.slice none 0 0))] w fun e w' => e = .returned (.int .i64 ((16 + l.length : Nat) : Int)) ∧ Below w.heap.size w w' := by
  have h0 : (0 : Int) ≤ (l.length : Int) := by omega
  have h1 : (l.length : Int) ≤ 1048576 := by omega
  clear hl
  go_enter Try.func9, Try.ntmps9
  go_wp2_with fail
  go_ret
  exact ⟨by simp, by repeat (first | exact Below.refl _ _ | refine grewA ?_ _ | refine Below.drew ?_ | refine grew ?_ (by assumption))⟩
end Go.Proofs.Ytblmnaejkdkndaa
