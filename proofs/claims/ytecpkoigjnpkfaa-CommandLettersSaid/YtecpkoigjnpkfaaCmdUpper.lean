/- The walk over command.Upper. -/
import Derived.Test.YtecpkoigjnpkfaaCmdPlain
import Derived.Test.YtecpkoigjnpkfaaBase
set_option linter.unusedSimpArgs false
set_option linter.unusedVariables false
namespace Go.Proofs.Ytecpkoigjnpkfaa
open Go.RowKit Cmd

theorem upL_len (l : List UInt8) : (upL l).length = l.length := by simp [upL]
theorem up_step {l : List UInt8} {k : Nat} (h : k < l.length) : upL (l.take (k + 1)) ++ l.drop (k + 1) = (upL (l.take k) ++ l.drop k).set k (upB l[k]) := by
  have hk : (upL (l.take k)).length = k := by rw [upL_len, List.length_take]; omega
  rw [List.take_succ_eq_append_getElem h, List.drop_eq_getElem_cons h]
  have e : upL (l.take k ++ [l[k]]) = upL (l.take k) ++ [upB l[k]] := by unfold upL; rw [List.map_append]; rfl
  have es := List.set_append_right (s := upL (l.take k)) (t := l[k] :: l.drop (k + 1)) (i := k) (x := upB l[k]) (by omega)
  rw [e, es, hk, Nat.sub_self, List.set_cons_zero, List.append_assoc]; rfl
theorem up_get {l : List UInt8} {k : Nat} (h : k < l.length) : (by8 (upL (l.take k) ++ l.drop k))[k]'(by rw [by8_len, List.length_append, upL_len, List.length_take, List.length_drop]; omega) = .int .u8 (l[k].toNat : Int) := by
  have hk : (upL (l.take k)).length = k := by rw [upL_len, List.length_take]; omega
  simp only [by8, List.getElem_map]
  rw [List.getElem_append_right (by omega)]
  simp [hk]
theorem up_self {l : List UInt8} {k : Nat} (h : k < l.length) : (upL (l.take k) ++ l.drop k).set k l[k] = upL (l.take k) ++ l.drop k := by
  have hk : (upL (l.take k)).length = k := by rw [upL_len, List.length_take]; omega
  have es := List.set_append_right (s := upL (l.take k)) (t := l[k] :: l.drop (k + 1)) (i := k) (x := l[k]) (by omega)
  rw [List.drop_eq_getElem_cons h, es, hk, Nat.sub_self, List.set_cons_zero]
def UpRel (w : World) (g cap : Nat) (l : List UInt8) (i : Value) (wr : World) : Prop :=
  ∃ k : Nat, k ≤ l.length ∧ i = .int .i64 (k : Int) ∧ OwnS wr w.heap.size 5 1 (.slice (some ⟨g, 0, none⟩) l.length cap) l.length (by8 (upL (l.take k) ++ l.drop k)) ∧ Below w.heap.size w wr
set_option maxHeartbeats 1000000 in
set_option maxRecDepth 20000 in
theorem upper_any (l : List UInt8) (hl : l.length ≤ 1048576) (w : World) : Calls Try.prog 11 #[.string (str l)] w fun e w' => e = .returned (.string (str (upL l))) ∧ Below w.heap.size w w' := by
  go_enter Try.func11, Try.ntmps11
  go_wp2_with (((with_reducible refine L_s2b isS slB isB w.heap.size (l := l) ?_ ?_ ?_ ?_); (focus rfl); (focus rfl); (focus exact ⟨room1 (by omega), Nat.le_refl _⟩); intro cap1 w1 ho1 hb1; have HO1 := Lib.hid ho1; clear ho1; simp only [Act.put, List.setIfInBounds_toArray, List.set_cons_zero, List.set_cons_succ]))
  obtain ⟨g, hg⟩ : ∃ g, g = w.heap.size := ⟨_, rfl⟩
  have hb1 := HO1.out
  go_loopw [10] (fun i wr => UpRel w w.heap.size cap1 l i wr) (fun i _ => l.length - (intOf i).toNat)
  case atStart => exact ⟨0, by omega, rfl, by simpa [upL] using HO1.out, by assumption⟩
  case round =>
    obtain ⟨k, hk, rfl, ho, hb⟩ := hrel
    have HO := Lib.hid ho
    have HB := Lib.hid hb
    clear ho hb hb1
    by_cases hkl : k < l.length
    · have hlen : k < (by8 (upL (l.take k) ++ l.drop k)).length := by rw [by8_len, List.length_append, upL_len, List.length_take, List.length_drop]; omega
      obtain ⟨c0, f0⟩ := HO.out.get hlen
      rw [up_get hkl] at c0
      have HS := Lib.hid (up_step hkl)
      have HSF := Lib.hid (up_self hkl)
      have HST := Lib.hid fun (u : Value) => HO.out.set hlen u
      have i0 : (k : Int) < (l.length : Int) := by omega
      have i1 : (0 : Int) ≤ (k : Int) := by omega
      clear hlen
      generalize l[k] = x at *
      have hx : (x.toNat : Int) ≤ 255 := by have := x.toNat_lt; omega
      by_cases hc : 97 ≤ x ∧ x ≤ 122
      · have h1 : 97 ≤ x.toNat := by simpa using UInt8.le_iff_toNat_le.1 hc.1
        have h2 : x.toNat ≤ 122 := by simpa using UInt8.le_iff_toNat_le.1 hc.2
        have d1 : decide ((97 : Int) ≤ (x.toNat : Int)) = true := by rw [decide_eq_true_iff]; omega
        have d2 : decide ((x.toNat : Int) ≤ 122) = true := by rw [decide_eq_true_iff]; omega
        have e1 : ((x - 32).toNat : Int) = (x.toNat : Int) - 32 := by
          rw [UInt8.toNat_sub_of_le _ _ (UInt8.le_iff_toNat_le.2 (by simp; omega))]; simp; omega
        have E1 := Lib.hid e1
        have HUB := Lib.hid (show upB x = x - 32 from if_pos hc)
        clear hc e1
        go_wp2_with fail
        refine ⟨⟨k + 1, hkl, by go_num, ?_, HB.out.setCell (Nat.le_refl _) _⟩, by simp [intOf]; omega⟩
        have h := HST.out (.int .u8 ((x.toNat : Int) - 32))
        rw [← E1.out, by8_set, ← HUB.out, ← HS.out] at h
        rw [HUB.out, E1.out] at h
        exact h
      · have hn : (decide ((97 : Int) ≤ (x.toNat : Int)) && decide ((x.toNat : Int) ≤ 122)) = false := by
          rw [Bool.and_eq_false_iff, decide_eq_false_iff_not, decide_eq_false_iff_not]
          by_cases h1 : 97 ≤ x
          · right
            intro h2
            exact hc ⟨h1, UInt8.le_iff_toNat_le.2 (by simp; omega)⟩
          · left
            intro h2
            exact h1 (UInt8.le_iff_toNat_le.2 (by simp; omega))
        have hst : OwnS wr w.heap.size 5 1 (.slice (some ⟨w.heap.size, 0, none⟩) l.length cap1) l.length (by8 (upL (l.take (k + 1)) ++ l.drop (k + 1))) := by
          rw [HS.out, show upB x = x from if_neg hc, HSF.out]
          exact HO.out
        have HT := Lib.hid hst
        clear hc hst
        by_cases h1 : decide ((97 : Int) ≤ (x.toNat : Int)) = true
        · have h2 : decide ((x.toNat : Int) ≤ 122) = false := by rw [h1] at hn; simpa using hn
          clear hn
          go_wp2_with fail
          exact ⟨⟨k + 1, hkl, by go_num, HT.out, HB.out⟩, by simp [intOf]; omega⟩
        · have h2 : decide ((97 : Int) ≤ (x.toNat : Int)) = false := by simpa using h1
          clear hn h1
          go_wp2_with fail
          exact ⟨⟨k + 1, hkl, by go_num, HT.out, HB.out⟩, by simp [intOf]; omega⟩
    · obtain rfl : k = l.length := by omega
      have hr := HO.out.txt
      simp only [List.take_length, List.drop_length, List.append_nil] at hr
      have HR := Lib.hid hr
      clear hr
      go_wp2_with (((with_reducible refine L_b2s slB isB isS HR.out.2.1 ?_ ?_ ?_); (focus rfl); (focus exact ⟨_, _, rfl, (upL_len l).symm⟩); simp only [Act.put, List.setIfInBounds_toArray, List.set_cons_zero, List.set_cons_succ]))
      go_ret
      exact ⟨rfl, HB.out⟩
end Go.Proofs.Ytecpkoigjnpkfaa
