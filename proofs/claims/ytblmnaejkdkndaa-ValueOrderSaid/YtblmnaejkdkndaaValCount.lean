/- The walks over value.count, value.Len, value.once. -/
import Derived.Test.YtblmnaejkdkndaaValTexts
import Derived.Test.YtblmnaejkdkndaaMapV
set_option linter.unusedSimpArgs false
set_option linter.unusedVariables false
namespace Go.Proofs.Ytblmnaejkdkndaa
open Go.RowKit

set_option maxRecDepth 20000 in
theorem count_any (kd : Int) (t : ByteArray) (pl pf ps pp : Option Addr) (nl cl nf cf ns cs np cp : Nat) (w : World) :
    Calls Try.prog 25 #[.agg (valC kd t (.slice pl nl cl) (.slice pf nf cf) (.slice ps ns cs) (.slice pp np cp))] w fun e w' =>
      e = .returned (.agg #[.int .i64 (nl : Int), .int .i64 (nf : Int), .int .i64 (ns : Int), .int .i64 (np : Int)]) ∧ Below w.heap.size w w' := by
  go_enter Try.func25, Try.ntmps25
  go_wp2_with fail
  refine bodyPost_ret (results_cell_row (P := Try.prog) rfl _ _ (w.heap.size + 1) 67 #[.int .i64 (nl : Int), .int .i64 (nf : Int), .int .i64 (ns : Int), .int .i64 (np : Int)] (0, 0) _ rfl (heap_alloc2_new _ _ _) Try.underlying67 rfl (by kernel_rfl)) rfl ⟨rfl, by repeat (first | exact Below.refl _ _ | refine grewA ?_ _ | refine Below.drew ?_ | refine grew ?_ (by assumption))⟩
set_option maxRecDepth 20000 in
theorem len_text (t : ByteArray) (pl pf ps pp : Option Addr) (nl cl nf cf ns cs np cp : Nat) (w : World) :
    Calls Try.prog 8 #[.agg (valC 1 t (.slice pl nl cl) (.slice pf nf cf) (.slice ps ns cs) (.slice pp np cp))] w fun e w' =>
      e = .returned (.int .i64 (t.size : Int)) ∧ Below w.heap.size w w' := by
  go_enter Try.func8, Try.ntmps8
  go_wp2_with fail
  go_ret
  exact ⟨rfl, by repeat (first | exact Below.refl _ _ | refine grewA ?_ _ | refine Below.drew ?_ | refine grew ?_ (by assumption))⟩
set_option maxRecDepth 20000 in
theorem len_list (t : ByteArray) (pl pf ps pp : Option Addr) (nl cl nf cf ns cs np cp : Nat) (w : World) :
    Calls Try.prog 8 #[.agg (valC 2 t (.slice pl nl cl) (.slice pf nf cf) (.slice ps ns cs) (.slice pp np cp))] w fun e w' =>
      e = .returned (.int .i64 (nl : Int)) ∧ Below w.heap.size w w' := by
  go_enter Try.func8, Try.ntmps8
  go_wp2_with fail
  go_ret
  exact ⟨rfl, by repeat (first | exact Below.refl _ _ | refine grewA ?_ _ | refine Below.drew ?_ | refine grew ?_ (by assumption))⟩
set_option maxRecDepth 20000 in
theorem len_hash (t : ByteArray) (pl pf ps pp : Option Addr) (nl cl nf cf ns cs np cp : Nat) (w : World) :
    Calls Try.prog 8 #[.agg (valC 3 t (.slice pl nl cl) (.slice pf nf cf) (.slice ps ns cs) (.slice pp np cp))] w fun e w' =>
      e = .returned (.int .i64 (nf : Int)) ∧ Below w.heap.size w w' := by
  go_enter Try.func8, Try.ntmps8
  go_wp2_with fail
  go_ret
  exact ⟨rfl, by repeat (first | exact Below.refl _ _ | refine grewA ?_ _ | refine Below.drew ?_ | refine grew ?_ (by assumption))⟩
set_option maxRecDepth 20000 in
theorem len_scores (t : ByteArray) (pl pf ps pp : Option Addr) (nl cl nf cf ns cs np cp : Nat) (w : World) :
    Calls Try.prog 8 #[.agg (valC 4 t (.slice pl nl cl) (.slice pf nf cf) (.slice ps ns cs) (.slice pp np cp))] w fun e w' =>
      e = .returned (.int .i64 (ns : Int)) ∧ Below w.heap.size w w' := by
  go_enter Try.func8, Try.ntmps8
  go_wp2_with fail
  go_ret
  exact ⟨rfl, by repeat (first | exact Below.refl _ _ | refine grewA ?_ _ | refine Below.drew ?_ | refine grew ?_ (by assumption))⟩
set_option maxRecDepth 20000 in
theorem len_points (t : ByteArray) (pl pf ps pp : Option Addr) (nl cl nf cf ns cs np cp : Nat) (w : World) :
    Calls Try.prog 8 #[.agg (valC 5 t (.slice pl nl cl) (.slice pf nf cf) (.slice ps ns cs) (.slice pp np cp))] w fun e w' =>
      e = .returned (.int .i64 (np : Int)) ∧ Below w.heap.size w w' := by
  go_enter Try.func8, Try.ntmps8
  go_wp2_with fail
  go_ret
  exact ⟨rfl, by repeat (first | exact Below.refl _ _ | refine grewA ?_ _ | refine Below.drew ?_ | refine grew ?_ (by assumption))⟩
theorem zeroInt (w : World) : (zeroValue 3).run Try.prog w = .ok (.int .i64 0) w := by kernel_rfl
theorem kGet_put2 {α : Type} {M : List (List UInt8 × α)} (h : Srt M) (k : List UInt8) (v : α) : kGet k (kPut k v M) = some v := kGet_of_mem h.put (mem_kIns.2 (.inl rfl))
theorem kGet_put_ne {α : Type} {M : List (List UInt8 × α)} {j k : List UInt8} {v : α} (hne : j ≠ k) (h : kGet j M = none) : kGet j (kPut k v M) = none := by
  cases hg : kGet j (kPut k v M) with
  | none => rfl
  | some u =>
    rcases mem_kIns.1 (kGet_some hg) with he | hm
    · cases he; exact absurd rfl hne
    · exact absurd rfl (kGet_none h _ (mem_kDel.1 hm).1)
/-- where once's loop stands -/
def OnceRel (w : World) (S : List (List UInt8)) (i : Value) (wr : World) : Prop :=
  ∃ (k : Nat) (M : List (List UInt8 × Value)), k ≤ S.length ∧ i = .int .i64 (k : Int) ∧ OwnM Try.prog 9 wr w.heap.size M ∧ M.length ≤ k ∧ (∀ x ∈ S.drop k, kGet x M = none) ∧ Below w.heap.size w wr

set_option maxHeartbeats 4000000 in
set_option maxRecDepth 20000 in
theorem once_any (p : Option Addr) (n cap : Nat) (S : List (List UInt8)) (hn : n = S.length) (hs : n ≤ 1048576) (hd : S.Nodup) (hl : ∀ x ∈ S, x.length ≤ maxLen) (w : World) (hr : Rd w p (el2 (.int .i64 7) S)) :
    Calls Try.prog 34 #[.slice p n cap] w fun e w' => e = .returned (.bool true) ∧ Below w.heap.size w w' := by
  subst hn
  have HR := Lib.hid hr
  have HD := Lib.hid hd
  have HLN := Lib.hid hl
  have hmm := @run_makeMap Try.prog
  clear hr hd hl
  go_enter Try.func34, Try.ntmps34
  go_wp2_with fail
  go_loopw [9] (fun i wr => OnceRel w S i wr) (fun i _ => S.length - (intOf i).toNat)
  case atStart => exact ⟨0, [], by omega, rfl, OwnM.made w _ _, by simp, fun x _ => rfl, (Below.refl _ _).alloc (Nat.le_refl _) _⟩
  case round =>
    obtain ⟨k, M, hk, rfl, hm, hml, hno, hb⟩ := hrel
    have HM := Lib.hid hm
    have HN := Lib.hid hno
    have HB := Lib.hid hb
    have hz := hm.lt
    have hml2 : M.length < maxLen := by unfold maxLen; omega
    clear hm hno hb
    by_cases hkl : k < S.length
    · obtain ⟨bf, of, rfl, hcc⟩ := rd_el2 (HR.out.below HB.out) hkl
      obtain ⟨c0, c1⟩ := hcc k hkl
      have hx : kGet (S[k]'hkl) M = none := HN.out _ (by rw [List.drop_eq_getElem_cons hkl]; exact List.mem_cons_self)
      have hnx : ∀ y ∈ S.drop (k + 1), y ≠ S[k]'hkl := by
        have hnd : (S.drop k).Nodup := HD.out.sublist (List.drop_sublist k S)
        rw [List.drop_eq_getElem_cons hkl, List.nodup_cons] at hnd
        intro y hy he
        exact hnd.1 (he ▸ hy)
      have hno2 : ∀ y ∈ S.drop (k + 1), kGet y M = none := fun y hy => HN.out y (by rw [List.drop_eq_getElem_cons hkl]; exact List.mem_cons_of_mem _ hy)
      have hxl : (S[k]'hkl).length ≤ maxLen := HLN.out _ (List.getElem_mem hkl)
      have HX := Lib.hid hx
      have HNX := Lib.hid hnx
      have HNO := Lib.hid hno2
      have HXL := Lib.hid hxl
      have i0 : (k : Int) < (S.length : Int) := by omega
      have i1 : (0 : Int) ≤ (k : Int) := by omega
      clear hcc hx hnx hno2 hxl
      generalize S[k]'hkl = x at *
      have HMB := Lib.hid fun o : Obj => HM.out.below ((Below.refl wr.heap.size wr).alloc (Nat.le_refl _) o)
      go_wp2_with (first
        | ((with_reducible refine L_look isS Try.underlying110 (.int .i64 0) zeroInt (HMB.out (.cells #[.string (str x), .int .i64 7] 35)) (k := x) ?_ ?_ ?_ ?_); (focus rfl); (focus rfl); (focus exact HXL.out); rw [HX.out]; simp only [Act.put, List.setIfInBounds_toArray, List.set_cons_zero, List.set_cons_succ])
        | ((with_reducible refine L_mput isS Try.underlying110 (HMB.out (.cells #[.string (str x), .int .i64 7] 35)) (k := x) (v := .int .i64 1) ?_ ?_ ?_ ?_ ?_); (focus rfl); (focus rfl); (focus rfl); (focus exact ⟨HXL.out, hml2⟩); intro w4 hm4 ht4; have hc4 := turned_chg (S := fun j => j = w.heap.size) ht4 rfl; have c4 : w4.cell? ⟨wr.heap.size, 0, none⟩ = some (.string (str x)) := (by rw [hc4.cell (p := ⟨wr.heap.size, 0, none⟩) (by go_simp) (by simp; omega)]; exact cell_of_row _ _ _ _ _ _ (heap_alloc_new _ _)); have HG := Lib.hid (kGet_put2 HM.out.1 x (Value.int .i64 1)); have HM4 := Lib.hid hm4; have HT4 := Lib.hid hc4; clear hm4 ht4 hc4; simp only [Act.put, List.setIfInBounds_toArray, List.set_cons_zero, List.set_cons_succ])
        | ((with_reducible refine L_look isS Try.underlying110 (.int .i64 0) zeroInt HM4.out (k := x) ?_ ?_ ?_ ?_); (focus rfl); (focus rfl); (focus exact HXL.out); rw [HG.out]; simp only [Act.put, List.setIfInBounds_toArray, List.set_cons_zero, List.set_cons_succ]))
      refine ⟨⟨k + 1, kPut x (.int .i64 1) M, by omega, by go_num, HM4.out, ?_, ?_, ?_⟩, by simp [intOf]; omega⟩
      · have := len_kPut x (Value.int .i64 1) M; omega
      · intro y hy
        exact kGet_put_ne (HNX.out y hy) (HNO.out y hy)
      · exact HB.out.trans (((Below.refl wr.heap.size wr).alloc (Nat.le_refl _) _ |>.mono HB.out.size).trans (HT4.out.below (by go_simp; omega) (by intro k hk; omega)))
    · obtain rfl : k = S.length := by omega
      go_wp2_with fail
      go_ret
      exact ⟨rfl, HB.out⟩
end Go.Proofs.Ytblmnaejkdkndaa
