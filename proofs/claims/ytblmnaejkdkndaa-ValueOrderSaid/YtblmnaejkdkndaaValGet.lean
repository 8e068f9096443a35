/- The walks over value.Get, of the bytes of one text and of none. -/
import Derived.Test.YtblmnaejkdkndaaValPut
set_option linter.unusedSimpArgs false
set_option linter.unusedVariables false
namespace Go.Proofs.Ytblmnaejkdkndaa
open Go.RowKit Wire

/-- a reader in memory: its bytes l are at p, and nothing was bad -/
def RdrAt (w : World) (rb : Nat) (p : Option Addr) (m c : Nat) (l : List UInt8) : Prop :=
  w.heap[rb]? = some (.cells #[.slice p m c, .bool false] 96 (0, 0)) ∧ Rd8 w p l ∧ m = l.length ∧ m ≤ c
theorem RdrAt.below {w w' : World} {rb : Nat} {p : Option Addr} {m c : Nat} {l : List UInt8} (h : RdrAt w rb p m c l) (hb : Below w.heap.size w w') : RdrAt w' rb p m c l :=
  ⟨by rw [hb.block rb (Array.getElem?_eq_some_iff.1 h.1).1]; exact h.1, h.2.1.below hb, h.2.2⟩
theorem rd8_set {w : World} {rb : Nat} {q p : Option Addr} {m c i : Nat} {b : Bool} {l : List UInt8} {t : TypeId} (h : w.heap[rb]? = some (.cells #[.slice p m c, .bool b] t (0, 0))) (hr : Rd8 w q l) (u : Value) : Rd8 (w.setCell ⟨rb, i, none⟩ u) q l := by
  rcases hr with h0 | ⟨b', o, hp, hc⟩
  · exact .inl h0
  · by_cases hl : by8 l = []
    · exact .inl hl
    · refine .inr ⟨b', o, hp, fun j hj => ?_⟩
      have h1 := hc j hj
      have hne : b' ≠ rb := by
        intro e; subst e
        simp only [World.cell?, h] at h1
        have hj' : j < l.length := by rw [by8_len] at hj; exact hj
        have h2 := by8_get l j hj'
        rw [List.getElem?_eq_getElem hj] at h2
        rw [Option.some.inj h2] at h1
        rcases hk : o + j with _ | _ | k
        · rw [hk] at h1; simp at h1
        · rw [hk] at h1; simp at h1
        · rw [hk] at h1; simp at h1
      rw [← h1, setCell_eq_setRow w rb i _ t (0, 0) u h]
      exact cell_setRow_other w rb _ _ (by simpa using hne)
set_option maxHeartbeats 1000000 in
set_option maxRecDepth 20000 in
theorem take_ok (rb m c n : Nat) (p : Option Addr) (l : List UInt8) (w : World) (hr : RdrAt w rb p m c l) (hn : n ≤ m) :
    Calls Try.prog 42 #[.pointer (some ⟨rb, 0, none⟩), .int .i64 (n : Int)] w fun e w' => e = .returned (.slice p n c) ∧ RdrAt w' rb (shift p n c 1) (m - n) (c - n) (l.drop n) ∧ Rd8 w' p (l.take n) ∧ Chg (· = rb) w w' := by
  have k0 : w.cell? ⟨rb, 0, none⟩ = some (.slice p m c) := by simp [World.cell?, hr.1]
  have k1 : w.cell? ⟨rb, 1, none⟩ = some (.bool false) := by simp [World.cell?, hr.1]
  have kf : w.frozen? ⟨rb, 0, none⟩ = false := by simp [World.frozen?, hr.1]
  have i1 : decide ((m : Int) < (n : Int)) = false := by have := hr.2.2; rw [decide_eq_false_iff_not]; omega
  have hm := hr.2.2.2
  have s1 := fun u => run_slice_to slB (P := Try.prog) u p m c n (by omega)
  have s2 := fun u => run_slice_from slB (P := Try.prog) u p m c n hn
  have HR := Lib.hid hr
  clear hr
  go_enter Try.func42, Try.ntmps42
  go_wp2_with fail
  go_ret
  have h := HR.out
  have hd := h.2.1.shift (l := n) (sz := 1) (n := m) (cap := c) (by have := h.2.2; rw [by8_len]; omega) hm
  rw [Nat.mul_one, ← by8_drop] at hd
  refine ⟨rfl, ⟨?_, rd8_set h.1 hd _, by have := h.2.2; rw [List.length_drop]; omega, by omega⟩, rd8_set h.1 (h.2.1.take n) _, Chg.setCell w _ _ (by simp)⟩
  have := setCell_row h.1 0 (.slice (shift p n c 1) (m - n) (c - n))
  simpa using this
set_option maxHeartbeats 1000000 in
set_option maxRecDepth 20000 in
theorem take_none (rb : Nat) (w : World) (hr : w.heap[rb]? = some (.cells #[.slice none 0 0, .bool false] 96 (0, 0))) :
    Calls Try.prog 42 #[.pointer (some ⟨rb, 0, none⟩), .int .i64 1] w fun e w' => ∃ q, e = .returned (.slice (some ⟨q, 0, none⟩) 1 1) ∧ w'.cell? ⟨q, 0, none⟩ = some (.int .u8 0) ∧ w'.heap[rb]? = some (.cells #[.slice none 0 0, .bool true] 96 (0, 0)) ∧ Chg (· = rb) w w' := by
  have k0 : w.cell? ⟨rb, 0, none⟩ = some (.slice none 0 0) := by simp [World.cell?, hr]
  have k1 : w.cell? ⟨rb, 1, none⟩ = some (.bool false) := by simp [World.cell?, hr]
  have kf : w.frozen? ⟨rb, 1, none⟩ = false := by simp [World.frozen?, hr]
  have hmk : ∀ u, (Instr.makeSlice 31 (.int .i64 1) (.int .i64 1)).run Try.prog u = .ok (.slice (some ⟨u.heap.size, 0, none⟩) 1 1) (u.alloc (.cells #[.int .u8 0] 5)) := fun u => run_make_bytes u 1 (by omega)
  have HR := Lib.hid hr
  clear hr
  go_enter Try.func42, Try.ntmps42
  go_wp2_with fail
  go_ret
  have h2 := setCell_row HR.out 1 (.bool true)
  simp at h2
  refine ⟨w.heap.size, rfl, ?_, ?_, (Chg.setCell (S := (· = rb)) w ⟨rb, 1, none⟩ (.bool true) (by simp)).trans (Chg.alloc (S := (· = rb)) _ _) (fun k _ h => h)⟩
  · have h3 := heap_alloc_new (w.setCell ⟨rb, 1, none⟩ (.bool true)) (.cells #[.int .u8 0] 5 (0, 0))
    have e3 : (w.setCell ⟨rb, 1, none⟩ (.bool true)).heap.size = w.heap.size := by go_simp
    rw [e3] at h3
    rw [cell_of_row _ _ _ _ _ _ h3]; rfl
  · rw [heap_alloc_old _ _ (by simpa using (Array.getElem?_eq_some_iff.1 HR.out).1)]
    exact h2
set_option maxHeartbeats 1000000 in
set_option maxRecDepth 20000 in
theorem short_ok (rb m c : Nat) (p : Option Addr) (l : List UInt8) (w : World) (hr : RdrAt w rb p m c l) (hn : 4 ≤ m) (k : Nat) (hk : get (l.take 4) = k) :
    Calls Try.prog 44 #[.pointer (some ⟨rb, 0, none⟩)] w fun e w' => e = .returned (.int .i64 (k : Int)) ∧ RdrAt w' rb (shift p 4 c 1) (m - 4) (c - 4) (l.drop 4) ∧ Chg (· = rb) w w' := by
  have hlen : (l.take 4).length = 4 := by have := hr.2.2; rw [List.length_take]; omega
  have hlt : k < 4294967296 := by
    have h := get_lt (l.take 4)
    rw [hk, hlen] at h
    have : 256 ^ 4 = 4294967296 := by decide
    omega
  have hwr : IntKind.i64.wrap (k : Int) = (k : Int) := IntWalk.i64_in _ (by omega)
  have hc4 : 4 ≤ c := by have := hr.2.2; omega
  have HT := Lib.hid (take_ok rb m c 4 p l w hr hn)
  have HK := Lib.hid hk
  have HLN := Lib.hid hlen
  clear hr hk hlen
  go_enter Try.func44, Try.ntmps44
  go_wp2_with fail
  go_fit HT.out
  rintro e w1 ⟨rfl, hr1, hd1, hb1⟩
  have HG := Lib.hid (get4 p 4 c (l.take 4) w1 hd1 HLN.out.symm (by omega) hc4)
  have HR1 := Lib.hid hr1
  have HB1 := Lib.hid hb1
  clear hr1 hd1 hb1
  go_wp2_with fail
  go_fit HG.out
  rintro e w2 ⟨rfl, rfl⟩
  rw [List.take_of_length_le (by have := HLN.out; omega), HK.out]
  go_wp2_with fail
  go_ret
  exact ⟨rfl, HR1.out, HB1.out⟩
set_option maxHeartbeats 1000000 in
set_option maxRecDepth 20000 in
theorem text_ok (rb m c : Nat) (p : Option Addr) (l x : List UInt8) (w : World) (hr : RdrAt w rb p m c l) (k : Nat) (hl : l = beB k 4 ++ x) (hx : x.length = k) (hk : k ≤ 4096) :
    Calls Try.prog 43 #[.pointer (some ⟨rb, 0, none⟩)] w fun e w' => e = .returned (.string (str x)) ∧ (∃ q c', RdrAt w' rb q 0 c' []) ∧ Chg (· = rb) w w' := by
  have hm : m = 4 + k := by rw [hr.2.2.1, hl, List.length_append, beB_len, hx]
  have ht : l.take 4 = beB k 4 := by rw [hl, List.take_left' (beB_len k 4)]
  have hd : l.drop 4 = x := by rw [hl, List.drop_left' (beB_len k 4)]
  have hg : get (l.take 4) = k := by
    rw [ht, get_beB]
    have : 256 ^ 4 = 4294967296 := by decide
    omega
  have HS := Lib.hid (short_ok rb m c p l w hr (by omega) k hg)
  have HD := Lib.hid hd
  have HX := Lib.hid hx
  have HM := Lib.hid hm
  have i1 : decide ((k : Int) > 4096) = false := by rw [decide_eq_false_iff_not]; omega
  clear hr hl hx hg ht hd hm
  go_enter Try.func43, Try.ntmps43
  go_wp2_with fail
  go_fit HS.out
  rintro e w1 ⟨rfl, hr1, hb1⟩
  rw [HD.out] at hr1
  have k1 : w1.cell? ⟨rb, 1, none⟩ = some (.bool false) := by simp [World.cell?, hr1.1]
  have HT := Lib.hid (take_ok rb (m - 4) (c - 4) k (shift p 4 c 1) x w1 hr1 (by have := HM.out; omega))
  have HB1 := Lib.hid hb1
  clear hr1 hb1
  go_wp2_with fail
  go_fit HT.out
  rintro e w2 ⟨rfl, hr2, hd2, hb2⟩
  rw [List.take_of_length_le (by have := HX.out; omega)] at hd2
  have HR2 := Lib.hid hr2
  have HD2 := Lib.hid hd2
  have HB2 := Lib.hid hb2
  clear hr2 hd2 hb2
  go_wp2_with (((with_reducible refine L_b2s slB isB isS HD2.out ?_ ?_ ?_); (focus rfl); (focus exact ⟨_, _, rfl, HX.out.symm⟩); simp only [Act.put, List.setIfInBounds_toArray, List.set_cons_zero, List.set_cons_succ]))
  go_ret
  have h2 := HR2.out
  rw [List.drop_of_length_le (by have := HX.out; omega)] at h2
  have e0 : m - 4 - k = 0 := by have := HM.out; omega
  rw [e0] at h2
  exact ⟨rfl, ⟨_, _, h2⟩, HB1.out.trans HB2.out (fun k _ h => h)⟩
end Go.Proofs.Ytblmnaejkdkndaa
