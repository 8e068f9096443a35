/- The walks over package wire. -/
import Derived.Test.YtblmnaejkdkndaaWirePlain
import Derived.Test.YtblmnaejkdkndaaBase
set_option linter.unusedSimpArgs false
set_option linter.unusedVariables false
namespace Go.Proofs.Ytblmnaejkdkndaa
open Go.RowKit Wire

theorem shr_byte (x i : Nat) : (x : Int) / (2 : Int) ^ (8 * i) % 256 = ((UInt8.ofNat (x / 256 ^ i)).toNat : Int) := by
  have e : (2 : Int) ^ (8 * i) = ((256 ^ i : Nat) : Int) := by rw [Int.pow_mul]; simp
  rw [e]; simp

theorem get_step (g : Nat) (x : UInt8) (hg : g < 72057594037927936) : bits .or .u64 (IntKind.u64.wrap ((g : Int) * 256)) (x.toNat : Int) = ((g * 256 + x.toNat : Nat) : Int) := by
  have hx := x.toNat_lt
  have e : IntKind.u64.wrap ((g : Int) * 256) = ((g * 256 : Nat) : Int) := by rw [IntWalk.u64_in _ (by omega)]; omega
  rw [e, u64_or_nat _ _ (by omega) (by omega)]
  have h := Nat.shiftLeft_add_eq_or_of_lt (i := 8) (b := x.toNat) (by omega) g
  rw [Nat.shiftLeft_eq] at h
  rw [← h]

/-- what a call that puts m cells behind an owned slice leaves -/
def Puts (base : Nat) (e0 : TypeId) (v : Value) (n : Nat) (xs : List Value) (w : World) (e : Ending) (w' : World) : Prop :=
  ∃ v', e = .returned v' ∧ OwnS w' base e0 1 v' n xs ∧ App w w' v v'

set_option maxRecDepth 20000 in
set_option maxHeartbeats 400000 in
theorem put_any (base : Nat) (v : Value) (n : Nat) (xs : List Value) (x size : Nat) (w : World) (ho : OwnS w base 5 1 v n xs) (hx : x < 18446744073709551616) (hs : size ≤ 8) (hn : n ≤ 1099511627776) (hb : base ≤ w.heap.size) :
    Calls Try.prog 61 #[v, .int .u64 (x : Int), .int .i64 (size : Int)] w (Puts base 5 v (n + size) (xs ++ by8 (beB x size)) w) := by
  have HO := Lib.hid ho
  have HX := Lib.hid hx
  clear ho hx
  go_enter Try.func61, Try.ntmps61
  go_wp2_with fail
  go_loopw [0, 7] (fun b i wr => ∃ j : Nat, j ≤ size ∧ i = .int .i64 ((size : Int) - 1 - j) ∧ OwnS wr base 5 1 b (n + j) (xs ++ by8 ((beB x size).take j)) ∧ App w wr v b) (fun _ i _ => (intOf i + 1).toNat)
  case atStart => exact ⟨0, by omega, by go_num, by simpa [by8] using HO.out, App.refl _ _⟩
  case round =>
    obtain ⟨j, hj, rfl, ho, ha⟩ := hrel
    by_cases hlt : j < size
    · have hbw : base ≤ wr.heap.size := Nat.le_trans hb ha.by_.size
      have H := Lib.hid ho
      have HA := Lib.hid ha
      clear ho ha
      go_wp2_with ((with_reducible refine L_appR slB Try.underlying31 (H.out.alloc _) (Rd.one _ _ _) (int_one _ _) rfl ?_ ?_ ?_ ?_ ?_); (focus rfl); (focus rfl); (focus exact ⟨_, rfl⟩); (focus exact ⟨room1 (by omega), by omega, by simp; omega⟩); intro v1 w1 ho1 hg1 hk1 hn1; clear hn1 hk1; simp only [Act.put, List.setIfInBounds_toArray, List.set_cons_zero, List.set_cons_succ])
      refine ⟨⟨j + 1, by omega, by go_num, ?_, HA.out.trans ((App.of_below (grewA (Below.refl _ _) _) _).trans hg1)⟩, by simp [intOf]; omega⟩
      rw [beB_take x size j hlt, by8_append, ← List.append_assoc]
      have e1 : by8 [UInt8.ofNat (x / 256 ^ (size - 1 - j))] = [Value.int .u8 ((x : Int) / (2 : Int) ^ (8 * (size - 1 - j)) % 256)] := by
        rw [shr_byte]; rfl
      rw [e1]
      exact ho1
    · obtain rfl : j = size := by omega
      have H := Lib.hid ho
      have HA := Lib.hid ha
      clear ho ha
      go_wp2
      go_ret
      refine ⟨u0, rfl, ?_, HA.out⟩
      have h := H.out
      rw [List.take_of_length_le (by rw [beB_len]; exact Nat.le_refl _)] at h
      exact h

theorem put4 (base : Nat) (v : Value) (n : Nat) (xs : List Value) (x : Nat) (w : World) (ho : OwnS w base 5 1 v n xs) (hx : x < 18446744073709551616) (hn : n ≤ 1099511627776) (hb : base ≤ w.heap.size) :
    Calls Try.prog 61 #[v, .int .u64 (x : Int), .int .i64 4] w (Puts base 5 v (n + 4) (xs ++ by8 (beB x 4)) w) :=
  put_any base v n xs x 4 w ho hx (by omega) hn hb
theorem put8 (base : Nat) (v : Value) (n : Nat) (xs : List Value) (x : Nat) (w : World) (ho : OwnS w base 5 1 v n xs) (hx : x < 18446744073709551616) (hn : n ≤ 1099511627776) (hb : base ≤ w.heap.size) :
    Calls Try.prog 61 #[v, .int .u64 (x : Int), .int .i64 8] w (Puts base 5 v (n + 8) (xs ++ by8 (beB x 8)) w) :=
  put_any base v n xs x 8 w ho hx (by omega) hn hb

set_option maxRecDepth 20000 in
set_option maxHeartbeats 400000 in
theorem four_any (base : Nat) (v : Value) (n : Nat) (xs : List Value) (k : Nat) (w : World) (ho : OwnS w base 5 1 v n xs) (hk : (k : Int) ≤ 9223372036854775807) (hn : n ≤ 1099511627776) (hb : base ≤ w.heap.size) :
    Calls Try.prog 40 #[v, .int .i64 (k : Int)] w (Puts base 5 v (n + 4) (xs ++ by8 (beB k 4)) w) := by
  have HP := Lib.hid (put4 base v n xs k w ho (by omega) hn hb)
  clear ho
  go_enter Try.func40, Try.ntmps40
  go_wp2_with fail
  go_fit HP.out
  rintro e w1 ⟨v1, rfl, ho1, ha1⟩
  have H1 := Lib.hid ho1
  have H2 := Lib.hid ha1
  clear ho1 ha1
  go_wp2_with fail
  go_ret
  exact ⟨v1, rfl, H1.out, H2.out⟩

set_option maxRecDepth 20000 in
set_option maxHeartbeats 400000 in
theorem get_any (p : Option Addr) (n cap : Nat) (l : List UInt8) (size : Nat) (w : World) (hr : Rd8 w p l) (hn : n = l.length) (hs : size ≤ n) (h8 : size ≤ 8) (hc : n ≤ cap) :
    Calls Try.prog 62 #[.slice p n cap, .int .i64 (size : Int)] w fun e w' => e = .returned (.int .u64 ((get (l.take size) : Nat) : Int)) ∧ w = w' := by
  subst hn
  have HR := Lib.hid hr
  clear hr
  have hsl := run_slice_to slB (P := Try.prog) w p l.length cap size (by omega)
  go_enter Try.func62, Try.ntmps62
  go_wp2_with fail
  go_loop [5, 12] (fun v i => ∃ k : Nat, k ≤ size ∧ i = .int .i64 k ∧ v = .int .u64 ((get (l.take k) : Nat) : Int)) (fun _ i => size - (intOf i).toNat)
  case atStart => exact ⟨0, by omega, rfl, rfl⟩
  case round =>
    obtain ⟨k, hk, rfl, rfl⟩ := hrel
    by_cases hlt : k < size
    · obtain ⟨b, o, rfl, hc⟩ := HR.out.at (k := k) (by omega)
      have hck := hc k (by omega)
      clear hc
      have HS : Hid (get (l.take (k + 1)) = get (l.take k) * 256 + (l[k]'(by omega)).toNat) := by
        unfold Hid
        rw [List.take_succ_eq_append_getElem (by omega), get_snoc]
      generalize l[k]'(by omega) = x at hck HS
      have hx : (x.toNat : Int) ≤ 255 := by have := x.toNat_lt; omega
      have hg7 : get (l.take k) < 72057594037927936 := by
        have h1 := get_lt (l.take k)
        have h2 : 256 ^ (l.take k).length ≤ 256 ^ 7 := Nat.pow_le_pow_right (by omega) (by rw [List.length_take]; omega)
        have h3 : 256 ^ 7 = 72057594037927936 := by decide
        omega
      have HG := Lib.hid (get_step (get (l.take k)) x hg7)
      clear hg7
      generalize get (l.take k) = g at HS HG ⊢
      go_wp2
      exact ⟨⟨k + 1, by omega, by go_num, by rw [HG.out, HS.out]⟩, by simp [intOf]; omega⟩
    · obtain rfl : k = size := by omega
      go_wp2
      go_ret
      exact ⟨rfl, rfl⟩
theorem get4 (p : Option Addr) (n cap : Nat) (l : List UInt8) (w : World) (hr : Rd8 w p l) (hn : n = l.length) (hs : 4 ≤ n) (hc : n ≤ cap) :
    Calls Try.prog 62 #[.slice p n cap, .int .i64 4] w fun e w' => e = .returned (.int .u64 ((get (l.take 4) : Nat) : Int)) ∧ w = w' :=
  get_any p n cap l 4 w hr hn hs (by omega) hc
theorem get8 (p : Option Addr) (n cap : Nat) (l : List UInt8) (w : World) (hr : Rd8 w p l) (hn : n = l.length) (hs : 8 ≤ n) (hc : n ≤ cap) :
    Calls Try.prog 62 #[.slice p n cap, .int .i64 8] w fun e w' => e = .returned (.int .u64 ((get (l.take 8) : Nat) : Int)) ∧ w = w' :=
  get_any p n cap l 8 w hr hn hs (by omega) hc
end Go.Proofs.Ytblmnaejkdkndaa
