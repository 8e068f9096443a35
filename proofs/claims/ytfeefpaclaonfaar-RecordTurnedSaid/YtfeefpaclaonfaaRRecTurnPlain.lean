/- A bit that is turned behind a frame's length makes it no frame. -/
import Derived.Test.YtfeefpaclaonfaaRRecPlain
set_option linter.unusedSimpArgs false
namespace Go.Proofs.YtfeefpaclaonfaaR.Rec
open Crc Wire

theorem turn_right (h x : List UInt8) (j : Nat) : turnBit (h ++ x) (8 * h.length + j) = h ++ turnBit x j := by
  have e1 : (8 * h.length + j) / 8 = h.length + j / 8 := by omega
  have e2 : (8 * h.length + j) % 8 = j % 8 := by omega
  unfold turnBit
  rw [e1, e2, List.set_append_right _ _ (by omega)]
  simp only [Nat.add_sub_cancel_left]
  congr 2
  rw [List.getD_eq_getElem?_getD, List.getD_eq_getElem?_getD, List.getElem?_append_right (by omega), Nat.add_sub_cancel_left]
theorem turn_left (x y : List UInt8) (j : Nat) (hj : j < 8 * x.length) : turnBit (x ++ y) j = turnBit x j ++ y := by
  have h : j / 8 < x.length := by omega
  unfold turnBit
  rw [List.set_append_left _ _ h]
  congr 2
  simp [List.getD_eq_getElem?_getD, List.getElem?_append_left h]
theorem sh1_ne (n : Nat) : shN n 1#32 ≠ 0#32 := fun h => by
  have := shN_ne n _ h
  exact absurd this (by decide)
theorem xor_self_ne (a s : BitVec 32) (hs : s ≠ 0#32) : a ^^^ s ≠ a := fun h => hs (by
  have h2 : a ^^^ (a ^^^ s) = a ^^^ a := by rw [h]
  rw [← BitVec.xor_assoc, BitVec.xor_self, BitVec.zero_xor] at h2
  exact h2)
theorem turn_ne (l : List UInt8) (k : Nat) (hk : k < 8 * l.length) : turnBit l k ≠ l := fun h => by
  have h1 := fold_turn l k hk 0#32
  rw [h] at h1
  exact xor_self_ne _ _ (sh1_ne _) h1.symm
theorem upd_turn (c : BitVec 32) (l : List UInt8) (k : Nat) (hk : k < 8 * l.length) : upd c (turnBit l k) ≠ upd c l := fun h => by
  unfold upd at h
  rw [fold_turn l k hk] at h
  exact xor_self_ne _ _ (sh1_ne _) (BitVec.not_inj.1 h)
theorem one_parts (h c l r : List UInt8) (hh : h.length = 4) (hc : c.length = 4) (hg : get h = l.length) (hn : upd (upd 0#32 h) l ≠ BitVec.ofNat 32 (get c)) : one (h ++ (c ++ (l ++ r))) = none := by
  have e1 : (h ++ (c ++ (l ++ r))).take 4 = h := List.take_left' hh
  have e2 : ((h ++ (c ++ (l ++ r))).drop 4).take 4 = c := by rw [List.drop_left' hh, List.take_left' hc]
  have e3 : (h ++ (c ++ (l ++ r))).drop 8 = l ++ r := by
    rw [← List.append_assoc, List.drop_left' (by rw [List.length_append, hh, hc])]
  unfold one
  rw [e1, e2, e3, hg, List.take_left]
  split
  · rfl
  · rw [if_pos (.inr (.inr hn))]
/-- the turned frame is none -/
theorem one_turn (l r : List UInt8) (hl : l.length ≤ 1048576) (j : Nat) (hj : j < 8 * (l.length + 4)) : one (turnBit (frame l ++ r) (32 + j)) = none := by
  have g : get (beB l.length 4) = l.length := by
    rw [get_beB]; exact Nat.mod_eq_of_lt (by have : 256 ^ 4 = 4294967296 := by decide
                                             omega)
  have gc : BitVec.ofNat 32 (get (beB (upd (upd 0#32 (beB l.length 4)) l).toNat 4)) = upd (upd 0#32 (beB l.length 4)) l := by
    rw [get_beB]
    apply BitVec.eq_of_toNat_eq
    rw [BitVec.toNat_ofNat]
    have := (upd (upd 0#32 (beB l.length 4)) l).isLt
    have h256 : 256 ^ 4 = 2 ^ 32 := by decide
    rw [h256, Nat.mod_mod, Nat.mod_eq_of_lt this]
  have hx : frame l ++ r = beB l.length 4 ++ (beB (upd (upd 0#32 (beB l.length 4)) l).toNat 4 ++ (l ++ r)) := by
    unfold frame; rw [List.append_assoc, List.append_assoc]
  generalize hcr : beB (upd (upd 0#32 (beB l.length 4)) l).toNat 4 = c at *
  have hc : c.length = 4 := by rw [← hcr, beB_len]
  have e32 : turnBit (frame l ++ r) (32 + j) = beB l.length 4 ++ turnBit (c ++ (l ++ r)) j := by
    have h := turn_right (beB l.length 4) (c ++ (l ++ r)) j
    rw [beB_len] at h
    rw [hx]; exact h
  rw [e32]
  by_cases h32 : j < 32
  · rw [turn_left c (l ++ r) j (by omega)]
    refine one_parts _ _ l r (beB_len _ _) (by rw [turnBit_len, hc]) g (fun h => ?_)
    have hlt := get_lt (turnBit c j)
    rw [turnBit_len, hc, show (256 : Nat) ^ 4 = 2 ^ 32 by decide] at hlt
    have h2 := congrArg BitVec.toNat h
    rw [BitVec.toNat_ofNat, Nat.mod_eq_of_lt hlt] at h2
    have h3 := beB_get_self (turnBit c j)
    rw [turnBit_len, hc, ← h2, hcr] at h3
    exact turn_ne c j (by omega) h3.symm
  · obtain ⟨k, rfl⟩ : ∃ k, j = 8 * c.length + k := ⟨j - 32, by omega⟩
    rw [turn_right c (l ++ r) k, turn_left l r k (by omega)]
    refine one_parts _ _ (turnBit l k) r (beB_len _ _) hc (by rw [turnBit_len, g]) (fun h => ?_)
    rw [gc] at h
    exact upd_turn _ l k (by omega) h
/-- so what is told ends ahead of it -/
theorem scan_turn (L : List (List UInt8)) (hL : ∀ l ∈ L, l.length ≤ 1048576) (l r : List UInt8) (hl : l.length ≤ 1048576) (j : Nat) (hj : j < 8 * (l.length + 4)) :
    scan (turnBit (frames L ++ (frame l ++ r)) (8 * (frames L).length + (32 + j))) = (L, (frames L).length) := by
  rw [turn_right, scan_frames L hL, scan_none (one_turn l r hl j hj), List.append_nil, Nat.add_zero]
end Go.Proofs.YtfeefpaclaonfaaR.Rec
