/- Plain words on CRC-32: the register's steps, with no program in sight. -/
import Derived.Test.YtfeefpaclaonfaaRRows
set_option linter.unusedSimpArgs false
namespace Go.Proofs.YtfeefpaclaonfaaR.Crc

/-- one bit of the register -/
def sh (r : BitVec 32) : BitVec 32 := if r &&& 1#32 = 1#32 then (r >>> 1) ^^^ 0xEDB88320#32 else r >>> 1

def shN : Nat → BitVec 32 → BitVec 32
  | 0, r => r
  | k + 1, r => sh (shN k r)

/-- one byte -/
def stepB (r : BitVec 32) (c : UInt8) : BitVec 32 := shN 8 (r ^^^ c.toBitVec.setWidth 32)

/-- the sum going on -/
def upd (c : BitVec 32) (l : List UInt8) : BitVec 32 := ~~~ (l.foldl stepB (~~~ c))

theorem and_one (r : BitVec 32) : (r &&& 1#32 = 1#32) ↔ r.getLsbD 0 = true := by
  constructor
  · intro h
    have := congrArg (fun x => x.getLsbD 0) h
    simpa using this
  · intro h
    apply BitVec.eq_of_getLsbD_eq
    intro i hi
    by_cases h0 : i = 0
    · subst h0; simp [h]
    · simp [h0]

theorem sh_eq (r : BitVec 32) : sh r = (r >>> 1) ^^^ (if r.getLsbD 0 then 0xEDB88320#32 else 0#32) := by
  unfold sh
  by_cases h : r.getLsbD 0 = true
  · rw [if_pos ((and_one r).2 h), if_pos h]
  · rw [if_neg (fun e => h ((and_one r).1 e)), if_neg h]; simp

theorem sh_xor (a b : BitVec 32) : sh (a ^^^ b) = sh a ^^^ sh b := by
  rw [sh_eq, sh_eq, sh_eq, BitVec.ushiftRight_xor_distrib, BitVec.getLsbD_xor]
  cases a.getLsbD 0 <;> cases b.getLsbD 0 <;> simp only [Bool.xor_false, Bool.xor_true, Bool.not_true, Bool.not_false, if_true, if_false, Bool.false_eq_true, BitVec.xor_zero]
  · rw [BitVec.xor_assoc]
  · rw [BitVec.xor_assoc, BitVec.xor_assoc, BitVec.xor_comm (b >>> 1)]
  · rw [BitVec.xor_assoc, BitVec.xor_comm (b >>> 1), ← BitVec.xor_assoc 0xEDB88320#32, BitVec.xor_self, BitVec.zero_xor]

theorem shN_xor (k : Nat) (a b : BitVec 32) : shN k (a ^^^ b) = shN k a ^^^ shN k b := by
  induction k with
  | zero => rfl
  | succ k ih => simp only [shN, ih, sh_xor]

theorem sh_zero : sh 0#32 = 0#32 := by decide
theorem shN_zero (k : Nat) : shN k 0#32 = 0#32 := by
  induction k with
  | zero => rfl
  | succ k ih => simp only [shN, ih, sh_zero]

theorem shN_add (j k : Nat) (r : BitVec 32) : shN (j + k) r = shN j (shN k r) := by
  induction j with
  | zero => simp [shN]
  | succ j ih => rw [Nat.succ_add]; simp only [shN, ih]

theorem shN_low (k : Nat) (v : BitVec 32) (h : ∀ i, i < k → v.getLsbD i = false) : shN k v = v >>> k := by
  induction k with
  | zero => simp [shN]
  | succ k ih =>
    simp only [shN]
    rw [ih (fun i hi => h i (by omega)), sh_eq, BitVec.getLsbD_ushiftRight, Nat.add_zero, h k (by omega)]
    simp [BitVec.shiftRight_add]

/-- the table's way: a byte at once -/
theorem stepB_table (r : BitVec 32) (x : UInt8) : stepB r x = (r >>> 8) ^^^ stepB 0#32 (UInt8.ofNat (r.toNat % 256) ^^^ x) := by
  unfold stepB
  have e : r ^^^ x.toBitVec.setWidth 32 = (r &&& 0xFFFFFF00#32) ^^^ (0#32 ^^^ (UInt8.ofNat (r.toNat % 256) ^^^ x).toBitVec.setWidth 32) := by
    apply BitVec.eq_of_getLsbD_eq
    intro i hi
    have hm : (0xFFFFFF00#32).getLsbD i = decide (8 ≤ i) := by
      have : ∀ i : Fin 32, (0xFFFFFF00#32).getLsbD i = decide (8 ≤ i.val) := by decide
      exact this ⟨i, hi⟩
    have ho : (UInt8.ofNat (r.toNat % 256)).toBitVec.getLsbD i = (r.getLsbD i && decide (i < 8)) := by
      show (BitVec.ofNat 8 (r.toNat % 256)).getLsbD i = _
      have : BitVec.ofNat 8 (r.toNat % 256) = r.setWidth 8 := by
        apply BitVec.eq_of_toNat_eq; simp [BitVec.toNat_setWidth]
      rw [this, BitVec.getLsbD_setWidth, Bool.and_comm]
    simp only [BitVec.getLsbD_xor, BitVec.getLsbD_and, BitVec.getLsbD_setWidth, hm, UInt8.toBitVec_xor, ho, BitVec.getLsbD_zero, Bool.false_xor, hi, decide_true, Bool.true_and]
    by_cases h8 : i < 8
    · simp [h8, show ¬ 8 ≤ i by omega]
    · have : x.toBitVec.getLsbD i = false := BitVec.getLsbD_of_ge _ _ (by omega)
      simp [h8, show 8 ≤ i by omega, this]
  rw [e, shN_xor, shN_low 8 (r &&& 0xFFFFFF00#32)]
  · congr 1
    apply BitVec.eq_of_getLsbD_eq
    intro i hi
    simp only [BitVec.getLsbD_ushiftRight, BitVec.getLsbD_and]
    by_cases h : 8 + i < 32
    · have : ∀ i : Fin 32, (0xFFFFFF00#32).getLsbD i = decide (8 ≤ i.val) := by decide
      have := this ⟨8 + i, h⟩
      simp at this
      simp [this]
    · rw [BitVec.getLsbD_of_ge r _ (by omega)]; simp
  · intro i hi
    have : ∀ i : Fin 32, (0xFFFFFF00#32).getLsbD i = decide (8 ≤ i.val) := by decide
    have := this ⟨i, by omega⟩
    simp only [BitVec.getLsbD_and]
    simp at this
    rw [this]; simp [show ¬ 8 ≤ i by omega]

/-! ### The xor of three texts -/
/-- the xor of three texts, their first n places -/
def xor3 (la lb lc : List UInt8) (n : Nat) : List UInt8 := (List.range n).map fun i => la.getD i 0 ^^^ lb.getD i 0 ^^^ lc.getD i 0
theorem xor3_succ (la lb lc : List UInt8) (n : Nat) : xor3 la lb lc (n + 1) = xor3 la lb lc n ++ [la.getD n 0 ^^^ lb.getD n 0 ^^^ lc.getD n 0] := by
  simp [xor3, List.range_succ]
theorem xor3_len (la lb lc : List UInt8) (n : Nat) : (xor3 la lb lc n).length = n := by simp [xor3]

theorem stepB_xor (r s : BitVec 32) (x y : UInt8) : stepB (r ^^^ s) (x ^^^ y) = stepB r x ^^^ stepB s y := by
  unfold stepB
  rw [← shN_xor]
  congr 1
  rw [UInt8.toBitVec_xor]
  apply BitVec.eq_of_getLsbD_eq
  intro i hi
  simp only [BitVec.getLsbD_xor, BitVec.getLsbD_setWidth, hi, decide_true, Bool.true_and]
  cases r.getLsbD i <;> cases s.getLsbD i <;> cases x.toBitVec.getLsbD i <;> cases y.toBitVec.getLsbD i <;> rfl

theorem fold_xor3 (la lb lc : List UInt8) : ∀ n, n ≤ la.length → n ≤ lb.length → n ≤ lc.length → ∀ r s t : BitVec 32,
    (xor3 la lb lc n).foldl stepB (r ^^^ s ^^^ t) = (la.take n).foldl stepB r ^^^ (lb.take n).foldl stepB s ^^^ (lc.take n).foldl stepB t
  | 0, _, _, _, r, s, t => by simp [xor3]
  | n + 1, h1, h2, h3, r, s, t => by
    rw [xor3_succ, List.foldl_append, fold_xor3 la lb lc n (by omega) (by omega) (by omega)]
    rw [List.take_succ_eq_append_getElem (by omega : n < la.length), List.take_succ_eq_append_getElem (by omega : n < lb.length), List.take_succ_eq_append_getElem (by omega : n < lc.length)]
    simp only [List.foldl_append, List.foldl_cons, List.foldl_nil]
    rw [stepB_xor, stepB_xor]
    simp [List.getD, show n < la.length by omega, show n < lb.length by omega, show n < lc.length by omega]

theorem upd_xor3 (la lb lc : List UInt8) (n : Nat) (h1 : n ≤ la.length) (h2 : n ≤ lb.length) (h3 : n ≤ lc.length) :
    upd 0#32 (xor3 la lb lc n) = upd 0#32 (la.take n) ^^^ upd 0#32 (lb.take n) ^^^ upd 0#32 (lc.take n) := by
  unfold upd
  have h := fold_xor3 la lb lc n h1 h2 h3 (~~~ 0#32) (~~~ 0#32) (~~~ 0#32)
  have e : (~~~ 0#32) ^^^ (~~~ 0#32) ^^^ (~~~ 0#32) = ~~~ 0#32 := by decide
  rw [e] at h
  rw [h]
  apply BitVec.eq_of_getLsbD_eq
  intro i hi
  simp only [BitVec.getLsbD_xor, BitVec.getLsbD_not, hi, decide_true, Bool.true_and]
  cases ((la.take n).foldl stepB (~~~ 0#32)).getLsbD i <;> cases ((lb.take n).foldl stepB (~~~ 0#32)).getLsbD i <;> cases ((lc.take n).foldl stepB (~~~ 0#32)).getLsbD i <;> rfl

end Go.Proofs.YtfeefpaclaonfaaR.Crc
