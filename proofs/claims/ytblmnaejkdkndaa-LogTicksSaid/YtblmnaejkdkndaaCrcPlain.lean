/- Plain words on CRC-32: the register's steps, with no program in sight. -/
import Derived.Test.YtblmnaejkdkndaaRows
set_option linter.unusedSimpArgs false
namespace Go.Proofs.Ytblmnaejkdkndaa.Crc

/-- one bit of the register -/
def sh (r : BitVec 32) : BitVec 32 := if r &&& 1#32 = 1#32 then (r >>> 1) ^^^ 0xEDB88320#32 else r >>> 1

def shN : Nat → BitVec 32 → BitVec 32
  | 0, r => r
  | k + 1, r => sh (shN k r)

/-- one byte -/
def stepB (r : BitVec 32) (c : UInt8) : BitVec 32 := shN 8 (r ^^^ c.toBitVec.setWidth 32)

/-- the sum going on -/
def upd (c : BitVec 32) (l : List UInt8) : BitVec 32 := ~~~ (l.foldl stepB (~~~ c))

theorem and_one (r : BitVec 32) : (r &&& 1#32 = 1#32) ↔ r.getLsbD 0 = true := by
  constructor
  · intro h
    have := congrArg (fun x => x.getLsbD 0) h
    simpa using this
  · intro h
    apply BitVec.eq_of_getLsbD_eq
    intro i hi
    by_cases h0 : i = 0
    · subst h0; simp [h]
    · simp [h0]

theorem sh_eq (r : BitVec 32) : sh r = (r >>> 1) ^^^ (if r.getLsbD 0 then 0xEDB88320#32 else 0#32) := by
  unfold sh
  by_cases h : r.getLsbD 0 = true
  · rw [if_pos ((and_one r).2 h), if_pos h]
  · rw [if_neg (fun e => h ((and_one r).1 e)), if_neg h]; simp

theorem sh_xor (a b : BitVec 32) : sh (a ^^^ b) = sh a ^^^ sh b := by
  rw [sh_eq, sh_eq, sh_eq, BitVec.ushiftRight_xor_distrib, BitVec.getLsbD_xor]
  cases a.getLsbD 0 <;> cases b.getLsbD 0 <;> simp only [Bool.xor_false, Bool.xor_true, Bool.not_true, Bool.not_false, if_true, if_false, Bool.false_eq_true, BitVec.xor_zero]
  · rw [BitVec.xor_assoc]
  · rw [BitVec.xor_assoc, BitVec.xor_assoc, BitVec.xor_comm (b >>> 1)]
  · rw [BitVec.xor_assoc, BitVec.xor_comm (b >>> 1), ← BitVec.xor_assoc 0xEDB88320#32, BitVec.xor_self, BitVec.zero_xor]

theorem shN_xor (k : Nat) (a b : BitVec 32) : shN k (a ^^^ b) = shN k a ^^^ shN k b := by
  induction k with
  | zero => rfl
  | succ k ih => simp only [shN, ih, sh_xor]

theorem sh_zero : sh 0#32 = 0#32 := by decide
theorem shN_zero (k : Nat) : shN k 0#32 = 0#32 := by
  induction k with
  | zero => rfl
  | succ k ih => simp only [shN, ih, sh_zero]

theorem shN_add (j k : Nat) (r : BitVec 32) : shN (j + k) r = shN j (shN k r) := by
  induction j with
  | zero => simp [shN]
  | succ j ih => rw [Nat.succ_add]; simp only [shN, ih]

theorem shN_low (k : Nat) (v : BitVec 32) (h : ∀ i, i < k → v.getLsbD i = false) : shN k v = v >>> k := by
  induction k with
  | zero => simp [shN]
  | succ k ih =>
    simp only [shN]
    rw [ih (fun i hi => h i (by omega)), sh_eq, BitVec.getLsbD_ushiftRight, Nat.add_zero, h k (by omega)]
    simp [BitVec.shiftRight_add]

/-- the table's way: a byte at once -/
theorem stepB_table (r : BitVec 32) (x : UInt8) : stepB r x = (r >>> 8) ^^^ stepB 0#32 (UInt8.ofNat (r.toNat % 256) ^^^ x) := by
  unfold stepB
  have e : r ^^^ x.toBitVec.setWidth 32 = (r &&& 0xFFFFFF00#32) ^^^ (0#32 ^^^ (UInt8.ofNat (r.toNat % 256) ^^^ x).toBitVec.setWidth 32) := by
    apply BitVec.eq_of_getLsbD_eq
    intro i hi
    have hm : (0xFFFFFF00#32).getLsbD i = decide (8 ≤ i) := by
      have : ∀ i : Fin 32, (0xFFFFFF00#32).getLsbD i = decide (8 ≤ i.val) := by decide
      exact this ⟨i, hi⟩
    have ho : (UInt8.ofNat (r.toNat % 256)).toBitVec.getLsbD i = (r.getLsbD i && decide (i < 8)) := by
      show (BitVec.ofNat 8 (r.toNat % 256)).getLsbD i = _
      have : BitVec.ofNat 8 (r.toNat % 256) = r.setWidth 8 := by
        apply BitVec.eq_of_toNat_eq; simp [BitVec.toNat_setWidth]
      rw [this, BitVec.getLsbD_setWidth, Bool.and_comm]
    simp only [BitVec.getLsbD_xor, BitVec.getLsbD_and, BitVec.getLsbD_setWidth, hm, UInt8.toBitVec_xor, ho, BitVec.getLsbD_zero, Bool.false_xor, hi, decide_true, Bool.true_and]
    by_cases h8 : i < 8
    · simp [h8, show ¬ 8 ≤ i by omega]
    · have : x.toBitVec.getLsbD i = false := BitVec.getLsbD_of_ge _ _ (by omega)
      simp [h8, show 8 ≤ i by omega, this]
  rw [e, shN_xor, shN_low 8 (r &&& 0xFFFFFF00#32)]
  · congr 1
    apply BitVec.eq_of_getLsbD_eq
    intro i hi
    simp only [BitVec.getLsbD_ushiftRight, BitVec.getLsbD_and]
    by_cases h : 8 + i < 32
    · have : ∀ i : Fin 32, (0xFFFFFF00#32).getLsbD i = decide (8 ≤ i.val) := by decide
      have := this ⟨8 + i, h⟩
      simp at this
      simp [this]
    · rw [BitVec.getLsbD_of_ge r _ (by omega)]; simp
  · intro i hi
    have : ∀ i : Fin 32, (0xFFFFFF00#32).getLsbD i = decide (8 ≤ i.val) := by decide
    have := this ⟨i, by omega⟩
    simp only [BitVec.getLsbD_and]
    simp at this
    rw [this]; simp [show ¬ 8 ≤ i by omega]

/-! ### The xor of three texts -/
/-- the xor of three texts, their first n places -/
def xor3 (la lb lc : List UInt8) (n : Nat) : List UInt8 := (List.range n).map fun i => la.getD i 0 ^^^ lb.getD i 0 ^^^ lc.getD i 0
theorem xor3_succ (la lb lc : List UInt8) (n : Nat) : xor3 la lb lc (n + 1) = xor3 la lb lc n ++ [la.getD n 0 ^^^ lb.getD n 0 ^^^ lc.getD n 0] := by
  simp [xor3, List.range_succ]
theorem xor3_len (la lb lc : List UInt8) (n : Nat) : (xor3 la lb lc n).length = n := by simp [xor3]

theorem stepB_xor (r s : BitVec 32) (x y : UInt8) : stepB (r ^^^ s) (x ^^^ y) = stepB r x ^^^ stepB s y := by
  unfold stepB
  rw [← shN_xor]
  congr 1
  rw [UInt8.toBitVec_xor]
  apply BitVec.eq_of_getLsbD_eq
  intro i hi
  simp only [BitVec.getLsbD_xor, BitVec.getLsbD_setWidth, hi, decide_true, Bool.true_and]
  cases r.getLsbD i <;> cases s.getLsbD i <;> cases x.toBitVec.getLsbD i <;> cases y.toBitVec.getLsbD i <;> rfl

theorem fold_xor3 (la lb lc : List UInt8) : ∀ n, n ≤ la.length → n ≤ lb.length → n ≤ lc.length → ∀ r s t : BitVec 32,
    (xor3 la lb lc n).foldl stepB (r ^^^ s ^^^ t) = (la.take n).foldl stepB r ^^^ (lb.take n).foldl stepB s ^^^ (lc.take n).foldl stepB t
  | 0, _, _, _, r, s, t => by simp [xor3]
  | n + 1, h1, h2, h3, r, s, t => by
    rw [xor3_succ, List.foldl_append, fold_xor3 la lb lc n (by omega) (by omega) (by omega)]
    rw [List.take_succ_eq_append_getElem (by omega : n < la.length), List.take_succ_eq_append_getElem (by omega : n < lb.length), List.take_succ_eq_append_getElem (by omega : n < lc.length)]
    simp only [List.foldl_append, List.foldl_cons, List.foldl_nil]
    rw [stepB_xor, stepB_xor]
    simp [List.getD, show n < la.length by omega, show n < lb.length by omega, show n < lc.length by omega]

theorem upd_xor3 (la lb lc : List UInt8) (n : Nat) (h1 : n ≤ la.length) (h2 : n ≤ lb.length) (h3 : n ≤ lc.length) :
    upd 0#32 (xor3 la lb lc n) = upd 0#32 (la.take n) ^^^ upd 0#32 (lb.take n) ^^^ upd 0#32 (lc.take n) := by
  unfold upd
  have h := fold_xor3 la lb lc n h1 h2 h3 (~~~ 0#32) (~~~ 0#32) (~~~ 0#32)
  have e : (~~~ 0#32) ^^^ (~~~ 0#32) ^^^ (~~~ 0#32) = ~~~ 0#32 := by decide
  rw [e] at h
  rw [h]
  apply BitVec.eq_of_getLsbD_eq
  intro i hi
  simp only [BitVec.getLsbD_xor, BitVec.getLsbD_not, hi, decide_true, Bool.true_and]
  cases ((la.take n).foldl stepB (~~~ 0#32)).getLsbD i <;> cases ((lb.take n).foldl stepB (~~~ 0#32)).getLsbD i <;> cases ((lc.take n).foldl stepB (~~~ 0#32)).getLsbD i <;> rfl

/-! ### Bits that are turned -/
theorem stepB_zero (s : BitVec 32) : stepB s 0 = shN 8 s := by
  unfold stepB
  congr 1
  have : (0 : UInt8).toBitVec = 0#8 := rfl
  rw [this]; simp
theorem fold_zero : ∀ (l : List UInt8) (r s : BitVec 32), l.foldl stepB (r ^^^ s) = l.foldl stepB r ^^^ shN (8 * l.length) s
  | [], r, s => by simp [shN]
  | c :: l, r, s => by
    have e : stepB (r ^^^ s) c = stepB r c ^^^ shN 8 s := by
      have := stepB_xor r s c 0
      rw [stepB_zero] at this
      simpa using this
    rw [List.foldl_cons, e, fold_zero l, List.foldl_cons, ← shN_add, List.length_cons, Nat.mul_succ]

theorem sh_ne (r : BitVec 32) (h : sh r = 0#32) : r = 0#32 := by
  rw [sh_eq] at h
  by_cases h0 : r.getLsbD 0 = true
  · rw [if_pos h0] at h
    have := congrArg (fun x => x.getLsbD 31) h
    simp only [BitVec.getLsbD_xor, BitVec.getLsbD_ushiftRight] at this
    rw [BitVec.getLsbD_of_ge r _ (by omega)] at this
    exact absurd this (by decide)
  · rw [if_neg h0, BitVec.xor_zero] at h
    apply BitVec.eq_of_getLsbD_eq
    intro i hi
    rcases i with _ | i
    · simp at h0; simp [h0]
    · have := congrArg (fun x => x.getLsbD i) h
      simp only [BitVec.getLsbD_ushiftRight, BitVec.getLsbD_zero] at this
      rw [Nat.add_comm] at this
      simp [this]
theorem shN_ne (k : Nat) (r : BitVec 32) (h : shN k r = 0#32) : r = 0#32 := by
  induction k with
  | zero => exact h
  | succ k ih => exact ih (sh_ne _ h)

theorem shN_bit (i : Nat) (hi : i < 32) : shN i (1#32 <<< i) = 1#32 := by
  rw [shN_low]
  · apply BitVec.eq_of_getLsbD_eq
    intro j hj
    simp only [BitVec.getLsbD_ushiftRight, BitVec.getLsbD_shiftLeft]
    by_cases h : i + j < 32
    · simp [h]
    · have : j ≠ 0 := by omega
      simp [h, this]
  · intro j hj
    simp [BitVec.getLsbD_shiftLeft, hj]

theorem bit8 (j : Nat) (hj : j < 8) : (UInt8.ofNat (2 ^ j)).toBitVec.setWidth 32 = 1#32 <<< j := by
  have : ∀ j : Fin 8, (UInt8.ofNat (2 ^ j.val)).toBitVec.setWidth 32 = 1#32 <<< j.val := by decide
  exact this ⟨j, hj⟩

/-- one bit turned -/
def turnBit (l : List UInt8) (k : Nat) : List UInt8 := l.set (k / 8) (l.getD (k / 8) 0 ^^^ UInt8.ofNat (2 ^ (k % 8)))
theorem turnBit_len (l : List UInt8) (k : Nat) : (turnBit l k).length = l.length := by simp [turnBit]

theorem fold_turn (l : List UInt8) (k : Nat) (hk : k < 8 * l.length) (r : BitVec 32) :
    (turnBit l k).foldl stepB r = l.foldl stepB r ^^^ shN (8 * l.length - k) 1#32 := by
  have hj : k / 8 < l.length := by omega
  have e1 : l = l.take (k / 8) ++ l[k / 8] :: l.drop (k / 8 + 1) := by
    rw [← List.drop_eq_getElem_cons hj, List.take_append_drop]
  have e2 : turnBit l k = l.take (k / 8) ++ (l[k / 8] ^^^ UInt8.ofNat (2 ^ (k % 8))) :: l.drop (k / 8 + 1) := by
    unfold turnBit
    rw [List.set_eq_take_append_cons_drop, if_pos hj]
    simp [List.getD, hj]
  rw [e2]
  conv => rhs; lhs; rw [e1]
  simp only [List.foldl_append, List.foldl_cons]
  generalize (l.take (k / 8)).foldl stepB r = s
  have e3 : stepB s (l[k / 8] ^^^ UInt8.ofNat (2 ^ (k % 8))) = stepB s l[k / 8] ^^^ shN (8 - k % 8) 1#32 := by
    have := stepB_xor s 0#32 l[k / 8] (UInt8.ofNat (2 ^ (k % 8)))
    rw [BitVec.xor_zero] at this
    rw [this]
    congr 1
    unfold stepB
    rw [bit8 _ (by omega), BitVec.zero_xor]
    have hm8 : k % 8 < 8 := Nat.mod_lt _ (by omega)
    generalize k % 8 = j at hm8
    have h8 : shN 8 (1#32 <<< j) = shN ((8 - j) + j) (1#32 <<< j) := by rw [Nat.sub_add_cancel (by omega)]
    rw [h8, shN_add, shN_bit j (by omega)]
  rw [e3, fold_zero, ← shN_add]
  congr 2
  simp only [List.length_drop]
  omega

/-- a pattern's first m bits turned, from a place on -/
def burst (l : List UInt8) (f : Nat) (p : BitVec 32) : Nat → List UInt8
  | 0 => l
  | i + 1 => if p.getLsbD i then turnBit (burst l f p i) (f + i) else burst l f p i
theorem burst_len (l : List UInt8) (f : Nat) (p : BitVec 32) (m : Nat) : (burst l f p m).length = l.length := by
  induction m with
  | zero => rfl
  | succ m ih => unfold burst; split <;> simp [turnBit_len, ih]
/-- a pattern's first m bits -/
def low (p : BitVec 32) : Nat → BitVec 32
  | 0 => 0#32
  | i + 1 => if p.getLsbD i then low p i ^^^ (1#32 <<< i) else low p i
theorem low_bit (p : BitVec 32) (m : Nat) (hm : m ≤ 32) (j : Nat) : (low p m).getLsbD j = (p.getLsbD j && decide (j < m)) := by
  induction m with
  | zero => simp [low]
  | succ m ih =>
    unfold low
    have ih := ih (by omega)
    have hb : (1#32 <<< m).getLsbD j = decide (j = m) := by
      simp only [BitVec.getLsbD_shiftLeft]
      by_cases h : j = m
      · subst h; simp; omega
      · by_cases h1 : j < m
        · simp [h1, h]
        · have : j - m ≠ 0 := by omega
          simp [h, this]
    by_cases hp : p.getLsbD m = true
    · rw [if_pos hp, BitVec.getLsbD_xor, ih, hb]
      by_cases h : j = m
      · subst h; simp [hp]
      · simp only [h, decide_false, Bool.xor_false]
        congr 1
        rw [decide_eq_decide]; omega
    · rw [if_neg hp, ih]
      by_cases h : j = m
      · subst h; simp at hp; simp [hp]
      · congr 1
        rw [decide_eq_decide]; omega
/-- is any of a pattern's first m bits set? -/
def any (p : BitVec 32) : Nat → Bool
  | 0 => false
  | i + 1 => p.getLsbD i || any p i
theorem any_low (p : BitVec 32) (m : Nat) (hm : m ≤ 32) : low p m = 0#32 ↔ any p m = false := by
  constructor
  · intro h
    have hall : ∀ j, j < m → p.getLsbD j = false := fun j hj => by
      have := congrArg (fun x => x.getLsbD j) h
      simp only [low_bit p m hm, BitVec.getLsbD_zero, hj, decide_true, Bool.and_true] at this
      exact this
    clear h hm
    induction m with
    | zero => rfl
    | succ m ih =>
      unfold any
      rw [hall m (by omega), ih fun j hj => hall j (by omega)]
      rfl
  · intro h
    induction m with
    | zero => rfl
    | succ m ih =>
      unfold any at h
      simp only [Bool.or_eq_false_iff] at h
      unfold low
      rw [if_neg (by rw [h.1]; decide), ih (by omega) h.2]
theorem fold_burst (l : List UInt8) (f : Nat) (p : BitVec 32) (m : Nat) (hm : m ≤ 32) (hf : f + m ≤ 8 * l.length) (r : BitVec 32) :
    (burst l f p m).foldl stepB r = l.foldl stepB r ^^^ shN (8 * l.length - f) (low p m) := by
  induction m with
  | zero => simp [burst, low, shN_zero]
  | succ m ih =>
    have ih := ih (by omega) (by omega)
    unfold burst low
    by_cases hp : p.getLsbD m = true
    · rw [if_pos hp, if_pos hp, fold_turn _ _ (by rw [burst_len]; omega), ih, burst_len, shN_xor, BitVec.xor_assoc]
      congr 2
      have : 8 * l.length - f = (8 * l.length - (f + m)) + m := by omega
      rw [this, shN_add, shN_bit m (by omega)]
    · rw [if_neg hp, if_neg hp, ih]
theorem upd_burst (l : List UInt8) (f : Nat) (p : BitVec 32) (m : Nat) (hm : m ≤ 32) (hf : f + m ≤ 8 * l.length) (c : BitVec 32) :
    upd c l = upd c (burst l f p m) ↔ any p m = false := by
  unfold upd
  rw [fold_burst l f p m hm hf, ← any_low p m hm]
  constructor
  · intro h
    have h2 : (l.foldl stepB (~~~ c)) = l.foldl stepB (~~~ c) ^^^ shN (8 * l.length - f) (low p m) := by
      have := congrArg (fun x => ~~~ x) h
      simpa using this
    have h3 : shN (8 * l.length - f) (low p m) = 0#32 := by
      have := congrArg (fun x => l.foldl stepB (~~~ c) ^^^ x) h2
      simp only [BitVec.xor_self, ← BitVec.xor_assoc, BitVec.zero_xor] at this
      exact this.symm
    exact shN_ne _ _ h3
  · intro h
    rw [h, shN_zero, BitVec.xor_zero]

end Go.Proofs.Ytblmnaejkdkndaa.Crc
