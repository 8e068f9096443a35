/- Plain words on numbers as bytes, the highest first. -/
import Derived.Test.YtblmnaejkdkndaaRows
set_option linter.unusedSimpArgs false
namespace Go.Proofs.Ytblmnaejkdkndaa.Wire

/-- so many bytes of a number, the highest first -/
def beB (x : Nat) : Nat → List UInt8
  | 0 => []
  | n + 1 => UInt8.ofNat (x / 256 ^ n) :: beB x n
theorem beB_len (x n : Nat) : (beB x n).length = n := by
  induction n with
  | zero => rfl
  | succ n ih => simp [beB, ih]
theorem beB_get (x n j : Nat) (h : j < n) : (beB x n)[j]? = some (UInt8.ofNat (x / 256 ^ (n - 1 - j))) := by
  induction n generalizing j with
  | zero => omega
  | succ n ih =>
    cases j with
    | zero => simp [beB]
    | succ j =>
      simp only [beB, List.getElem?_cons_succ]
      rw [ih j (by omega)]
      congr 4
      omega
theorem beB_take (x n j : Nat) (h : j < n) : (beB x n).take (j + 1) = (beB x n).take j ++ [UInt8.ofNat (x / 256 ^ (n - 1 - j))] := by
  have hl : j < (beB x n).length := by rw [beB_len]; exact h
  rw [List.take_succ_eq_append_getElem hl]
  congr 2
  have := beB_get x n j h
  rw [List.getElem?_eq_getElem hl] at this
  exact Option.some.inj this

/-- the number that bytes are -/
def get (l : List UInt8) : Nat := l.foldl (fun v c => v * 256 + c.toNat) 0
theorem get_from (l : List UInt8) : ∀ v, l.foldl (fun v c => v * 256 + c.toNat) v = v * 256 ^ l.length + get l := by
  induction l with
  | nil => intro v; simp [get]
  | cons c l ih =>
    intro v
    simp only [List.foldl_cons, List.length_cons, get]
    rw [ih, ih (0 * 256 + c.toNat), Nat.zero_mul, Nat.zero_add]
    rw [Nat.pow_succ]
    have : (v * 256 + c.toNat) * 256 ^ l.length = v * (256 ^ l.length * 256) + c.toNat * 256 ^ l.length := by
      rw [Nat.add_mul, Nat.mul_assoc, Nat.mul_comm 256]
    omega
theorem get_lt (l : List UInt8) : get l < 256 ^ l.length := by
  induction l with
  | nil => simp [get]
  | cons c l ih =>
    have e : get (c :: l) = c.toNat * 256 ^ l.length + get l := by
      have := get_from l (0 * 256 + c.toNat)
      simpa [get] using this
    rw [e, List.length_cons, Nat.pow_succ]
    have h1 := c.toNat_lt
    have h2 : c.toNat * 256 ^ l.length ≤ 255 * 256 ^ l.length := Nat.mul_le_mul_right _ (by omega)
    omega
theorem get_cons (c : UInt8) (l : List UInt8) : get (c :: l) = c.toNat * 256 ^ l.length + get l := by
  have := get_from l (0 * 256 + c.toNat)
  simpa [get] using this
theorem get_append (l m : List UInt8) : get (l ++ m) = get l * 256 ^ m.length + get m := by
  unfold get
  rw [List.foldl_append, get_from]
  rfl
theorem get_snoc (l : List UInt8) (c : UInt8) : get (l ++ [c]) = get l * 256 + c.toNat := by
  rw [get_append]; simp [get]
/-- back from bytes -/
theorem get_beB (x n : Nat) : get (beB x n) = x % 256 ^ n := by
  induction n with
  | zero => simp [beB, get, Nat.mod_one]
  | succ n ih =>
    rw [beB, get_cons, beB_len, ih]
    have e : (UInt8.ofNat (x / 256 ^ n)).toNat = x / 256 ^ n % 256 := by simp
    rw [e, Nat.pow_succ, Nat.mod_mul]
    rw [Nat.mul_comm]; omega
theorem beB_get_self (l : List UInt8) : beB (get l) l.length = l := by
  induction l with
  | nil => rfl
  | cons c l ih =>
    have hl := get_lt l
    have hp : 0 < 256 ^ l.length := Nat.pow_pos (by omega)
    rw [List.length_cons, beB, get_cons]
    have e1 : (c.toNat * 256 ^ l.length + get l) / 256 ^ l.length = c.toNat := by
      rw [Nat.mul_comm, Nat.mul_add_div hp, Nat.div_eq_of_lt hl, Nat.add_zero]
    have e2 : ∀ n, n ≤ l.length → beB (c.toNat * 256 ^ l.length + get l) n = beB (get l) n := by
      intro n hn
      induction n with
      | zero => rfl
      | succ n ihn =>
        simp only [beB]
        rw [ihn (by omega)]
        congr 1
        have hd : 256 ^ l.length = 256 ^ n * (256 * 256 ^ (l.length - n - 1)) := by
          rw [← Nat.pow_succ', ← Nat.pow_add]; congr 1; omega
        have : (c.toNat * 256 ^ l.length + get l) / 256 ^ n = 256 * (c.toNat * 256 ^ (l.length - n - 1)) + get l / 256 ^ n := by
          have h1 : c.toNat * 256 ^ l.length = 256 ^ n * (256 * (c.toNat * 256 ^ (l.length - n - 1))) := by
            rw [hd, Nat.mul_left_comm, Nat.mul_left_comm c.toNat 256]
          rw [h1, Nat.mul_add_div (Nat.pow_pos (by omega))]
        rw [this]
        apply UInt8.toNat_inj.1
        simp only [UInt8.toNat_ofNat']
        omega
    rw [e1, e2 _ (Nat.le_refl _), ih]
    simp
theorem beB_mod (x n m : Nat) (h : n ≤ m) : beB (x % 256 ^ m) n = beB x n := by
  have h1 := beB_get_self (beB x n)
  have h2 := beB_get_self (beB (x % 256 ^ m) n)
  rw [get_beB, beB_len] at h1 h2
  rw [← h1, ← h2]
  congr 1
  rw [Nat.mod_mod_of_dvd]
  exact Nat.pow_dvd_pow _ h
end Go.Proofs.Ytblmnaejkdkndaa.Wire
