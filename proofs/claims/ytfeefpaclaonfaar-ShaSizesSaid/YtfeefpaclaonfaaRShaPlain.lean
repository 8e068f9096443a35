/- SHA-256 in plain words. -/
import Derived.Test.YtfeefpaclaonfaaRWirePlain
set_option linter.unusedSimpArgs false
namespace Go.Proofs.YtfeefpaclaonfaaR.Sha
open Wire
abbrev W := BitVec 32
/-- a word, turned to the right -/
def rotr (x : W) (n : Nat) : W := (x >>> n) ||| (x <<< (32 - n))
structure St where
  a : W
  b : W
  c : W
  d : W
  e : W
  f : W
  g : W
  h : W
def St.list (s : St) : List W := [s.a, s.b, s.c, s.d, s.e, s.f, s.g, s.h]
def s0 (x : W) : W := rotr x 7 ^^^ rotr x 18 ^^^ (x >>> 3)
def s1 (y : W) : W := rotr y 17 ^^^ rotr y 19 ^^^ (y >>> 10)
/-- one more word of the schedule -/
def at_ (l : List W) (i : Nat) : W := l[i]?.getD 0#32
def more (l : List W) : List W := l ++ [at_ l (l.length - 16) + s0 (at_ l (l.length - 15)) + at_ l (l.length - 7) + s1 (at_ l (l.length - 2))]
def sched : Nat → List W → List W
  | 0, l => l
  | n + 1, l => more (sched n l)
def one (s : St) (k w : W) : W := s.h + (rotr s.e 6 ^^^ rotr s.e 11 ^^^ rotr s.e 25) + ((s.e &&& s.f) ^^^ ((~~~ s.e) &&& s.g)) + k + w
def two (s : St) : W := (rotr s.a 2 ^^^ rotr s.a 13 ^^^ rotr s.a 22) + ((s.a &&& s.b) ^^^ (s.a &&& s.c) ^^^ (s.b &&& s.c))
def step (s : St) (k w : W) : St := ⟨one s k w + two s, s.a, s.b, s.c, s.d + one s k w, s.e, s.f, s.g⟩
/-- so many rounds -/
def rounds (s : St) (K ws : List W) : Nat → St
  | 0 => s
  | n + 1 => step (rounds s K ws n) (at_ K n) (at_ ws n)
def K : List W := [
  0x428a2f98, 0x71374491, 0xb5c0fbcf, 0xe9b5dba5, 0x3956c25b, 0x59f111f1, 0x923f82a4, 0xab1c5ed5,
  0xd807aa98, 0x12835b01, 0x243185be, 0x550c7dc3, 0x72be5d74, 0x80deb1fe, 0x9bdc06a7, 0xc19bf174,
  0xe49b69c1, 0xefbe4786, 0x0fc19dc6, 0x240ca1cc, 0x2de92c6f, 0x4a7484aa, 0x5cb0a9dc, 0x76f988da,
  0x983e5152, 0xa831c66d, 0xb00327c8, 0xbf597fc7, 0xc6e00bf3, 0xd5a79147, 0x06ca6351, 0x14292967,
  0x27b70a85, 0x2e1b2138, 0x4d2c6dfc, 0x53380d13, 0x650a7354, 0x766a0abb, 0x81c2c92e, 0x92722c85,
  0xa2bfe8a1, 0xa81a664b, 0xc24b8b70, 0xc76c51a3, 0xd192e819, 0xd6990624, 0xf40e3585, 0x106aa070,
  0x19a4c116, 0x1e376c08, 0x2748774c, 0x34b0bcb5, 0x391c0cb3, 0x4ed8aa4a, 0x5b9cca4f, 0x682e6ff3,
  0x748f82ee, 0x78a5636f, 0x84c87814, 0x8cc70208, 0x90befffa, 0xa4506ceb, 0xbef9a3f7, 0xc67178f2]
def h0 : St := ⟨0x6a09e667, 0xbb67ae85, 0x3c6ef372, 0xa54ff53a, 0x510e527f, 0x9b05688c, 0x1f83d9ab, 0x5be0cd19⟩
def St.add (s r : St) : St := ⟨s.a + r.a, s.b + r.b, s.c + r.c, s.d + r.d, s.e + r.e, s.f + r.f, s.g + r.g, s.h + r.h⟩
/-- the sixteen words of a block -/
def words (b : List UInt8) : List W := (List.range 16).map fun i => BitVec.ofNat 32 (get ((b.drop (4 * i)).take 4))
def block (h : St) (b : List UInt8) : St := h.add (rounds h K (sched 48 (words b)) 64)
theorem sched_len (n : Nat) (l : List W) : (sched n l).length = l.length + n := by
  induction n with
  | zero => rfl
  | succ n ih => simp only [sched, more, List.length_append, ih]; rfl
theorem sched_pre (l : List W) (k j i : Nat) (hi : i < l.length + k) : at_ (sched (k + j) l) i = at_ (sched k l) i := by
  induction j with
  | zero => rfl
  | succ j ih =>
    rw [← ih]
    show at_ (more (sched (k + j) l)) i = _
    unfold more at_
    rw [List.getElem?_append_left (by rw [sched_len]; omega)]
theorem sched_at (ws : List W) (hw : ws.length = 16) (i : Nat) (h1 : 16 ≤ i) (h2 : i < 64) :
    at_ (sched 48 ws) i = at_ (sched 48 ws) (i - 16) + s0 (at_ (sched 48 ws) (i - 15)) + at_ (sched 48 ws) (i - 7) + s1 (at_ (sched 48 ws) (i - 2)) := by
  have hl : (sched (i - 16) ws).length = i := by rw [sched_len, hw]; omega
  have e : ∀ j, j < i → at_ (sched 48 ws) j = at_ (sched (i - 16) ws) j := fun j hj => by
    have := sched_pre ws (i - 16) (48 - (i - 16)) j (by rw [hw]; omega)
    rwa [show i - 16 + (48 - (i - 16)) = 48 by omega] at this
  have e2 : at_ (sched 48 ws) i = at_ (sched (i - 16 + 1) ws) i := by
    have := sched_pre ws (i - 16 + 1) (48 - (i - 16 + 1)) i (by rw [hw]; omega)
    rwa [show i - 16 + 1 + (48 - (i - 16 + 1)) = 48 by omega] at this
  rw [e2, e _ (by omega), e _ (by omega), e _ (by omega), e _ (by omega)]
  show at_ (more (sched (i - 16) ws)) i = _
  unfold more
  rw [hl]
  conv => lhs; unfold at_
  rw [List.getElem?_append_right (by omega), hl, Nat.sub_self]
  rfl
theorem sched_low (ws : List W) (hw : ws.length = 16) (i : Nat) (h : i < 16) : at_ (sched 48 ws) i = at_ ws i := by
  have := sched_pre ws 0 48 i (by omega)
  rwa [Nat.zero_add] at this
theorem words_len (b : List UInt8) : (words b).length = 16 := by simp [words]
theorem words_at (b : List UInt8) (i : Nat) (h : i < 16) : at_ (words b) i = BitVec.ofNat 32 (get ((b.drop (4 * i)).take 4)) := by simp [words, at_, h]
/-- so many noughts make 56 of 64 -/
def noughts (n : Nat) : Nat := (120 - n % 64) % 64
def padded (l : List UInt8) : List UInt8 := l ++ [128] ++ List.replicate (noughts (l.length + 1)) 0 ++ beB (8 * l.length) 8
/-- so many blocks -/
def blocks (h : St) (l : List UInt8) : Nat → St
  | 0 => h
  | n + 1 => block (blocks h l n) (l.drop (64 * n))
def sum (l : List UInt8) : St := blocks h0 (padded l) ((padded l).length / 64)
def digit (n : Nat) : UInt8 := [48, 49, 50, 51, 52, 53, 54, 55, 56, 57, 97, 98, 99, 100, 101, 102].getD n 0
def hexW (x : W) : List UInt8 := [digit (x.toNat / 268435456), digit (x.toNat / 16777216 % 16), digit (x.toNat / 1048576 % 16), digit (x.toNat / 65536 % 16), digit (x.toNat / 4096 % 16), digit (x.toNat / 256 % 16), digit (x.toNat / 16 % 16), digit (x.toNat % 16)]
def sha (l : List UInt8) : List UInt8 := ((sum l).list.map hexW).flatten
theorem known0 : sha [] = [101, 51, 98, 48, 99, 52, 52, 50, 57, 56, 102, 99, 49, 99, 49, 52, 57, 97, 102, 98, 102, 52, 99, 56, 57, 57, 54, 102, 98, 57, 50, 52, 50, 55, 97, 101, 52, 49, 101, 52, 54, 52, 57, 98, 57, 51, 52, 99, 97, 52, 57, 53, 57, 57, 49, 98, 55, 56, 53, 50, 98, 56, 53, 53] := by decide +kernel

/-! ### Primes and roots -/
/-- the primes below k + 2 -/
def prs : Nat → List Nat
  | 0 => []
  | k + 1 => if (prs k).all (fun q => (k + 2) % q != 0) then prs k ++ [k + 2] else prs k
theorem prs_mono (k : Nat) : (prs k).length ≤ (prs (k + 1)).length := by
  rw [prs]; split <;> simp
theorem prs_le (j k : Nat) : (prs k).length ≤ (prs (k + j)).length := by
  induction j with
  | zero => exact Nat.le_refl _
  | succ j ih => exact Nat.le_trans ih (prs_mono (k + j))
theorem prs_ge (k : Nat) : ∀ q ∈ prs k, 2 ≤ q ∧ q ≤ k + 1 := by
  induction k with
  | zero => intro q hq; simp [prs] at hq
  | succ k ih =>
    intro q hq
    rw [prs] at hq
    split at hq
    · rcases List.mem_append.1 hq with h | h
      · have := ih q h; omega
      · simp at h; omega
    · have := ih q hq; omega
def PR : List Nat := [2, 3, 5, 7, 11, 13, 17, 19, 23, 29, 31, 37, 41, 43, 47, 53, 59, 61, 67, 71, 73, 79, 83, 89, 97, 101, 103, 107, 109, 113, 127, 131, 137, 139, 149, 151, 157, 163, 167, 173, 179, 181, 191, 193, 197, 199, 211, 223, 227, 229, 233, 239, 241, 251, 257, 263, 269, 271, 277, 281, 283, 293, 307, 311]
set_option maxRecDepth 100000 in
theorem prs_all : prs 310 = PR := by decide +kernel
set_option maxRecDepth 100000 in
theorem prs_63 : (prs 309).length = 63 := by decide +kernel
theorem prs_64 : (prs 310).length = 64 := by rw [prs_all]; rfl
theorem prs_lt {k : Nat} (hk : k ≤ 310) (h : (prs k).length < 64) : k ≤ 309 := by
  rcases Nat.lt_or_ge 309 k with h1 | h1
  · have : k = 310 := by omega
    subst this; rw [prs_64] at h; omega
  · exact h1
theorem prs_few {k : Nat} (hk : k ≤ 310) : (prs k).length ≤ 64 := by
  have := prs_le (310 - k) k
  rw [show k + (310 - k) = 310 by omega, prs_64] at this; exact this
theorem prs_full {k : Nat} (hk : k ≤ 310) (h : ¬ (prs k).length < 64) : k = 310 := by
  rcases Nat.lt_or_ge k 310 with h1 | h1
  · have := prs_le (309 - k) k
    rw [show k + (309 - k) = 309 by omega, prs_63] at this; omega
  · omega
/-- is r's k-th power above n times 2^(32 k)? -/
def above (r n k : Nat) : Bool := decide (n * 4294967296 ^ k < r ^ k)
/-- the search for a root -/
def bs (n k : Nat) : Nat → Nat → Nat → Nat
  | 0, lo, _ => lo
  | f + 1, lo, hi => if lo + 1 < hi then (if above ((lo + hi) / 2) n k then bs n k f lo ((lo + hi) / 2) else bs n k f ((lo + hi) / 2) hi) else lo
theorem bs_end (n k f lo hi : Nat) (h : ¬ lo + 1 < hi) : bs n k f lo hi = lo := by
  cases f with
  | zero => rfl
  | succ f => rw [bs, if_neg h]
def part (n k : Nat) : W := BitVec.ofNat 32 (bs n k 36 0 68719476736)
set_option maxRecDepth 100000 in
theorem parts3 : PR.map (fun p => part p 3) = K := by decide +kernel
set_option maxRecDepth 100000 in
theorem parts2 : (PR.take 8).map (fun p => part p 2) = h0.list := by decide +kernel
end Go.Proofs.YtfeefpaclaonfaaR.Sha
