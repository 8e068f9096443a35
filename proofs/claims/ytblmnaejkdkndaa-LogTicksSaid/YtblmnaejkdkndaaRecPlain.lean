/- Plain words on records: frames, and how they are found. -/
import Derived.Test.YtblmnaejkdkndaaCrcPlain
import Derived.Test.YtblmnaejkdkndaaWirePlain
set_option linter.unusedSimpArgs false
namespace Go.Proofs.Ytblmnaejkdkndaa.Rec
open Crc Wire

/-- a body with its frame -/
def frame (l : List UInt8) : List UInt8 := beB l.length 4 ++ beB (upd (upd 0#32 (beB l.length 4)) l).toNat 4 ++ l
theorem frame_len (l : List UInt8) : (frame l).length = 8 + l.length := by simp [frame, beB_len]; omega

/-- how long the body of the frame at the front is, if there is one -/
def one (b : List UInt8) : Option Nat :=
  if b.length < 8 then none else
  if 1048576 < get (b.take 4) ∨ b.length - 8 < get (b.take 4) ∨ upd (upd 0#32 (b.take 4)) ((b.drop 8).take (get (b.take 4))) ≠ BitVec.ofNat 32 (get ((b.drop 4).take 4)) then none else some (get (b.take 4))

theorem one_some {b : List UInt8} {n : Nat} (h : one b = some n) : 8 + n ≤ b.length ∧ n = get (b.take 4) ∧ n ≤ 1048576 ∧ upd (upd 0#32 (b.take 4)) ((b.drop 8).take n) = BitVec.ofNat 32 (get ((b.drop 4).take 4)) := by
  unfold one at h
  split at h
  · cases h
  · split at h
    · cases h
    · rename_i h1 h2
      have h3 := Option.some.inj h
      simp only [not_or, Decidable.not_not] at h2
      subst h3
      exact ⟨by omega, rfl, by omega, h2.2.2⟩

def scanF : Nat → List UInt8 → List (List UInt8) × Nat
  | 0, _ => ([], 0)
  | f + 1, b => match one b with
    | none => ([], 0)
    | some n => ((b.drop 8).take n :: (scanF f (b.drop (8 + n))).1, 8 + n + (scanF f (b.drop (8 + n))).2)
theorem scanF_fuel : ∀ (f g : Nat) (b : List UInt8), b.length < f → b.length < g → scanF f b = scanF g b
  | 0, _, b, h, _ => by omega
  | _ + 1, 0, b, _, h => by omega
  | f + 1, g + 1, b, h1, h2 => by
    simp only [scanF]
    cases ho : one b with
    | none => rfl
    | some n =>
      have hn := (one_some ho).1
      have hd : (b.drop (8 + n)).length < b.length := by rw [List.length_drop]; omega
      simp only
      rw [scanF_fuel f g (b.drop (8 + n)) (by omega) (by omega)]
/-- the bodies at the front, and how many bytes their frames have -/
def scan (b : List UInt8) : List (List UInt8) × Nat := scanF (b.length + 1) b
theorem scan_none {b : List UInt8} (h : one b = none) : scan b = ([], 0) := by simp [scan, scanF, h]
theorem scan_some {b : List UInt8} {n : Nat} (h : one b = some n) : scan b = ((b.drop 8).take n :: (scan (b.drop (8 + n))).1, 8 + n + (scan (b.drop (8 + n))).2) := by
  have hn := (one_some h).1
  have hd : (b.drop (8 + n)).length < b.length := by rw [List.length_drop]; omega
  unfold scan
  rw [scanF, h]
  simp only
  rw [scanF_fuel b.length ((b.drop (8 + n)).length + 1) (b.drop (8 + n)) hd (by omega)]

theorem upd_append (c : BitVec 32) (a b : List UInt8) : upd c (a ++ b) = upd (upd c a) b := by
  simp [upd, List.foldl_append]

/-- a frame at the front is found -/
theorem one_frame (l r : List UInt8) (hl : l.length ≤ 1048576) : one (frame l ++ r) = some l.length := by
  have hlen : (frame l ++ r).length = 8 + l.length + r.length := by rw [List.length_append, frame_len]
  have e1 : (frame l ++ r).take 4 = beB l.length 4 := by
    unfold frame
    rw [List.append_assoc, List.append_assoc, List.take_left' (beB_len _ _)]
  have e2 : ((frame l ++ r).drop 4).take 4 = beB (upd (upd 0#32 (beB l.length 4)) l).toNat 4 := by
    unfold frame
    rw [List.append_assoc, List.append_assoc, List.drop_left' (beB_len _ _), List.take_left' (beB_len _ _)]
  have e3 : (frame l ++ r).drop 8 = l ++ r := by
    unfold frame
    rw [List.append_assoc, List.drop_left' (by rw [List.length_append, beB_len, beB_len])]
  have g : get (beB l.length 4) = l.length := by
    rw [get_beB]; exact Nat.mod_eq_of_lt (by have : 256 ^ 4 = 4294967296 := by decide
                                             omega)
  unfold one
  rw [if_neg (by omega), e1, e2, e3, g, if_neg]
  simp only [not_or, Decidable.not_not]
  refine ⟨by omega, by omega, ?_⟩
  rw [List.take_left, get_beB]
  apply BitVec.eq_of_toNat_eq
  rw [BitVec.toNat_ofNat]
  have := (upd (upd 0#32 (beB l.length 4)) l).isLt
  have h256 : 256 ^ 4 = 2 ^ 32 := by decide
  rw [h256, Nat.mod_mod, Nat.mod_eq_of_lt this]
theorem drop_frame (l r : List UInt8) : (frame l ++ r).drop (8 + l.length) = r := List.drop_left' (frame_len l)
theorem body_frame (l r : List UInt8) : ((frame l ++ r).drop 8).take l.length = l := by
  unfold frame
  rw [List.append_assoc, List.drop_left' (by rw [List.length_append, beB_len, beB_len]), List.take_left]
theorem scan_frame (l r : List UInt8) (hl : l.length ≤ 1048576) : scan (frame l ++ r) = (l :: (scan r).1, 8 + l.length + (scan r).2) := by
  rw [scan_some (one_frame l r hl), drop_frame, body_frame]

/-- frames, one behind the other -/
def frames (L : List (List UInt8)) : List UInt8 := (L.map frame).flatten
theorem frames_nil : frames [] = [] := rfl
theorem frames_cons (l : List UInt8) (L : List (List UInt8)) : frames (l :: L) = frame l ++ frames L := rfl
theorem frames_append (L M : List (List UInt8)) : frames (L ++ M) = frames L ++ frames M := by simp [frames]
theorem scan_frames (L : List (List UInt8)) (hL : ∀ l ∈ L, l.length ≤ 1048576) (r : List UInt8) : scan (frames L ++ r) = (L ++ (scan r).1, (frames L).length + (scan r).2) := by
  induction L with
  | nil => simp [frames]
  | cons l L ih =>
    rw [frames_cons, List.append_assoc, scan_frame l _ (hL l (List.mem_cons_self ..)), ih fun x hx => hL x (List.mem_cons_of_mem _ hx)]
    simp only [List.cons_append, List.length_append, frame_len]
    congr 1
    omega
theorem scan_short {b : List UInt8} (h : b.length < 8) : scan b = ([], 0) := scan_none (by unfold one; rw [if_pos h])
theorem scan_nil : scan [] = ([], 0) := scan_short (by decide)
theorem scan_all (L : List (List UInt8)) (hL : ∀ l ∈ L, l.length ≤ 1048576) : scan (frames L) = (L, (frames L).length) := by
  have := scan_frames L hL []
  rw [List.append_nil, scan_nil] at this
  simpa using this

/-! ### Beginnings of frames -/
/-- how many frames are whole in the first k bytes -/
def wholeOf : List (List UInt8) → Nat → Nat
  | [], _ => 0
  | l :: L, k => if (frame l).length ≤ k then 1 + wholeOf L (k - (frame l).length) else 0
theorem wholeOf_le (L : List (List UInt8)) (k : Nat) : wholeOf L k ≤ L.length := by
  induction L generalizing k with
  | nil => exact Nat.le_refl _
  | cons l L ih =>
    unfold wholeOf
    split
    · have := ih (k - (frame l).length); simp; omega
    · simp
theorem one_cut (l r : List UInt8) (hl : l.length ≤ 1048576) (k : Nat) (hk : k < (frame l).length) : one ((frame l ++ r).take k) = none := by
  rw [frame_len] at hk
  unfold one
  have hlen : ((frame l ++ r).take k).length = k := by rw [List.length_take, List.length_append, frame_len]; omega
  rw [hlen]
  by_cases h8 : k < 8
  · rw [if_pos h8]
  · rw [if_neg h8]
    have e1 : ((frame l ++ r).take k).take 4 = beB l.length 4 := by
      rw [List.take_take, Nat.min_eq_left (by omega)]
      unfold frame
      rw [List.append_assoc, List.append_assoc, List.take_left' (beB_len _ _)]
    have g : get (beB l.length 4) = l.length := by
      rw [get_beB]; exact Nat.mod_eq_of_lt (by have : 256 ^ 4 = 4294967296 := by decide
                                               omega)
    rw [e1, g, if_pos (.inr (.inl (by omega)))]
theorem scan_cut (L : List (List UInt8)) (hL : ∀ l ∈ L, l.length ≤ 1048576) (k : Nat) :
    scan ((frames L).take k) = (L.take (wholeOf L k), (frames (L.take (wholeOf L k))).length) := by
  induction L generalizing k with
  | nil => simp [frames_nil, scan_nil, wholeOf]
  | cons l L ih =>
    rw [frames_cons]
    unfold wholeOf
    by_cases hk : (frame l).length ≤ k
    · rw [if_pos hk, List.take_append, List.take_of_length_le hk, scan_frame l _ (hL l (List.mem_cons_self ..)), ih fun x hx => hL x (List.mem_cons_of_mem _ hx)]
      rw [Nat.add_comm 1, List.take_succ_cons, frames_cons, List.length_append, frame_len]
    · rw [if_neg hk, scan_none (one_cut l _ (hL l (List.mem_cons_self ..)) k (by omega))]
      simp [frames_nil]
theorem wholeOf_iff (L : List (List UInt8)) (k i : Nat) (hi : i < L.length) : (frames (L.take (i + 1))).length ≤ k ↔ i < wholeOf L k := by
  induction L generalizing k i with
  | nil => simp at hi
  | cons l L ih =>
    rw [List.take_succ_cons, frames_cons, List.length_append]
    unfold wholeOf
    cases i with
    | zero =>
      simp only [List.take_zero, frames_nil, List.length_nil, Nat.add_zero]
      split <;> omega
    | succ i =>
      have := ih (k - (frame l).length) i (by simpa using hi)
      split <;> omega
theorem frames_take_len (L : List (List UInt8)) (b : Nat) (hL : ∀ l ∈ L, l.length ≤ b) : (frames L).length ≤ L.length * (8 + b) := by
  induction L with
  | nil => simp [frames_nil]
  | cons l L ih =>
    rw [frames_cons, List.length_append, frame_len, List.length_cons, Nat.succ_mul]
    have h1 := hL l (List.mem_cons_self ..)
    have h2 := ih fun x hx => hL x (List.mem_cons_of_mem _ hx)
    omega
theorem frames_take_succ (L : List (List UInt8)) (i : Nat) (hi : i < L.length) : frames (L.take (i + 1)) = frames (L.take i) ++ frame L[i] := by
  rw [List.take_succ_eq_append_getElem hi, frames_append, frames_cons, frames_nil, List.append_nil]
end Go.Proofs.Ytblmnaejkdkndaa.Rec
