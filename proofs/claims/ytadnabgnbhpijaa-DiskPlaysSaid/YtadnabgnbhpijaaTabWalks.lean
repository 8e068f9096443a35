/- The walks over package table: hash, place. -/
import Derived.Test.YtadnabgnbhpijaaTabRep
set_option linter.unusedSimpArgs false
set_option linter.unusedVariables false
namespace Go.Proofs.Ytadnabgnbhpijaa
open Go.RowKit Go.Maps

theorem b32_mul_fnv (x : BitVec 32) : IntKind.u32.wrap ((x.toNat : Int) * 16777619) = ((x * 16777619#32).toNat : Int) := by
  rw [IntKind.wrap_u32', BitVec.toNat_mul]
  simp only [BitVec.toNat_ofNat]
  omega
theorem hash_snoc (l : List UInt8) (k : Nat) (h : k < l.length) : hashB (l.take (k + 1)) = (hashB (l.take k) ^^^ l[k].toBitVec.setWidth 32) * 16777619#32 := by
  unfold hashB
  rw [foldl_take_succ _ _ _ h]
theorem str_at (l : List UInt8) (k : Nat) (h : k < (str l).size) (h' : k < l.length) : (str l)[k] = l[k] := by
  show (str l).data[k]'h = _
  simp [str]
theorem hash_num (l : List UInt8) (k : Nat) (h : k < (str l).size) (h' : k < l.length) (x : BitVec 32) : bits .xor .u32 (x.toNat : Int) (((str l)[k].toNat : Int) % 4294967296) * 16777619 % 4294967296 = (((x ^^^ l[k].toBitVec.setWidth 32) * 16777619#32).toNat : Int) := by
  have e : (((str l)[k].toNat : Int) % 4294967296) = ((l[k]).toNat : Int) := by
    rw [str_at l k h h']
    have := (l[k]).toNat_lt
    omega
  rw [e, b32_xor_u8]
  have := b32_mul_fnv (x ^^^ l[k].toBitVec.setWidth 32)
  rw [IntKind.wrap_u32'] at this
  exact this
set_option maxHeartbeats 400000 in
theorem hash_any (l : List UInt8) (w : World) (hl : l.length ≤ maxLen) :
    Calls Try.prog 78 #[.string (str l)] w fun e w' => e = .returned (.int .u32 ((hashB l).toNat : Int)) ∧ w = w' := by
  unfold maxLen at hl
  go_enter Try.func78, Try.ntmps78
  go_wp2_with fail
  go_loop [3, 7] (fun h i => ∃ k : Nat, k ≤ l.length ∧ i = .int .i64 k ∧ h = .int .u32 ((hashB (l.take k)).toNat : Int)) (fun _ i => l.length - (intOf i).toNat)
  case atStart => exact ⟨0, Nat.zero_le _, rfl, rfl⟩
  case round =>
    obtain ⟨k, hk, rfl, rfl⟩ := hrel
    by_cases hlt : k < l.length
    · have hs := hash_snoc l k hlt
      have HS := Lib.hid hs
      clear hs
      go_wp2_with fail
      refine ⟨⟨k + 1, by omega, by go_num, ?_⟩, by simp [intOf]; omega⟩
      rw [HS.out]
      exact val_int (hash_num l k (by simpa using hlt) hlt _)
    · obtain rfl : k = l.length := by omega
      go_wp2_with fail
      go_ret
      exact ⟨rfl, rfl⟩
theorem place_any (p : Option Addr) (n c : Nat) (l : List UInt8) (w : World) (hl : l.length ≤ maxLen) (hn : 0 < n) (hm : n ≤ 2097152) :
    Calls Try.prog 69 #[.slice p n c, .string (str l)] w fun e w' => e = .returned (.int .i64 (placeN n l : Int)) ∧ w = w' := by
  have hw : IntKind.u32.wrap (n : Int) = (n : Int) := IntWalk.u32_in _ (by omega)
  have hlt := placeN_lt n l hn
  have hh := (hashB l).isLt
  have ht : ((hashB l).toNat : Int).tmod (n : Int) = (placeN n l : Int) := by
    rw [Int.tmod_eq_emod_of_nonneg (by omega)]; rfl
  have he : ((hashB l).toNat : Int) % (n : Int) = (placeN n l : Int) := rfl
  have HC := Lib.hid (hash_any l w hl)
  go_enter Try.func69, Try.ntmps69
  go_wp2_with (refine HC.out.mono ?_; rintro e w' ⟨rfl, rfl⟩)
  go_ret
  exact ⟨rfl, rfl⟩
end Go.Proofs.Ytadnabgnbhpijaa
