/- The walk of the law ShaSizes. -/
import Derived.Test.YtfeefpaclaonfaaRShaHex
import Derived.Test.YtfeefpaclaonfaaRShaKnownWalk
set_option linter.unusedSimpArgs false
set_option linter.unusedVariables false
namespace Go.Proofs.YtfeefpaclaonfaaR
open Go.RowKit Go.BigFrame Sha Wire

theorem u8_plus (c : UInt8) (m : Nat) : ((c.toNat : Int) + (m : Int)) % (256 : Int) = (((c + UInt8.ofNat m).toNat : Nat) : Int) := by
  rw [UInt8.toNat_add, UInt8.toNat_ofNat']; omega

set_option maxRecDepth 20000 in
set_option maxHeartbeats 1000000 in
theorem shaSizes_walk (c : UInt8) (a : Int) (w : World) (h64 : -9223372036854775808 ≤ a ∧ a ≤ 9223372036854775807) :
    Calls Try.prog 12 #[.int .u8 (c.toNat : Int), .int .i64 a] w fun e w' => e = .returned (.bool true) ∧ Below w.heap.size w w' := by
  obtain ⟨u, k, hu, hk, hk1, hk2⟩ := uint_mod a 201 201 rfl (by omega)
  have hmk := fun (v : World) => run_make_bytes v k (by omega)
  have hc := c.toNat_lt
  go_enter Try.func12, Try.ntmps12
  go_wp2_with fail
  go_loopw [6] (fun i wr => ∃ (m : Nat) (l : List UInt8), m ≤ k ∧ i = .int .i64 m ∧ l.length = k ∧ OwnS wr w.heap.size 5 1 (.slice (some ⟨w.heap.size, 0, none⟩) k k) k (by8 l) ∧ Below w.heap.size w wr) (fun i _ => k - (intOf i).toNat)
  case atStart =>
    have ho := own_made w w.heap.size (List.replicate k 0) (Nat.le_refl _) (by unfold maxLen; simp; omega)
    simp only [List.length_replicate] at ho
    exact ⟨0, List.replicate k 0, by omega, rfl, by simp, ho, grewA (Below.refl _ _) _⟩
  case round =>
    obtain ⟨m, l, hm, rfl, hl, ho, hbel⟩ := hrel
    have HO := Lib.hid ho
    have HL := Lib.hid hl
    clear ho hmk hl
    by_cases hlt : m < k
    · obtain ⟨hcell, hfz⟩ := HO.out.get (j := m) (by rw [by8_len, HL.out]; exact hlt)
      have hst := HO.out.set (j := m) (by rw [by8_len, HL.out]; exact hlt) (.int .u8 ((c + UInt8.ofNat m).toNat : Int))
      rw [by8_set] at hst
      have HST := Lib.hid hst
      clear hst
      go_wp2_with fail
      rw [u8_plus]
      refine ⟨⟨m + 1, l.set m (c + UInt8.ofNat m), by omega, by go_num, by rw [List.length_set, HL.out], HST.out, ?_⟩, by simp [intOf]; omega⟩
      exact hbel.setCell (by simp) _
    · have hbs := hbel.size
      have hr := Lib.hid (HO.out.text.2.1)
      have hkeep : ∀ v, Below wr.heap.size wr v → Below wr.heap.size wr v ∧ (convert 23 9 (.slice (some ⟨w.heap.size, 0, none⟩) k k)).run Try.prog v = .ok (.string (str l)) v := fun v hv => ⟨hv, by
        have h := run_b2s slB isB isS (w := v) (cap := k) (hr.out.below hv)
        rwa [HL.out] at h⟩
      have HK := Lib.hid hkeep
      have hl9 : l.length ≤ 1048576 := by rw [HL.out]; omega
      clear hkeep
      go_wp2_with fail
      go_region_held3 (fun v => Below wr.heap.size wr v ∧ (convert 23 9 (.slice (some ⟨w.heap.size, 0, none⟩) k k)).run Try.prog v = .ok (.string (str l)) v) ((refine HK.out _ ?_; first | exact hb4 | exact hb3 | exact hb2 | exact (Below.refl _ _).drew))
        (first
          | ((go_at_call 25; refine (told22_any _).mono ?_; rintro e w2 ⟨rfl, hb⟩; have hb2 : Below wr.heap.size wr w2 := ⟨hb.os, hb.tape, hb.output, hb.size, hb.block⟩))
          | ((go_at_call 26; refine (sum_any l _ hl9).mono ?_; rintro e w3 ⟨rfl, hb⟩; have hb3 : Below wr.heap.size wr w3 := grew hb2 hb))
          | ((go_at_call 27; refine (refSum_any l _ hl9).mono ?_; rintro e w4 ⟨rfl, hb⟩; have hb4 : Below wr.heap.size wr w4 := grew hb3 hb)))
      go_wp2_with fail
      go_ret
      exact ⟨rfl, hbel.trans (hb4.mono hbel.size)⟩
end Go.Proofs.YtfeefpaclaonfaaR
