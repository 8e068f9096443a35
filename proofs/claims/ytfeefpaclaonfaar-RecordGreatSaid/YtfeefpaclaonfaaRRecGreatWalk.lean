/- The walk of the law RecordGreat. -/
import Derived.Test.YtfeefpaclaonfaaRRecTold
set_option linter.unusedSimpArgs false
set_option linter.unusedVariables false
namespace Go.Proofs.YtfeefpaclaonfaaR
open Go.RowKit Go.BigFrame Wire Crc Rec

set_option maxRecDepth 100000 in
set_option maxHeartbeats 4000000 in
theorem recordGreat_walk (c : UInt8) (x : Int) (w : World) (h64 : -9223372036854775808 ≤ x ∧ x ≤ 9223372036854775807) :
    Calls Try.prog 9 #[.int .u8 (c.toNat : Int), .int .i64 x] w fun e w' => e = .returned (.bool true) ∧ Below w.heap.size w w' := by
  obtain ⟨u, j, hu, hj, hj1, hj2⟩ := uint_mod x 3 3 rfl (by omega)
  obtain ⟨k, hk⟩ : ∃ k : Nat, k = 1048575 + j := ⟨_, rfl⟩
  have hki : (1048576 + (j : Int) - 1) = (k : Int) := by omega
  have hmax : ∀ v : World, (Builtin.max_ #[3, 3] 3 #[.int .i64 (k : Int), .int .i64 0]).run Try.prog v = .ok (.int .i64 (k : Int)) v := fun v => by
    simp [Builtin.max_, Builtin.max2]; omega
  have hmk := fun v => run_make_bytes v k (by omega)
  have hkb : k ≤ 1048577 := by omega
  have hk0 : 1048575 ≤ k := by omega
  have HK := Lib.hid hk
  clear hk
  go_enter Try.func9, Try.ntmps9
  go_wp2_with fail
  go_loopw [7] (fun i wr => ∃ (m : Nat) (l : List UInt8), m ≤ 1052673 ∧ i = .int .i64 m ∧ l.length = k ∧ OwnS wr w.heap.size 5 1 (.slice (some ⟨w.heap.size, 0, none⟩) k k) k (by8 l) ∧ Below w.heap.size w wr) (fun i _ => 1052673 - (intOf i).toNat)
  case atStart =>
    have ho := own_made w w.heap.size (List.replicate k 0) (Nat.le_refl _) (by unfold maxLen; simp; omega)
    simp only [List.length_replicate] at ho
    exact ⟨0, List.replicate k 0, by omega, rfl, by simp, ho, grewA (Below.refl _ _) _⟩
  case round =>
    obtain ⟨m, l, hm, rfl, hl, ho, hbel⟩ := hrel
    have HO := Lib.hid ho
    have HL := Lib.hid hl
    clear ho hmk hmax
    by_cases hlt : m < k
    · have d1 : decide ((m : Int) < (k : Int)) = true := by simp; omega
      obtain ⟨hcell, hfz⟩ := HO.out.get (j := m) (by rw [by8_len, HL.out]; exact hlt)
      have hst := HO.out.set (j := m) (by rw [by8_len, HL.out]; exact hlt) (.int .u8 (c.toNat : Int))
      rw [by8_set] at hst
      have HST := Lib.hid hst
      clear hst
      go_wp2_with fail
      refine ⟨⟨m + 4096, l.set m c, by omega, by go_num, by rw [List.length_set, HL.out], HST.out, ?_⟩, by simp [intOf]; omega⟩
      exact hbel.setCell (by simp) _
    · have hbs := hbel.size
      by_cases hg : 1048576 < k
      · have d1 : decide ((1048576 : Int) < (k : Int)) = true := by simp; omega
        go_wp2_with fail
        go_fit (frame_great _ _ _ _ hg (by omega))
        rintro e w1 ⟨rfl, rfl⟩
        go_wp2_with fail
        go_fit (told4_any _)
        rintro e w2 ⟨rfl, hb2⟩
        go_wp2_with fail
        go_ret
        exact ⟨rfl, hbel.trans (hb2.mono hbs)⟩
      · have d1 : decide ((1048576 : Int) < (k : Int)) = false := by simp; omega
        have hsc := scan_all [l] (by intro l' h; simp only [List.mem_singleton] at h; subst h; rw [HL.out]; omega)
        rw [frames_cons, frames_nil, List.append_nil] at hsc
        have HSC := Lib.hid hsc
        have HFL := Lib.hid (show (frame l).length = 8 + k by rw [frame_len, HL.out])
        clear hsc
        go_wp2_with fail
        have ht1 := HO.out.txt
        go_fit (frame_any _ _ k l wr ht1.2.1 HL.out.symm (by omega))
        rintro e w1 ⟨v1, rfl, ho1, hb1⟩
        obtain ⟨p1, cap1, rfl, hr1, _⟩ := ho1.shape
        obtain ⟨hn1, _, hc1, _, _⟩ := ho1.txt
        rw [HFL.out] at hn1 hc1 ⊢
        have H1 := Lib.hid hr1
        clear ho1 hr1 hn1 ht1
        go_wp2_with fail
        go_fit (scan_any p1 (8 + k) cap1 (frame l) w1 H1.out HFL.out.symm hc1 (by omega))
        rintro e w2 ⟨q, cq, rfl, hrr, hb2⟩
        rw [HSC.out, HFL.out] at hrr ⊢
        have hbel2 := hbel.trans ((grew hb1 hb2).mono hbs)
        have hbs2 := hbel2.size
        clear hrr hb1 hb2
        simp only [List.length_cons, List.length_nil]
        go_wp2_with fail
        go_fit (told4_any _)
        rintro e w3 ⟨rfl, hb3⟩
        go_wp2_with fail
        go_ret
        exact ⟨by first | rfl | (have e : (8 + (k : Int) == (k : Int) + 8) = true := by simp; omega
                                 simp), hbel2.trans (hb3.mono hbs2)⟩
end Go.Proofs.YtfeefpaclaonfaaR
