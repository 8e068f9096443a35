/- The walks over the helpers of the law RecordScans: frames, Turned. -/
import Derived.Test.YtfeefpaclaonfaaRRefRecWalks
import Derived.Deep.DeepCutAuto
import Derived.Deep.CutBlock
set_option linter.unusedSimpArgs false
set_option linter.unusedVariables false
namespace Go.Proofs.YtfeefpaclaonfaaR
open Go.RowKit Go.BigFrame Wire Crc Rec

/-- the first ten are short -/
def Short10 (L : List (List UInt8)) : Prop := ∀ j (h : j < L.length), j < 10 → L[j].length ≤ 300
def FramesOut (L : List (List UInt8)) (w : World) (e : Ending) (w' : World) : Prop :=
  ((e = .returned (.tuple #[.string (str (frames (L.take 10))), .bool true]) ∧ Short10 L) ∨ e = .returned (.tuple #[.string (str []), .bool false])) ∧ Below w.heap.size w w'
def FramesRel (L : List (List UInt8)) (w : World) (s i : Value) (wr : World) : Prop :=
  ∃ k : Nat, k ≤ L.length ∧ k ≤ 10 ∧ i = .int .i64 k ∧ (∀ j (h : j < L.length), j < k → L[j].length ≤ 300) ∧ s = .string (str (frames (L.take k))) ∧ Below w.heap.size w wr
theorem few10 {L : List (List UInt8)} {k : Nat} (hk : k ≤ 10) (h : ∀ j (h : j < L.length), j < k → L[j].length ≤ 300) : (frames (L.take k)).length ≤ 3080 := by
  have h1 := frames_take_len (L.take k) 300 (by
    intro l hl
    obtain ⟨j, hj, rfl⟩ := List.getElem_of_mem hl
    simp only [List.length_take] at hj
    rw [List.getElem_take]
    exact h j (by omega) (by omega))
  have h2 : (L.take k).length ≤ 10 := by rw [List.length_take]; omega
  have h3 : (L.take k).length * (8 + 300) ≤ 10 * 308 := Nat.mul_le_mul_right _ h2
  omega

set_option maxRecDepth 20000 in
set_option maxHeartbeats 4000000 in
theorem frames4_any (p : Option Addr) (cap : Nat) (L : List (List UInt8)) (w : World) (hr : RdS w p L) (hcap : L.length ≤ cap) (hmax : cap ≤ maxLen) :
    Calls Try.prog 18 #[.slice p L.length cap] w (FramesOut L w) := by
  have hl63 : L.length ≤ 9223372036854775807 := by unfold maxLen at hmax; omega
  have HR := Lib.hid hr
  clear hr hmax
  go_enter Try.func18, Try.ntmps18
  go_wp2_with fail
  go_loopw [4, 5] (fun s i wr => FramesRel L w s i wr) (fun _ i _ => 10 - (intOf i).toNat)
  case atStart => exact ⟨0, by omega, by omega, rfl, by intro j _ h; omega, by simp [frames_nil, str], Below.refl _ _⟩
  case round =>
    obtain ⟨k, hk, hk10, rfl, h300, rfl, hbel⟩ := hrel
    have H3 := Lib.hid h300
    have hfew := few10 hk10 h300
    clear h300
    by_cases hlt : k < L.length
    · by_cases hlt10 : k < 10
      · obtain ⟨b, o, rfl, hc⟩ := RdS.at (HR.out.below hbel) (k := k) hlt
        have hcell := hc k hlt
        have HFS := Lib.hid (frames_take_succ L k hlt)
        have H4 : Hid (L[k].length ≤ 300 → ∀ j (h : j < L.length), j < k + 1 → L[j].length ≤ 300) := fun h0 j hj hjk => by
          by_cases e : j = k
          · subst e; exact h0
          · exact H3.out j hj (by omega)
        have HFL := Lib.hid (frame_len L[k])
        clear hc
        generalize hlk : L[k] = lk at *
        clear hlk
        by_cases hbig : 300 < lk.length
        · have d1 : decide ((300 : Int) < (lk.length : Int)) = true := by simp; omega
          go_wp2_with fail
          go_ret2
          exact ⟨.inr rfl, hbel⟩
        · have d1 : decide ((300 : Int) < (lk.length : Int)) = false := by simp; omega
          have hsm : lk.length ≤ 300 := by omega
          go_wp2_with fail
          go_fit (ref_frame lk wr (by omega))
          rintro e w2 ⟨rfl, hb2⟩
          have hbel2 := hbel.trans (hb2.mono hbel.size)
          have hfl8 : (frame lk).length ≤ 308 := by rw [HFL.out]; omega
          go_wp2_with fail
          refine ⟨⟨k + 1, by omega, by omega, by go_num, H4.out hsm, by rw [HFS.out], hbel2⟩, by simp [intOf]; omega⟩
      · obtain rfl : k = 10 := by omega
        have d1 : decide ((10 : Int) < (L.length : Int)) = true := by simp; omega
        go_wp2_with fail
        go_ret2
        exact ⟨.inl ⟨rfl, H3.out⟩, hbel⟩
    · obtain rfl : k = L.length := by omega
      have e10 : L.take L.length = L.take 10 := by rw [List.take_length, List.take_of_length_le hk10]
      have E10 := Lib.hid e10
      clear e10
      go_wp2_with fail
      go_ret2
      refine ⟨.inl ⟨?_, fun j h _ => H3.out j h h⟩, hbel⟩
      rw [← E10.out]; rfl

/-- a text of at most so many bytes -/
def SomeText (n : Nat) (w : World) (e : Ending) (w' : World) : Prop := ∃ t : List UInt8, e = .returned (.string (str t)) ∧ t.length ≤ n ∧ Below w.heap.size w w'
abbrev RdI (w : World) (p : Option Addr) (L : List Int) : Prop := Rd w p (L.map fun x => Value.int .i64 x)
def TurnedRel (n : Nat) (w : World) (s i : Value) (wr : World) : Prop :=
  ∃ (k : Nat) (l : List UInt8), k ≤ 4 ∧ i = .int .i64 k ∧ s = .string (str l) ∧ l.length ≤ n + k ∧ Below w.heap.size w wr

set_option maxRecDepth 20000 in
set_option maxHeartbeats 4000000 in
theorem turned_any (l : List UInt8) (p q : Option Addr) (cp cq : Nat) (A : List Int) (B : List UInt8) (w : World) (hA : RdI w p A) (hB : Rd8 w q B) (hcp : A.length ≤ cp) (hmp : cp ≤ maxLen) (hcq : B.length ≤ cq) (hmq : cq ≤ maxLen) (hl : l.length ≤ 100000) :
    Calls Try.prog 22 #[.string (str l), .slice p A.length cp, .slice q B.length cq] w (SomeText (l.length + 4) w) := by
  have hA63 : A.length ≤ 9223372036854775807 := by unfold maxLen at hmp; omega
  have hB63 : B.length ≤ 9223372036854775807 := by unfold maxLen at hmq; omega
  have HA := Lib.hid hA
  have HB := Lib.hid hB
  clear hA hB hmp hmq
  go_enter Try.func22, Try.ntmps22
  go_wp2_with fail
  go_loopw [0, 7] (fun s i wr => TurnedRel l.length w s i wr) (fun _ i _ => 4 - (intOf i).toNat)
  case atStart => exact ⟨0, l, by omega, rfl, rfl, by omega, Below.refl _ _⟩
  case round =>
    obtain ⟨k, l1, hk, rfl, rfl, hl1, hbel⟩ := hrel
    by_cases hgo : k < A.length ∧ k < B.length ∧ k < 4 ∧ 0 < l1.length
    · obtain ⟨h1, h2, h3, h4⟩ := hgo
      obtain ⟨b, o, rfl, hc⟩ := Rd.at (HA.out.below hbel) (k := k) (by simpa using h1)
      have hcell := hc k (by simpa using h1)
      simp only [List.getElem_map] at hcell
      obtain ⟨b2, o2, rfl, hc2⟩ := Rd8.at (HB.out.below hbel) (k := k) h2
      have hcell2 := hc2 k h2
      clear hc hc2
      generalize A[k] = x at *
      generalize B[k] = c at *
      obtain ⟨u, m, hu, hm, hm1, hm2⟩ := uint_mod x (l1.length : Int) l1.length rfl h4
      have d1 : decide ((k : Int) < 4) = true := by simp; omega
      have hcv : (convert 23 9 (.slice (some ⟨wr.heap.size, 0, none⟩) 1 1)).run Try.prog (wr.alloc (.cells #[.int .u8 ((c.toNat : Int) / 4)] 5)).drew = .ok (.string (str [UInt8.ofNat (c.toNat / 4)])) (wr.alloc (.cells #[.int .u8 ((c.toNat : Int) / 4)] 5)).drew :=
        run_b2s slB isB isS (l := [UInt8.ofNat (c.toNat / 4)]) (Rd.drew (Rd8.new wr _ _ _ _ (by
          have := c.toNat_lt
          simp [by8]
          omega)))
      have hm0 : m ≤ l1.length := by omega
      go_wp2_with fail
      · go_region
        go_wp2_with fail
        exact ⟨⟨k + 1, _, by omega, by go_num, rfl, by simp; omega, (hbel.alloc hbel.size _).drew⟩, by simp [intOf]; omega⟩
      · go_region
        go_wp2_with fail
        exact ⟨⟨k + 1, _, by omega, by go_num, rfl, by simp; omega, (hbel.alloc hbel.size _).drew⟩, by simp [intOf]; omega⟩
      · refine wp_region_quiet_below (by kernel_rfl) (by kernel_rfl) ?_; (repeat (first | go_big_quiet_step (first | fail | fail) | quiet_step (first | fail | fail))); refine wpQuiet_nil ?_; intro _ hw'; obtain ⟨⟨dq, osq⟩, hw''⟩ := hw'; subst hw''; have hq := below_regrown wr dq osq; generalize Go.Sort.grow (redrawn wr dq) osq = w1 at *; clear dq osq
        go_wp2_with fail
        exact ⟨⟨k + 1, _, by omega, by go_num, rfl, by simp; omega, hbel.trans (hq.mono hbel.size)⟩, by simp [intOf]; omega⟩
      · go_region
        go_wp2_with fail
        exact ⟨⟨k + 1, _, by omega, by go_num, rfl, by simp; omega, (hbel.alloc hbel.size _).drew⟩, by simp [intOf]; omega⟩
    · have hend : ∃ t : List UInt8, Ending.returned (.string (str l1)) = .returned (.string (str t)) ∧ t.length ≤ l.length + 4 ∧ Below w.heap.size w wr := ⟨l1, rfl, by omega, hbel⟩
      have HEnd := Lib.hid hend
      clear hend
      by_cases h1 : k < A.length
      · by_cases h2 : k < B.length
        · by_cases h3 : k < 4
          · have h4 : ¬ 0 < l1.length := fun h4 => hgo ⟨h1, h2, h3, h4⟩
            have d1 : decide ((k : Int) < 4) = true := by simp; omega
            have d2 : decide ((0 : Int) < (l1.length : Int)) = false := by rw [decide_eq_false_iff_not]; omega
            clear hgo
            go_wp2_with fail
            go_ret
            exact HEnd.out
          · have d1 : decide ((k : Int) < 4) = false := by simp; omega
            clear hgo
            go_wp2_with fail
            go_ret
            exact HEnd.out
        · clear hgo
          go_wp2_with fail
          go_ret
          exact HEnd.out
      · clear hgo
        go_wp2_with fail
        go_ret
        exact HEnd.out
end Go.Proofs.YtfeefpaclaonfaaR
