/- The walks over package record, and over the document's Frame and Scan. -/
import Derived.Test.YtfeefpaclaonfaaRRecPlain
import Derived.Test.YtfeefpaclaonfaaRWireWalks
import Derived.Test.YtfeefpaclaonfaaRCrcWalks
set_option linter.unusedSimpArgs false
set_option linter.unusedVariables false
namespace Go.Proofs.YtfeefpaclaonfaaR
open Go.RowKit Go.BigFrame Wire Crc Rec

/-- a fresh text and a code are handed back -/
def FreshB (l : List UInt8) (w : World) (e : Ending) (w' : World) : Prop :=
  ∃ v, e = .returned (.tuple #[v, .int .i64 0]) ∧ OwnS w' w.heap.size 5 1 v l.length (by8 l) ∧ Below w.heap.size w w'

set_option maxRecDepth 20000 in
set_option maxHeartbeats 400000 in
theorem frame_great (p : Option Addr) (n cap : Nat) (w : World) (hn : 1048576 < n) (h63 : (n : Int) ≤ 9223372036854775807) :
    Calls Try.prog 20 #[.slice p n cap] w fun e w' => e = .returned (.tuple #[.slice none 0 0, .int .i64 8]) ∧ w = w' := by
  have d1 : decide ((1048576 : Int) < (n : Int)) = true := by simp; omega
  go_enter Try.func20, Try.ntmps20
  go_wp2_with fail
  go_ret2
  exact ⟨rfl, rfl⟩

set_option maxRecDepth 20000 in
set_option maxHeartbeats 400000 in
theorem frame_any (p : Option Addr) (n cap : Nat) (l : List UInt8) (w : World) (hr : Rd8 w p l) (hn : n = l.length) (hm : n ≤ 1048576) :
    Calls Try.prog 20 #[.slice p n cap] w (FreshB (frame l) w) := by
  subst hn
  have HR := Lib.hid hr
  clear hr
  have d1 : decide ((1048576 : Int) < (l.length : Int)) = false := by simp; omega
  go_enter Try.func20, Try.ntmps20
  go_wp2_with fail
  go_fit (four_any w.heap.size (.slice none 0 0) 0 [] l.length w OwnS.none (by omega) (by omega) (Nat.le_refl _))
  rintro e w1 ⟨v1, rfl, ho1, ha1⟩
  have hb1 := ha1.below (Below.refl w.heap.size w) (Nat.le_refl _) (by simp [Value.ownBlock])
  obtain ⟨p1, cap1, rfl, hr1, _⟩ := ho1.shape
  simp only [Nat.zero_add, List.nil_append] at ho1 hr1
  have HO1 := Lib.hid ho1
  have HR1 := Lib.hid hr1
  clear ho1 ha1 hr1
  have L1 := Lib.hid (beB_len l.length 4).symm
  go_wp2_with fail
  go_fit (sum_n p1 4 cap1 (beB l.length 4) w1 HR1.out L1.out (by omega))
  rintro e w2 ⟨rfl, hb2⟩
  go_wp2_with fail
  go_fit (update_n _ p _ cap l w2 (HR.out.below (grew hb1 hb2)) rfl (by omega))
  rintro e w3 ⟨rfl, hb3⟩
  generalize hx : upd (upd 0#32 (beB l.length 4)) l = x
  have HX := Lib.hid hx
  clear hx
  have hx32 : (x.toNat : Int) ≤ 4294967295 := by have := x.isLt; omega
  have hb13 := grew (hb2) hb3
  go_wp2_with fail
  go_fit (put4 w.heap.size (.slice p1 4 cap1) 4 (by8 (beB l.length 4)) x.toNat w3 (HO1.out.below hb13) (by omega) (by omega) (Nat.le_trans hb1.size hb13.size))
  rintro e w4 ⟨v4, rfl, ho4, ha4⟩
  have hb4 := ha4.below (grew hb1 hb13) (Nat.le_trans hb1.size hb13.size) (fun k hk => (HO1.out.lt k hk).1)
  obtain ⟨p4, cap4, rfl, hr4, _⟩ := ho4.shape
  have HO4 := Lib.hid ho4
  clear ho4 ha4 hr4 hb13 hb2 hb3
  go_wp2_with ((with_reducible refine L_appR slB Try.underlying23 HO4.out (HR.out.below hb4) (by8_one _) (by8_mul _) ?_ ?_ ?_ ?_ ?_); (focus rfl); (focus rfl); (focus exact ⟨_, rfl⟩); (focus exact ⟨room1 (by omega), by omega, hb4.size⟩); intro v5 w5 ho5 hg5 hk5 hn5; clear hn5; have hb5 := hg5.below hb4 hb4.size hk5; clear hg5 hk5; simp only [Act.put, List.setIfInBounds_toArray, List.set_cons_zero, List.set_cons_succ])
  have HO5 := Lib.hid ho5
  clear ho5
  go_ret2
  refine ⟨v5, rfl, ?_, hb5⟩
  have h := HO5.out
  rw [← by8_append, ← by8_append, ← HX.out] at h
  rw [frame_len]
  exact h

theorem slBB : SlT Try.prog 40 23 1 24 := SlT.of (z := .slice none 0 0) (by kernel_rfl) rfl (by decide) Try.underlying40
/-- v is a slice of the bytes l, not in block no -/
def IsB (w : World) (no : Option Nat) (v : Value) (l : List UInt8) : Prop :=
  ∃ p c, v = .slice p l.length c ∧ Rd8 w p l ∧ l.length ≤ c ∧ c ≤ maxLen ∧ (l ≠ [] → ∀ a, p = some a → some a.block ≠ no)
theorem IsB.below {w w' : World} {no : Option Nat} {v : Value} {l : List UInt8} (h : IsB w no v l) (hb : Below w.heap.size w w') : IsB w' no v l := by
  obtain ⟨p, c, h1, h2, h3, h4, h5⟩ := h
  exact ⟨p, c, h1, h2.below hb, h3, h4, h5⟩
theorem IsB.step {w w' : World} {u u' v : Value} {l : List UInt8} (h : IsB w u.ownBlock v l) (ha : App w w' u u') : IsB w' u'.ownBlock v l := by
  obtain ⟨p, c, h1, h2, h3, h4, h5⟩ := h
  by_cases hl : l = []
  · subst hl
    exact ⟨p, c, h1, .inl rfl, h3, h4, fun h => absurd rfl h⟩
  · refine ⟨p, c, h1, Rd.app h2 ha (fun a hp => fun e => h5 hl a hp e.symm), h3, h4, fun _ a hp => ?_⟩
    have hlt : a.block < w.heap.size := by
      obtain ⟨b, o, hp', hc⟩ := Rd8.at h2 (k := 0) (List.length_pos_iff.2 hl)
      rw [hp] at hp'; cases hp'
      exact block_lt_of_cell (hc 0 (List.length_pos_iff.2 hl))
    rcases ha.new with hn | hn
    · rw [hn]; exact h5 hl a hp
    · intro e
      have := hn a.block e.symm
      omega
theorem IsB.any {w : World} {no : Option Nat} {v : Value} {l : List UInt8} (h : IsB w no v l) : IsB w none v l := by
  obtain ⟨p, c, h1, h2, h3, h4, h5⟩ := h
  exact ⟨p, c, h1, h2, h3, h4, fun _ _ _ => by simp⟩
/-- the values vs are slices of the bytes L, none in block no -/
def Els (w : World) (no : Option Nat) (vs : List Value) (L : List (List UInt8)) : Prop :=
  vs.length = L.length ∧ ∀ i (h : i < vs.length) (h' : i < L.length), IsB w no vs[i] L[i]
theorem Els.nil (w : World) (no : Option Nat) : Els w no [] [] := ⟨rfl, fun i h => absurd h (by simp)⟩
theorem Els.below {w w' : World} {no : Option Nat} {vs : List Value} {L : List (List UInt8)} (h : Els w no vs L) (hb : Below w.heap.size w w') : Els w' no vs L :=
  ⟨h.1, fun i h1 h2 => (h.2 i h1 h2).below hb⟩
theorem Els.step {w w' : World} {u u' : Value} {vs : List Value} {L : List (List UInt8)} (h : Els w u.ownBlock vs L) (ha : App w w' u u') : Els w' u'.ownBlock vs L :=
  ⟨h.1, fun i h1 h2 => (h.2 i h1 h2).step ha⟩
theorem Els.any {w : World} {no : Option Nat} {vs : List Value} {L : List (List UInt8)} (h : Els w no vs L) : Els w none vs L := ⟨h.1, fun i h1 h2 => (h.2 i h1 h2).any⟩
theorem Els.snoc {w : World} {no : Option Nat} {vs : List Value} {L : List (List UInt8)} {v : Value} {l : List UInt8} (h : Els w no vs L) (hv : IsB w no v l) : Els w no (vs ++ [v]) (L ++ [l]) := by
  refine ⟨by simp [h.1], fun i h1 h2 => ?_⟩
  by_cases hi : i < vs.length
  · have hi' : i < L.length := by rw [← h.1]; exact hi
    rw [List.getElem_append_left hi, List.getElem_append_left hi']
    exact h.2 i hi hi'
  · have e : i = vs.length := by simp at h1; omega
    subst e
    have e2 : vs.length = L.length := h.1
    simp only [List.getElem_concat_length]
    have : (L ++ [l])[vs.length] = l := by simp [e2]
    rw [this]; exact hv
theorem OwnS.txt {w : World} {base n c : Nat} {p : Option Addr} {l : List UInt8} {e : TypeId} (h : OwnS w base e 1 (.slice p n c) n (by8 l)) : n = l.length ∧ Rd8 w p l ∧ n ≤ c ∧ c ≤ maxLen ∧ ∀ a, p = some a → base ≤ a.block ∧ a.block < w.heap.size := by
  have hl := h.1
  rw [by8_len, Nat.mul_one] at hl
  refine ⟨hl.symm, ?_, ?_, ?_, fun a hp => h.lt a.block (by subst hp; rfl)⟩
  · obtain ⟨q, c', hq, hr, _⟩ := h.shape
    cases hq; exact hr
  · rcases h.2 with ⟨h0, rfl⟩ | ⟨g, cap, cur, fr, h0, _, _, _, h1, h2, _⟩
    · omega
    · cases h0; exact h1
  · rcases h.2 with ⟨h0, rfl⟩ | ⟨g, cap, cur, fr, h0, _, _, _, h1, h2, _⟩
    · cases h0; exact Nat.zero_le _
    · cases h0; exact h2
theorem sl_one (p : Option Addr) (n c : Nat) : ∀ u ∈ [Value.slice p n c], u.oneCell' = true := by simp [Value.oneCell']
/-- the texts at p on are L -/
def RdBB (w : World) (p : Option Addr) (L : List (List UInt8)) : Prop := ∃ vs, Rd w p vs ∧ Els w none vs L

/-- what holds at the head of a round of Scan -/
def ScanRel (l : List UInt8) (w : World) (out i : Value) (wr : World) : Prop :=
  ∃ (a : Nat) (vs : List Value) (L : List (List UInt8)), a ≤ l.length ∧ i = .int .i64 a ∧ OwnS wr w.heap.size 23 1 out L.length vs ∧ Els wr out.ownBlock vs L ∧ Below w.heap.size w wr ∧ scan l = (L ++ (scan (l.drop a)).1, a + (scan (l.drop a)).2) ∧ L.length ≤ a
/-- .. and at its end -/
def ScanEnd (l : List UInt8) (w : World) (out i : Value) (wr : World) : Prop :=
  ∃ vs : List Value, i = .int .i64 ((scan l).2 : Int) ∧ OwnS wr w.heap.size 23 1 out (scan l).1.length vs ∧ Els wr out.ownBlock vs (scan l).1 ∧ Below w.heap.size w wr
theorem ScanRel.done {l : List UInt8} {w : World} {out : Value} {a : Nat} {wr : World} {vs : List Value} {L : List (List UInt8)} {r : List UInt8} (ho : OwnS wr w.heap.size 23 1 out L.length vs) (hel : Els wr out.ownBlock vs L) (hb : Below w.heap.size w wr)
    (hs : scan l = (L ++ (scan r).1, a + (scan r).2)) (h1 : one r = none) : ScanEnd l w out (.int .i64 (a : Int)) wr := by
  rw [scan_none h1, List.append_nil, Nat.add_zero] at hs
  unfold ScanEnd
  rw [hs]
  exact ⟨vs, rfl, ho, hel, hb⟩

set_option maxRecDepth 20000 in
set_option maxHeartbeats 4000000 in
theorem scan_any (p : Option Addr) (n cap : Nat) (l : List UInt8) (w : World) (hr : Rd8 w p l) (hn : n = l.length) (hc : n ≤ cap) (hm : n ≤ 1099511627776) :
    Calls Try.prog 23 #[.slice p n cap] w fun e w' => ∃ q c, e = .returned (.tuple #[.slice q (scan l).1.length c, .int .i64 ((scan l).2 : Int)]) ∧ RdBB w' q (scan l).1 ∧ Below w.heap.size w w' := by
  subst hn
  have HR := Lib.hid hr
  clear hr
  go_enter Try.func23, Try.ntmps23
  go_wp2_with fail
  refine wp_scope_jumps 0 (fun a w' => ∃ u0 u1 u2 u3 u4 u5 u6 u7 u8 u9 u10 u11 u12 u13 u14 u15 u16 u17 u18 u19 u20 u21 u22 u23 u24 u25 u26 u27 u28 u29 u30 u31 u32 u33 u34 u35 u36 u37 u38 u39 u40 u41 u42 u43 u44 u45 u46 u47 u48 u49 u50 u51 u52 u53 u54 u55 u56 u57, ScanEnd l w u4 u5 w' ∧ a = { tmps := #[u0, u1, u2, u3, u4, u5, u6, u7, u8, u9, u10, u11, u12, u13, u14, u15, u16, u17, u18, u19, u20, u21, u22, u23, u24, u25, u26, u27, u28, u29, u30, u31, u32, u33, u34, u35, u36, u37, u38, u39, u40, u41, u42, u43, u44, u45, u46, u47, u48, u49, u50, u51, u52, u53, u54, u55, u56, u57], defers := [] }) (fun _ _ => 0) (by rfl) ?_ ?_
  · go_wp2_with fail
    go_loopw [4, 5] (fun out i wr => ScanRel l w out i wr) (fun _ i _ => l.length - (intOf i).toNat)
    case atStart => exact ⟨0, [], [], by omega, rfl, OwnS.none, Els.nil _ _, Below.refl _ _, by simp, by simp⟩
    case round =>
      obtain ⟨a, vs, L, ha, rfl, ho, hel, hbel, hsc, hLa⟩ := hrel
      have HO := Lib.hid ho
      have HE := Lib.hid hel
      have HS := Lib.hid hsc
      clear ho hel hsc
      have hq : Rd8 wr (shift p a cap 1) (l.drop a) := by
        have := (HR.out.below hbel).shift (l := a) (n := l.length) (cap := cap) (sz := 1) (by8_mul l) hc
        rw [Nat.mul_one] at this
        unfold Rd8; rw [by8_drop]; exact this
      have HQ := Lib.hid hq
      clear hq
      have hsl := run_slice_from slB (P := Try.prog) wr p l.length cap a ha
      have hlen : (l.drop a).length = l.length - a := List.length_drop
      have HL := Lib.hid hlen
      clear hlen
      generalize shift p a cap 1 = q at HQ hsl
      by_cases h8' : l.length - a < 8
      · have hi8 : (l.length : Int) - (a : Int) < 8 := by omega
        go_wp2_with fail
        go_step3
        refine ⟨rfl, _, _, _, _, _, _, _, _, _, _, _, _, _, _, _, _, _, _, _, _, _, _, _, _, _, _, _, _, _, _, _, _, _, _, _, _, _, _, _, _, _, _, _, _, _, _, _, _, _, _, _, _, _, _, _, _, _, _, ScanRel.done HO.out HE.out hbel HS.out ?_, rfl⟩
        unfold one
        rw [if_pos (by rw [HL.out]; exact h8')]
      · have hi8 : ¬ ((l.length - a : Nat) : Int) < 8 := by omega
        have hmc : l.length - a ≤ cap - a := by omega
        have HL4 := Lib.hid (show ((l.drop a).drop 4).length = l.length - a - 4 by rw [List.length_drop, HL.out])
        have hsl4 : ∀ u, (Instr.slice 23 (.slice q (l.length - a) (cap - a)) (some (.int .i64 4)) none none).run Try.prog u = .ok (.slice (shift q 4 (cap - a) 1) (l.length - a - 4) (cap - a - 4)) u := fun u => run_slice_from slB u q (l.length - a) (cap - a) 4 (by omega)
        have HQ4 : Hid (Rd8 wr (shift q 4 (cap - a) 1) ((l.drop a).drop 4)) := by
          have := HQ.out.shift (l := 4) (n := l.length - a) (cap := cap - a) (sz := 1) (by rw [by8_mul, HL.out]) hmc
          unfold Hid
          unfold Rd8; rw [by8_drop]; exact this
        generalize shift q 4 (cap - a) 1 = q4 at HQ4 hsl4
        generalize hr : l.drop a = r at *
        have HRR := Lib.hid hr
        clear hr
        have G1 := Lib.hid (rg_same (w := wr) fun u hu => get4 q (l.length - a) (cap - a) r u (HQ.out.below hu) HL.out.symm (by omega) hmc)
        have G2 := Lib.hid (rg_same (w := wr) fun u hu => get4 q4 (l.length - a - 4) (cap - a - 4) (r.drop 4) u (HQ4.out.below hu) HL4.out.symm (by omega) (by omega))
        have hg1 : get (r.take 4) < 4294967296 := by
          have h1 := get_lt (r.take 4)
          have h2 : 256 ^ (r.take 4).length ≤ 256 ^ 4 := Nat.pow_le_pow_right (by omega) (by rw [List.length_take]; omega)
          have h3 : 256 ^ 4 = 4294967296 := by decide
          omega
        have hg2 : get ((r.drop 4).take 4) < 4294967296 := by
          have h1 := get_lt ((r.drop 4).take 4)
          have h2 : 256 ^ ((r.drop 4).take 4).length ≤ 256 ^ 4 := Nat.pow_le_pow_right (by omega) (by rw [List.length_take]; omega)
          have h3 : 256 ^ 4 = 4294967296 := by decide
          omega
        generalize hn : get (r.take 4) = nn at *
        generalize hsm : get ((r.drop 4).take 4) = sm at *
        have HN := Lib.hid hn
        have HSM := Lib.hid hsm
        clear hn hsm
        have wn : IntKind.i64.wrap (nn : Int) = nn := IntWalk.i64_in _ (by omega)
        have wsm : IntKind.u32.wrap (sm : Int) = sm := IntWalk.u32_in _ (by omega)
        go_wp2_with fail
        refine wp_region_quiet_below (by kernel_rfl) (by kernel_rfl) ?_; (repeat (first | go_big_quiet_step (first | (first | with_reducible exact G1.out _ _ | with_reducible exact G2.out _ _) | fail) | quiet_step (first | (first | with_reducible exact G1.out _ _ | with_reducible exact G2.out _ _) | fail))); refine wpQuiet_nil ?_; intro _ hw'; obtain ⟨⟨dq, osq⟩, hw''⟩ := hw'; subst hw''; have hq1 := below_regrown wr dq osq; generalize Go.Sort.grow (redrawn wr dq) osq = w1 at *; clear dq osq
        clear wn wsm
        have HSL := Lib.hid hsl
        have HSL4 := Lib.hid hsl4
        have h8m : 8 ≤ l.length - a := by omega
        have h63 : l.length - a ≤ 9223372036854775807 := by omega
        clear hsl hsl4 hi8 G1 G2 HQ4 HL4 h8'
        have HQ1 := Lib.hid (HQ.out.below hq1)
        have HO1 := Lib.hid (HO.out.below hq1)
        have HE1 := Lib.hid (HE.out.below hq1)
        have hbel1 := hbel.trans (hq1.mono hbel.size)
        clear HO HE hbel HQ
        generalize hmm : l.length - a = m at *
        generalize hcc : cap - a = c at *
        have HMM := Lib.hid hmm
        clear hmm hcc
        by_cases c1 : 1048576 < nn
        · have d1 : decide ((1048576 : Int) < (nn : Int)) = true := by simp; omega
          go_wp2_with fail
          refine wp_region_quiet_below (by kernel_rfl) (by kernel_rfl) ?_; (repeat (first | go_big_quiet_step (first | fail | fail) | quiet_step (first | fail | fail))); refine wpQuiet_nil ?_; intro _ hw'; obtain ⟨⟨dq, osq⟩, hw''⟩ := hw'; subst hw''; have hq2 := below_regrown w1 dq osq; generalize Go.Sort.grow (redrawn w1 dq) osq = w2 at *; clear dq osq
          go_wp2_with fail
          go_step3
          refine ⟨rfl, _, _, _, _, _, _, _, _, _, _, _, _, _, _, _, _, _, _, _, _, _, _, _, _, _, _, _, _, _, _, _, _, _, _, _, _, _, _, _, _, _, _, _, _, _, _, _, _, _, _, _, _, _, _, _, _, _, _, ScanRel.done (HO1.out.below hq2) (HE1.out.below hq2) (hbel1.trans (hq2.mono hbel1.size)) HS.out ?_, rfl⟩
          unfold one
          rw [if_neg (by rw [HL.out]; omega), HN.out, if_pos (.inl c1)]
        have d1 : decide ((1048576 : Int) < (nn : Int)) = false := by simp; omega
        have w8 : IntKind.i64.wrap ((m : Int) - 8) = (m : Int) - 8 := IntWalk.i64_in _ (by omega)
        by_cases c2 : m - 8 < nn
        · have d2 : decide ((m : Int) - 8 < (nn : Int)) = true := by simp; omega
          go_wp2_with fail
          refine wp_region_quiet_below (by kernel_rfl) (by kernel_rfl) ?_; (repeat (first | go_big_quiet_step (first | fail | fail) | quiet_step (first | fail | fail))); refine wpQuiet_nil ?_; intro _ hw'; obtain ⟨⟨dq, osq⟩, hw''⟩ := hw'; subst hw''; have hq2 := below_regrown w1 dq osq; generalize Go.Sort.grow (redrawn w1 dq) osq = w2 at *; clear dq osq
          go_wp2_with fail
          go_step3
          refine ⟨rfl, _, _, _, _, _, _, _, _, _, _, _, _, _, _, _, _, _, _, _, _, _, _, _, _, _, _, _, _, _, _, _, _, _, _, _, _, _, _, _, _, _, _, _, _, _, _, _, _, _, _, _, _, _, _, _, _, _, _, ScanRel.done (HO1.out.below hq2) (HE1.out.below hq2) (hbel1.trans (hq2.mono hbel1.size)) HS.out ?_, rfl⟩
          unfold one
          rw [if_neg (by rw [HL.out]; omega), HN.out, if_pos (.inr (.inl (by rw [HL.out]; exact c2)))]
        have d2 : decide ((m : Int) - 8 < (nn : Int)) = false := by simp; omega
        have wn8 : IntKind.i64.wrap (8 + (nn : Int)) = 8 + (nn : Int) := IntWalk.i64_in _ (by omega)
        have s4 : ∀ u, (Instr.slice 23 (.slice q m c) none (some (.int .i64 4)) none).run Try.prog u = .ok (.slice q 4 c) u := fun u => run_slice_to slB u q m c 4 (by omega)
        have s8 : ∀ u, (Instr.slice 23 (.slice q m c) (some (.int .i64 8)) (some (.int .i64 (8 + (nn : Int)))) none).run Try.prog u = .ok (.slice (shift q 8 c 1) nn (c - 8)) u := fun u => by
          have h := run_slice_mid slB (P := Try.prog) u q m c 8 (8 + nn) (by omega) (by omega)
          rw [Nat.add_sub_cancel_left] at h
          exact h
        have hb8 : Rd8 w1 (shift q 8 c 1) ((r.drop 8).take nn) := by
          have h := HQ1.out.shift (l := 8) (n := m) (cap := c) (sz := 1) (by rw [by8_mul, HL.out]) (by omega)
          have h2 := Rd.take h nn
          unfold Rd8; rw [by8_take, by8_drop]; exact h2
        have hl8 : ((r.drop 8).take nn).length = nn := by rw [List.length_take, List.length_drop, HL.out]; omega
        have HB8 := Lib.hid hb8
        have HL8 := Lib.hid hl8
        clear hb8 hl8
        generalize shift q 8 c 1 = q8 at HB8 s8
        have G3 := Lib.hid (rg_below (w := w1) fun u hu => sum_n q 4 c (r.take 4) u ((HQ1.out.take 4).below hu) (by rw [List.length_take, HL.out]; omega) (by omega))
        have G4 := Lib.hid (rg_below (w := w1) fun u hu => update_n (upd 0#32 (r.take 4)) q8 nn (c - 8) ((r.drop 8).take nn) u (HB8.out.below hu) HL8.out.symm (by omega))
        have HX := Lib.hid (show upd (upd 0#32 (r.take 4)) ((r.drop 8).take nn) = upd (upd 0#32 (r.take 4)) ((r.drop 8).take nn) from rfl)
        by_cases c3 : upd (upd 0#32 (r.take 4)) ((r.drop 8).take nn) = BitVec.ofNat 32 sm
        · have d3 : ((((upd (upd 0#32 (r.take 4)) ((r.drop 8).take nn)).toNat : Int)) != (sm : Int)) = false := by
            rw [c3, BitVec.toNat_ofNat]; simp; omega
          have H1 : one r = some nn := by
            unfold one
            rw [if_neg (by rw [HL.out]; omega), HN.out, HSM.out, if_neg (by rw [not_or, not_or]; exact ⟨by omega, by rw [HL.out]; omega, fun h => h c3⟩)]
          have HO1' := Lib.hid H1
          clear c3 H1
          go_wp2_with fail
          refine wp_region_quiet_below (by kernel_rfl) (by kernel_rfl) ?_; (repeat (first | go_big_quiet_step (first | (first | with_reducible exact G3.out _ _ | with_reducible exact G4.out _ _) | fail) | quiet_step (first | (first | with_reducible exact G3.out _ _ | with_reducible exact G4.out _ _) | fail))); refine wpQuiet_nil ?_; intro _ hw'; obtain ⟨⟨dq, osq⟩, hw''⟩ := hw'; subst hw''; have hq2 := below_regrown w1 dq osq; generalize Go.Sort.grow (redrawn w1 dq) osq = w2 at *; clear dq osq
          clear d1 d2 d3 w8 G3 G4 s4
          have HO2 := Lib.hid (HO1.out.below hq2)
          have HE2 := Lib.hid (HE1.out.below hq2)
          have HB2 := Lib.hid (HB8.out.below hq2)
          have hbel2 := hbel1.trans (hq2.mono hbel1.size)
          clear HO1 HE1 HB8 hbel1 hq2 HQ1
          have hLm : L.length ≤ 1099511627776 := by omega
          go_wp2_with (first
            | ((with_reducible refine L_appR slB Try.underlying23 (OwnS.fresh (base := w2.heap.size) (Nat.le_refl _)) (HB2.out.alloc _) (by8_one _) (by rw [by8_mul, HL8.out]) ?_ ?_ ?_ ?_ ?_); (focus rfl); (focus rfl); (focus exact ⟨_, rfl⟩); (focus exact ⟨room1 (by omega), by omega, by simp⟩); intro v3 w3 ho3 ha3 hk3 hn3; clear hn3; (try simp only [Nat.zero_add, List.nil_append] at ho3); have hb3 := ha3.below (grewA (Below.refl _ w2) _) (by simp) hk3; clear hk3 ha3; obtain ⟨p3, cap3, rfl, hr3, _⟩ := ho3.shape; have HO3 := Lib.hid ho3; clear ho3 hr3; simp only [Act.put, List.setIfInBounds_toArray, List.set_cons_zero, List.set_cons_succ])
            | ((with_reducible refine L_appR slBB Try.underlying40 ((HO2.out.below hb3).alloc _) (Rd.one _ _ _) (sl_one _ _ _) rfl ?_ ?_ ?_ ?_ ?_); (focus rfl); (focus rfl); (focus exact ⟨_, rfl⟩); (focus exact ⟨room1 (by omega), by omega, by simp; exact Nat.le_succ_of_le (Nat.le_trans hbel2.size hb3.size)⟩); intro v4 w4 ho4 ha4 hk4 hn4; clear hn4; have HO4 := Lib.hid ho4; have HA4 := Lib.hid ha4; clear ho4 ha4; simp only [Act.put, List.setIfInBounds_toArray, List.set_cons_zero, List.set_cons_succ]))
          have h1s := one_some HO1'.out
          have h8n : 8 + nn ≤ m := by have := h1s.1; rw [HL.out] at this; exact this
          have hmo := HMM.out
          refine ⟨⟨a + 8 + nn, vs ++ [.slice p3 nn cap3], L ++ [(r.drop 8).take nn], by omega, by go_num, ?_, ?_, ?_, ?_, by simp; omega⟩, by simp [intOf]; omega⟩
          · rw [List.length_append]; exact HO4.out
          · obtain ⟨_, ht1, ht2, ht3, ht4⟩ := HO3.out.txt
            have hE := ((HE2.out.below hb3).below (grewA (Below.refl _ w3) (.cells #[.slice p3 nn cap3] 23))).step HA4.out
            refine hE.snoc (IsB.step (u := u4) (IsB.below (w := w3) ?_ (grewA (Below.refl _ w3) _)) HA4.out)
            refine ⟨p3, cap3, by rw [HL8.out], ht1, by rw [HL8.out]; exact ht2, ht3, fun _ b hb e => ?_⟩
            have h1 := (ht4 b hb).1
            have h2 := (HO2.out.lt b.block e.symm).2
            omega
          · exact HA4.out.below ((hbel2.trans (hb3.mono hbel2.size)).alloc (Nat.le_trans hbel2.size hb3.size) _) (by simp; exact Nat.le_succ_of_le (Nat.le_trans hbel2.size hb3.size)) hk4
          · have e1 : l.drop (a + 8 + nn) = r.drop (8 + nn) := by
              rw [← HRR.out, List.drop_drop]; congr 1; omega
            rw [HS.out, scan_some HO1'.out, e1]
            refine Prod.ext ?_ ?_
            · simp
            · simp only; omega
        · have d3 : ((((upd (upd 0#32 (r.take 4)) ((r.drop 8).take nn)).toNat : Int)) != (sm : Int)) = true := by
            rw [bne_iff_ne]
            intro e
            apply c3
            apply BitVec.eq_of_toNat_eq
            rw [BitVec.toNat_ofNat]
            have := (upd (upd 0#32 (r.take 4)) ((r.drop 8).take nn)).isLt
            omega
          have C3 := Lib.hid c3
          clear c3
          go_wp2_with fail
          refine wp_region_quiet_below (by kernel_rfl) (by kernel_rfl) ?_; (repeat (first | go_big_quiet_step (first | (first | with_reducible exact G3.out _ _ | with_reducible exact G4.out _ _) | fail) | quiet_step (first | (first | with_reducible exact G3.out _ _ | with_reducible exact G4.out _ _) | fail))); refine wpQuiet_nil ?_; intro _ hw'; obtain ⟨⟨dq, osq⟩, hw''⟩ := hw'; subst hw''; have hq2 := below_regrown w1 dq osq; generalize Go.Sort.grow (redrawn w1 dq) osq = w2 at *; clear dq osq
          go_wp2_with fail
          go_step3
          refine ⟨rfl, _, _, _, _, _, _, _, _, _, _, _, _, _, _, _, _, _, _, _, _, _, _, _, _, _, _, _, _, _, _, _, _, _, _, _, _, _, _, _, _, _, _, _, _, _, _, _, _, _, _, _, _, _, _, _, _, _, _, ScanRel.done (HO1.out.below hq2) (HE1.out.below hq2) (hbel1.trans (hq2.mono hbel1.size)) HS.out ?_, rfl⟩
          unfold one
          rw [if_neg (by rw [HL.out]; omega), HN.out, HSM.out, if_pos (.inr (.inr C3.out))]
  · rintro a w' ⟨u0, u1, u2, u3, u4, u5, u6, u7, u8, u9, u10, u11, u12, u13, u14, u15, u16, u17, u18, u19, u20, u21, u22, u23, u24, u25, u26, u27, u28, u29, u30, u31, u32, u33, u34, u35, u36, u37, u38, u39, u40, u41, u42, u43, u44, u45, u46, u47, u48, u49, u50, u51, u52, u53, u54, u55, u56, u57, hrel, rfl⟩
    obtain ⟨vs, rfl, ho, hel, hbel⟩ := hrel
    obtain ⟨q, c, rfl, hr, _⟩ := ho.shape
    have HO := Lib.hid ho
    have HE := Lib.hid hel
    have H3 := Lib.hid hr
    clear ho hel hr
    go_wp2_with fail
    rw [jump_ret]
    go_ret2
    exact ⟨q, c, rfl, ⟨vs, H3.out, HE.out.any⟩, hbel⟩
end Go.Proofs.YtfeefpaclaonfaaR
