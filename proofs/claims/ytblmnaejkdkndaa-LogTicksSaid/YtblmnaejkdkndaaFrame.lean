/- The walks over package record, and over the document's Frame and Scan. -/
import Derived.Test.YtblmnaejkdkndaaRecPlain
import Derived.Test.YtblmnaejkdkndaaWireWalks
import Derived.Test.YtblmnaejkdkndaaCrcSum
set_option linter.unusedSimpArgs false
set_option linter.unusedVariables false
namespace Go.Proofs.Ytblmnaejkdkndaa
open Go.RowKit Go.BigFrame Wire Crc Rec

/-- a fresh text and a code are handed back -/
def FreshB (l : List UInt8) (w : World) (e : Ending) (w' : World) : Prop :=
  ∃ v, e = .returned (.tuple #[v, .int .i64 0]) ∧ OwnS w' w.heap.size 5 1 v l.length (by8 l) ∧ Below w.heap.size w w'

set_option maxRecDepth 20000 in
set_option maxHeartbeats 400000 in
theorem frame_great (p : Option Addr) (n cap : Nat) (w : World) (hn : 1048576 < n) (h63 : (n : Int) ≤ 9223372036854775807) :
    Calls Try.prog 57 #[.slice p n cap] w fun e w' => e = .returned (.tuple #[.slice none 0 0, .int .i64 8]) ∧ w = w' := by
  have d1 : decide ((1048576 : Int) < (n : Int)) = true := by simp; omega
  go_enter Try.func57, Try.ntmps57
  go_wp2_with fail
  go_ret2
  exact ⟨rfl, rfl⟩

set_option maxRecDepth 20000 in
set_option maxHeartbeats 400000 in
theorem frame_any (p : Option Addr) (n cap : Nat) (l : List UInt8) (w : World) (hr : Rd8 w p l) (hn : n = l.length) (hm : n ≤ 1048576) :
    Calls Try.prog 57 #[.slice p n cap] w (FreshB (frame l) w) := by
  subst hn
  have HR := Lib.hid hr
  clear hr
  have d1 : decide ((1048576 : Int) < (l.length : Int)) = false := by simp; omega
  go_enter Try.func57, Try.ntmps57
  go_wp2_with fail
  go_fit (four_any w.heap.size (.slice none 0 0) 0 [] l.length w OwnS.none (by omega) (by omega) (Nat.le_refl _))
  rintro e w1 ⟨v1, rfl, ho1, ha1⟩
  have hb1 := ha1.below (Below.refl w.heap.size w) (Nat.le_refl _) (by simp [Value.ownBlock])
  obtain ⟨p1, cap1, rfl, hr1, _⟩ := ho1.shape
  simp only [Nat.zero_add, List.nil_append] at ho1 hr1
  have HO1 := Lib.hid ho1
  have HR1 := Lib.hid hr1
  clear ho1 ha1 hr1
  have L1 := Lib.hid (beB_len l.length 4).symm
  go_wp2_with fail
  go_fit (sum_n p1 4 cap1 (beB l.length 4) w1 HR1.out L1.out (by omega))
  rintro e w2 ⟨rfl, hb2⟩
  go_wp2_with fail
  go_fit (update_n _ p _ cap l w2 (HR.out.below (grew hb1 hb2)) rfl (by omega))
  rintro e w3 ⟨rfl, hb3⟩
  generalize hx : upd (upd 0#32 (beB l.length 4)) l = x
  have HX := Lib.hid hx
  clear hx
  have hx32 : (x.toNat : Int) ≤ 4294967295 := by have := x.isLt; omega
  have hb13 := grew (hb2) hb3
  go_wp2_with fail
  go_fit (put4 w.heap.size (.slice p1 4 cap1) 4 (by8 (beB l.length 4)) x.toNat w3 (HO1.out.below hb13) (by omega) (by omega) (Nat.le_trans hb1.size hb13.size))
  rintro e w4 ⟨v4, rfl, ho4, ha4⟩
  have hb4 := ha4.below (grew hb1 hb13) (Nat.le_trans hb1.size hb13.size) (fun k hk => (HO1.out.lt k hk).1)
  obtain ⟨p4, cap4, rfl, hr4, _⟩ := ho4.shape
  have HO4 := Lib.hid ho4
  clear ho4 ha4 hr4 hb13 hb2 hb3
  go_wp2_with ((with_reducible refine L_appR slB Try.underlying31 HO4.out (HR.out.below hb4) (by8_one _) (by8_mul _) ?_ ?_ ?_ ?_ ?_); (focus rfl); (focus rfl); (focus exact ⟨_, rfl⟩); (focus exact ⟨room1 (by omega), by omega, hb4.size⟩); intro v5 w5 ho5 hg5 hk5 hn5; clear hn5; have hb5 := hg5.below hb4 hb4.size hk5; clear hg5 hk5; simp only [Act.put, List.setIfInBounds_toArray, List.set_cons_zero, List.set_cons_succ])
  have HO5 := Lib.hid ho5
  clear ho5
  go_ret2
  refine ⟨v5, rfl, ?_, hb5⟩
  have h := HO5.out
  rw [← by8_append, ← by8_append, ← HX.out] at h
  rw [frame_len]
  exact h

theorem slBB : SlT Try.prog 112 31 1 24 := SlT.of (z := .slice none 0 0) (by kernel_rfl) rfl (by decide) Try.underlying112
/-- v is a slice of the bytes l, not in block no -/
def IsB (w : World) (no : Option Nat) (v : Value) (l : List UInt8) : Prop :=
  ∃ p c, v = .slice p l.length c ∧ Rd8 w p l ∧ l.length ≤ c ∧ c ≤ maxLen ∧ (l ≠ [] → ∀ a, p = some a → some a.block ≠ no)
theorem IsB.below {w w' : World} {no : Option Nat} {v : Value} {l : List UInt8} (h : IsB w no v l) (hb : Below w.heap.size w w') : IsB w' no v l := by
  obtain ⟨p, c, h1, h2, h3, h4, h5⟩ := h
  exact ⟨p, c, h1, h2.below hb, h3, h4, h5⟩
theorem IsB.step {w w' : World} {u u' v : Value} {l : List UInt8} (h : IsB w u.ownBlock v l) (ha : App w w' u u') : IsB w' u'.ownBlock v l := by
  obtain ⟨p, c, h1, h2, h3, h4, h5⟩ := h
  by_cases hl : l = []
  · subst hl
    exact ⟨p, c, h1, .inl rfl, h3, h4, fun h => absurd rfl h⟩
  · refine ⟨p, c, h1, Rd.app h2 ha (fun a hp => fun e => h5 hl a hp e.symm), h3, h4, fun _ a hp => ?_⟩
    have hlt : a.block < w.heap.size := by
      obtain ⟨b, o, hp', hc⟩ := Rd8.at h2 (k := 0) (List.length_pos_iff.2 hl)
      rw [hp] at hp'; cases hp'
      exact block_lt_of_cell (hc 0 (List.length_pos_iff.2 hl))
    rcases ha.new with hn | hn
    · rw [hn]; exact h5 hl a hp
    · intro e
      have := hn a.block e.symm
      omega
theorem IsB.any {w : World} {no : Option Nat} {v : Value} {l : List UInt8} (h : IsB w no v l) : IsB w none v l := by
  obtain ⟨p, c, h1, h2, h3, h4, h5⟩ := h
  exact ⟨p, c, h1, h2, h3, h4, fun _ _ _ => by simp⟩
/-- the values vs are slices of the bytes L, none in block no -/
def Els (w : World) (no : Option Nat) (vs : List Value) (L : List (List UInt8)) : Prop :=
  vs.length = L.length ∧ ∀ i (h : i < vs.length) (h' : i < L.length), IsB w no vs[i] L[i]
theorem Els.nil (w : World) (no : Option Nat) : Els w no [] [] := ⟨rfl, fun i h => absurd h (by simp)⟩
theorem Els.below {w w' : World} {no : Option Nat} {vs : List Value} {L : List (List UInt8)} (h : Els w no vs L) (hb : Below w.heap.size w w') : Els w' no vs L :=
  ⟨h.1, fun i h1 h2 => (h.2 i h1 h2).below hb⟩
theorem Els.step {w w' : World} {u u' : Value} {vs : List Value} {L : List (List UInt8)} (h : Els w u.ownBlock vs L) (ha : App w w' u u') : Els w' u'.ownBlock vs L :=
  ⟨h.1, fun i h1 h2 => (h.2 i h1 h2).step ha⟩
theorem Els.any {w : World} {no : Option Nat} {vs : List Value} {L : List (List UInt8)} (h : Els w no vs L) : Els w none vs L := ⟨h.1, fun i h1 h2 => (h.2 i h1 h2).any⟩
theorem Els.snoc {w : World} {no : Option Nat} {vs : List Value} {L : List (List UInt8)} {v : Value} {l : List UInt8} (h : Els w no vs L) (hv : IsB w no v l) : Els w no (vs ++ [v]) (L ++ [l]) := by
  refine ⟨by simp [h.1], fun i h1 h2 => ?_⟩
  by_cases hi : i < vs.length
  · have hi' : i < L.length := by rw [← h.1]; exact hi
    rw [List.getElem_append_left hi, List.getElem_append_left hi']
    exact h.2 i hi hi'
  · have e : i = vs.length := by simp at h1; omega
    subst e
    have e2 : vs.length = L.length := h.1
    simp only [List.getElem_concat_length]
    have : (L ++ [l])[vs.length] = l := by simp [e2]
    rw [this]; exact hv
theorem sl_one (p : Option Addr) (n c : Nat) : ∀ u ∈ [Value.slice p n c], u.oneCell' = true := by simp [Value.oneCell']
/-- the texts at p on are L -/
def RdBB (w : World) (p : Option Addr) (L : List (List UInt8)) : Prop := ∃ vs, Rd w p vs ∧ Els w none vs L

end Go.Proofs.Ytblmnaejkdkndaa
