/- The walk over DiskPlays. -/
import Derived.Test.YtadnabgnbhpijaaDSame
import Derived.Deep.DeepCutAuto
import Derived.Deep.CutBlock
set_option linter.unusedSimpArgs false
set_option linter.unusedVariables false
namespace Go.Proofs.Ytadnabgnbhpijaa
open Go.RowKit Go.Maps
/-- the ops at p on are L -/
def RdOpD (w : World) (p : Option Addr) (L : List OpD) : Prop :=
  L = [] ∨ ∃ b o, p = some ⟨b, o, none⟩ ∧ ∀ i (h : i < L.length), w.cell? ⟨b, o + i * 6, none⟩ = some (.int .i64 L[i].kind) ∧ w.cell? ⟨b, o + i * 6 + 1, none⟩ = some (.int .i64 L[i].n) ∧ w.cell? ⟨b, o + i * 6 + 2, none⟩ = some (.string (str L[i].name)) ∧ w.cell? ⟨b, o + i * 6 + 3, none⟩ = some (.string (str L[i].to_)) ∧ w.cell? ⟨b, o + i * 6 + 4, none⟩ = some (.string (str L[i].b)) ∧ w.cell? ⟨b, o + i * 6 + 5, none⟩ = some (.bool L[i].garble)
theorem RdOpD.at {w : World} {p : Option Addr} {L : List OpD} (h : RdOpD w p L) {k : Nat} (hk : k < L.length) :
    ∃ b o, p = some ⟨b, o, none⟩ ∧ w.cell? ⟨b, o + k * 6, none⟩ = some (.int .i64 L[k].kind) ∧ w.cell? ⟨b, o + k * 6 + 1, none⟩ = some (.int .i64 L[k].n) ∧ w.cell? ⟨b, o + k * 6 + 2, none⟩ = some (.string (str L[k].name)) ∧ w.cell? ⟨b, o + k * 6 + 3, none⟩ = some (.string (str L[k].to_)) ∧ w.cell? ⟨b, o + k * 6 + 4, none⟩ = some (.string (str L[k].b)) ∧ w.cell? ⟨b, o + k * 6 + 5, none⟩ = some (.bool L[k].garble) := by
  rcases h with rfl | ⟨b, o, hp, hc⟩
  · simp at hk
  · exact ⟨b, o, hp, hc k hk⟩
theorem both0D {w w1 : World} {db n B : Nat} (hB : B = w.heap.size) (hn : n ≤ 16777216) (hA : DiskAt (B ≤ ·) w1 db [] n false) (hb : Below B w w1) : BothD (fun _ => False) w (w1.alloc (.cells #[.slice none 0 0, .int .i64 (n : Int), .bool false] 55)) db w1.heap.size [] n false [] n false := by
  subst hB
  have hbal : Below w1.heap.size w1 (w1.alloc (.cells #[.slice none 0 0, .int .i64 (n : Int), .bool false] 55)) := (Below.refl _ _).alloc (Nat.le_refl _) _
  have := hb.size
  refine ⟨_, fun k => k = w1.heap.size, ?_, fun k hk => ?_, fun k hk => ?_, (hA.lt).below hbal, ⟨.slice none 0 0, rfl, heap_alloc_new w1 _, OwnS.none, fun k hk => by simp [Value.ownBlock] at hk, List.Pairwise.nil, by simp [usedD], hn, by simp, by simp⟩, hb.alloc (by omega) _, fun k hk => hk.elim⟩
  · rintro k ⟨_, hk⟩ rfl; omega
  · exact ⟨hk.1, by have := hk.2; simp; omega⟩
  · subst hk; exact ⟨by omega, by simp⟩
def PlaysRelD (w : World) (db xb k : Nat) (wr : World) : Prop := ∃ D r d, BothD (fun _ => False) w wr db xb D r d D r d ∧ D.length ≤ k
set_option maxHeartbeats 4000000 in
set_option maxRecDepth 20000 in
theorem diskPlays_walk (room : Int) (p : Option Addr) (cap : Nat) (L : List OpD) (w : World) (hr : RdOpD w p L) (hcap : L.length ≤ cap) (hmax : cap ≤ maxLen) (hn : ∀ o ∈ L, -9223372036854775808 ≤ o.n ∧ o.n ≤ 9223372036854775807) :
    Calls Try.prog 8 #[.int .i64 room, .slice p L.length cap] w fun e w' => e = .returned (.bool true) ∧ Below w.heap.size w w' := by
  have hl63 : L.length ≤ 9223372036854775807 := by unfold maxLen at hmax; omega
  have HR := Lib.hid hr
  have HN := Lib.hid hn
  clear hr hmax hn
  by_cases hbad : room < 0 ∨ 16777216 < room
  · have HNB := Lib.hid (new_bad room w hbad)
    rcases hbad with h0 | h0
    · have d1 : decide (room < 0) = true := by simp; omega
      clear h0
      go_enter Try.func8, Try.ntmps8
      go_wp2_with fail
      go_fit HNB.out
      rintro e w1 ⟨rfl, rfl⟩
      go_wp2_with fail
      go_fit (told3_any w)
      rintro e w2 ⟨rfl, hb⟩
      go_wp2_with fail
      go_ret
      exact ⟨rfl, hb⟩
    · have d1 : decide (room < 0) = false := by simp; omega
      have d2 : decide ((16777216 : Int) < room) = true := by simp; omega
      clear h0
      go_enter Try.func8, Try.ntmps8
      go_wp2_with fail
      go_fit HNB.out
      rintro e w1 ⟨rfl, rfl⟩
      go_wp2_with fail
      go_fit (told3_any w)
      rintro e w2 ⟨rfl, hb⟩
      go_wp2_with fail
      go_ret
      exact ⟨rfl, hb⟩
  · obtain ⟨n, rfl⟩ : ∃ n : Nat, room = (n : Int) := ⟨room.toNat, by omega⟩
    have hn16 : n ≤ 16777216 := by omega
    have d1 : decide ((n : Int) < 0) = false := by simp
    have d2 : decide ((16777216 : Int) < (n : Int)) = false := by simp; omega
    clear hbad
    go_enter Try.func8, Try.ntmps8
    go_wp2_with fail
    go_fit (new_nat n w hn16)
    rintro e w1 ⟨db, rfl, hd1, hb1⟩
    have hbo := both0D rfl hn16 hd1 hb1
    have HBO := Lib.hid hbo
    clear hd1 hb1 hbo
    go_upto_block 0 with (fail)
    obtain ⟨xb, hxb⟩ : ∃ v, v = w1.heap.size := ⟨_, rfl⟩
    obtain ⟨w2, hw2⟩ : ∃ v, v = w1.alloc (.cells #[.slice none 0 0, .int .i64 (n : Int), .bool false] 55) := ⟨_, rfl⟩
    rw [← hw2, ← hxb] at HBO
    simp only [← hxb, ← hw2]
    clear hxb hw2
    go_cut [] (fun wc => PlaysRelD w db xb 40 wc)
    case first =>
      go_wp2_with fail
      go_loopw [8] (fun i wr => ∃ k, k ≤ L.length ∧ k ≤ 40 ∧ i = .int .i64 (k : Int) ∧ PlaysRelD w db xb k wr) (fun i _ => 40 - (intOf i).toNat)
      case atStart => exact ⟨0, Nat.zero_le _, Nat.zero_le _, rfl, [], n, false, HBO.out, Nat.le_refl _⟩
      case round =>
        obtain ⟨k, hk, hk3, rfl, D, r, d, hB, hDk⟩ := hrel
        have HB := Lib.hid hB
        clear hB HBO
        by_cases hkl : k < L.length
        · have d1 : decide ((k : Int) < (L.length : Int)) = true := by simp; omega
          by_cases hk40 : k < 40
          · have d2 : decide ((k : Int) < 40) = true := by simp; omega
            obtain ⟨b, o, rfl, c0, c1, c2, c3, c4, c5⟩ := HR.out.at hkl
            have c0 := cell_below HB.out.base c0
            have c1 := cell_below HB.out.base c1
            have c2 := cell_below HB.out.base c2
            have c3 := cell_below HB.out.base c3
            have c4 := cell_below HB.out.base c4
            have c5 := cell_below HB.out.base c5
            have k0 : (0 : Int) ≤ (k : Int) := by omega
            have k1 : (k : Int) < (L.length : Int) := by omega
            by_cases hgood : L[k].b.length ≤ 2000 ∧ L[k].name.length ≤ 100 ∧ L[k].to_.length ≤ 100
            · obtain ⟨g1, g2, g3⟩ := hgood
              have t1 : decide ((2000 : Int) < (L[k].b.length : Int)) = false := by simp; omega
              have t2 : decide ((100 : Int) < (L[k].name.length : Int)) = false := by simp; omega
              have t3 : decide ((100 : Int) < (L[k].to_.length : Int)) = false := by simp; omega
              have hact : Calls Try.prog 36 #[.pointer (some ⟨db, 0, none⟩), .pointer (some ⟨xb, 0, none⟩), .agg #[.int .i64 L[k].kind, .int .i64 L[k].n, .string (str L[k].name), .string (str L[k].to_), .string (str L[k].b), .bool L[k].garble]] wr (ActDoesD w db xb D) := actD_any HB.out L[k] (HN.out _ (List.getElem_mem hkl)) g2 g3 g1 (by omega)
              have HACT := Lib.hid hact
              clear hact
              go_wp2_with (first
                | (go_at_call 36; refine HACT.out.mono ?_; rintro e w3 ⟨rfl, D2, r2, d2, hB3, hml⟩; have HB3 := Lib.hid hB3; clear hB3)
                | (go_at_call 37; refine (same_any HB3.out (by omega)).mono ?_; rintro e w4 ⟨rfl, hb4⟩; have HB4 := Lib.hid (HB3.out.grow hb4); clear hb4))
              exact ⟨⟨k + 1, by omega, by omega, by go_num, D2, r2, d2, HB4.out, by omega⟩, by simp [intOf]; omega⟩
            · by_cases g1 : L[k].b.length ≤ 2000
              · have t1 : decide ((2000 : Int) < (L[k].b.length : Int)) = false := by simp; omega
                by_cases g2 : L[k].name.length ≤ 100
                · have t2 : decide ((100 : Int) < (L[k].name.length : Int)) = false := by simp; omega
                  have t3 : decide ((100 : Int) < (L[k].to_.length : Int)) = true := by
                    have : ¬ L[k].to_.length ≤ 100 := fun h => hgood ⟨g1, g2, h⟩
                    simp; omega
                  clear hgood
                  go_wp2_with fail
                  go_fit (told3_any _)
                  rintro e w3 ⟨rfl, hb3⟩
                  go_wp2_with fail
                  go_ret
                  exact ⟨rfl, HB.out.base.trans (hb3.mono HB.out.base.size)⟩
                · have t2 : decide ((100 : Int) < (L[k].name.length : Int)) = true := by simp; omega
                  clear hgood
                  go_wp2_with fail
                  go_fit (told3_any _)
                  rintro e w3 ⟨rfl, hb3⟩
                  go_wp2_with fail
                  go_ret
                  exact ⟨rfl, HB.out.base.trans (hb3.mono HB.out.base.size)⟩
              · have t1 : decide ((2000 : Int) < (L[k].b.length : Int)) = true := by simp; omega
                clear hgood
                go_wp2_with fail
                go_fit (told3_any _)
                rintro e w3 ⟨rfl, hb3⟩
                go_wp2_with fail
                go_ret
                exact ⟨rfl, HB.out.base.trans (hb3.mono HB.out.base.size)⟩
          · have d2 : decide ((k : Int) < 40) = false := by simp; omega
            go_wp2_with fail
            go_meet
            exact ⟨D, r, d, HB.out, by omega⟩
        · have d1 : decide ((k : Int) < (L.length : Int)) = false := by simp; omega
          go_wp2_with fail
          go_meet
          exact ⟨D, r, d, HB.out, by omega⟩
    case rest =>
      obtain ⟨D, r, d, hB, hDk⟩ := hcut
      obtain ⟨wA, hA⟩ : ∃ v, v = wc := ⟨_, rfl⟩
      subst hA
      have HB := Lib.hid hB
      clear hB HBO
      go_wp2_with fail
      go_fit (told3_any _)
      rintro e w3 ⟨rfl, hb3⟩
      go_wp2_with fail
      go_ret
      exact ⟨rfl, HB.out.base.trans (hb3.mono HB.out.base.size)⟩
end Go.Proofs.Ytadnabgnbhpijaa
