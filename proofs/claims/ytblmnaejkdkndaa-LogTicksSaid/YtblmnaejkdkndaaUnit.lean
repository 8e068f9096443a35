/- The walk over unit.Write, for a unit of one effect that takes a key away. -/
import Derived.Test.YtblmnaejkdkndaaEff
import Derived.Test.YtblmnaejkdkndaaFrame
import Derived.Deep.DeepCutAuto
import Derived.Deep.CutBlock
set_option linter.unusedSimpArgs false
set_option linter.unusedVariables false
namespace Go.Proofs.Ytblmnaejkdkndaa
open Go.RowKit Wire Rec

set_option maxHeartbeats 1000000 in
set_option maxRecDepth 20000 in
theorem head_any (c : UInt8) (k : Nat) (hk : k ≤ 1000000) (w : World) : Calls Try.prog 55 #[.int .u8 (c.toNat : Int), .int .i64 (k : Int)] w fun e w' => ∃ v, e = .returned v ∧ OwnS w' w.heap.size 5 1 v 5 (by8 (c :: beB k 4)) ∧ Below w.heap.size w w' := by
  go_enter Try.func55, Try.ntmps55
  go_wp2_with fail
  go_fit (four_any w.heap.size _ 1 (by8 [c]) k _ (OwnS.new (n := 1) (e := 5) #[.int .u8 (c.toNat : Int)] 1 (0, 0) (Nat.le_refl _) (.inl rfl) (by omega) (by decide) rfl) (by omega) (by omega) (by go_simp))
  rintro e w1 ⟨v1, rfl, ho1, ha1⟩
  have hb1 : Below w.heap.size w w1 := ha1.below ((Below.refl w.heap.size w).alloc (Nat.le_refl _) _) (by go_simp) (by simp [Value.ownBlock])
  have HO1 := Lib.hid ho1
  clear ho1 ha1
  go_wp2_with fail
  go_ret
  refine ⟨v1, rfl, ?_, hb1⟩
  have h := HO1.out
  rw [← by8_append] at h
  exact h
/-- the cells of the effect that takes the key k away -/
def effC (k : List UInt8) : List Value := [.string (str k), .int .i64 0, .string ⟨#[]⟩, .slice none 0 0, .slice none 0 0, .slice none 0 0, .slice none 0 0, .int .i64 0]
/-- the body of that effect, and the unit of it -/
def bodyU (k : List UInt8) : List UInt8 := 69 :: (beB 0 8 ++ beB k.length 4 ++ k)
def bodiesL (k : List UInt8) : List (List UInt8) := [66 :: beB 1 4, bodyU k, 67 :: beB 1 4]
def unitB (k : List UInt8) : List UInt8 := frames (bodiesL k)
theorem bodies_small (k : List UInt8) (hk : k.length ≤ 16) : ∀ l ∈ bodiesL k, l.length ≤ 100 := by
  intro l hl
  simp only [bodiesL, List.mem_cons, List.not_mem_nil, or_false] at hl
  rcases hl with rfl | rfl | rfl <;> simp [bodyU, beB_len]
  omega
theorem bodyU_len (k : List UInt8) : (bodyU k).length = 13 + k.length := by simp [bodyU, beB_len]; omega
theorem unitB_len (k : List UInt8) : (unitB k).length = 50 + k.length - 3 := by
  simp only [unitB, bodiesL, frames_cons, frames_nil, List.length_append, frame_len, bodyU_len, List.length_cons, beB_len, List.length_nil]; omega
theorem take_small (k : List UInt8) (j : Nat) : (frames ((bodiesL k).take j)).length ≤ (unitB k).length := by
  have h := frames_append ((bodiesL k).take j) ((bodiesL k).drop j)
  rw [List.take_append_drop] at h
  unfold unitB
  rw [h, List.length_append]; omega
def OutRel (k : List UInt8) (w : World) (out i : Value) (wr : World) : Prop :=
  ∃ j : Nat, j ≤ 3 ∧ i = .int .i64 (j : Int) ∧ OwnS wr w.heap.size 5 1 out (frames ((bodiesL k).take j)).length (by8 (frames ((bodiesL k).take j))) ∧ Below w.heap.size w wr
def WrRel (k : List UInt8) (w : World) (bs i : Value) (wr : World) : Prop :=
  ∃ (j : Nat) (vs : List Value), j ≤ 1 ∧ i = .int .i64 (j : Int) ∧ OwnS wr w.heap.size 31 1 bs (j + 1) vs ∧ Els wr bs.ownBlock vs ((bodiesL k).take (j + 1)) ∧ Below w.heap.size w wr
set_option maxHeartbeats 1000000 in
set_option maxRecDepth 20000 in
theorem write_one (k : List UInt8) (hk1 : 1 ≤ k.length) (hk2 : k.length ≤ 16) (p : Option Addr) (c : Nat) (w : World) (hr : Rd w p (effC k)) :
    Calls Try.prog 35 #[.slice p 1 c] w fun e w' => ∃ v, e = .returned (.tuple #[v, .int .i64 0]) ∧ OwnS w' w.heap.size 5 1 v (unitB k).length (by8 (unitB k)) ∧ Below w.heap.size w w' := by
  have HR := Lib.hid hr
  clear hr
  go_enter Try.func35, Try.ntmps35
  go_wp2_with fail
  go_fit (head_any 66 1 (by omega) w)
  rintro e w1 ⟨v1, rfl, ho1, hb1⟩
  obtain ⟨p1, cap1, rfl, _, _⟩ := ho1.shape
  have HO1 := Lib.hid ho1
  have HB1 := Lib.hid hb1
  clear ho1 hb1
  go_upto_block 0 with (fail)
  go_cut [4] (fun bs wc => WrRel k w bs (.int .i64 1) wc)
  case first =>
    go_wp2_with fail
    go_loopw [4, 28] (fun bs i wr => WrRel k w bs i wr) (fun _ i _ => 1 - (intOf i).toNat)
    case atStart =>
      refine ⟨0, [.slice p1 5 cap1], by omega, rfl, (OwnS.new (w := w1) (n := 1) (e := 31) (sz := 1) #[.slice p1 5 cap1] 1 (0, 0) HB1.out.size (.inl rfl) (by omega) (by decide) rfl), ?_, (HB1.out.alloc HB1.out.size _)⟩
      obtain ⟨_, ht1, ht2, ht3, ht4⟩ := HO1.out.txt
      refine Els.snoc (Els.nil _ _) ⟨p1, cap1, by simp [beB_len], Rd.alloc ht1 _, by simpa [beB_len] using ht2, ht3, fun _ a ha e => ?_⟩
      have h1 := (ht4 a ha).2
      simp only [Value.ownBlock, Option.some.injEq] at e
      omega
    case round =>
      obtain ⟨j, vs, hj, rfl, ho, he, hbel⟩ := hrel
      have HO := Lib.hid ho
      have HE := Lib.hid he
      have HBL := Lib.hid hbel
      have hr1 := HR.out.below hbel
      clear ho he hbel
      by_cases hlt : j = 0
      · subst hlt
        obtain ⟨b, o, rfl, hc⟩ := Rd.at hr1 (k := 0) (by simp [effC])
        have c0 := hc 0 (by simp [effC])
        have c1 := hc 1 (by simp [effC])
        have c2 := hc 2 (by simp [effC])
        have c3 := hc 3 (by simp [effC])
        have c4 := hc 4 (by simp [effC])
        have c5 := hc 5 (by simp [effC])
        have c6 := hc 6 (by simp [effC])
        have c7 := hc 7 (by simp [effC])
        simp only [effC, List.getElem_cons_zero, List.getElem_cons_succ, Nat.add_zero] at c0 c1 c2 c3 c4 c5 c6 c7
        clear hc hr1
        go_wp2_with fail
        go_fit (eput_any k hk1 hk2 _)
        rintro e w3 ⟨v3, rfl, ho3, hb3⟩
        obtain ⟨p3, cap3, rfl, _, _⟩ := ho3.shape
        have hb03 := (Below.refl wr.heap.size wr).alloc (Nat.le_refl _) (.cells #[.string (str k), .int .i64 0, .string ⟨#[]⟩, .slice none 0 0, .slice none 0 0, .slice none 0 0, .slice none 0 0, .int .i64 0] 55)
        have hb03' := hb03.trans (hb3.mono (by simp))
        have HO3 := Lib.hid ho3
        have HB3 := Lib.hid (HBL.out.trans (hb03'.mono HBL.out.size))
        have HO2 := Lib.hid (HO.out.below hb03')
        have HE2 := Lib.hid (HE.out.below hb03')
        have O69 := Lib.hid (OwnS.new (w := w3) (base := w3.heap.size) (sz := 1) (n := 1) (e := 5) #[.int .u8 69] 1 (0, 0) (Nat.le_refl _) (.inl rfl) (by omega) (by decide) rfl)
        have R3 := Lib.hid ho3.txt.2.1
        have HL3 := Lib.hid ho3.1
        clear ho3 hb3 hb03 hb03' c0 c1 c2 c3 c4 c5 c6 c7
        go_wp2_with (first
            | ((with_reducible refine L_appR slB Try.underlying31 O69.out (Rd.alloc R3.out _) (by8_one _) HL3.out ?_ ?_ ?_ ?_ ?_); (focus rfl); (focus rfl); (focus exact ⟨_, rfl⟩); (focus exact ⟨room1 (by omega), by omega, by simp⟩); intro v4 w4 ho4 ha4 hk4 hn4; clear hn4; have hb4 := ha4.below (grewA (Below.refl _ w3) _) (by simp) hk4; clear hk4 ha4; obtain ⟨p4, cap4, rfl, hr4, _⟩ := ho4.shape; have HO4 := Lib.hid ho4; clear ho4 hr4; simp only [Act.put, List.setIfInBounds_toArray, List.set_cons_zero, List.set_cons_succ])
            | ((with_reducible refine L_appR slBB Try.underlying112 ((HO2.out.below hb4).alloc _) (Rd.one _ _ _) (sl_one _ _ _) rfl ?_ ?_ ?_ ?_ ?_); (focus rfl); (focus rfl); (focus exact ⟨_, rfl⟩); (focus exact ⟨room1 (by omega), by omega, by simp; exact Nat.le_succ_of_le (Nat.le_trans HB3.out.size hb4.size)⟩); intro v5 w5 ho5 ha5 hk5 hn5; clear hn5; have HO5 := Lib.hid ho5; have HA5 := Lib.hid ha5; have HK5 := Lib.hid hk5; clear ho5 ha5 hk5; simp only [Act.put, List.setIfInBounds_toArray, List.set_cons_zero, List.set_cons_succ]))
        refine ⟨⟨1, vs ++ [.slice p4 (1 + (12 + k.length)) cap4], by omega, rfl, HO5.out, ?_, ?_⟩, by simp [intOf]⟩
        · have ho4 := HO4.out
          rw [show List.take (1 * 1) [Value.int IntKind.u8 69] ++ by8 (beB 0 8 ++ beB k.length 4 ++ k) = by8 (bodyU k) from rfl] at ho4
          obtain ⟨_, ht1, ht2, ht3, ht4⟩ := ho4.txt
          have hE := ((HE2.out.below hb4).below (grewA (Below.refl _ w4) (.cells #[.slice p4 (1 + (12 + k.length)) cap4] 31))).step HA5.out
          have hbl := bodyU_len k
          refine hE.snoc (l := bodyU k) (IsB.step (u := u4) (IsB.below (w := w4) ?_ (grewA (Below.refl _ w4) _)) HA5.out)
          refine ⟨p4, cap4, by rw [hbl]; congr 1; omega, ht1, by omega, ht3, fun _ b hb e => ?_⟩
          have h1 := (ht4 b hb).1
          have h2 := (HO2.out.lt b.block e.symm).2
          omega
        · exact HA5.out.below ((HB3.out.trans (hb4.mono HB3.out.size)).alloc (Nat.le_trans HB3.out.size hb4.size) _) (by simp; exact Nat.le_succ_of_le (Nat.le_trans HB3.out.size hb4.size)) HK5.out
      · obtain rfl : j = 1 := by omega
        have hend : WrRel k w u4 (.int .i64 1) wr := ⟨1, vs, by omega, rfl, HO.out, HE.out, HBL.out⟩
        have HEND := Lib.hid hend
        clear hend
        go_wp2_with fail
        go_meet
        exact HEND.out
  case rest =>
    obtain ⟨j, vs, hj, hij, ho, he, hbel⟩ := hcut
    obtain rfl : j = 1 := by simp only [Value.int.injEq, true_and] at hij; omega
    have HO := Lib.hid ho
    have HE := Lib.hid he
    have HBL := Lib.hid hbel
    clear ho he hbel hij hj
    go_wp2_with fail
    go_fit (head_any 67 1 (by omega) wc)
    rintro e w2 ⟨v2, rfl, ho2, hb2⟩
    obtain ⟨p2, cap2, rfl, _, _⟩ := ho2.shape
    have HO2 := Lib.hid ho2
    have HB2 := Lib.hid (HBL.out.trans (hb2.mono HBL.out.size))
    have HO1' := Lib.hid (HO.out.below hb2)
    have HE1' := Lib.hid (HE.out.below hb2)
    clear ho2 hb2
    go_wp2_with (((with_reducible refine L_appR slBB Try.underlying112 (HO1'.out.alloc _) (Rd.one _ _ _) (sl_one _ _ _) rfl ?_ ?_ ?_ ?_ ?_); (focus rfl); (focus rfl); (focus exact ⟨_, rfl⟩); (focus exact ⟨room1 (by omega), by omega, by simp; exact Nat.le_succ_of_le HB2.out.size⟩); intro v5 w5 ho5 ha5 hk5 hn5; clear hn5; obtain ⟨p5, cap5, hv5, hr5, _⟩ := ho5.shape; have hv5' : v5 = .slice p5 3 cap5 := hv5; clear hv5; subst hv5'; have HR5 := Lib.hid hr5; clear hr5; have HO5 := Lib.hid ho5; have HA5 := Lib.hid ha5; have HK5 := Lib.hid hk5; clear ho5 ha5 hk5; simp only [Act.put, List.setIfInBounds_toArray, List.set_cons_zero, List.set_cons_succ]))
    have hb5 : Below w.heap.size w w5 := HA5.out.below (HB2.out.alloc HB2.out.size _) (by simp; exact Nat.le_succ_of_le HB2.out.size) HK5.out
    have hels : RdBB w5 p5 (bodiesL k) := by
      refine ⟨_, HR5.out, ?_⟩
      · obtain ⟨_, ht1, ht2, ht3, ht4⟩ := HO2.out.txt
        have hE := (HE1'.out.below (grewA (Below.refl _ w2) (.cells #[.slice p2 5 cap2] 31))).step HA5.out
        refine (hE.snoc (l := 67 :: beB 1 4) (IsB.step (u := u4) (IsB.below (w := w2) ?_ (grewA (Below.refl _ w2) _)) HA5.out)).any
        refine ⟨p2, cap2, by simp [beB_len], ht1, by simpa [beB_len] using ht2, ht3, fun _ b hb e => ?_⟩
        have h1 := (ht4 b hb).1
        have h2 := (HO.out.lt b.block e.symm).2
        omega
    have HE5 := Lib.hid hels
    have HB5 := Lib.hid hb5
    clear hels hb5
    go_loopw [9, 53] (fun out i wr => OutRel k w5 out i wr) (fun _ i _ => 3 - (intOf i).toNat)
    case atStart => exact ⟨0, by omega, rfl, OwnS.none, Below.refl _ _⟩
    case round =>
      obtain ⟨j, hj, rfl, ho, hbel⟩ := hrel
      have HO7 := Lib.hid ho
      have HB7 := Lib.hid hbel
      clear ho hbel
      by_cases hlt : j = 3
      · subst hlt
        go_wp2_with fail
        go_ret2
        refine ⟨_, rfl, ?_, ?_⟩
        · exact HO7.out.rebase HB5.out.size
        · exact HB5.out.trans (HB7.out.mono HB5.out.size)
      · obtain ⟨vs5, hr5, hE5⟩ := HE5.out
        have hlen : (bodiesL k).length = 3 := rfl
        have hl5 : vs5.length = 3 := by rw [hE5.1, hlen]
        have hjl : j < 3 := by omega
        obtain ⟨q, c', hq, hrq, _, _, _⟩ := hE5.2 j (by omega) (by omega)
        obtain ⟨b, o, rfl, hc⟩ := Rd.at (hr5.below HB7.out) (k := j) (by omega)
        have hcell := hc j (by omega)
        have hsm := bodies_small k hk2 _ (List.getElem_mem (l := bodiesL k) (n := j) (by omega))
        rw [hq] at hcell
        have hfs : frames ((bodiesL k).take (j + 1)) = frames ((bodiesL k).take j) ++ frame ((bodiesL k)[j]'(by omega)) := by
          rw [List.take_succ_eq_append_getElem (by omega), frames_append]; simp [frames]
        have HFS := Lib.hid hfs
        have hfew := take_small k j
        rw [unitB_len] at hfew
        have HR7 := Lib.hid (Rd.below hrq HB7.out)
        clear hc hr5 hE5 hrq hl5 hq hfs
        generalize (bodiesL k)[j]'(by omega) = l at *
        go_wp2_with fail
        go_fit (frame_any q l.length c' l wr HR7.out rfl (by omega))
        rintro e w8 ⟨v8, rfl, ho8, hb8⟩
        obtain ⟨p8, cap8, rfl, hr8, _⟩ := ho8.shape
        have HR8 := Lib.hid hr8
        have HL8 := Lib.hid ho8.1
        have HB8 := Lib.hid (HB7.out.trans (hb8.mono HB7.out.size))
        have HO8 := Lib.hid (HO7.out.below hb8)
        have HFL := Lib.hid (frame_len l)
        clear ho8 hr8 hb8
        go_wp2_with (((with_reducible refine L_appR slB Try.underlying31 HO8.out HR8.out (by8_one _) HL8.out ?_ ?_ ?_ ?_ ?_); (focus rfl); (focus rfl); (focus exact ⟨_, rfl⟩); (focus (have h1 := HFL.out; exact ⟨room1 (by omega), by omega, HB8.out.size⟩)); intro v9 w9 ho9 ha9 hk9 hn9; clear hn9; have HO9 := Lib.hid ho9; have HA9 := Lib.hid ha9; have HK9 := Lib.hid hk9; clear ho9 ha9 hk9; simp only [Act.put, List.setIfInBounds_toArray, List.set_cons_zero, List.set_cons_succ]))
        go_round
        case rel =>
          refine ⟨j + 1, by omega, by go_num, ?_, ?_⟩
          · have h := HO9.out
            rw [← by8_append, ← HFS.out, ← List.length_append, ← HFS.out] at h
            exact h
          · exact HA9.out.below HB8.out HB8.out.size HK9.out
        case measure => simp [intOf]; omega
end Go.Proofs.Ytblmnaejkdkndaa
