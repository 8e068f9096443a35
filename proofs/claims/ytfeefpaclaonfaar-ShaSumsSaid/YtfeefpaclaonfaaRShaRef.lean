/- The walk over the document's sum. -/
import Derived.Test.YtfeefpaclaonfaaRShaSum
import Derived.Test.YtfeefpaclaonfaaRShaRefWords
set_option linter.unusedSimpArgs false
set_option linter.unusedVariables false
namespace Go.Proofs.YtfeefpaclaonfaaR
open Go.RowKit Go.BigFrame Sha Wire

/-- the bytes of a state -/
def outB (s : St) : List UInt8 := (s.list.map fun x => [UInt8.ofNat (x.toNat / 16777216), UInt8.ofNat (x.toNat / 65536), UInt8.ofNat (x.toNat / 256), UInt8.ofNat x.toNat]).flatten
/-- what the document's sum leaves in its 32 bytes -/
def outTo (s : St) (k : Nat) : Array Value := ((List.range 32).map fun i => if i < k then Value.int .u8 (((outB s)[i]?.getD 0).toNat : Int) else .int .u8 0).toArray

theorem words_zero (L : List W) (k : Nat) (h : k < 64) (X : List UInt8) : (wordsTo L 64 k).setIfInBounds k (.int .u32 ((get (List.take 0 X) : Nat) : Int)) = wordsTo L 64 k := by
  apply Array.ext_getElem?
  intro i
  by_cases e : k = i
  · subst e
    rw [Array.getElem?_setIfInBounds_self_of_lt (by rw [wordsTo_size]; exact h), wordsTo_get _ _ _ _ h, if_neg (by omega)]; rfl
  · rw [Array.getElem?_setIfInBounds_ne e]
theorem or32 (gg : Nat) (c : UInt8) (h : gg < 16777216) : bits .or .u32 ((gg : Int) * (256 : Int)) ((c.toNat : Int) % (4294967296 : Int)) = ((gg * 256 + c.toNat : Nat) : Int) := by
  have hc := c.toNat_lt
  have e0 : (c.toNat : Int) % (4294967296 : Int) = ((c.toNat : Nat) : Int) := by omega
  have e1 : (gg : Int) * (256 : Int) = ((gg * 2 ^ 8 : Nat) : Int) := by omega
  rw [e0, e1]
  show IntKind.u32.wrap ((BitVec.ofInt 32 ((gg * 2 ^ 8 : Nat) : Int) ||| BitVec.ofInt 32 (c.toNat : Int)).toNat : Int) = _
  rw [BitVec.toNat_or, BitVec.ofInt_natCast, BitVec.ofInt_natCast, BitVec.toNat_ofNat, BitVec.toNat_ofNat, Nat.mod_eq_of_lt (by omega), Nat.mod_eq_of_lt (by omega)]
  have h8 := Nat.shiftLeft_add_eq_or_of_lt (show c.toNat < 2 ^ 8 by omega) gg
  rw [Nat.shiftLeft_eq] at h8
  rw [← h8, IntKind.wrap_u32']
  omega
theorem get_more (P : List UInt8) (a m : Nat) (h : a + m < P.length) : get ((P.drop a).take (m + 1)) = get ((P.drop a).take m) * 256 + P[a + m].toNat := by
  rw [List.take_succ_eq_append_getElem (by rw [List.length_drop]; omega), get_snoc, List.getElem_drop]
theorem get_bound (P : List UInt8) (a m : Nat) (h : m < 4) : get ((P.drop a).take m) < 16777216 := by
  have h1 := get_lt ((P.drop a).take m)
  have h2 : 256 ^ ((P.drop a).take m).length ≤ 256 ^ 3 := Nat.pow_le_pow_right (by omega) (by rw [List.length_take]; omega)
  have h3 : 256 ^ 3 = 16777216 := by decide
  omega
theorem get_bound4 (P : List UInt8) (a : Nat) : get ((P.drop a).take 4) < 2 ^ 32 := by
  have h1 := get_lt ((P.drop a).take 4)
  have h2 : 256 ^ ((P.drop a).take 4).length ≤ 256 ^ 4 := Nat.pow_le_pow_right (by omega) (by rw [List.length_take]; omega)
  have h3 : 256 ^ 4 = 2 ^ 32 := by decide
  omega
theorem turn_l (n : Nat) (ni : Int) (hn : ni = (n : Int)) (h : 0 < n ∧ n < 32) (x : W) (u : World) :
    Calls Try.prog 45 #[.int .u32 (x.toNat : Int), .int .i64 ni] u fun e w' => e = .returned (.int .u32 ((rotr x n).toNat : Int)) ∧ u = w' := by
  subst hn; exact ref_turn x n u h.1 h.2
theorem turn_ls (n : Nat) (ni : Int) (hn : ni = (n : Int)) (h : 0 < n ∧ n < 32) (x : W) (u : World) :
    Calls Try.prog 45 #[.int .u32 (x.toNat : Int), .int .i64 ni] u fun e w' => e = .returned (.int .u32 ((rotr x n).toNat : Int)) ∧ w' = u :=
  (turn_l n ni hn h x u).mono fun _ _ ⟨a, b⟩ => ⟨a, b.symm⟩
theorem sched_val2 (a b c d : W) : (((bits .xor .u32 (bits .xor .u32 (rotr d 17).toNat (rotr d 19).toNat) ((d.toNat : Int) / (1024 : Int)) + (c.toNat : Int)) % (4294967296 : Int) + bits .xor .u32 (bits .xor .u32 (rotr b 7).toNat (rotr b 18).toNat) ((b.toNat : Int) / (8 : Int))) % (4294967296 : Int) + (a.toNat : Int)) % (4294967296 : Int) = ((a + s0 b + c + s1 d).toNat : Int) := by
  simp only [b32_shr3, b32_shr10, b32_xor]
  unfold s0 s1
  simp only [BitVec.toNat_add]
  omega
/-- what stays from block to block: the state so far, the words K, the result's noughts, the text -/
structure RB (w wr : World) (P : List UInt8) (p : Option Addr) (g g' : Nat) (sl : St) (st : St) : Prop where
  h6 : wr.heap[g]? = some (.cells (wordsTo st.list 8 8) 63 (0, 0))
  h7 : wr.heap[g']? = some (.cells (wordsTo K 64 64) 62 (0, 0))
  h2 : wr.heap[w.heap.size]? = some (.cells (outTo sl 0) 69 (0, 0))
  rd : Rd8 wr p P
  below : Below w.heap.size w wr
  lt : w.heap.size < g ∧ g < g'
  pl : ∀ a, p = some a → a.block < g
/-- the same, the state's cells as they stand -/
structure RBx (w wr : World) (P : List UInt8) (p : Option Addr) (g g' : Nat) (sl : St) (hc : Array Value) : Prop where
  h6 : wr.heap[g]? = some (.cells hc 63 (0, 0))
  h7 : wr.heap[g']? = some (.cells (wordsTo K 64 64) 62 (0, 0))
  h2 : wr.heap[w.heap.size]? = some (.cells (outTo sl 0) 69 (0, 0))
  rd : Rd8 wr p P
  below : Below w.heap.size w wr
  lt : w.heap.size < g ∧ g < g'
  pl : ∀ a, p = some a → a.block < g
section
variable {w wr wq : World} {P : List UInt8} {p : Option Addr} {g g' : Nat} {sl st : St}
theorem RB.size (h : RB w wr P p g g' sl st) : g' < wr.heap.size := (Array.getElem?_eq_some_iff.1 h.h7).1
theorem RB.grow (h : RB w wr P p g g' sl st) (hb : Below wr.heap.size wr wq) : RB w wq P p g g' sl st :=
  have h1 := h.size
  have h2 := h.lt
  ⟨by rw [hb.block _ (by omega)]; exact h.h6, by rw [hb.block _ h1]; exact h.h7, by rw [hb.block _ (by omega)]; exact h.h2, h.rd.below hb, h.below.trans (hb.mono h.below.size), h.lt, h.pl⟩
theorem RB.set (h : RB w wr P p g g' sl st) {b : Nat} (hb : g' < b) (i : Nat) (v : Value) : RB w (wr.setCell ⟨b, i, none⟩ v) P p g g' sl st :=
  have h2 := h.lt
  ⟨by rw [heap_setCell_other _ _ _ _ (by simp; omega)]; exact h.h6, by rw [heap_setCell_other _ _ _ _ (by simp; omega)]; exact h.h7, by rw [heap_setCell_other _ _ _ _ (by simp; omega)]; exact h.h2,
   h.rd.set _ _ (fun a ha => by have := h.pl a ha; simp; omega), h.below.setCell (by simp; omega) _, h.lt, h.pl⟩
theorem RB.drewN (h : RB w wr P p g g' sl st) (n : Nat) : RB w (wr.drewN n) P p g g' sl st := ⟨h.h6, h.h7, h.h2, h.rd, h.below.trans ⟨rfl, rfl, rfl, Nat.le_refl _, fun _ _ => rfl⟩, h.lt, h.pl⟩
theorem RB.x (h : RB w wr P p g g' sl st) : RBx w wr P p g g' sl (wordsTo st.list 8 8) := ⟨h.h6, h.h7, h.h2, h.rd, h.below, h.lt, h.pl⟩
theorem RBx.y {hc : Array Value} (h : RBx w wr P p g g' sl hc) (e : hc = wordsTo st.list 8 8) : RB w wr P p g g' sl st := ⟨by rw [← e]; exact h.h6, h.h7, h.h2, h.rd, h.below, h.lt, h.pl⟩
theorem RBx.set6 {hc : Array Value} (h : RBx w wr P p g g' sl hc) (i : Nat) (v : Value) : RBx w (wr.setCell ⟨g, i, none⟩ v) P p g g' sl (hc.setIfInBounds i v) :=
  have h2 := h.lt
  ⟨heap_setCell_same _ _ _ _ _ _ h.h6, by rw [heap_setCell_other _ _ _ _ (by simp; omega)]; exact h.h7, by rw [heap_setCell_other _ _ _ _ (by simp; omega)]; exact h.h2,
   h.rd.set _ _ (fun a ha => by have := h.pl a ha; simp; omega), h.below.setCell (by simp; omega) _, h.lt, h.pl⟩
theorem RBx.drewN {hc : Array Value} (h : RBx w wr P p g g' sl hc) (n : Nat) : RBx w (wr.drewN n) P p g g' sl hc := ⟨h.h6, h.h7, h.h2, h.rd, h.below.trans ⟨rfl, rfl, rfl, Nat.le_refl _, fun _ _ => rfl⟩, h.lt, h.pl⟩
theorem RB.alloc (h : RB w wr P p g g' sl st) (o : Obj) : RB w (wr.alloc o) P p g g' sl st := h.grow ((Below.refl _ _).alloc (Nat.le_refl _) _)
end
theorem zero32 : (Try.prog.info? 69).map (fun i => (i.zero, i.size)) = some (some (.agg (Array.replicate 32 (.int .u8 0))), 32) := by kernel_rfl
theorem outTo_size (s : St) (k : Nat) : (outTo s k).size = 32 := by simp [outTo]
theorem outTo_get (s : St) (k i : Nat) (h : i < 32) : (outTo s k)[i]? = some (if i < k then Value.int .u8 (((outB s)[i]?.getD 0).toNat : Int) else .int .u8 0) := by simp [outTo, h]
theorem outTo_set (s : St) (k : Nat) (h : k < 32) : (outTo s k).setIfInBounds k (Value.int .u8 (((outB s)[k]?.getD 0).toNat : Int)) = outTo s (k + 1) := by
  apply Array.ext_getElem?
  intro i
  by_cases hi : i < 32
  · rw [outTo_get _ _ _ hi]
    by_cases e : k = i
    · subst e; simp [outTo_size, h]
    · rw [Array.getElem?_setIfInBounds_ne e, outTo_get _ _ _ hi]
      by_cases h3 : i < k
      · simp [h3, show i < k + 1 by omega]
      · simp [h3, show ¬ i < k + 1 by omega]
  · rw [Array.getElem?_eq_none (by simp [outTo_size]; omega), Array.getElem?_eq_none (by simp [outTo_size]; omega)]
theorem outTo_one (s : St) (k : Nat) : (outTo s k).all (·.oneCell') = true := by
  rw [Array.all_eq_true_iff_forall_mem]
  intro x hx
  simp only [outTo, List.mem_toArray, List.mem_map] at hx
  obtain ⟨i, _, rfl⟩ := hx
  split <;> rfl
theorem out_at (s : St) (q c : Nat) (hq : q < 8) (hc : c < 4) (m : Nat) (hm : c = 0 ∧ m = 16777216 ∨ c = 1 ∧ m = 65536 ∨ c = 2 ∧ m = 256 ∨ c = 3 ∧ m = 1) : (((outB s)[4 * q + c]?.getD 0).toNat : Int) = ((at_ s.list q).toNat : Int) / (m : Int) % (256 : Int) := by
  have hx : ∀ (x : W) (m : Nat), ((UInt8.ofNat (x.toNat / m)).toNat : Int) = (x.toNat : Int) / (m : Int) % (256 : Int) := fun x m => by simp
  obtain rfl | rfl | rfl | rfl | rfl | rfl | rfl | rfl : q = 0 ∨ q = 1 ∨ q = 2 ∨ q = 3 ∨ q = 4 ∨ q = 5 ∨ q = 6 ∨ q = 7 := by omega
  all_goals
    rcases hm with ⟨rfl, rfl⟩ | ⟨rfl, rfl⟩ | ⟨rfl, rfl⟩ | ⟨rfl, rfl⟩
    · exact hx _ _
    · exact hx _ _
    · exact hx _ _
    · rw [← hx, Nat.div_one]; rfl
theorem size32 (s : St) (k : Nat) : (Try.prog.info? 69).map (·.size) = some (outTo s k).size := by
  rw [outTo_size]; exact (zero_of_info zero32).2
theorem outTo_zero (s : St) : Array.replicate 32 (Value.int .u8 0) = outTo s 0 := by
  apply Array.ext
  · simp [outTo]
  · intro i h1 h2; simp [outTo]
set_option maxRecDepth 100000 in
set_option maxHeartbeats 4000000 in
theorem refsum_any (l : List UInt8) (p : Option Addr) (n cap : Nat) (w : World) (hr : Rd8 w p l) (hn : n = l.length) (hl : l.length ≤ 1048576) :
    Calls Try.prog 39 #[.slice p n cap] w fun e w' => e = .returned (.agg (outTo (Sha.sum l) 32)) ∧ Below w.heap.size w w' := by
  subst hn
  obtain ⟨hz, hsz⟩ := zero_of_info zero64
  obtain ⟨hz8, hsz8⟩ := zero_of_info zero8
  have HR := Lib.hid hr
  have hu := Try.underlying62
  have hu8 := Try.underlying63
  have E64 : Hid ((Try.prog.info? 62).map (·.size) = some (wordsTo K 64 64).size) := by rw [wordsTo_size]; exact Lib.hid hsz
  clear hr hsz hsz8
  go_enter Try.func39, Try.ntmps39
  obtain ⟨hz32, hsz32⟩ := zero_of_info zero32
  go_upto_region 1 with (fail)
  rw [outTo_zero (Sha.sum l)]
  obtain ⟨wb, hwb⟩ : ∃ v, v = w.alloc (.cells (outTo (Sha.sum l) 0) 69) := ⟨_, rfl⟩
  have q0 : wb.heap[w.heap.size]? = some (.cells (outTo (Sha.sum l) 0) 69 (0, 0)) := by rw [hwb]; exact heap_alloc_new _ _
  have qb : Below w.heap.size w wb := by rw [hwb]; exact (Below.refl _ _).alloc (Nat.le_refl _) _
  have qs : wb.heap.size = w.heap.size + 1 := by rw [hwb]; simp
  rw [← hwb]
  have Q0 := Lib.hid q0
  have QS := Lib.hid qs
  have HRb := Lib.hid (HR.out.below qb)
  clear hwb q0 qs hz32 HR
  have hl1 : l.length ≤ 1048577 := by omega
  have hon : ∀ u ∈ [Value.int .u8 128], u.oneCell' = true := int_one _ _
  have htk : Hid (by8 (l ++ [128]) = by8 l ++ [Value.int .u8 128]) := Lib.hid (by simp [by8])
  go_upto_block 0 with (first
    | ((with_reducible refine L_appR slB Try.underlying23 (OwnS.fresh (base := wb.heap.size) (Nat.le_refl _)) (HRb.out.alloc _) (by8_one _) (by8_mul _) ?_ ?_ ?_ ?_ ?_); (focus rfl); (focus rfl); (focus exact ⟨_, rfl⟩); (focus exact ⟨room1 (by omega), by omega, by simp⟩); intro v2 w2 ho2 ha2 hk2 hn2; clear hn2; (try simp only [Nat.zero_add, List.nil_append] at ho2); have hb2 := ha2.below (grewA (Below.refl _ wb) _) (by simp) hk2; clear ha2 hk2; have HO2 := Lib.hid ho2; clear ho2; simp only [Act.put, List.setIfInBounds_toArray, List.set_cons_zero, List.set_cons_succ])
    | ((with_reducible refine L_appR slB Try.underlying23 (HO2.out.alloc _) (Rd.one _ _ _) hon rfl ?_ ?_ ?_ ?_ ?_); (focus rfl); (focus rfl); (focus exact ⟨_, rfl⟩); (focus exact ⟨room1 (by omega), by omega, by simp; exact Nat.le_succ_of_le hb2.size⟩); intro v3 w3 ho3 ha3 hk3 hn3; clear hn3; have HO3 := Lib.hid ho3; have hb3 := ha3.below (hb2.alloc hb2.size _) (by simp; exact Nat.le_succ_of_le hb2.size) hk3; clear ho3 ha3 hk3; simp only [Act.put, List.setIfInBounds_toArray, List.set_cons_zero, List.set_cons_succ]))
  have hpad : PadRel l wb v3 w3 := ⟨0, by omega, by have h := HO3.out; simpa [by8] using h, hb3⟩
  have HPad := Lib.hid hpad
  clear hpad hb2 HO2 HO3 hb3 htk
  go_cut [3] (fun b wc => OwnS wc wb.heap.size 5 1 b (l.length + 1 + noughts (l.length + 1)) (by8 (l ++ [128] ++ List.replicate (noughts (l.length + 1)) 0)) ∧ Below wb.heap.size wb wc)
  case first =>
    go_wp2_with fail
    go_loopw [3] (fun b wr => PadRel l wb b wr) (fun b _ => match b with | .slice _ n _ => 2000000 - n | _ => 0)
    case atStart => exact HPad.out
    case round =>
      obtain ⟨j, hj, ho, hbel⟩ := hrel
      obtain ⟨p, cap, rfl, hr, hm⟩ := ho.shape
      have HN := Lib.hid (noughts_iff (l.length + 1) j hj)
      have hnl : noughts (l.length + 1) < 64 := by unfold noughts; omega
      have HO := Lib.hid ho
      clear ho hr hm
      have hn : ∃ n : Nat, l.length + 1 + j = n := ⟨_, rfl⟩
      obtain ⟨n, hn⟩ := hn
      rw [hn] at HN HO ⊢
      have hnb : n ≤ 1048641 := by omega
      have HNn := Lib.hid hn
      clear hn
      by_cases h56 : n % 64 = 56
      · have d1 : ((n : Int) % 64 != 56) = false := by simp; omega
        have hj2 := HN.out.1 h56
        clear h56
        go_wp2_with fail
        go_meet
        rw [← hj2, HNn.out]
        exact ⟨HO.out, hbel⟩
      · have d1 : ((n : Int) % 64 != 56) = true := by simp; omega
        have hj2 : j < noughts (l.length + 1) := by
          have h2 : j ≠ noughts (l.length + 1) := fun e => h56 (HN.out.2 e)
          omega
        clear h56
        have hz0 : ∀ u ∈ [Value.int .u8 0], u.oneCell' = true := int_one _ _
        go_wp2_with ((with_reducible refine L_appR slB Try.underlying23 (HO.out.alloc _) (Rd.one _ _ _) hz0 rfl ?_ ?_ ?_ ?_ ?_); (focus rfl); (focus rfl); (focus exact ⟨_, rfl⟩); (focus exact ⟨room1 (by omega), by omega, by simp; exact Nat.le_succ_of_le hbel.size⟩); intro v4 w4 ho4 ha4 hk4 hn4; clear hn4; have HO4 := Lib.hid ho4; have HA4 := Lib.hid ha4; clear ho4 ha4; simp only [Act.put, List.setIfInBounds_toArray, List.set_cons_zero, List.set_cons_succ])
        obtain ⟨p4, c4, rfl, _, _⟩ := HO4.out.shape
        refine ⟨⟨j + 1, by omega, ?_, HA4.out.below (hbel.alloc hbel.size _) (by simp; exact Nat.le_succ_of_le hbel.size) hk4⟩, by simp; omega⟩
        have h := HO4.out
        rw [← HNn.out] at h ⊢
        have e : by8 (l ++ [128] ++ List.replicate j 0) ++ [Value.int .u8 0] = by8 (l ++ [128] ++ List.replicate (j + 1) 0) := by
          simp [by8, List.replicate_succ']
        rw [e] at h
        exact h
  case rest =>
    obtain ⟨ho, hbel⟩ := hcut
    have HO := Lib.hid ho
    clear ho
    have hnl : noughts (l.length + 1) < 64 := by unfold noughts; omega
    have hbs := hbel.size
    have hw8 : IntKind.u64.wrap ((l.length : Int) * 8) = (l.length : Int) * 8 := by rw [IntKind.wrap_u64]; omega
    go_upto_block 2 with (fail)
    obtain ⟨X, hX⟩ : ∃ X, 8 * l.length = X := ⟨_, rfl⟩
    rw [show (l.length : Int) * 8 = (X : Int) by omega]
    have hXs : X ≤ 8388616 := by omega
    have HXe := Lib.hid hX
    clear hX hw8
    generalize hN : l.length + 1 + noughts (l.length + 1) = N at *
    have HN := Lib.hid hN
    have hNs : N ≤ 1048700 := by omega
    clear hN
    generalize hxs : l ++ [128] ++ List.replicate (noughts (l.length + 1)) 0 = xs at *
    have HXS := Lib.hid hxs
    clear hxs
    go_cut [3] (fun b wd => OwnS wd wb.heap.size 5 1 b (N + 8) (by8 (xs ++ beB X 8)) ∧ Below wb.heap.size wb wd)
    case first =>
      go_wp2_with fail
      go_loopw [3, 5] (fun b i wr => ∃ j : Nat, j ≤ 8 ∧ i = .int .i64 (7 - (j : Int)) ∧ OwnS wr wb.heap.size 5 1 b (N + j) (by8 xs ++ by8 ((beB X 8).take j)) ∧ Below wb.heap.size wb wr) (fun _ i _ => (intOf i + 1).toNat)
      case atStart => exact ⟨0, by omega, by simp, by simpa [by8] using HO.out, hbel⟩
      case round =>
        obtain ⟨j, hj, rfl, ho, hbr⟩ := hrel
        have HJ := Lib.hid ho
        clear ho
        by_cases hlt : j < 8
        · go_wp2_with ((with_reducible refine L_appR slB Try.underlying23 (HJ.out.alloc _) (Rd.one _ _ _) (int_one _ _) rfl ?_ ?_ ?_ ?_ ?_); (focus rfl); (focus rfl); (focus exact ⟨_, rfl⟩); (focus exact ⟨room1 (by omega), by omega, by simp; exact Nat.le_succ_of_le hbr.size⟩); intro v4 w4 ho4 ha4 hk4 hn4; clear hn4; have HO4 := Lib.hid ho4; have HA4 := Lib.hid ha4; clear ho4 ha4; simp only [Act.put, List.setIfInBounds_toArray, List.set_cons_zero, List.set_cons_succ])
          refine ⟨⟨j + 1, by omega, by go_num, ?_, HA4.out.below (hbr.alloc hbr.size _) (by simp; exact Nat.le_succ_of_le hbr.size) hk4⟩, by simp [intOf]; omega⟩
          rw [beB_take X 8 j hlt, by8_append, ← List.append_assoc]
          have e1 : by8 [UInt8.ofNat (X / 256 ^ (8 - 1 - j))] = [Value.int .u8 ((X : Int) / (2 : Int) ^ (8 * (7 - j)) % 256)] := by
            rw [shr_byte]; rfl
          rw [e1]
          exact HO4.out
        · obtain rfl : j = 8 := by omega
          go_wp2_with fail
          go_meet
          have h := HJ.out
          rw [List.take_of_length_le (by rw [beB_len]; exact Nat.le_refl _), ← by8_append] at h
          exact ⟨h, hbr⟩
    case rest =>
      obtain ⟨ho, hbd⟩ := hcut
      have hP : xs ++ beB X 8 = padded l := by rw [← HXS.out, ← HXe.out]; rfl
      rw [hP] at ho
      obtain ⟨p5, c5, rfl, hr5, hm5⟩ := ho.shape
      obtain ⟨hn5, _, hc5, hcm5, hlt5⟩ := ho.text
      have hmod : (padded l).length % 64 = 0 := by rw [← hn5, ← HN.out]; unfold noughts; omega
      have hsum : Sha.sum l = blocks h0 (padded l) ((padded l).length / 64) := rfl
      have HSum := Lib.hid hsum
      have hPl : (padded l).length ≤ 1100000 := by omega
      rw [hn5] at hc5
      have HR5 := Lib.hid hr5
      have HCM := Lib.hid hcm5
      have HLT := Lib.hid (fun a ha => (hlt5 a ha).2)
      have qbd := qb.trans (hbd.mono qb.size)
      have Q0d := Lib.hid (show wc.heap[w.heap.size]? = some (.cells (outTo (Sha.sum l) 0) 69 (0, 0)) by rw [hbd.block _ (by rw [QS.out]; omega)]; exact Q0.out)
      have hwc : w.heap.size < wc.heap.size := by have := hbd.size; rw [QS.out] at this; omega
      generalize hsl : Sha.sum l = sl at *
      have HSl := Lib.hid hsl
      clear hsl
      rw [hn5]
      clear ho hr5 hm5 hcm5 hlt5 hP hsum HO hbel hbs hnl HXe HN HXS Q0 QS HPad hbd hn5
      generalize padded l = P at *
      go_upto_block 4 with (first
        | ((with_reducible refine L_store_row (cs := wordsTo h0.list 8 8) ?_ ?_ (heap_alloc_new _ _) (size8 _) ?_ (wordsTo_one _ _ _) ?_); (focus rfl); (focus rfl); (focus simp [wordsTo_size]); simp only [Act.put, List.setIfInBounds_toArray, List.set_cons_zero, List.set_cons_succ]; rw [World.setRow_alloc_new])
        | ((with_reducible refine L_store_row (cs := wordsTo K 64 64) ?_ ?_ (heap_alloc_new _ _) E64.out ?_ (wordsTo_one _ _ _) ?_); (focus rfl); (focus rfl); (focus simp [wordsTo_size]); simp only [Act.put, List.setIfInBounds_toArray, List.set_cons_zero, List.set_cons_succ]; rw [World.setRow_alloc_new])
        | ((go_at_call 44; refine (words22_any _).mono ?_; rintro e w7 ⟨rfl, hb7⟩)))
      have hRB : RB w (w7.alloc (.cells (wordsTo K 64 64) 62)) P p5 wc.heap.size w7.heap.size sl (blocks h0 P 0) := by
        have hs7 := hb7.size
        simp only [alloc_sz] at hs7
        have b7 : ∀ k, k < wc.heap.size + 1 → w7.heap[k]? = (wc.alloc (.cells (wordsTo h0.list 8 8) 63)).heap[k]? := fun k hk => hb7.block k (by simp; omega)
        have bc : Below wc.heap.size wc w7 := ((Below.refl _ wc).alloc (Nat.le_refl _) _).trans (hb7.mono (by simp))
        refine ⟨?_, heap_alloc_new _ _, ?_, ?_, ?_, ⟨hwc, by omega⟩, HLT.out⟩
        · rw [heap_alloc_old _ _ (by omega), b7 _ (by omega)]; exact heap_alloc_new _ _
        · rw [heap_alloc_old _ _ (by omega), bc.block _ hwc]; exact Q0d.out
        · exact (HR5.out.below bc).alloc _
        · exact (qbd.trans (bc.mono qbd.size)).alloc (by have := qbd.size; have := bc.size; omega) _
      have HRB := Lib.hid hRB
      clear hRB HR5 Q0d qbd hwc hb7
      generalize w7.alloc (.cells (wordsTo K 64 64) 62) = w8 at *
      generalize w7.heap.size = g' at *
      generalize wc.heap.size = g at *
      go_cut [] (fun we => RB w we P p5 g g' sl (blocks h0 P (P.length / 64)))
      case first =>
        go_wp2_with fail
        go_loopw [8] (fun a wr => ∃ i : Nat, i ≤ P.length / 64 ∧ a = .int .i64 (64 * (i : Int)) ∧ RB w wr P p5 g g' sl (blocks h0 P i)) (fun a _ => P.length - (intOf a).toNat)
        case atStart => exact ⟨0, by omega, by simp, HRB.out⟩
        case round =>
          obtain ⟨i, hi, rfl, hrb⟩ := hrel
          have HB := Lib.hid hrb
          clear hrb
          by_cases hlt : i < P.length / 64
          · have d1 : decide (64 * (i : Int) < (P.length : Int)) = true := by simp; omega
            have hbl : blocks h0 P (i + 1) = (blocks h0 P i).add (rounds (blocks h0 P i) K (sched 48 (words (P.drop (64 * i)))) 64) := rfl
            have HBL := Lib.hid hbl
            have HWB : Hid (∀ t, t < 16 → at_ (sched 48 (words (P.drop (64 * i)))) t = BitVec.ofNat 32 (get ((P.drop (64 * i + 4 * t)).take 4))) := fun t ht => by
              rw [sched_low _ (words_len _) t ht, words_at _ t ht, List.drop_drop]
            have HSA := Lib.hid (sched_at (words (P.drop (64 * i))) (words_len _))
            clear hbl
            generalize sched 48 (words (P.drop (64 * i))) = S at *
            generalize blocks h0 P i = st at *
            go_upto_block 6 with (fail)
            rw [zeros_words S 64]
            have HB1 := Lib.hid (HB.out.alloc (.cells (wordsTo S 64 0) 62))
            have HW1 := Lib.hid (heap_alloc_new wr (.cells (wordsTo S 64 0) 62))
            have h9 := HB.out.size
            generalize wr.alloc (.cells (wordsTo S 64 0) 62) = w9 at *
            generalize wr.heap.size = b9 at *
            clear HB
            go_cut [] (fun wf => RB w wf P p5 g g' sl st ∧ wf.heap[b9]? = some (.cells (wordsTo S 64 16) 62 (0, 0)))
            case first =>
              go_wp2_with fail
              go_loopw [10] (fun t wr => ∃ k : Nat, k ≤ 16 ∧ t = .int .i64 k ∧ RB w wr P p5 g g' sl st ∧ wr.heap[b9]? = some (.cells (wordsTo S 64 k) 62 (0, 0))) (fun t _ => 16 - (intOf t).toNat)
              case atStart => exact ⟨0, by omega, rfl, HB1.out, HW1.out⟩
              case round =>
                obtain ⟨k, hk, rfl, hb, hw⟩ := hrel
                have HB2 := Lib.hid hb
                have HW2 := Lib.hid hw
                clear hb hw
                by_cases hk16 : k < 16
                · go_wp2_with fail
                  have HE := Lib.hid (HWB.out k hk16)
                  go_loopw [11] (fun j wr => ∃ m : Nat, m ≤ 4 ∧ j = .int .i64 m ∧ RB w wr P p5 g g' sl st ∧ wr.heap[b9]? = some (.cells ((wordsTo S 64 k).setIfInBounds k (.int .u32 (get ((P.drop (64 * i + 4 * k)).take m) : Int))) 62 (0, 0))) (fun j _ => 4 - (intOf j).toNat)
                  case atStart => exact ⟨0, by omega, rfl, HB2.out, by rw [words_zero S k (by omega) _]; exact HW2.out⟩
                  case round =>
                    obtain ⟨m, hm, rfl, hb, hw⟩ := hrel
                    have HB3 := Lib.hid hb
                    have HW3 := Lib.hid hw
                    clear hb hw
                    by_cases hm4 : m < 4
                    · have hat : 64 * i + 4 * k + m < P.length := by omega
                      obtain ⟨b, o, rfl, hc⟩ := Rd8.at HB3.out.rd (k := 64 * i + 4 * k + m) hat
                      have cP := hc _ hat
                      have cW : wr.cell? ⟨b9, k, none⟩ = some (.int .u32 (get ((P.drop (64 * i + 4 * k)).take m) : Int)) := by
                        rw [cell_of_row _ _ _ _ _ _ HW3.out, Array.getElem?_setIfInBounds_self_of_lt (by rw [wordsTo_size]; omega)]
                      have fW : wr.frozen? ⟨b9, k, none⟩ = false := frozen_of_row _ _ _ _ _ HW3.out
                      have HG := Lib.hid (get_more P (64 * i + 4 * k) m hat)
                      have hgb := get_bound P (64 * i + 4 * k) m hm4
                      have i1 : (0 : Int) ≤ 64 * (i : Int) + 4 * (k : Int) + (m : Int) := by omega
                      have i2 : 64 * (i : Int) + 4 * (k : Int) + (m : Int) < (P.length : Int) := by omega
                      clear hc
                      generalize P[64 * i + 4 * k + m] = c at *
                      generalize get ((P.drop (64 * i + 4 * k)).take m) = gg at *
                      go_wp2_with fail
                      go_region
                      go_wp2_with fail
                      rw [or32 gg c hgb, ← HG.out]
                      refine ⟨⟨m + 1, by omega, by go_num, ?_, ?_⟩, by simp [intOf]; omega⟩
                      · exact (HB3.out.set h9 k _).drewN 1
                      · have h5 := heap_setCell_same _ b9 k _ _ (.int .u32 (get ((P.drop (64 * i + 4 * k)).take (m + 1)) : Int)) HW3.out
                        rw [Array.setIfInBounds_setIfInBounds] at h5
                        exact h5
                    · obtain rfl : m = 4 := by omega
                      go_wp2_with fail
                      refine ⟨⟨k + 1, by omega, by go_num, HB3.out, ?_⟩, by simp [intOf]; omega⟩
                      have h := HW3.out
                      have e : (get ((P.drop (64 * i + 4 * k)).take 4) : Int) = ((at_ S k).toNat : Int) := by
                        rw [HE.out, BitVec.toNat_ofNat, Nat.mod_eq_of_lt (get_bound4 P (64 * i + 4 * k))]
                      rw [e, wordsTo_set _ _ _ (by omega)] at h
                      exact h
                · obtain rfl : k = 16 := by omega
                  go_wp2_with fail
                  go_meet
                  exact ⟨HB2.out, HW2.out⟩
            case rest =>
              obtain ⟨hb, hw⟩ := hcut
              have HB2 := Lib.hid hb
              have HW2 := Lib.hid hw
              clear hb hw HWB HB1 HW1
              go_upto_block 10 with (fail)
              go_cut [] (fun wf => RB w wf P p5 g g' sl st ∧ wf.heap[b9]? = some (.cells (wordsTo S 64 64) 62 (0, 0)))
              case first =>
                go_wp2_with fail
                go_loopw [12] (fun t wr => ∃ k : Nat, 16 ≤ k ∧ k ≤ 64 ∧ t = .int .i64 k ∧ RB w wr P p5 g g' sl st ∧ wr.heap[b9]? = some (.cells (wordsTo S 64 k) 62 (0, 0))) (fun t _ => 64 - (intOf t).toNat)
                case atStart => exact ⟨16, by omega, by omega, rfl, HB2.out, HW2.out⟩
                case round =>
                  obtain ⟨k, hk16, hk, rfl, hb, hw⟩ := hrel
                  have HB3 := Lib.hid hb
                  have HW3 := Lib.hid hw
                  clear hb hw
                  by_cases hk64 : k < 64
                  · have cf : ∀ j, j < k → wr.cell? ⟨b9, j, none⟩ = some (.int .u32 ((at_ S j).toNat : Int)) := fun j hj => by rw [cell_of_row _ _ _ _ _ _ HW3.out, wordsTo_get _ _ _ _ (by omega), if_pos hj]
                    have c2 := cf (k - 2) (by omega)
                    have c7 := cf (k - 7) (by omega)
                    have c15 := cf (k - 15) (by omega)
                    have c16 := cf (k - 16) (by omega)
                    have hc3 : wr.cell? ⟨b9, k, none⟩ = some (.int .u32 0) := by rw [cell_of_row _ _ _ _ _ _ HW3.out, wordsTo_get _ _ _ _ (by omega)]; simp
                    have hf3 : wr.frozen? ⟨b9, k, none⟩ = false := frozen_of_row _ _ _ _ _ HW3.out
                    have HE := Lib.hid (HSA.out k hk16 hk64)
                    clear cf
                    have R7 := Lib.hid (turn_l 7 7 rfl (by decide))
                    have R18 := Lib.hid (turn_l 18 18 rfl (by decide))
                    have R17 := Lib.hid (turn_l 17 17 rfl (by decide))
                    have R19 := Lib.hid (turn_l 19 19 rfl (by decide))
                    generalize at_ S (k - 2) = x2 at *
                    generalize at_ S (k - 7) = x7 at *
                    generalize at_ S (k - 15) = x15 at *
                    generalize at_ S (k - 16) = x16 at *
                    go_wp2_with fail
                    go_quiet (fail)
                    go_wp2_with fail
                    have i16a : (16 : Int) ≤ (k : Int) := by omega
                    have i16b : (k : Int) - 16 < 64 := by omega
                    have i16c : ((k : Int) - 16).toNat = k - 16 := by omega
                    have i7a : (7 : Int) ≤ (k : Int) := by omega
                    have i7b : (k : Int) - 7 < 64 := by omega
                    have ne16 : ¬ k = k - 16 := by omega
                    have ne7 : ¬ k = k - 7 := by omega
                    have i7c : ((k : Int) - 7).toNat = k - 7 := by omega
                    have i16d : (0 : Int) ≤ (k : Int) - 16 := by omega
                    have i7d : (0 : Int) ≤ (k : Int) - 7 := by omega
                    have s16 : IntKind.i64.wrap ((k : Int) - 16) = (k : Int) - 16 := IntWalk.i64_in _ (by omega)
                    have s7 : IntKind.i64.wrap ((k : Int) - 7) = (k : Int) - 7 := IntWalk.i64_in _ (by omega)
                    go_region_held3 (fun w' => w'.cell? ⟨b9, k - 16, none⟩ = some (.int .u32 (x16.toNat : Int)) ∧ w'.cell? ⟨b9, k - 7, none⟩ = some (.int .u32 (x7.toNat : Int))) ((first | exact ⟨off_ne ne16 c16, off_ne ne7 c7⟩ | exact ⟨c16, c7⟩))
                      (first
                        | ((go_at_call 45; (first | (with_reducible refine (R7.out x15 _).mono ?_) | (with_reducible refine (R18.out x15 _).mono ?_) | (with_reducible refine (R17.out x2 _).mono ?_) | (with_reducible refine (R19.out x2 _).mono ?_)); rintro e w' ⟨rfl, rfl⟩)))
                    go_wp2_with fail
                    refine ⟨⟨k + 1, by omega, by omega, by go_num, ?_, ?_⟩, by simp [intOf]; omega⟩
                    · exact (HB3.out.drewN _).set h9 k _
                    · rw [sched_val2, ← HE.out]
                      have h5 := heap_setCell_same _ b9 k _ _ (.int .u32 ((at_ S k).toNat : Int)) HW3.out
                      rw [wordsTo_set _ _ _ (by omega)] at h5
                      exact h5
                  · obtain rfl : k = 64 := by omega
                    go_wp2_with fail
                    go_meet
                    exact ⟨HB3.out, HW3.out⟩
              case rest =>
                obtain ⟨hb, hw⟩ := hcut
                have HB4 := Lib.hid hb
                have HW4 := Lib.hid hw
                have h15 := hb.size
                have h915 : b9 < wc.heap.size := (Array.getElem?_eq_some_iff.1 hw).1
                clear hb hw HSA HB2 HW2
                go_upto_block 12 with (first
                  | ((with_reducible refine L_load_row ?_ HB4.out.h6 hu8 rfl (size8 _) ?_); (focus rfl); simp only [Act.put, List.setIfInBounds_toArray, List.set_cons_zero, List.set_cons_succ])
                  | ((with_reducible refine L_store_row (cs := wordsTo st.list 8 8) ?_ ?_ (heap_alloc_new _ _) (size8 st.list) ?_ (wordsTo_one _ _ _) ?_); (focus rfl); (focus rfl); (focus simp [wordsTo_size]); simp only [Act.put, List.setIfInBounds_toArray, List.set_cons_zero, List.set_cons_succ]; rw [World.setRow_alloc_new]))
                have HB5 := Lib.hid (HB4.out.alloc (.cells (wordsTo st.list 8 8) 63))
                have HW5 := Lib.hid ((heap_alloc_old wc (.cells (wordsTo st.list 8 8) 63) h915).trans HW4.out)
                have HV5 := Lib.hid (heap_alloc_new wc (.cells (wordsTo st.list 8 8) 63))
                clear HB4 HW4
                generalize wc.alloc (.cells (wordsTo st.list 8 8) 63) = wv at *
                generalize wc.heap.size = b15 at *
                go_cut [] (fun wf => RB w wf P p5 g g' sl st ∧ wf.heap[b15]? = some (.cells (wordsTo (rounds st K S 64).list 8 8) 63 (0, 0)))
                case first =>
                  go_wp2_with fail
                  go_loopw [16] (fun t wr => ∃ k : Nat, k ≤ 64 ∧ t = .int .i64 k ∧ RB w wr P p5 g g' sl st ∧ wr.heap[b9]? = some (.cells (wordsTo S 64 64) 62 (0, 0)) ∧ wr.heap[b15]? = some (.cells (wordsTo (rounds st K S k).list 8 8) 63 (0, 0))) (fun t _ => 64 - (intOf t).toNat)
                  case atStart => exact ⟨0, by omega, rfl, HB5.out, HW5.out, HV5.out⟩
                  case round =>
                    obtain ⟨k, hk, rfl, hb, hw, hv⟩ := hrel
                    have HB6 := Lib.hid hb
                    have HW6 := Lib.hid hw
                    have HV := Lib.hid hv
                    clear hb hw hv
                    by_cases hk64 : k < 64
                    · have hst : rounds st K S (k + 1) = Sha.step (rounds st K S k) (at_ K k) (at_ S k) := rfl
                      have HST := Lib.hid hst
                      clear hst
                      generalize rounds st K S k = s at *
                      have v0 : wr.cell? ⟨b15, 0, none⟩ = some (.int .u32 (s.a.toNat : Int)) := by rw [cell_of_row _ _ _ _ _ _ HV.out]; rfl
                      have v4 : wr.cell? ⟨b15, 4, none⟩ = some (.int .u32 (s.e.toNat : Int)) := by rw [cell_of_row _ _ _ _ _ _ HV.out]; rfl
                      go_wp2_with fail
                      go_quiet (fail)
                      go_wp2_with fail
                      obtain ⟨wq, hwq⟩ : ∃ v, v = wr.drewN nq := ⟨_, rfl⟩
                      have HB6 := Lib.hid (show RB w wq P p5 g g' sl st by rw [hwq]; exact HB6.out.drewN nq)
                      have HW6 : Hid (wq.heap[b9]? = some (.cells (wordsTo S 64 64) 62 (0, 0))) := by rw [hwq]; exact HW6.out
                      have HV : Hid (wq.heap[b15]? = some (.cells (wordsTo s.list 8 8) 63 (0, 0))) := by rw [hwq]; exact HV.out
                      rw [← hwq]
                      clear hwq v0 v4
                      have hkc : wq.cell? ⟨g', k, none⟩ = some (.int .u32 ((at_ K k).toNat : Int)) := by rw [cell_of_row _ _ _ _ _ _ HB6.out.h7, wordsTo_get _ _ _ _ (by omega), if_pos (by omega)]
                      have hwc' : wq.cell? ⟨b9, k, none⟩ = some (.int .u32 ((at_ S k).toNat : Int)) := by rw [cell_of_row _ _ _ _ _ _ HW6.out, wordsTo_get _ _ _ _ (by omega), if_pos (by omega)]
                      generalize at_ K k = kk at *
                      generalize at_ S k = ww at *
                      have v0 : wq.cell? ⟨b15, 0, none⟩ = some (.int .u32 (s.a.toNat : Int)) := by rw [cell_of_row _ _ _ _ _ _ HV.out]; rfl
                      have v1 : wq.cell? ⟨b15, 1, none⟩ = some (.int .u32 (s.b.toNat : Int)) := by rw [cell_of_row _ _ _ _ _ _ HV.out]; rfl
                      have v2 : wq.cell? ⟨b15, 2, none⟩ = some (.int .u32 (s.c.toNat : Int)) := by rw [cell_of_row _ _ _ _ _ _ HV.out]; rfl
                      have v3 : wq.cell? ⟨b15, 3, none⟩ = some (.int .u32 (s.d.toNat : Int)) := by rw [cell_of_row _ _ _ _ _ _ HV.out]; rfl
                      have v4 : wq.cell? ⟨b15, 4, none⟩ = some (.int .u32 (s.e.toNat : Int)) := by rw [cell_of_row _ _ _ _ _ _ HV.out]; rfl
                      have v5 : wq.cell? ⟨b15, 5, none⟩ = some (.int .u32 (s.f.toNat : Int)) := by rw [cell_of_row _ _ _ _ _ _ HV.out]; rfl
                      have v6 : wq.cell? ⟨b15, 6, none⟩ = some (.int .u32 (s.g.toNat : Int)) := by rw [cell_of_row _ _ _ _ _ _ HV.out]; rfl
                      have v7 : wq.cell? ⟨b15, 7, none⟩ = some (.int .u32 (s.h.toNat : Int)) := by rw [cell_of_row _ _ _ _ _ _ HV.out]; rfl
                      have T6 := Lib.hid (turn_ls 6 6 rfl (by decide))
                      have T11 := Lib.hid (turn_ls 11 11 rfl (by decide))
                      have T25 := Lib.hid (turn_ls 25 25 rfl (by decide))
                      go_quiet ((go_at_call 45; first | (refine Calls.quiet_of_same (v := Value.int .u32 ((rotr s.e 6).toNat : Int)) ?_; with_reducible exact T6.out s.e _) | (refine Calls.quiet_of_same (v := Value.int .u32 ((rotr s.e 11).toNat : Int)) ?_; with_reducible exact T11.out s.e _) | (refine Calls.quiet_of_same (v := Value.int .u32 ((rotr s.e 25).toNat : Int)) ?_; with_reducible exact T25.out s.e _)))
                      rw [one_val]
                      have hx1 : Sha.step s kk ww = ⟨Sha.one s kk ww + Sha.two s, s.a, s.b, s.c, s.d + Sha.one s kk ww, s.e, s.f, s.g⟩ := rfl
                      have HX1 := Lib.hid hx1
                      clear hx1
                      generalize Sha.one s kk ww = x1 at HX1 ⊢
                      go_wp2_with fail
                      obtain ⟨wq2, hwq⟩ : ∃ v, v = wq.drewN nq := ⟨_, rfl⟩
                      have HB6 := Lib.hid (show RB w wq2 P p5 g g' sl st by rw [hwq]; exact HB6.out.drewN nq)
                      have HW6 : Hid (wq2.heap[b9]? = some (.cells (wordsTo S 64 64) 62 (0, 0))) := by rw [hwq]; exact HW6.out
                      have HV : Hid (wq2.heap[b15]? = some (.cells (wordsTo s.list 8 8) 63 (0, 0))) := by rw [hwq]; exact HV.out
                      rw [← hwq]
                      clear hwq v0 v1 v2 v3 v4 v5 v6 v7 hkc hwc'
                      have v0 : wq2.cell? ⟨b15, 0, none⟩ = some (.int .u32 (s.a.toNat : Int)) := by rw [cell_of_row _ _ _ _ _ _ HV.out]; rfl
                      have v1 : wq2.cell? ⟨b15, 1, none⟩ = some (.int .u32 (s.b.toNat : Int)) := by rw [cell_of_row _ _ _ _ _ _ HV.out]; rfl
                      have v2 : wq2.cell? ⟨b15, 2, none⟩ = some (.int .u32 (s.c.toNat : Int)) := by rw [cell_of_row _ _ _ _ _ _ HV.out]; rfl
                      have v3 : wq2.cell? ⟨b15, 3, none⟩ = some (.int .u32 (s.d.toNat : Int)) := by rw [cell_of_row _ _ _ _ _ _ HV.out]; rfl
                      have v4 : wq2.cell? ⟨b15, 4, none⟩ = some (.int .u32 (s.e.toNat : Int)) := by rw [cell_of_row _ _ _ _ _ _ HV.out]; rfl
                      have v5 : wq2.cell? ⟨b15, 5, none⟩ = some (.int .u32 (s.f.toNat : Int)) := by rw [cell_of_row _ _ _ _ _ _ HV.out]; rfl
                      have v6 : wq2.cell? ⟨b15, 6, none⟩ = some (.int .u32 (s.g.toNat : Int)) := by rw [cell_of_row _ _ _ _ _ _ HV.out]; rfl
                      have v7 : wq2.cell? ⟨b15, 7, none⟩ = some (.int .u32 (s.h.toNat : Int)) := by rw [cell_of_row _ _ _ _ _ _ HV.out]; rfl
                      have T2 := Lib.hid (turn_ls 2 2 rfl (by decide))
                      have T13 := Lib.hid (turn_ls 13 13 rfl (by decide))
                      have T22 := Lib.hid (turn_ls 22 22 rfl (by decide))
                      go_quiet ((go_at_call 45; first | (refine Calls.quiet_of_same (v := Value.int .u32 ((rotr s.a 2).toNat : Int)) ?_; with_reducible exact T2.out s.a _) | (refine Calls.quiet_of_same (v := Value.int .u32 ((rotr s.a 13).toNat : Int)) ?_; with_reducible exact T13.out s.a _) | (refine Calls.quiet_of_same (v := Value.int .u32 ((rotr s.a 22).toNat : Int)) ?_; with_reducible exact T22.out s.a _)))
                      rw [two_val]
                      generalize Sha.two s = x2 at HX1 ⊢
                      obtain ⟨wq3, hwq⟩ : ∃ v, v = wq2.drewN nq := ⟨_, rfl⟩
                      have HB6 := Lib.hid (show RB w wq3 P p5 g g' sl st by rw [hwq]; exact HB6.out.drewN nq)
                      have HW6 : Hid (wq3.heap[b9]? = some (.cells (wordsTo S 64 64) 62 (0, 0))) := by rw [hwq]; exact HW6.out
                      have HV : Hid (wq3.heap[b15]? = some (.cells (wordsTo s.list 8 8) 63 (0, 0))) := by rw [hwq]; exact HV.out
                      rw [← hwq]
                      clear hwq v0 v1 v2 v3 v4 v5 v6 v7
                      have v0 : wq3.cell? ⟨b15, 0, none⟩ = some (.int .u32 (s.a.toNat : Int)) := by rw [cell_of_row _ _ _ _ _ _ HV.out]; rfl
                      have v1 : wq3.cell? ⟨b15, 1, none⟩ = some (.int .u32 (s.b.toNat : Int)) := by rw [cell_of_row _ _ _ _ _ _ HV.out]; rfl
                      have v2 : wq3.cell? ⟨b15, 2, none⟩ = some (.int .u32 (s.c.toNat : Int)) := by rw [cell_of_row _ _ _ _ _ _ HV.out]; rfl
                      have v3 : wq3.cell? ⟨b15, 3, none⟩ = some (.int .u32 (s.d.toNat : Int)) := by rw [cell_of_row _ _ _ _ _ _ HV.out]; rfl
                      have v4 : wq3.cell? ⟨b15, 4, none⟩ = some (.int .u32 (s.e.toNat : Int)) := by rw [cell_of_row _ _ _ _ _ _ HV.out]; rfl
                      have v5 : wq3.cell? ⟨b15, 5, none⟩ = some (.int .u32 (s.f.toNat : Int)) := by rw [cell_of_row _ _ _ _ _ _ HV.out]; rfl
                      have v6 : wq3.cell? ⟨b15, 6, none⟩ = some (.int .u32 (s.g.toNat : Int)) := by rw [cell_of_row _ _ _ _ _ _ HV.out]; rfl
                      have v7 : wq3.cell? ⟨b15, 7, none⟩ = some (.int .u32 (s.h.toNat : Int)) := by rw [cell_of_row _ _ _ _ _ _ HV.out]; rfl
                      have f0 : wq3.frozen? ⟨b15, 0, none⟩ = false := frozen_of_row _ _ _ _ _ HV.out
                      have f1 : wq3.frozen? ⟨b15, 1, none⟩ = false := frozen_of_row _ _ _ _ _ HV.out
                      have f2 : wq3.frozen? ⟨b15, 2, none⟩ = false := frozen_of_row _ _ _ _ _ HV.out
                      have f3 : wq3.frozen? ⟨b15, 3, none⟩ = false := frozen_of_row _ _ _ _ _ HV.out
                      have f4 : wq3.frozen? ⟨b15, 4, none⟩ = false := frozen_of_row _ _ _ _ _ HV.out
                      have f5 : wq3.frozen? ⟨b15, 5, none⟩ = false := frozen_of_row _ _ _ _ _ HV.out
                      have f6 : wq3.frozen? ⟨b15, 6, none⟩ = false := frozen_of_row _ _ _ _ _ HV.out
                      have f7 : wq3.frozen? ⟨b15, 7, none⟩ = false := frozen_of_row _ _ _ _ _ HV.out
                      go_wp2_with fail
                      refine ⟨⟨k + 1, by omega, by go_num, ?_, ?_, ?_⟩, by simp [intOf]; omega⟩
                      · exact (((((((HB6.out.set h15 _ _).set h15 _ _).set h15 _ _).set h15 _ _).set h15 _ _).set h15 _ _).set h15 _ _).set h15 _ _
                      · iterate 8 rw [heap_setCell_other _ _ _ _ (by simp; omega)]
                        exact HW6.out
                      · rw [HST.out, HX1.out, set8 HV.out, b32_addm, b32_addm]
                        rfl
                    · obtain rfl : k = 64 := by omega
                      go_wp2_with fail
                      go_meet
                      exact ⟨HB6.out, HV.out⟩
                case rest =>
                  obtain ⟨hb, hv⟩ := hcut
                  have HB7 := Lib.hid hb
                  have HV7 := Lib.hid hv
                  clear hb hv HB5 HW5 HV5
                  generalize rounds st K S 64 = r at *
                  go_wp2_with fail
                  go_loopw [21] (fun t wr => ∃ k : Nat, k ≤ 8 ∧ t = .int .i64 k ∧ RBx w wr P p5 g g' sl (mixTo (st.add r).list st.list k) ∧ wr.heap[b15]? = some (.cells (wordsTo r.list 8 8) 63 (0, 0))) (fun t _ => 8 - (intOf t).toNat)
                  case atStart => exact ⟨0, by omega, rfl, by rw [mix_none]; exact HB7.out.x, HV7.out⟩
                  case round =>
                    obtain ⟨k, hk, rfl, hb, hv⟩ := hrel
                    have HB8 := Lib.hid hb
                    have HV8 := Lib.hid hv
                    have hgg := hb.lt
                    clear hb hv
                    by_cases hk8 : k < 8
                    · have c0 : wr.cell? ⟨g, k, none⟩ = some (.int .u32 ((at_ st.list k).toNat : Int)) := by rw [cell_of_row _ _ _ _ _ _ HB8.out.h6, mix_get _ _ _ _ hk8, if_neg (by omega)]
                      have c1 : wr.cell? ⟨b15, k, none⟩ = some (.int .u32 ((at_ r.list k).toNat : Int)) := by rw [cell_of_row _ _ _ _ _ _ HV8.out, wordsTo_get _ _ _ _ hk8, if_pos hk8]
                      have f0 : wr.frozen? ⟨g, k, none⟩ = false := frozen_of_row _ _ _ _ _ HB8.out.h6
                      have HE := Lib.hid (add_at st r k hk8)
                      generalize at_ st.list k = x at *
                      generalize at_ r.list k = y at *
                      go_wp2_with fail
                      go_region
                      go_wp2_with fail
                      have h5 := HB8.out.set6 k (.int .u32 ((at_ (st.add r).list k).toNat : Int))
                      rw [mix_set _ _ _ hk8, HE.out] at h5
                      refine ⟨⟨k + 1, by omega, by go_num, ?_, ?_⟩, by simp [intOf]; omega⟩
                      · rw [b32_addm]
                        exact h5.drewN 1
                      · show (wr.setCell _ _).heap[b15]? = _
                        rw [heap_setCell_other _ _ _ _ (by simp; omega)]; exact HV8.out
                    · obtain rfl : k = 8 := by omega
                      go_wp2_with fail
                      refine ⟨⟨i + 1, by omega, ?_, ?_⟩, by simp [intOf]; omega⟩
                      · exact val_int (by omega)
                      · rw [HBL.out]; exact HB8.out.y (mix_all _ _)
          · obtain rfl : i = P.length / 64 := by omega
            have d1 : decide (64 * ((P.length / 64 : Nat) : Int) < (P.length : Int)) = false := by rw [decide_eq_false_iff_not]; omega
            go_wp2_with fail
            go_meet
            exact HB.out
      case rest =>
        have HB9 := Lib.hid hcut
        have hgg := hcut.lt
        have hsz9 := hcut.size
        clear hcut HRB
        have hsum2 := HSum.out
        rw [← hsum2] at HB9
        clear hsum2
        have hz32 := (zero_of_info zero32).1
        go_upto_block 16 with (fail)
        clear hz32
        rw [outTo_zero sl]
        have HB10 := Lib.hid (HB9.out.alloc (.cells (outTo sl 0) 69))
        have HO10 := Lib.hid (heap_alloc_new wc (.cells (outTo sl 0) 69))
        clear HB9
        generalize wc.alloc (.cells (outTo sl 0) 69) = wo at *
        generalize wc.heap.size = b22 at *
        go_cut [] (fun wf => RB w wf P p5 g g' sl sl ∧ wf.heap[b22]? = some (.cells (outTo sl 32) 69 (0, 0)))
        case first =>
          go_wp2_with fail
          go_loopw [23] (fun t wr => ∃ k : Nat, k ≤ 32 ∧ t = .int .i64 k ∧ RB w wr P p5 g g' sl sl ∧ wr.heap[b22]? = some (.cells (outTo sl k) 69 (0, 0))) (fun t _ => 32 - (intOf t).toNat)
          case atStart => exact ⟨0, by omega, rfl, HB10.out, HO10.out⟩
          case round =>
            obtain ⟨k, hk, rfl, hb, ho⟩ := hrel
            have HB := Lib.hid hb
            have HO := Lib.hid ho
            clear hb ho
            by_cases hk32 : k < 32
            · have cH : wr.cell? ⟨g, k / 4, none⟩ = some (.int .u32 ((at_ sl.list (k / 4)).toNat : Int)) := by rw [cell_of_row _ _ _ _ _ _ HB.out.h6, wordsTo_get _ _ _ _ (by omega), if_pos (by omega)]
              have cO : wr.cell? ⟨b22, k, none⟩ = some (.int .u8 0) := by rw [cell_of_row _ _ _ _ _ _ HO.out, outTo_get _ _ _ hk32]; simp
              have fO : wr.frozen? ⟨b22, k, none⟩ = false := frozen_of_row _ _ _ _ _ HO.out
              have hq8 : k / 4 < 8 := by omega
              have HK : Hid (k = 4 * (k / 4) + k % 4) := Lib.hid (by omega)
              have HX : ∀ m : Nat, (k % 4 = 0 ∧ m = 16777216 ∨ k % 4 = 1 ∧ m = 65536 ∨ k % 4 = 2 ∧ m = 256 ∨ k % 4 = 3 ∧ m = 1) → (((outB sl)[k]?.getD 0).toNat : Int) = ((at_ sl.list (k / 4)).toNat : Int) / (m : Int) % (256 : Int) := fun m hm => by
                have h := out_at sl (k / 4) (k % 4) hq8 (by omega) m hm
                rwa [← HK.out] at h
              have HX' := Lib.hid HX
              clear HX
              generalize at_ sl.list (k / 4) = x at *
              have h4 : k % 4 = 0 ∨ k % 4 = 1 ∨ k % 4 = 2 ∨ k % 4 = 3 := by omega
              rcases h4 with h4 | h4 | h4 | h4
              · have HE := Lib.hid (HX'.out 16777216 (by omega))
                have hmod : (k : Int) % 4 = 0 := by omega
                clear h4
                go_wp2_with fail
                have h5 := heap_setCell_same _ b22 k _ _ (.int .u8 (((outB sl)[k]?.getD 0).toNat : Int)) HO.out
                rw [outTo_set _ _ hk32] at h5
                have e : (x.toNat : Int) / (16777216 : Int) = (((outB sl)[k]?.getD 0).toNat : Int) := by rw [HE.out]; have := x.isLt; omega
                rw [e]
                exact ⟨⟨k + 1, by omega, by go_num, HB.out.set hsz9 k _, h5⟩, by simp [intOf]; omega⟩
              · have HE := Lib.hid (HX'.out 65536 (by omega))
                have hmod : (k : Int) % 4 = 1 := by omega
                clear h4
                go_wp2_with fail
                have h5 := heap_setCell_same _ b22 k _ _ (.int .u8 (((outB sl)[k]?.getD 0).toNat : Int)) HO.out
                rw [outTo_set _ _ hk32] at h5
                have e : (x.toNat : Int) / (65536 : Int) % (256 : Int) = (((outB sl)[k]?.getD 0).toNat : Int) := by rw [HE.out]; have := x.isLt; omega
                rw [e]
                exact ⟨⟨k + 1, by omega, by go_num, HB.out.set hsz9 k _, h5⟩, by simp [intOf]; omega⟩
              · have HE := Lib.hid (HX'.out 256 (by omega))
                have hmod : (k : Int) % 4 = 2 := by omega
                clear h4
                go_wp2_with fail
                have h5 := heap_setCell_same _ b22 k _ _ (.int .u8 (((outB sl)[k]?.getD 0).toNat : Int)) HO.out
                rw [outTo_set _ _ hk32] at h5
                have e : (x.toNat : Int) / (256 : Int) % (256 : Int) = (((outB sl)[k]?.getD 0).toNat : Int) := by rw [HE.out]; have := x.isLt; omega
                rw [e]
                exact ⟨⟨k + 1, by omega, by go_num, HB.out.set hsz9 k _, h5⟩, by simp [intOf]; omega⟩
              · have HE := Lib.hid (HX'.out 1 (by omega))
                have hmod : (k : Int) % 4 = 3 := by omega
                clear h4
                go_wp2_with fail
                have h5 := heap_setCell_same _ b22 k _ _ (.int .u8 (((outB sl)[k]?.getD 0).toNat : Int)) HO.out
                rw [outTo_set _ _ hk32] at h5
                have e : (x.toNat : Int) % (256 : Int) = (((outB sl)[k]?.getD 0).toNat : Int) := by rw [HE.out]; have := x.isLt; omega
                rw [e]
                exact ⟨⟨k + 1, by omega, by go_num, HB.out.set hsz9 k _, h5⟩, by simp [intOf]; omega⟩
            · obtain rfl : k = 32 := by omega
              go_wp2_with fail
              go_meet
              exact ⟨HB.out, HO.out⟩
        case rest =>
          obtain ⟨hb, ho⟩ := hcut
          have HB := Lib.hid hb
          have HO := Lib.hid ho
          clear hb ho
          have hu32 := Try.underlying69
          go_wp2_with (first
            | ((with_reducible refine L_load_row ?_ HO.out hu32 rfl (size32 sl 32) ?_); (focus rfl); simp only [Act.put, List.setIfInBounds_toArray, List.set_cons_zero, List.set_cons_succ])
            | ((with_reducible refine L_store_row (cs := outTo sl 32) ?_ ?_ HB.out.h2 (size32 sl 32) ?_ (outTo_one _ _) ?_); (focus rfl); (focus rfl); (focus simp [outTo_size]); simp only [Act.put, List.setIfInBounds_toArray, List.set_cons_zero, List.set_cons_succ]))
          refine bodyPost_ret (results_cell_row (P := Try.prog) rfl _ _ w.heap.size 69 (outTo sl 32) (0, 0) _ rfl (setRow_heap _ _ _ _ _ _ HB.out.h2) hu32 rfl (size32 sl 32)) rfl ⟨?_, ?_⟩
          · rw [HSl.out]
          · exact HB.out.below.trans ⟨rfl, rfl, rfl, by simp, fun k hk => setRow_other _ _ _ _ (by omega)⟩
end Go.Proofs.YtfeefpaclaonfaaR
