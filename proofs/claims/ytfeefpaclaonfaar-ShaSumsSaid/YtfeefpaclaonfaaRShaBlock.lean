/- The walk over package sha's block. -/
import Derived.Test.YtfeefpaclaonfaaRShaConsts
set_option linter.unusedSimpArgs false
set_option linter.unusedVariables false
namespace Go.Proofs.YtfeefpaclaonfaaR
open Go.RowKit Go.BigFrame Sha Wire

theorem b32_add (x y : BitVec 32) : IntKind.u32.wrap ((x.toNat : Int) + (y.toNat : Int)) = ((x + y).toNat : Int) := by
  rw [IntKind.wrap_u32', BitVec.toNat_add]; omega
theorem b32_shr3 (x : BitVec 32) : (x.toNat : Int) / (8 : Int) = ((x >>> 3).toNat : Int) := b32_shr x 3
theorem b32_shr10 (x : BitVec 32) : (x.toNat : Int) / (1024 : Int) = ((x >>> 10).toNat : Int) := b32_shr x 10
theorem turn_q (w : World) (n : Nat) (ni : Int) (hn : ni = (n : Int)) (h : n = 2 ∨ n = 6 ∨ n = 7 ∨ n = 11 ∨ n = 13 ∨ n = 17 ∨ n = 18 ∨ n = 19 ∨ n = 22 ∨ n = 25) : ∀ (x : W) (d : Nat) (os : Array Obj),
    Calls Try.prog 42 #[.int .u32 (x.toNat : Int), .int .i64 ni] (Go.Sort.grow (redrawn w d) os) fun e w'' => e = .returned (.int .u32 ((rotr x n).toNat : Int)) ∧ ∃ p : Regrown, w'' = Go.Sort.grow (redrawn w p.d) p.os :=
  fun x d os => by subst hn; exact rg_same (fun u _ => turn_any x n u h) d os
theorem off_ne {w : World} {g i j : Nat} {u v : Value} (h : ¬ i = j) (hc : w.cell? ⟨g, j, none⟩ = some u) : (w.setCell ⟨g, i, none⟩ v).cell? ⟨g, j, none⟩ = some u := by
  have e := World.cell?_setCell_other (w := w) (v := v) (a := ⟨g, i, none⟩) (b := ⟨g, j, none⟩) (by intro e; exact h (Addr.mk.inj e).2.1)
  exact e.trans hc
theorem b32_addm (x y : BitVec 32) : ((x.toNat : Int) + (y.toNat : Int)) % (4294967296 : Int) = ((x + y).toNat : Int) := by
  rw [BitVec.toNat_add]; omega
theorem sched_val (a b c d : W) : ((((a.toNat : Int) + bits .xor .u32 (bits .xor .u32 (rotr b 7).toNat (rotr b 18).toNat) ((b.toNat : Int) / (8 : Int))) % (4294967296 : Int) + (c.toNat : Int)) % (4294967296 : Int) + bits .xor .u32 (bits .xor .u32 (rotr d 17).toNat (rotr d 19).toNat) ((d.toNat : Int) / (1024 : Int))) % (4294967296 : Int) = ((a + s0 b + c + s1 d).toNat : Int) := by
  simp only [b32_shr3, b32_shr10, b32_xor, b32_addm]
  rfl
theorem b32_notm (x : BitVec 32) : bits .xor .u32 (if IntKind.u32.signed = true then -1 else IntKind.u32.max) (x.toNat : Int) = ((~~~ x).toNat : Int) := b32_not x
theorem one_val (s : St) (kk ww : W) : (((s.h.toNat : Int) + bits .xor .u32 (bits .xor .u32 (rotr s.e 6).toNat (rotr s.e 11).toNat) (rotr s.e 25).toNat + bits .xor .u32 (bits .and .u32 s.e.toNat s.f.toNat) (bits .and .u32 (bits .xor .u32 (if IntKind.u32.signed = true then -1 else IntKind.u32.max) s.e.toNat) s.g.toNat) + (kk.toNat : Int)) % (4294967296 : Int) + (ww.toNat : Int)) % (4294967296 : Int) = ((Sha.one s kk ww).toNat : Int) := by
  simp only [b32_notm, b32_xor, b32_and]
  unfold Sha.one
  simp only [BitVec.toNat_add]
  omega
theorem two_val (s : St) : (bits .xor .u32 (bits .xor .u32 (rotr s.a 2).toNat (rotr s.a 13).toNat) (rotr s.a 22).toNat + bits .xor .u32 (bits .xor .u32 (bits .and .u32 s.a.toNat s.b.toNat) (bits .and .u32 s.a.toNat s.c.toNat)) (bits .and .u32 s.b.toNat s.c.toNat)) % (4294967296 : Int) = ((Sha.two s).toNat : Int) := by
  simp only [b32_xor, b32_and, b32_addm]
  rfl
/-- the four blocks of a call -/
structure Hp (w wr : World) (hc kc rc wc : Array Value) : Prop where
  h0 : wr.heap[w.heap.size]? = some (.cells hc 63 (0, 0))
  h1 : wr.heap[w.heap.size + 1]? = some (.cells kc 62 (0, 0))
  h2 : wr.heap[w.heap.size + 2]? = some (.cells rc 63 (0, 0))
  h3 : wr.heap[w.heap.size + 3]? = some (.cells wc 62 (0, 0))
  below : Below w.heap.size w wr
theorem Hp.of {w w' : World} {hc kc rc wc : Array Value} (h : w'.heap.size = w.heap.size + 4) (g0 : w'.heap[w.heap.size]? = some (.cells hc 63 (0, 0))) (hb : Below w.heap.size w w') : True := trivial
theorem Hp.set3 {w wr : World} {hc kc rc wc : Array Value} (h : Hp w wr hc kc rc wc) (i : Nat) (v : Value) : Hp w (wr.setCell ⟨w.heap.size + 3, i, none⟩ v) hc kc rc (wc.setIfInBounds i v) :=
  ⟨by rw [heap_setCell_other _ _ _ _ (by simp)]; exact h.h0, by rw [heap_setCell_other _ _ _ _ (by simp)]; exact h.h1, by rw [heap_setCell_other _ _ _ _ (by simp)]; exact h.h2, heap_setCell_same _ _ _ _ _ _ h.h3, h.below.setCell (by simp) _⟩
theorem Hp.below' {w wr wq : World} {hc kc rc wc : Array Value} (h : Hp w wr hc kc rc wc) (hs : w.heap.size + 4 ≤ wr.heap.size) (hb : Below (w.heap.size + 4) wr wq) : Hp w wq hc kc rc wc :=
  ⟨by rw [hb.block _ (by omega)]; exact h.h0, by rw [hb.block _ (by omega)]; exact h.h1, by rw [hb.block _ (by omega)]; exact h.h2, by rw [hb.block _ (by omega)]; exact h.h3, h.below.trans (hb.mono (by omega))⟩
theorem Hp.drewN {w wr : World} {hc kc rc wc : Array Value} (h : Hp w wr hc kc rc wc) (n : Nat) : Hp w (wr.drewN n) hc kc rc wc :=
  ⟨h.h0, h.h1, h.h2, h.h3, h.below.trans ⟨rfl, rfl, rfl, Nat.le_refl _, fun _ _ => rfl⟩⟩
theorem Hp.size {w wr : World} {hc kc rc wc : Array Value} (h : Hp w wr hc kc rc wc) : w.heap.size + 4 ≤ wr.heap.size := by
  have := (Array.getElem?_eq_some_iff.1 h.h3).1
  omega

theorem turn_s (n : Nat) (ni : Int) (hn : ni = (n : Int)) (h : n = 2 ∨ n = 6 ∨ n = 7 ∨ n = 11 ∨ n = 13 ∨ n = 17 ∨ n = 18 ∨ n = 19 ∨ n = 22 ∨ n = 25) (x : W) (u : World) :
    Calls Try.prog 42 #[.int .u32 (x.toNat : Int), .int .i64 ni] u fun e w' => e = .returned (.int .u32 ((rotr x n).toNat : Int)) ∧ w' = u := by
  subst hn; exact (turn_any x n u h).mono fun _ _ ⟨a, b⟩ => ⟨a, b.symm⟩
theorem turn_r (n : Nat) (ni : Int) (hn : ni = (n : Int)) (h : n = 2 ∨ n = 6 ∨ n = 7 ∨ n = 11 ∨ n = 13 ∨ n = 17 ∨ n = 18 ∨ n = 19 ∨ n = 22 ∨ n = 25) (x : W) (u : World) :
    Calls Try.prog 42 #[.int .u32 (x.toNat : Int), .int .i64 ni] u fun e w' => e = .returned (.int .u32 ((rotr x n).toNat : Int)) ∧ u = w' := by
  subst hn; exact turn_any x n u h
/-- the eight words of a state, as cells -/
def stC (s : St) : Array Value := #[.int .u32 (s.a.toNat : Int), .int .u32 (s.b.toNat : Int), .int .u32 (s.c.toNat : Int), .int .u32 (s.d.toNat : Int), .int .u32 (s.e.toNat : Int), .int .u32 (s.f.toNat : Int), .int .u32 (s.g.toNat : Int), .int .u32 (s.h.toNat : Int)]
theorem wordsTo_st (s : St) : wordsTo s.list 8 8 = stC s := rfl
theorem Hp.setg {w wr : World} {hc kc rc wc : Array Value} (h : Hp w wr hc kc rc wc) {g : Nat} (hg : w.heap.size + 4 ≤ g) (i : Nat) (v : Value) : Hp w (wr.setCell ⟨g, i, none⟩ v) hc kc rc wc :=
  ⟨by rw [heap_setCell_other _ _ _ _ (by simp; omega)]; exact h.h0, by rw [heap_setCell_other _ _ _ _ (by simp; omega)]; exact h.h1, by rw [heap_setCell_other _ _ _ _ (by simp; omega)]; exact h.h2, by rw [heap_setCell_other _ _ _ _ (by simp; omega)]; exact h.h3, h.below.setCell (by simp; omega) _⟩
theorem set8c {w : World} {g : Nat} {s : St} {t : TypeId} (h : w.heap[g]? = some (.cells (stC s) t (0, 0))) {v0 v1 v2 v3 v4 v5 v6 v7 : Value} :
    ((((((((w.setCell ⟨g, 0, none⟩ v0).setCell ⟨g, 1, none⟩ v1).setCell ⟨g, 2, none⟩ v2).setCell ⟨g, 3, none⟩ v3).setCell ⟨g, 4, none⟩ v4).setCell ⟨g, 5, none⟩ v5).setCell ⟨g, 6, none⟩ v6).setCell ⟨g, 7, none⟩ v7).heap[g]? = some (.cells #[v0, v1, v2, v3, v4, v5, v6, v7] t (0, 0)) := by
  have e := heap_setCell_same _ g 7 _ t v7 (heap_setCell_same _ g 6 _ t v6 (heap_setCell_same _ g 5 _ t v5 (heap_setCell_same _ g 4 _ t v4 (heap_setCell_same _ g 3 _ t v3 (heap_setCell_same _ g 2 _ t v2 (heap_setCell_same _ g 1 _ t v1 (heap_setCell_same w g 0 _ t v0 h)))))))
  rw [e]
  simp [stC]
theorem set8 {w : World} {g : Nat} {s : St} {t : TypeId} (h : w.heap[g]? = some (.cells (wordsTo s.list 8 8) t (0, 0))) {v0 v1 v2 v3 v4 v5 v6 v7 : Value} :
    ((((((((w.setCell ⟨g, 0, none⟩ v0).setCell ⟨g, 1, none⟩ v1).setCell ⟨g, 2, none⟩ v2).setCell ⟨g, 3, none⟩ v3).setCell ⟨g, 4, none⟩ v4).setCell ⟨g, 5, none⟩ v5).setCell ⟨g, 6, none⟩ v6).setCell ⟨g, 7, none⟩ v7).heap[g]? = some (.cells #[v0, v1, v2, v3, v4, v5, v6, v7] t (0, 0)) :=
  set8c (by rw [← wordsTo_st]; exact h)
/-- the first k words of a, then b's -/
def mixTo (a b : List W) (k : Nat) : Array Value := ((List.range 8).map fun i => if i < k then Value.int .u32 ((at_ a i).toNat : Int) else .int .u32 ((at_ b i).toNat : Int)).toArray
theorem mix_get (a b : List W) (k i : Nat) (h : i < 8) : (mixTo a b k)[i]? = some (if i < k then Value.int .u32 ((at_ a i).toNat : Int) else .int .u32 ((at_ b i).toNat : Int)) := by simp [mixTo, h]
theorem mix_none (a b : List W) : mixTo a b 0 = wordsTo b 8 8 := rfl
theorem mix_all (a b : List W) : mixTo a b 8 = wordsTo a 8 8 := rfl
theorem mix_size (a b : List W) (k : Nat) : (mixTo a b k).size = 8 := by simp [mixTo]
theorem mix_set (a b : List W) (k : Nat) (h : k < 8) : (mixTo a b k).setIfInBounds k (Value.int .u32 ((at_ a k).toNat : Int)) = mixTo a b (k + 1) := by
  apply Array.ext_getElem?
  intro i
  by_cases hi : i < 8
  · rw [mix_get _ _ _ _ hi]
    by_cases e : k = i
    · subst e; simp [mix_size, h]
    · rw [Array.getElem?_setIfInBounds_ne e, mix_get _ _ _ _ hi]
      by_cases h3 : i < k
      · simp [h3, show i < k + 1 by omega]
      · simp [h3, show ¬ i < k + 1 by omega]
  · rw [Array.getElem?_eq_none (by simp [mix_size]; omega), Array.getElem?_eq_none (by simp [mix_size]; omega)]
theorem add_at (s r : St) (k : Nat) (h : k < 8) : at_ (s.add r).list k = at_ s.list k + at_ r.list k := by
  match k, h with
  | 0, _ | 1, _ | 2, _ | 3, _ | 4, _ | 5, _ | 6, _ | 7, _ => rfl
theorem Hp.set0 {w wr : World} {hc kc rc wc : Array Value} (h : Hp w wr hc kc rc wc) (i : Nat) (v : Value) : Hp w (wr.setCell ⟨w.heap.size, i, none⟩ v) (hc.setIfInBounds i v) kc rc wc :=
  ⟨heap_setCell_same _ _ _ _ _ _ h.h0, by rw [heap_setCell_other _ _ _ _ (by simp)]; exact h.h1, by rw [heap_setCell_other _ _ _ _ (by simp)]; exact h.h2, by rw [heap_setCell_other _ _ _ _ (by simp)]; exact h.h3, h.below.setCell (by simp) _⟩
def RoundRel (w : World) (h : St) (S : List W) (g : Nat) (i : Value) (wr : World) : Prop :=
  ∃ k : Nat, k ≤ 64 ∧ i = .int .i64 k ∧ Hp w wr (wordsTo h.list 8 8) (wordsTo K 64 64) (wordsTo [] 8 0) (wordsTo S 64 64) ∧ wr.heap[g]? = some (.cells (wordsTo (rounds h K S k).list 8 8) 63 (0, 0))
set_option maxRecDepth 100000 in
set_option maxHeartbeats 4000000 in
theorem block_any (h : St) (p : Option Addr) (n cap : Nat) (b : List UInt8) (w : World) (hr : Rd8 w p b) (hn : n = b.length) (h64 : 64 ≤ n) (hcap : n ≤ cap) (hmax : cap ≤ maxLen) :
    Calls Try.prog 37 #[.agg (wordsTo h.list 8 8), .agg (wordsTo K 64 64), .slice p n cap] w fun e w' => e = .returned (.agg (wordsTo (Sha.block h b).list 8 8)) ∧ Below w.heap.size w w' := by
  subst hn
  obtain ⟨hz, hsz⟩ := zero_of_info zero64
  obtain ⟨hz8, hsz8⟩ := zero_of_info zero8
  have HR := Lib.hid hr
  have hm63 : cap ≤ 9223372036854775807 := by unfold maxLen at hmax; omega
  clear hr hmax
  go_enter Try.func37, Try.ntmps37
  go_upto_block 0 with (fail)
  have H0 : Hp w ((((w.alloc (.cells (wordsTo h.list 8 8) 63)).alloc (.cells (wordsTo K 64 64) 62)).alloc (.cells (wordsTo [] 8 0) 63)).alloc (.cells (wordsTo (sched 48 (words b)) 64 0) 62)) (wordsTo h.list 8 8) (wordsTo K 64 64) (wordsTo [] 8 0) (wordsTo (sched 48 (words b)) 64 0) :=
    ⟨by simp only [alloc_get, alloc_sz]; repeat (first | rw [if_pos trivial] | rw [if_pos (by omega)] | rw [if_neg (by omega)]), by simp only [alloc_get, alloc_sz]; repeat (first | rw [if_pos trivial] | rw [if_pos (by omega)] | rw [if_neg (by omega)]),
     by simp only [alloc_get, alloc_sz]; repeat (first | rw [if_pos trivial] | rw [if_pos (by omega)] | rw [if_neg (by omega)]), by simp only [alloc_get, alloc_sz]; repeat (first | rw [if_pos trivial] | rw [if_pos (by omega)] | rw [if_neg (by omega)]),
     ((((Below.refl _ _).alloc (Nat.le_refl _) _).alloc (by simp) _).alloc (by simp; omega) _).alloc (by simp; omega) _⟩
  rw [zeros_words [] 8, zeros_words (sched 48 (words b)) 64]
  obtain ⟨w4, hw4⟩ : ∃ v, v = ((((w.alloc (.cells (wordsTo h.list 8 8) 63)).alloc (.cells (wordsTo K 64 64) 62)).alloc (.cells (wordsTo [] 8 0) 63)).alloc (.cells (wordsTo (sched 48 (words b)) 64 0) 62)) := ⟨_, rfl⟩
  rw [← hw4] at H0 ⊢
  clear hw4
  have HWB : Hid (∀ i, i < 16 → at_ (sched 48 (words b)) i = BitVec.ofNat 32 (get ((b.drop (4 * i)).take 4))) := fun i hi => by rw [sched_low _ (words_len b) i hi, words_at b i hi]
  have HSA := Lib.hid (sched_at (words b) (words_len b))
  have HBL := Lib.hid (show Sha.block h b = h.add (rounds h K (sched 48 (words b)) 64) from rfl)
  generalize hS : sched 48 (words b) = S at *
  clear hS hz hz8
  go_cut [] (fun wc => Hp w wc (wordsTo h.list 8 8) (wordsTo K 64 64) (wordsTo [] 8 0) (wordsTo S 64 16))
  case first =>
    go_wp2_with fail
    go_loopw [20] (fun i wr => ∃ k : Nat, k ≤ 16 ∧ i = .int .i64 k ∧ Hp w wr (wordsTo h.list 8 8) (wordsTo K 64 64) (wordsTo [] 8 0) (wordsTo S 64 k)) (fun i _ => 16 - (intOf i).toNat)
    case atStart => exact ⟨0, by omega, rfl, H0⟩
    case round =>
      obtain ⟨k, hk, rfl, hh⟩ := hrel
      by_cases hlt : k < 16
      · have hc3 : wr.cell? ⟨w.heap.size + 1 + 1 + 1, k, none⟩ = some (.int .u32 0) := by rw [cell_of_row _ _ _ _ _ _ hh.h3, wordsTo_get _ _ _ _ (by omega)]; simp
        have hf3 : wr.frozen? ⟨w.heap.size + 1 + 1 + 1, k, none⟩ = false := frozen_of_row _ _ _ _ _ hh.h3
        have hsl := run_slice_from slB (P := Try.prog) wr p b.length cap (4 * k) (by omega)
        rw [show ((4 * k : Nat) : Int) = 4 * (k : Int) by omega] at hsl
        have hq : Rd8 wr (shift p (4 * k) cap 1) (b.drop (4 * k)) := by
          have := (HR.out.below hh.below).shift (l := 4 * k) (n := b.length) (cap := cap) (sz := 1) (by8_mul b) hcap
          rw [Nat.mul_one] at this
          unfold Rd8; rw [by8_drop]; exact this
        have HQ := Lib.hid hq
        have HH := Lib.hid hh
        have HE := Lib.hid (HWB.out k hlt)
        clear hq hh
        generalize shift p (4 * k) cap 1 = q at HQ hsl
        have hlen : b.length - 4 * k = (b.drop (4 * k)).length := by rw [List.length_drop]
        have HL := Lib.hid hlen
        clear hlen
        go_wp2_with fail
        go_fit (get4 q (b.length - 4 * k) (cap - 4 * k) (b.drop (4 * k)) wr HQ.out HL.out (by omega) (by omega))
        rintro e w5 ⟨rfl, rfl⟩
        go_wp2_with fail
        refine ⟨⟨k + 1, by omega, by go_num, ?_⟩, by simp [intOf]; omega⟩
        have h5 := HH.out.set3 k (.int .u32 ((at_ S k).toNat : Int))
        rw [wordsTo_set _ _ _ (by omega), HE.out, BitVec.toNat_ofNat] at h5
        exact h5
      · obtain rfl : k = 16 := by omega
        go_wp2_with fail
        go_meet
        exact hh
  case rest =>
    have H1 := hcut
    clear hcut H0 HWB
    go_upto_block 2 with (fail)
    go_cut [] (fun wc => Hp w wc (wordsTo h.list 8 8) (wordsTo K 64 64) (wordsTo [] 8 0) (wordsTo S 64 64))
    case first =>
      go_wp2_with fail
      go_loopw [10] (fun i wr => ∃ k : Nat, 16 ≤ k ∧ k ≤ 64 ∧ i = .int .i64 k ∧ Hp w wr (wordsTo h.list 8 8) (wordsTo K 64 64) (wordsTo [] 8 0) (wordsTo S 64 k)) (fun i _ => 64 - (intOf i).toNat)
      case atStart => exact ⟨16, by omega, by omega, rfl, H1⟩
      case round =>
        obtain ⟨k, hk16, hk, rfl, hh⟩ := hrel
        by_cases hlt : k < 64
        · have cf : ∀ j, j < k → wr.cell? ⟨w.heap.size + 1 + 1 + 1, j, none⟩ = some (.int .u32 ((at_ S j).toNat : Int)) := fun j hj => by rw [cell_of_row _ _ _ _ _ _ hh.h3, wordsTo_get _ _ _ _ (by omega), if_pos hj]
          have c2 := cf (k - 2) (by omega)
          have c7 := cf (k - 7) (by omega)
          have c15 := cf (k - 15) (by omega)
          have c16 := cf (k - 16) (by omega)
          have hc3 : wr.cell? ⟨w.heap.size + 1 + 1 + 1, k, none⟩ = some (.int .u32 0) := by rw [cell_of_row _ _ _ _ _ _ hh.h3, wordsTo_get _ _ _ _ (by omega)]; simp
          have hf3 : wr.frozen? ⟨w.heap.size + 1 + 1 + 1, k, none⟩ = false := frozen_of_row _ _ _ _ _ hh.h3
          have HE := Lib.hid (HSA.out k hk16 hlt)
          have HH := Lib.hid hh
          clear hh cf
          have R7 := Lib.hid (turn_r 7 7 rfl (by decide))
          have R18 := Lib.hid (turn_r 18 18 rfl (by decide))
          have R17 := Lib.hid (turn_r 17 17 rfl (by decide))
          have R19 := Lib.hid (turn_r 19 19 rfl (by decide))
          generalize at_ S (k - 2) = x2 at *
          generalize at_ S (k - 7) = x7 at *
          generalize at_ S (k - 15) = x15 at *
          generalize at_ S (k - 16) = x16 at *
          go_wp2_with fail
          go_quiet (fail)
          go_wp2_with fail
          have i16a : (16 : Int) ≤ (k : Int) := by omega
          have i16b : (k : Int) - 16 < 64 := by omega
          have i16c : ((k : Int) - 16).toNat = k - 16 := by omega
          have i7a : (7 : Int) ≤ (k : Int) := by omega
          have i7b : (k : Int) - 7 < 64 := by omega
          have ne16 : ¬ k = k - 16 := by omega
          have ne7 : ¬ k = k - 7 := by omega
          have i7c : ((k : Int) - 7).toNat = k - 7 := by omega
          have i16d : (0 : Int) ≤ (k : Int) - 16 := by omega
          have i7d : (0 : Int) ≤ (k : Int) - 7 := by omega
          have s16 : IntKind.i64.wrap ((k : Int) - 16) = (k : Int) - 16 := IntWalk.i64_in _ (by omega)
          have s7 : IntKind.i64.wrap ((k : Int) - 7) = (k : Int) - 7 := IntWalk.i64_in _ (by omega)
          go_region_held3 (fun w' => w'.cell? ⟨w.heap.size + 1 + 1 + 1, k - 16, none⟩ = some (.int .u32 (x16.toNat : Int)) ∧ w'.cell? ⟨w.heap.size + 1 + 1 + 1, k - 7, none⟩ = some (.int .u32 (x7.toNat : Int))) ((first | exact ⟨off_ne ne16 c16, off_ne ne7 c7⟩ | exact ⟨c16, c7⟩))
            (first
              | ((go_at_call 42; first | (with_reducible refine (R7.out x15 _).mono ?_) | (with_reducible refine (R18.out x15 _).mono ?_) | (with_reducible refine (R17.out x2 _).mono ?_) | (with_reducible refine (R19.out x2 _).mono ?_)); rintro e w' ⟨rfl, rfl⟩))
          go_wp2_with fail
          refine ⟨⟨k + 1, by omega, by omega, by go_num, ?_⟩, by simp [intOf]; omega⟩
          rw [sched_val, ← HE.out]
          have h5 := HH.out.set3 k (.int .u32 ((at_ S k).toNat : Int))
          rw [wordsTo_set _ _ _ (by omega)] at h5
          refine ⟨?_, ?_, ?_, ?_, ?_⟩
          · exact h5.h0
          · exact h5.h1
          · exact h5.h2
          · exact h5.h3
          · exact ⟨h5.below.os, h5.below.tape, h5.below.output, h5.below.size, h5.below.block⟩
        · obtain rfl : k = 64 := by omega
          go_wp2_with fail
          go_meet
          exact hh
    case rest =>
      have H2 := hcut
      clear hcut H1 HSA
      have hi8 : (Try.prog.info? 63).map (·.size) = some (wordsTo h.list 8 8).size := by rw [wordsTo_size]; exact hsz8
      have hu8 := Try.underlying63
      have HI8 := Lib.hid hi8
      clear hi8 hsz8 hsz
      have HH2 := Lib.hid H2
      have hg4 := H2.size
      clear H2
      go_upto_block 4 with (first
        | ((with_reducible refine L_load_row ?_ HH2.out.h0 hu8 rfl HI8.out ?_); (focus rfl); simp only [Act.put, List.setIfInBounds_toArray, List.set_cons_zero, List.set_cons_succ])
        | ((with_reducible refine L_store_row ?_ ?_ (heap_alloc_new _ _) HI8.out ?_ (wordsTo_one _ _ _) ?_); (focus rfl); (focus rfl); (focus simp [wordsTo_size]); simp only [Act.put, List.setIfInBounds_toArray, List.set_cons_zero, List.set_cons_succ]; rw [World.setRow_alloc_new]))
      have HH3 := Lib.hid (HH2.out.below' hg4 ((Below.refl _ wc).alloc (by omega) (.cells (wordsTo h.list 8 8) 63)))
      have HV := Lib.hid (heap_alloc_new wc (.cells (wordsTo h.list 8 8) 63))
      clear HH2
      generalize wc.alloc (.cells (wordsTo h.list 8 8) 63) = wd at *
      generalize wc.heap.size = g at *
      go_cut [] (fun we => RoundRel w h S g (.int .i64 64) we)
      case first =>
        go_wp2_with fail
        go_loopw [78] (fun i wr => RoundRel w h S g i wr) (fun i _ => 64 - (intOf i).toNat)
        case atStart => exact ⟨0, by omega, rfl, HH3.out, HV.out⟩
        case round =>
          obtain ⟨k, hk, rfl, hh, hv⟩ := hrel
          by_cases hlt : k < 64
          · have hst : rounds h K S (k + 1) = Sha.step (rounds h K S k) (at_ K k) (at_ S k) := rfl
            have HST := Lib.hid hst
            have HH := Lib.hid hh
            have HVV := Lib.hid hv
            clear hst hh hv
            generalize rounds h K S k = s at *
            have v0 : wr.cell? ⟨g, 0, none⟩ = some (.int .u32 (s.a.toNat : Int)) := by rw [cell_of_row _ _ _ _ _ _ HVV.out]; rfl
            have v4 : wr.cell? ⟨g, 4, none⟩ = some (.int .u32 (s.e.toNat : Int)) := by rw [cell_of_row _ _ _ _ _ _ HVV.out]; rfl
            go_wp2_with fail
            go_quiet (fail)
            go_wp2_with fail
            obtain ⟨wq, hwq⟩ : ∃ v, v = wr.drewN nq := ⟨_, rfl⟩
            have HH := Lib.hid (show Hp w wq _ _ _ _ by rw [hwq]; exact HH.out.drewN nq)
            have HVV : Hid (wq.heap[g]? = some (.cells (wordsTo s.list 8 8) 63 (0, 0))) := by rw [hwq]; exact HVV.out
            rw [← hwq]
            clear hwq v0 v4
            have hkc : wq.cell? ⟨w.heap.size + 1, k, none⟩ = some (.int .u32 ((at_ K k).toNat : Int)) := by rw [cell_of_row _ _ _ _ _ _ HH.out.h1, wordsTo_get _ _ _ _ (by omega), if_pos (by omega)]
            have hwc : wq.cell? ⟨w.heap.size + 1 + 1 + 1, k, none⟩ = some (.int .u32 ((at_ S k).toNat : Int)) := by rw [cell_of_row _ _ _ _ _ _ HH.out.h3, wordsTo_get _ _ _ _ (by omega), if_pos (by omega)]
            generalize at_ K k = kk at *
            generalize at_ S k = ww at *
            have v0 : wq.cell? ⟨g, 0, none⟩ = some (.int .u32 (s.a.toNat : Int)) := by rw [cell_of_row _ _ _ _ _ _ HVV.out]; rfl
            have v1 : wq.cell? ⟨g, 1, none⟩ = some (.int .u32 (s.b.toNat : Int)) := by rw [cell_of_row _ _ _ _ _ _ HVV.out]; rfl
            have v2 : wq.cell? ⟨g, 2, none⟩ = some (.int .u32 (s.c.toNat : Int)) := by rw [cell_of_row _ _ _ _ _ _ HVV.out]; rfl
            have v3 : wq.cell? ⟨g, 3, none⟩ = some (.int .u32 (s.d.toNat : Int)) := by rw [cell_of_row _ _ _ _ _ _ HVV.out]; rfl
            have v4 : wq.cell? ⟨g, 4, none⟩ = some (.int .u32 (s.e.toNat : Int)) := by rw [cell_of_row _ _ _ _ _ _ HVV.out]; rfl
            have v5 : wq.cell? ⟨g, 5, none⟩ = some (.int .u32 (s.f.toNat : Int)) := by rw [cell_of_row _ _ _ _ _ _ HVV.out]; rfl
            have v6 : wq.cell? ⟨g, 6, none⟩ = some (.int .u32 (s.g.toNat : Int)) := by rw [cell_of_row _ _ _ _ _ _ HVV.out]; rfl
            have v7 : wq.cell? ⟨g, 7, none⟩ = some (.int .u32 (s.h.toNat : Int)) := by rw [cell_of_row _ _ _ _ _ _ HVV.out]; rfl
            have T6 := Lib.hid (turn_s 6 6 rfl (by decide))
            have T11 := Lib.hid (turn_s 11 11 rfl (by decide))
            have T25 := Lib.hid (turn_s 25 25 rfl (by decide))
            go_quiet ((go_at_call 42; first | (refine Calls.quiet_of_same (v := Value.int .u32 ((rotr s.e 6).toNat : Int)) ?_; with_reducible exact T6.out s.e _) | (refine Calls.quiet_of_same (v := Value.int .u32 ((rotr s.e 11).toNat : Int)) ?_; with_reducible exact T11.out s.e _) | (refine Calls.quiet_of_same (v := Value.int .u32 ((rotr s.e 25).toNat : Int)) ?_; with_reducible exact T25.out s.e _)))
            rw [one_val]
            have hx1 : Sha.step s kk ww = ⟨Sha.one s kk ww + Sha.two s, s.a, s.b, s.c, s.d + Sha.one s kk ww, s.e, s.f, s.g⟩ := rfl
            have HX1 := Lib.hid hx1
            clear hx1
            generalize Sha.one s kk ww = x1 at HX1 ⊢
            go_wp2_with fail
            obtain ⟨wq2, hwq⟩ : ∃ v, v = wq.drewN nq := ⟨_, rfl⟩
            have HH := Lib.hid (show Hp w wq2 _ _ _ _ by rw [hwq]; exact HH.out.drewN nq)
            have HVV : Hid (wq2.heap[g]? = some (.cells (wordsTo s.list 8 8) 63 (0, 0))) := by rw [hwq]; exact HVV.out
            rw [← hwq]
            clear hwq v0 v1 v2 v3 v4 v5 v6 v7 hkc hwc
            have v0 : wq2.cell? ⟨g, 0, none⟩ = some (.int .u32 (s.a.toNat : Int)) := by rw [cell_of_row _ _ _ _ _ _ HVV.out]; rfl
            have v1 : wq2.cell? ⟨g, 1, none⟩ = some (.int .u32 (s.b.toNat : Int)) := by rw [cell_of_row _ _ _ _ _ _ HVV.out]; rfl
            have v2 : wq2.cell? ⟨g, 2, none⟩ = some (.int .u32 (s.c.toNat : Int)) := by rw [cell_of_row _ _ _ _ _ _ HVV.out]; rfl
            have v3 : wq2.cell? ⟨g, 3, none⟩ = some (.int .u32 (s.d.toNat : Int)) := by rw [cell_of_row _ _ _ _ _ _ HVV.out]; rfl
            have v4 : wq2.cell? ⟨g, 4, none⟩ = some (.int .u32 (s.e.toNat : Int)) := by rw [cell_of_row _ _ _ _ _ _ HVV.out]; rfl
            have v5 : wq2.cell? ⟨g, 5, none⟩ = some (.int .u32 (s.f.toNat : Int)) := by rw [cell_of_row _ _ _ _ _ _ HVV.out]; rfl
            have v6 : wq2.cell? ⟨g, 6, none⟩ = some (.int .u32 (s.g.toNat : Int)) := by rw [cell_of_row _ _ _ _ _ _ HVV.out]; rfl
            have v7 : wq2.cell? ⟨g, 7, none⟩ = some (.int .u32 (s.h.toNat : Int)) := by rw [cell_of_row _ _ _ _ _ _ HVV.out]; rfl
            have T2 := Lib.hid (turn_s 2 2 rfl (by decide))
            have T13 := Lib.hid (turn_s 13 13 rfl (by decide))
            have T22 := Lib.hid (turn_s 22 22 rfl (by decide))
            go_quiet ((go_at_call 42; first | (refine Calls.quiet_of_same (v := Value.int .u32 ((rotr s.a 2).toNat : Int)) ?_; with_reducible exact T2.out s.a _) | (refine Calls.quiet_of_same (v := Value.int .u32 ((rotr s.a 13).toNat : Int)) ?_; with_reducible exact T13.out s.a _) | (refine Calls.quiet_of_same (v := Value.int .u32 ((rotr s.a 22).toNat : Int)) ?_; with_reducible exact T22.out s.a _)))
            rw [two_val]
            generalize Sha.two s = x2 at HX1 ⊢
            obtain ⟨wq3, hwq⟩ : ∃ v, v = wq2.drewN nq := ⟨_, rfl⟩
            have HH := Lib.hid (show Hp w wq3 _ _ _ _ by rw [hwq]; exact HH.out.drewN nq)
            have HVV : Hid (wq3.heap[g]? = some (.cells (wordsTo s.list 8 8) 63 (0, 0))) := by rw [hwq]; exact HVV.out
            rw [← hwq]
            clear hwq v0 v1 v2 v3 v4 v5 v6 v7 
            have v0 : wq3.cell? ⟨g, 0, none⟩ = some (.int .u32 (s.a.toNat : Int)) := by rw [cell_of_row _ _ _ _ _ _ HVV.out]; rfl
            have v1 : wq3.cell? ⟨g, 1, none⟩ = some (.int .u32 (s.b.toNat : Int)) := by rw [cell_of_row _ _ _ _ _ _ HVV.out]; rfl
            have v2 : wq3.cell? ⟨g, 2, none⟩ = some (.int .u32 (s.c.toNat : Int)) := by rw [cell_of_row _ _ _ _ _ _ HVV.out]; rfl
            have v3 : wq3.cell? ⟨g, 3, none⟩ = some (.int .u32 (s.d.toNat : Int)) := by rw [cell_of_row _ _ _ _ _ _ HVV.out]; rfl
            have v4 : wq3.cell? ⟨g, 4, none⟩ = some (.int .u32 (s.e.toNat : Int)) := by rw [cell_of_row _ _ _ _ _ _ HVV.out]; rfl
            have v5 : wq3.cell? ⟨g, 5, none⟩ = some (.int .u32 (s.f.toNat : Int)) := by rw [cell_of_row _ _ _ _ _ _ HVV.out]; rfl
            have v6 : wq3.cell? ⟨g, 6, none⟩ = some (.int .u32 (s.g.toNat : Int)) := by rw [cell_of_row _ _ _ _ _ _ HVV.out]; rfl
            have v7 : wq3.cell? ⟨g, 7, none⟩ = some (.int .u32 (s.h.toNat : Int)) := by rw [cell_of_row _ _ _ _ _ _ HVV.out]; rfl
            have f0 : wq3.frozen? ⟨g, 0, none⟩ = false := frozen_of_row _ _ _ _ _ HVV.out
            have f1 : wq3.frozen? ⟨g, 1, none⟩ = false := frozen_of_row _ _ _ _ _ HVV.out
            have f2 : wq3.frozen? ⟨g, 2, none⟩ = false := frozen_of_row _ _ _ _ _ HVV.out
            have f3 : wq3.frozen? ⟨g, 3, none⟩ = false := frozen_of_row _ _ _ _ _ HVV.out
            have f4 : wq3.frozen? ⟨g, 4, none⟩ = false := frozen_of_row _ _ _ _ _ HVV.out
            have f5 : wq3.frozen? ⟨g, 5, none⟩ = false := frozen_of_row _ _ _ _ _ HVV.out
            have f6 : wq3.frozen? ⟨g, 6, none⟩ = false := frozen_of_row _ _ _ _ _ HVV.out
            have f7 : wq3.frozen? ⟨g, 7, none⟩ = false := frozen_of_row _ _ _ _ _ HVV.out
            go_wp2_with fail
            refine ⟨⟨k + 1, by omega, by go_num, ?_, ?_⟩, by simp [intOf]; omega⟩
            · exact (((((((HH.out.setg hg4 _ _).setg hg4 _ _).setg hg4 _ _).setg hg4 _ _).setg hg4 _ _).setg hg4 _ _).setg hg4 _ _).setg hg4 _ _
            · rw [HST.out, HX1.out, set8 HVV.out, b32_addm, b32_addm]
              rfl
          · obtain rfl : k = 64 := by omega
            go_wp2_with fail
            go_meet
            exact ⟨64, by omega, rfl, hh, hv⟩
      case rest =>
        obtain ⟨k, hk, hki, hh, hv⟩ := hcut
        obtain rfl : k = 64 := by simp only [Value.int.injEq, true_and] at hki; omega
        have HH := Lib.hid hh
        have HV4 := Lib.hid hv
        clear hh hv hki hk HH3 HV
        generalize rounds h K S 64 = r at *
        go_upto_block 6 with (fail)
        go_cut [] (fun we => Hp w we (wordsTo (h.add r).list 8 8) (wordsTo K 64 64) (wordsTo [] 8 0) (wordsTo S 64 64))
        case first =>
          go_wp2_with fail
          go_loopw [166] (fun i wr => ∃ k : Nat, k ≤ 8 ∧ i = .int .i64 k ∧ Hp w wr (mixTo (h.add r).list h.list k) (wordsTo K 64 64) (wordsTo [] 8 0) (wordsTo S 64 64) ∧ wr.heap[g]? = some (.cells (wordsTo r.list 8 8) 63 (0, 0))) (fun i _ => 8 - (intOf i).toNat)
          case atStart => exact ⟨0, by omega, rfl, by rw [mix_none]; exact HH.out, HV4.out⟩
          case round =>
            obtain ⟨k, hk, rfl, hh, hv⟩ := hrel
            by_cases hlt : k < 8
            · have c0 : wr.cell? ⟨w.heap.size, k, none⟩ = some (.int .u32 ((at_ h.list k).toNat : Int)) := by rw [cell_of_row _ _ _ _ _ _ hh.h0, mix_get _ _ _ _ hlt, if_neg (by omega)]
              have c1 : wr.cell? ⟨g, k, none⟩ = some (.int .u32 ((at_ r.list k).toNat : Int)) := by rw [cell_of_row _ _ _ _ _ _ hv, wordsTo_get _ _ _ _ hlt, if_pos hlt]
              have f0 : wr.frozen? ⟨w.heap.size, k, none⟩ = false := frozen_of_row _ _ _ _ _ hh.h0
              have HE := Lib.hid (add_at h r k hlt)
              have HH' := Lib.hid hh
              have HVV := Lib.hid hv
              clear hh hv
              generalize at_ h.list k = x at *
              generalize at_ r.list k = y at *
              go_wp2_with fail
              go_region
              go_wp2_with fail
              have h5 := HH'.out.set0 k (.int .u32 ((at_ (h.add r).list k).toNat : Int))
              rw [mix_set _ _ _ hlt, HE.out] at h5
              refine ⟨⟨k + 1, by omega, by go_num, ?_, ?_⟩, by simp [intOf]; omega⟩
              · rw [b32_addm]
                exact ⟨h5.h0, h5.h1, h5.h2, h5.h3, ⟨h5.below.os, h5.below.tape, h5.below.output, h5.below.size, h5.below.block⟩⟩
              · show (wr.setCell _ _).heap[g]? = _
                rw [heap_setCell_other _ _ _ _ (by simp; omega)]; exact HVV.out
            · obtain rfl : k = 8 := by omega
              go_wp2_with fail
              go_meet
              rw [mix_all] at hh
              exact hh
        case rest =>
          have HE := Lib.hid hcut
          clear hcut
          have HI9 : Hid ((Try.prog.info? 63).map (·.size) = some (wordsTo (h.add r).list 8 8).size) := by have := HI8.out; rw [wordsTo_size] at this; rw [wordsTo_size]; exact Lib.hid this
          go_wp2_with (first
            | ((with_reducible refine L_load_row ?_ HE.out.h0 hu8 rfl HI9.out ?_); (focus rfl); simp only [Act.put, List.setIfInBounds_toArray, List.set_cons_zero, List.set_cons_succ])
            | ((with_reducible refine L_store_row ?_ ?_ HE.out.h2 HI9.out ?_ (wordsTo_one _ _ _) ?_); (focus rfl); (focus rfl); (focus simp [wordsTo_size]); simp only [Act.put, List.setIfInBounds_toArray, List.set_cons_zero, List.set_cons_succ]))
          refine bodyPost_ret (results_cell_row (P := Try.prog) rfl _ _ (w.heap.size + 2) 63 (wordsTo (h.add r).list 8 8) (0, 0) _ rfl (setRow_heap _ _ _ _ _ _ HE.out.h2) hu8 rfl HI9.out) rfl ⟨by rw [HBL.out], ?_⟩
          exact HE.out.below.trans ⟨rfl, rfl, rfl, by simp, fun k hk => setRow_other _ _ _ _ (by omega)⟩
end Go.Proofs.YtfeefpaclaonfaaR
