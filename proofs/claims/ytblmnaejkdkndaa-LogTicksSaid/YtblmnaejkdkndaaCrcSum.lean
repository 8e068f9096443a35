/- The walks over package crc, and over the document's Crc. -/
import Derived.Test.YtblmnaejkdkndaaCrcPlain
import Derived.Test.YtblmnaejkdkndaaBase
set_option linter.unusedSimpArgs false
set_option linter.unusedVariables false
namespace Go.Proofs.Ytblmnaejkdkndaa
open Go.RowKit Crc

theorem sh_odd (x : BitVec 32) (h : (bits .and .u32 (x.toNat : Int) 1 == 1) = true) : bits .xor .u32 ((x.toNat : Int) / 2) 3988292384 = ((sh x).toNat : Int) := by
  rw [b32_and_one, bv_one] at h
  rw [bv_half, b32_xor_poly, sh, if_pos h]
theorem sh_even (x : BitVec 32) (h : (bits .and .u32 (x.toNat : Int) 1 == 1) = false) : (x.toNat : Int) / 2 = ((sh x).toNat : Int) := by
  have h' : ¬ (x &&& 1#32 = 1#32) := by
    intro hx; rw [← bv_one, ← b32_and_one] at hx; rw [hx] at h; cases h
  rw [bv_half, sh, if_neg h']

set_option maxHeartbeats 400000 in
theorem step_any (r : BitVec 32) (c : UInt8) (w : World) :
    Calls Try.prog 77 #[.int .u32 (r.toNat : Int), .int .u8 (c.toNat : Int)] w fun e w' => e = .returned (.int .u32 ((stepB r c).toNat : Int)) ∧ w = w' := by
  have hc : (c.toNat : Int) ≤ 255 := by have := c.toNat_lt; omega
  go_enter Try.func77, Try.ntmps77
  go_wp2
  go_loop [0, 9] (fun r' i => ∃ k : Nat, k ≤ 8 ∧ i = .int .i64 k ∧ r' = .int .u32 ((shN k (r ^^^ c.toBitVec.setWidth 32)).toNat : Int)) (fun _ i => 8 - (intOf i).toNat)
  case atStart => exact ⟨0, by omega, rfl, by simp [shN, b32_xor_u8]⟩
  case round =>
    obtain ⟨k, hk, rfl, rfl⟩ := hrel
    by_cases hlt : k < 8
    · go_wp2
      · have h : (bits .and .u32 ((shN k (r ^^^ c.toBitVec.setWidth 32)).toNat : Int) 1 == 1) = true := by assumption
        exact ⟨⟨k + 1, by omega, by go_num, val_int (sh_odd _ h)⟩, by simp [intOf]; omega⟩
      · have h : (bits .and .u32 ((shN k (r ^^^ c.toBitVec.setWidth 32)).toNat : Int) 1 == 1) = false := by assumption
        exact ⟨⟨k + 1, by omega, by go_num, val_int (sh_even _ h)⟩, by simp [intOf]; omega⟩
    · obtain rfl : k = 8 := by omega
      go_wp2
      go_ret
      exact ⟨rfl, rfl⟩

/-- so many zero words -/
def zeros (n : Nat) : Array Value := Array.replicate n (.int .u32 0)
/-- the table's first k words -/
def tab (k : Nat) : Array Value := ((List.range 256).map fun i => if i < k then Value.int .u32 ((stepB 0#32 (UInt8.ofNat i)).toNat : Int) else .int .u32 0).toArray
theorem tab_size (k : Nat) : (tab k).size = 256 := by simp [tab]
theorem zeros_tab : zeros 256 = tab 0 := by
  apply Array.ext
  · simp [zeros, tab]
  · intro i h1 h2; simp [zeros, tab]
theorem zero_words : (Try.prog.info? 129).map (fun i => (i.zero, i.size)) = some (some (.agg (zeros 256)), 256) := by kernel_rfl
theorem tab_get (k i : Nat) (h : i < 256) : (tab k)[i]? = some (if i < k then Value.int .u32 ((stepB 0#32 (UInt8.ofNat i)).toNat : Int) else .int .u32 0) := by
  simp [tab, h]
theorem tab_set (k : Nat) (h : k < 256) : (tab k).setIfInBounds k (Value.int .u32 ((stepB 0#32 (UInt8.ofNat k)).toNat : Int)) = tab (k + 1) := by
  apply Array.ext_getElem?
  intro i
  by_cases hi : i < 256
  · rw [tab_get _ _ hi]
    by_cases e : k = i
    · subst e; simp [tab_size, h]
    · rw [Array.getElem?_setIfInBounds_ne e, tab_get _ _ hi]
      by_cases h3 : i < k
      · simp [h3, show i < k + 1 by omega]
      · simp [h3, show ¬ i < k + 1 by omega]
  · rw [Array.getElem?_eq_none (by simp [tab_size]; omega), Array.getElem?_eq_none (by simp [tab_size]; omega)]
theorem tab_one (k : Nat) : (tab k).all (·.oneCell') = true := by
  rw [Array.all_eq_true_iff_forall_mem]
  intro x hx
  simp only [tab, List.mem_toArray, List.mem_map] at hx
  obtain ⟨i, _, rfl⟩ := hx
  split <;> rfl

set_option maxRecDepth 20000 in
set_option maxHeartbeats 400000 in
theorem table_any (w : World) :
    Calls Try.prog 78 #[] w fun e w' => e = .returned (.agg (tab 256)) ∧ Below w.heap.size w w' := by
  obtain ⟨hz, hsz⟩ := zero_of_info zero_words
  go_enter Try.func78, Try.ntmps78
  go_wp2
  go_loopw [3] (fun i wr => ∃ k : Nat, k ≤ 256 ∧ i = .int .i64 k ∧ wr.heap[w.heap.size]? = some (.cells (tab 0) 129 (0, 0)) ∧ wr.heap[w.heap.size + 1]? = some (.cells (tab k) 129 (0, 0)) ∧ Below w.heap.size w wr) (fun i _ => 256 - (intOf i).toNat)
  case atStart => exact ⟨0, by omega, rfl, by rw [zeros_tab]; exact heap_alloc2_old _ _ _, by rw [zeros_tab]; exact heap_alloc2_new _ _ _, by go_grown⟩
  case round =>
    obtain ⟨k, hk, rfl, hb0, hb1, hbel⟩ := hrel
    by_cases hlt : k < 256
    · have hst : Calls Try.prog 77 #[.int .u32 0, .int .u8 (k : Int)] wr fun e w' => e = .returned (.int .u32 ((stepB 0#32 (UInt8.ofNat k)).toNat : Int)) ∧ wr = w' := by
        have h := step_any 0#32 (UInt8.ofNat k) wr
        have hw8 : (k : Int) = (((UInt8.ofNat k).toNat : Nat) : Int) := by simp; omega
        rw [← hw8] at h; exact h
      have HS := Lib.hid hst
      have hc : wr.cell? ⟨w.heap.size + 1, k, none⟩ = some (.int .u32 0) := by rw [cell_of_row _ _ _ _ _ _ hb1, tab_get _ _ hlt]; simp
      have hf : wr.frozen? ⟨w.heap.size + 1, k, none⟩ = false := frozen_of_row _ _ _ _ _ hb1
      have H0 := Lib.hid hb0
      have H1 := Lib.hid hb1
      clear hst hb0 hb1
      go_wp2_with (go_at_call 77; go_fit HS.out; rintro e w' ⟨rfl, rfl⟩)
      refine ⟨⟨k + 1, by omega, by go_num, ?_, ?_, ?_⟩, by simp [intOf]; omega⟩
      · rw [heap_setCell_other _ _ _ _ (by simp)]; exact H0.out
      · rw [heap_setCell_same _ _ _ _ _ _ H1.out, tab_set k hlt]
      · exact hbel.setCell (by simp) _
    · obtain rfl : k = 256 := by omega
      have hi : (Try.prog.info? 129).map (·.size) = some (tab 256).size := by rw [tab_size]; exact hsz
      have hu := Try.underlying129
      have HI := Lib.hid hi
      have H0 := Lib.hid hb0
      have H1 := Lib.hid hb1
      clear hi hb0 hb1
      go_wp2_with (first
        | ((with_reducible refine L_load_row ?_ H1.out hu rfl HI.out ?_); (focus rfl); simp only [Act.put, List.setIfInBounds_toArray, List.set_cons_zero, List.set_cons_succ])
        | ((with_reducible refine L_store_row ?_ ?_ H0.out HI.out ?_ (tab_one 256) ?_); (focus rfl); (focus rfl); (focus simp [tab_size]); simp only [Act.put, List.setIfInBounds_toArray, List.set_cons_zero, List.set_cons_succ]))
      refine bodyPost_ret (results_cell_row (P := Try.prog) rfl _ _ w.heap.size 129 (tab 256) (0, 0) _ rfl (setRow_heap _ _ _ _ _ _ H0.out) hu rfl HI.out) rfl ⟨rfl, ?_⟩
      exact hbel.trans ⟨rfl, rfl, rfl, by simp, fun k hk => setRow_other _ _ _ _ (by omega)⟩

set_option maxRecDepth 20000 in
set_option maxHeartbeats 400000 in
theorem update_any (c : BitVec 32) (p : Option Addr) (cap : Nat) (l : List UInt8) (w : World) (hr : Rd8 w p l) (hl : l.length ≤ 140737488351232) :
    Calls Try.prog 69 #[.int .u32 (c.toNat : Int), .slice p l.length cap] w fun e w' => e = .returned (.int .u32 ((upd c l).toNat : Int)) ∧ Below w.heap.size w w' := by
  by_cases hs : l.length < 200
  · go_enter Try.func69, Try.ntmps69
    go_wp2
    go_loop [5, 18] (fun r i => ∃ k : Nat, k ≤ l.length ∧ i = .int .i64 k ∧ r = .int .u32 (((l.take k).foldl stepB (~~~ c)).toNat : Int)) (fun _ i => l.length - (intOf i).toNat)
    case atStart => exact ⟨0, by omega, rfl, by rw [b32_not]; rfl⟩
    case round =>
      obtain ⟨k, hk, rfl, rfl⟩ := hrel
      by_cases hlt : k < l.length
      · obtain ⟨b, o, rfl, hc⟩ := hr.at hlt
        have hck := hc k hlt
        clear hc hr
        have HS := Lib.hid (foldl_take_succ stepB l k hlt (~~~ c))
        go_wp2_with (go_at_call 77; go_fit (step_any _ _ _); rintro e w' ⟨rfl, rfl⟩)
        exact ⟨⟨k + 1, by omega, by go_num, by rw [HS.out]⟩, by simp [intOf]; omega⟩
      · obtain rfl : k = l.length := by omega
        go_wp2
        go_ret
        refine ⟨?_, Below.refl _ _⟩
        simp [b32_not, upd]
  · go_enter Try.func69, Try.ntmps69
    obtain ⟨hz, hsz⟩ := zero_of_info zero_words
    have HI := Lib.hid (show (Try.prog.info? 129).map (·.size) = some (tab 256).size by rw [tab_size]; exact hsz)
    clear hsz
    go_wp2_with (first
      | (go_at_call 78; go_fit (table_any _); rintro e w1 ⟨rfl, hb1⟩)
      | ((with_reducible refine L_store_row ?_ ?_ (heap_alloc_new _ _) HI.out ?_ (tab_one 256) ?_); (focus rfl); (focus rfl); (focus simp [tab_size, zeros]); simp only [Act.put, List.setIfInBounds_toArray, List.set_cons_zero, List.set_cons_succ]; rw [World.setRow_alloc_new]))
    go_loop [5, 31] (fun r i => ∃ k : Nat, k ≤ l.length ∧ i = .int .i64 k ∧ r = .int .u32 (((l.take k).foldl stepB (~~~ c)).toNat : Int)) (fun _ i => l.length - (intOf i).toNat)
    case atStart => exact ⟨0, by omega, rfl, by rw [b32_not]; rfl⟩
    case round =>
      obtain ⟨k, hk, rfl, rfl⟩ := hrel
      by_cases hlt : k < l.length
      · obtain ⟨b, o, rfl, hc⟩ := hr.at hlt
        have hck := hc k hlt
        have hbb := block_lt_of_cell hck
        clear hc hr
        have HS := Lib.hid (foldl_take_succ stepB l k hlt (~~~ c))
        generalize (l.take k).foldl stepB (~~~ c) = r at HS ⊢
        generalize l[k] = x at hck HS
        have hj : (UInt8.ofNat (r.toNat % 256) ^^^ x).toNat < 256 := UInt8.toNat_lt _
        have hix : bits .xor .u8 ((r.toNat : Int) % 256) (x.toNat : Int) = (((UInt8.ofNat (r.toNat % 256) ^^^ x).toNat : Nat) : Int) := by
          rw [← b8_xor]; congr 1; simp
        have htab := tab_get 256 _ hj
        rw [if_pos hj] at htab
        have HT := Lib.hid (stepB_table r x)
        simp only [UInt8.ofNat_toNat] at htab
        generalize hjj : (UInt8.ofNat (r.toNat % 256) ^^^ x) = j at *
        clear hjj
        have hck' : (w1.alloc (.cells (tab 256) 129)).cell? ⟨b, o + k, none⟩ = some (.int .u8 (x.toNat : Int)) := by
          rw [World.cell?_alloc_lt _ _ _ (Nat.lt_of_lt_of_le hbb hb1.size), hb1.cell (p := ⟨b, o + k, none⟩) hbb]; exact hck
        clear hck
        go_wp2
        exact ⟨⟨k + 1, by omega, by go_num, by rw [HS.out, HT.out]; exact val_int (by rw [bv_byte, b32_xor])⟩, by simp [intOf]; omega⟩
      · obtain rfl : k = l.length := by omega
        go_wp2
        go_ret
        refine ⟨?_, hb1.alloc hb1.size _⟩
        simp [b32_not, upd]

set_option maxRecDepth 20000 in
set_option maxHeartbeats 400000 in
theorem sum_any (p : Option Addr) (cap : Nat) (l : List UInt8) (w : World) (hr : Rd8 w p l) (hl : l.length ≤ 140737488351232) :
    Calls Try.prog 70 #[.slice p l.length cap] w fun e w' => e = .returned (.int .u32 ((upd 0#32 l).toNat : Int)) ∧ Below w.heap.size w w' := by
  go_enter Try.func70, Try.ntmps70
  have hu : Calls Try.prog 69 #[.int .u32 0, .slice p l.length cap] w fun e w' => e = .returned (.int .u32 ((upd 0#32 l).toNat : Int)) ∧ Below w.heap.size w w' := update_any 0#32 p cap l w hr hl
  have HU := Lib.hid hu
  clear hu hr
  go_wp2_with (go_at_call 69; go_fit HU.out; rintro e w1 ⟨rfl, hb1⟩)
  go_ret
  exact ⟨rfl, hb1⟩

/-! The same, the length said by an equation. -/
theorem update_n (c : BitVec 32) (p : Option Addr) (n cap : Nat) (l : List UInt8) (w : World) (hr : Rd8 w p l) (hn : n = l.length) (hl : n ≤ 140737488351232) :
    Calls Try.prog 69 #[.int .u32 (c.toNat : Int), .slice p n cap] w fun e w' => e = .returned (.int .u32 ((upd c l).toNat : Int)) ∧ Below w.heap.size w w' := by
  subst hn; exact update_any c p cap l w hr hl
theorem sum_n (p : Option Addr) (n cap : Nat) (l : List UInt8) (w : World) (hr : Rd8 w p l) (hn : n = l.length) (hl : n ≤ 140737488351232) :
    Calls Try.prog 70 #[.slice p n cap] w fun e w' => e = .returned (.int .u32 ((upd 0#32 l).toNat : Int)) ∧ Below w.heap.size w w' := by
  subst hn; exact sum_any p cap l w hr hl
end Go.Proofs.Ytblmnaejkdkndaa
