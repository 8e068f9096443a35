/- Walks over package sha: primes, part, constants. -/
import Derived.Test.YtfeefpaclaonfaaRShaParts
import Derived.Deep.RegionHeld3
import Derived.Deep.DeepCutAuto
import Derived.Deep.CutBlock
set_option linter.unusedSimpArgs false
set_option linter.unusedVariables false
namespace Go.Proofs.YtfeefpaclaonfaaR
open Go.RowKit Go.BigFrame Sha

theorem Rd.set {w : World} {p : Option Addr} {xs : List Value} (h : Rd w p xs) (a : Addr) (v : Value) (hne : ∀ b, p = some b → b.block ≠ a.block) : Rd (w.setCell a v) p xs :=
  h.keep fun b o hp _ i => World.cell?_of_block (heap_setCell_other _ _ _ _ (hne ⟨b, o, none⟩ hp))
theorem if_run {c : Prop} [Decidable c] {A B : Prop} (hc : c) (h : A) : if c then A else B := by rw [if_pos hc]; exact h
def u64s (l : List Nat) : List Value := l.map fun n : Nat => Value.int .u64 (n : Int)
theorem u64s_len (l : List Nat) : (u64s l).length = l.length := by simp [u64s]
theorem slU : SlT Try.prog 71 58 1 8 := SlT.of (z := .int .u64 0) (by kernel_rfl) rfl (by decide) Try.underlying71
def PrimesRel (w : World) (out p : Value) (wr : World) : Prop :=
  ∃ k : Nat, k ≤ 310 ∧ p = .int .u64 ((k : Int) + 2) ∧ OwnS wr w.heap.size 58 1 out (prs k).length (u64s (prs k)) ∧ Below w.heap.size w wr

set_option maxRecDepth 20000 in
set_option maxHeartbeats 1000000 in
theorem primes_any (w : World) :
    Calls Try.prog 40 #[.int .i64 64] w fun e w' => ∃ p c, e = .returned (.slice p 64 c) ∧ Rd w' p (u64s PR) ∧ (∀ a, p = some a → w.heap.size ≤ a.block) ∧ Below w.heap.size w w' := by
  go_enter Try.func40, Try.ntmps40
  go_wp2_with fail
  go_step3
  go_wp2_with fail
  go_step3
  go_wp2_with fail
  go_loopw [3, 4] (fun out p wr => PrimesRel w out p wr) (fun _ p _ => 400 - (intOf p).toNat)
  case atStart => exact ⟨0, by omega, rfl, OwnS.none, Below.refl _ _⟩
  case round =>
    obtain ⟨k, hk, rfl, ho, hbel⟩ := hrel
    obtain ⟨q, cap, rfl, hr, hm⟩ := ho.shape
    have HO := Lib.hid ho
    have HR := Lib.hid hr
    clear ho hr
    have hfew := prs_few hk
    by_cases hlt : (prs k).length < 64
    · have d1 : decide (((prs k).length : Int) < 64) = true := by simp; omega
      have hk9 := prs_lt hk hlt
      have HG := Lib.hid (prs_ge k)
      have hS : Hid (prs (k + 1) = if (prs k).all (fun q => (k + 2) % q != 0) then prs k ++ [k + 2] else prs k) := Lib.hid rfl
      have hwr : IntKind.u64.wrap ((k : Int) + 2 + 1) = (k : Int) + 1 + 2 := by rw [IntKind.wrap_u64]; omega
      generalize prs k = L at *
      go_wp2_with fail
      go_loop [15] (fun j => ∃ m : Nat, m ≤ L.length ∧ j = .int .i64 m ∧ ∀ i (h : i < L.length), i < m → (k + 2) % L[i] ≠ 0) (fun j => L.length - (intOf j).toNat)
      case atStart => exact ⟨0, by omega, rfl, fun i _ h => by omega⟩
      case round =>
        obtain ⟨m, hmL, rfl, hno⟩ := hrel
        have HNo := Lib.hid hno
        clear hno
        by_cases hmlt : m < L.length
        · obtain ⟨b, o, rfl, hc⟩ := HR.out.at (k := m) (by rw [u64s_len]; exact hmlt)
          have hcell := hc m (by rw [u64s_len]; exact hmlt)
          have hval : (u64s L)[m]'(by rw [u64s_len]; exact hmlt) = .int .u64 (L[m] : Int) := by simp [u64s]
          rw [hval] at hcell
          have hge := HG.out L[m] (List.getElem_mem hmlt)
          have HN1 : Hid ((k + 2) % L[m] ≠ 0 → ∀ i (h : i < L.length), i < m + 1 → (k + 2) % L[i] ≠ 0) := fun h0 i hi him => by
            by_cases e : i = m
            · subst e; exact h0
            · exact HNo.out i hi (by omega)
          have HN2 : Hid ((k + 2) % L[m] = 0 → L.all (fun q => (k + 2) % q != 0) = false) := fun h0 => by
            rw [List.all_eq_false]
            exact ⟨L[m], List.getElem_mem hmlt, by simp [h0]⟩
          clear hc hval
          generalize L[m] = y at *
          have hmod : ((k : Int) + 2) % (y : Int) = (((k + 2) % y : Nat) : Int) := by rw [Int.natCast_emod, Int.natCast_add]; rfl
          by_cases h0 : (k + 2) % y = 0
          · have d2 : ((((k : Int) + 2) % (y : Int)) == 0) = true := by rw [hmod, h0]; rfl
            have HE := Lib.hid (HN2.out h0)
            clear h0 hmod
            go_wp2_with fail
            refine ⟨⟨k + 1, by omega, by go_num, ?_, hbel⟩, by simp [intOf]; omega⟩
            rw [hS.out, if_neg (by rw [HE.out]; simp)]
            exact HO.out
          · have d2 : ((((k : Int) + 2) % (y : Int)) == 0) = false := by rw [hmod, beq_eq_false_iff_ne]; omega
            have HE := Lib.hid (HN1.out h0)
            clear h0 hmod
            go_wp2_with fail
            exact ⟨⟨m + 1, by omega, by go_num, HE.out⟩, by simp [intOf]; omega⟩
        · obtain rfl : m = L.length := by omega
          have hE : L.all (fun q => (k + 2) % q != 0) = true := by
            rw [List.all_eq_true]
            intro x hx
            obtain ⟨i, hi, rfl⟩ := List.getElem_of_mem hx
            simpa using HNo.out i hi hi
          have HE := Lib.hid hE
          clear hE
          have hone : ∀ u ∈ [Value.int .u64 ((k : Int) + 2)], u.oneCell' = true := int_one _ _
          go_wp2_with ((with_reducible refine L_appR slU Try.underlying71 (HO.out.alloc _) (Rd.one _ _ _) hone rfl ?_ ?_ ?_ ?_ ?_); (focus rfl); (focus rfl); (focus exact ⟨_, rfl⟩); (focus exact ⟨room1 (by omega), by omega, by simp; exact Nat.le_succ_of_le hbel.size⟩); intro v4 w4 ho4 ha4 hk4 hn4; clear hn4; have HO4 := Lib.hid ho4; have HA4 := Lib.hid ha4; clear ho4 ha4; simp only [Act.put, List.setIfInBounds_toArray, List.set_cons_zero, List.set_cons_succ])
          refine ⟨⟨k + 1, by omega, by go_num, ?_, ?_⟩, by simp [intOf]; omega⟩
          · rw [hS.out, if_pos HE.out, List.length_append]
            have h := HO4.out
            simpa [u64s] using h
          · exact HA4.out.below (hbel.alloc hbel.size _) (by simp; exact Nat.le_succ_of_le hbel.size) hk4
    · have d1 : decide (((prs k).length : Int) < 64) = false := by simp; omega
      obtain rfl := prs_full hk hlt
      have hl : (prs 310).length = 64 := prs_64
      have HP := Lib.hid prs_all
      rw [hl] at d1 ⊢
      clear hlt hfew hm
      go_wp2_with fail
      rw [Exit.noGoto_ret]
      go_ret
      exact ⟨q, cap, rfl, by have h := HR.out; rwa [HP.out] at h, fun a ha => (HO.out.lt a.block (by rw [ha]; rfl)).1, hbel⟩

theorem above_any (r n k : Nat) (w : World) (hk : k = 2 ∨ k = 3) (hr : r ≤ 68719476736) (hn : n < 4294967296) :
    Calls Try.prog 46 #[.int .u64 (r : Int), .int .u64 (n : Int), .int .i64 (k : Int)] w fun e w' => e = .returned (.bool (above r n k)) ∧ w = w' := by
  rcases hk with rfl | rfl
  · exact above2_any r n w hr hn
  · exact above3_any r n w hr hn
def PartRel (n k : Nat) (lo hi : Value) : Prop :=
  ∃ f a b : Nat, lo = .int .u64 (a : Int) ∧ hi = .int .u64 (b : Int) ∧ a < b ∧ b ≤ 68719476736 ∧ b - a ≤ 2 ^ f ∧ bs n k f a b = bs n k 36 0 68719476736
theorem PartRel.step {n k f a b : Nat} (hab : a < b) (hb : b ≤ 68719476736) (hf : b - a ≤ 2 ^ f) (hlt : a + 1 < b) (he : bs n k f a b = bs n k 36 0 68719476736) :
    (above ((a + b) / 2) n k = true → PartRel n k (.int .u64 (a : Int)) (.int .u64 (((a + b) / 2 : Nat) : Int))) ∧ (above ((a + b) / 2) n k = false → PartRel n k (.int .u64 (((a + b) / 2 : Nat) : Int)) (.int .u64 (b : Int))) := by
  cases f with
  | zero => rw [Nat.pow_zero] at hf; omega
  | succ f =>
    rw [Nat.pow_succ] at hf
    rw [bs, if_pos hlt] at he
    constructor
    · intro h
      rw [if_pos h] at he
      exact ⟨f, a, _, rfl, rfl, by omega, by omega, by omega, he⟩
    · intro h
      rw [if_neg (by rw [h]; simp)] at he
      exact ⟨f, _, b, rfl, rfl, by omega, by omega, by omega, he⟩

set_option maxRecDepth 20000 in
set_option maxHeartbeats 1000000 in
theorem part_any (n k : Nat) (w : World) (hk : k = 2 ∨ k = 3) (hn : n < 4294967296) :
    Calls Try.prog 41 #[.int .u64 (n : Int), .int .i64 (k : Int)] w fun e w' => e = .returned (.int .u32 ((Sha.part n k).toNat : Int)) ∧ w = w' := by
  have HK := Lib.hid hk
  clear hk
  have hk63 : k ≤ 3 := by have := HK.out; omega
  go_enter Try.func41, Try.ntmps41
  go_wp2_with fail
  go_loop [5, 6] (fun lo hi => PartRel n k lo hi) (fun lo hi => (intOf hi).toNat - (intOf lo).toNat)
  case atStart =>
    refine ⟨36, 0, 68719476736, rfl, rfl, by omega, by omega, ?_, rfl⟩
    have : 2 ^ 36 = 68719476736 := by decide
    omega
  case round =>
    obtain ⟨f, a, b, rfl, rfl, hab, hb, hf, he⟩ := hrel
    by_cases hlt : a + 1 < b
    · have hst := PartRel.step hab hb hf hlt he
      have HS := Lib.hid hst
      clear hst he hf
      have hmid : ((a : Int) + (b : Int)) / 2 = (((a + b) / 2 : Nat) : Int) := by omega
      have hm1 : a < (a + b) / 2 := by omega
      have hm2 : (a + b) / 2 < b := by omega
      have d1 : decide ((a : Int) + 1 < (b : Int)) = true := by simp; omega
      generalize hm : (a + b) / 2 = m at *
      clear hm
      go_wp2_with fail
      go_fit (above_any m n k w HK.out (by omega) hn)
      rintro e w1 ⟨rfl, rfl⟩
      generalize above m n k = c at HS ⊢
      cases c
      · have H1 := Lib.hid (HS.out.2 rfl)
        clear HS
        go_wp2_with fail
        exact ⟨H1.out, by simp [intOf]; omega⟩
      · have H1 := Lib.hid (HS.out.1 rfl)
        clear HS
        go_wp2_with fail
        exact ⟨H1.out, by simp [intOf]; omega⟩
    · have d1 : decide ((a : Int) + 1 < (b : Int)) = false := by simp; omega
      rw [bs_end n k f a b hlt] at he
      have HE := Lib.hid he
      clear he hf
      go_wp2_with fail
      go_ret
      refine ⟨?_, rfl⟩
      show Ending.returned (.int .u32 _) = Ending.returned (.int .u32 ((BitVec.ofNat 32 (bs n k 36 0 68719476736)).toNat : Int))
      rw [← HE.out, BitVec.toNat_ofNat]
      exact congrArg (fun x => Ending.returned (.int .u32 x)) (by omega)

/-- m words, of which the first k are l's -/
def wordsTo (l : List W) (m k : Nat) : Array Value := ((List.range m).map fun i => if i < k then Value.int .u32 ((at_ l i).toNat : Int) else .int .u32 0).toArray
theorem wordsTo_size (l : List W) (m k : Nat) : (wordsTo l m k).size = m := by simp [wordsTo]
theorem wordsTo_get (l : List W) (m k i : Nat) (h : i < m) : (wordsTo l m k)[i]? = some (if i < k then Value.int .u32 ((at_ l i).toNat : Int) else .int .u32 0) := by simp [wordsTo, h]
theorem wordsTo_set (l : List W) (m k : Nat) (h : k < m) : (wordsTo l m k).setIfInBounds k (Value.int .u32 ((at_ l k).toNat : Int)) = wordsTo l m (k + 1) := by
  apply Array.ext_getElem?
  intro i
  by_cases hi : i < m
  · rw [wordsTo_get _ _ _ _ hi]
    by_cases e : k = i
    · subst e; simp [wordsTo_size, h]
    · rw [Array.getElem?_setIfInBounds_ne e, wordsTo_get _ _ _ _ hi]
      by_cases h3 : i < k
      · simp [h3, show i < k + 1 by omega]
      · simp [h3, show ¬ i < k + 1 by omega]
  · rw [Array.getElem?_eq_none (by simp [wordsTo_size]; omega), Array.getElem?_eq_none (by simp [wordsTo_size]; omega)]
theorem wordsTo_one (l : List W) (m k : Nat) : (wordsTo l m k).all (·.oneCell') = true := by
  rw [Array.all_eq_true_iff_forall_mem]
  intro x hx
  simp only [wordsTo, List.mem_toArray, List.mem_map] at hx
  obtain ⟨i, _, rfl⟩ := hx
  split <;> rfl
theorem zeros_words (l : List W) (m : Nat) : Array.replicate m (Value.int .u32 0) = wordsTo l m 0 := by
  apply Array.ext
  · simp [wordsTo]
  · intro i h1 h2; simp [wordsTo]
theorem zero64 : (Try.prog.info? 62).map (fun i => (i.zero, i.size)) = some (some (.agg (Array.replicate 64 (.int .u32 0))), 64) := by kernel_rfl
theorem zero8 : (Try.prog.info? 63).map (fun i => (i.zero, i.size)) = some (some (.agg (Array.replicate 8 (.int .u32 0))), 8) := by kernel_rfl
theorem part3_K (i : Nat) (h : i < 64) : Sha.part (PR.getD i 0) 3 = at_ K i := by
  have h1 := parts3
  have hl : PR.length = 64 := rfl
  rw [← h1]
  simp [at_, List.getD, hl, h]
theorem part2_H (i : Nat) (h : i < 8) : Sha.part (PR.getD i 0) 2 = at_ h0.list i := by
  have h1 := parts2
  have hl : PR.length = 64 := rfl
  rw [← h1]
  simp [at_, List.getD, hl, h, show i < 64 by omega, List.getElem?_take]
theorem PR_lt (i : Nat) : PR.getD i 0 < 4294967296 := by
  rcases Nat.lt_or_ge i 64 with h | h
  · have : ∀ x ∈ PR, x < 4294967296 := by decide
    have hl : PR.length = 64 := rfl
    rw [List.getD_eq_getElem?_getD, List.getElem?_eq_getElem (by omega)]
    exact this _ (List.getElem_mem _)
  · rw [List.getD_eq_getElem?_getD, List.getElem?_eq_none (by show 64 ≤ i; exact h)]; exact (by decide : 0 < 4294967296)
theorem alloc_get (w : World) (o : Obj) (k : Nat) : (w.alloc o).heap[k]? = if k = w.heap.size then some o else w.heap[k]? := by
  by_cases h : k = w.heap.size
  · subst h; rw [if_pos rfl]; exact heap_alloc_new w o
  · rw [if_neg h]
    by_cases h2 : k < w.heap.size
    · exact heap_alloc_old w o h2
    · rw [Array.getElem?_eq_none (by simp; omega), Array.getElem?_eq_none (by omega)]
theorem alloc_sz (w : World) (o : Obj) : (w.alloc o).heap.size = w.heap.size + 1 := by simp
theorem results_two_rows {P : Program} {fn : Func} {p q : Tmp} {ty ty' : TypeId} (h : fn.results = #[.cell p ty, .cell q ty']) (tmps : Array Value) (w : World) (g g' : Nat) (cs cs' : Array Value) (t t' : TypeId) (d d' : TypeDesc)
    (hp : tmps.getD p undef = .pointer (some ⟨g, 0, none⟩)) (hq : tmps.getD q undef = .pointer (some ⟨g', 0, none⟩)) (hg : w.heap[g]? = some (.cells cs t (0, 0))) (hg' : w.heap[g']? = some (.cells cs' t' (0, 0)))
    (hu : P.underlying ty = some d) (hd : (match d with | .struct _ | .array _ _ => true | _ => false) = true) (hu' : P.underlying ty' = some d') (hd' : (match d' with | .struct _ | .array _ _ => true | _ => false) = true)
    (hi : (P.info? ty).map (·.size) = some cs.size) (hi' : (P.info? ty').map (·.size) = some cs'.size) :
    (results fn tmps).run P w = .ok (.tuple #[.agg cs, .agg cs']) w := by
  have hp' : tmps[p]?.getD undef = .pointer (some ⟨g, 0, none⟩) := by simpa using hp
  have hq' : tmps[q]?.getD undef = .pointer (some ⟨g', 0, none⟩) := by simpa using hq
  simp [results, h, hp', hq', asAddr, run_loadVar_row w g t ty cs (0, 0) d hg hu hd hi, run_loadVar_row w g' t' ty' cs' (0, 0) d' hg' hu' hd' hi']
/-- where the constants' loop stands -/
def ConstRel (w : World) (p : Option Addr) (i : Value) (wr : World) : Prop :=
  ∃ k : Nat, k ≤ 64 ∧ i = .int .i64 k ∧ wr.heap[w.heap.size]? = some (.cells (wordsTo K 64 0) 62 (0, 0)) ∧ wr.heap[w.heap.size + 1]? = some (.cells (wordsTo h0.list 8 0) 63 (0, 0)) ∧
    wr.heap[w.heap.size + 2]? = some (.cells (wordsTo K 64 k) 62 (0, 0)) ∧ wr.heap[w.heap.size + 3]? = some (.cells (wordsTo h0.list 8 (min k 8)) 63 (0, 0)) ∧ Rd wr p (u64s PR) ∧ Below w.heap.size w wr

set_option maxRecDepth 100000 in
set_option maxHeartbeats 2000000 in
theorem constants_any (w : World) :
    Calls Try.prog 35 #[] w fun e w' => e = .returned (.tuple #[.agg (wordsTo K 64 64), .agg (wordsTo h0.list 8 8)]) ∧ Below w.heap.size w w' := by
  obtain ⟨hz, hsz⟩ := zero_of_info zero64
  obtain ⟨hz8, hsz8⟩ := zero_of_info zero8
  go_enter Try.func35, Try.ntmps35
  go_wp2_with fail
  rw [zeros_words K 64, zeros_words h0.list 8]
  obtain ⟨w4, hw4⟩ : ∃ v, v = (((w.alloc (.cells (wordsTo K 64 0) 62)).alloc (.cells (wordsTo h0.list 8 0) 63)).alloc (.cells (wordsTo K 64 0) 62)).alloc (.cells (wordsTo h0.list 8 0) 63) := ⟨_, rfl⟩
  have q0 : w4.heap[w.heap.size]? = some (.cells (wordsTo K 64 0) 62 (0, 0)) := by subst hw4; simp only [alloc_get, alloc_sz]; repeat (first | rw [if_pos trivial] | rw [if_pos (by omega)] | rw [if_neg (by omega)])
  have q1 : w4.heap[w.heap.size + 1]? = some (.cells (wordsTo h0.list 8 0) 63 (0, 0)) := by subst hw4; simp only [alloc_get, alloc_sz]; repeat (first | rw [if_pos trivial] | rw [if_pos (by omega)] | rw [if_neg (by omega)])
  have q2 : w4.heap[w.heap.size + 2]? = some (.cells (wordsTo K 64 0) 62 (0, 0)) := by subst hw4; simp only [alloc_get, alloc_sz]; repeat (first | rw [if_pos trivial] | rw [if_pos (by omega)] | rw [if_neg (by omega)])
  have q3 : w4.heap[w.heap.size + 3]? = some (.cells (wordsTo h0.list 8 0) 63 (0, 0)) := by subst hw4; simp only [alloc_get, alloc_sz]; repeat (first | rw [if_pos trivial] | rw [if_pos (by omega)] | rw [if_neg (by omega)])
  have qs : w4.heap.size = w.heap.size + 4 := by subst hw4; simp
  have qb : Below w.heap.size w w4 := by subst hw4; exact ((((Below.refl _ _).alloc (Nat.le_refl _) _).alloc (by simp) _).alloc (by simp; omega) _).alloc (by simp; omega) _
  rw [← hw4]
  have Q0 := Lib.hid q0
  have Q1 := Lib.hid q1
  have Q2 := Lib.hid q2
  have Q3 := Lib.hid q3
  have QS := Lib.hid qs
  clear q0 q1 q2 q3 qs hw4 hz hz8
  go_fit (primes_any w4)
  rintro e w1 ⟨p, c, rfl, hr, hpb0, hb1⟩
  have hpb : ∀ a, p = some a → w.heap.size + 4 ≤ a.block := fun a ha => by have := hpb0 a ha; rw [QS.out] at this; exact this
  have R0 : ConstRel w p (.int .i64 0) w1 := ⟨0, by omega, rfl, by rw [hb1.block _ (by rw [QS.out]; omega)]; exact Q0.out, by rw [hb1.block _ (by rw [QS.out]; omega)]; exact Q1.out, by rw [hb1.block _ (by rw [QS.out]; omega)]; exact Q2.out, by rw [hb1.block _ (by rw [QS.out]; omega)]; exact Q3.out, hr, qb.trans (hb1.mono qb.size)⟩
  have HR0 := Lib.hid R0
  clear R0 Q0 Q1 Q2 Q3 QS hr hb1 qb hpb0
  have HPB := Lib.hid hpb
  clear hpb
  go_upto_block 0 with (fail)
  go_cut [] (fun wc => ConstRel w p (.int .i64 64) wc)
  case first =>
    go_wp2_with fail
    go_loopw [8] (fun i wr => ConstRel w p i wr) (fun i _ => 64 - (intOf i).toNat)
    case atStart => exact HR0.out
    case round =>
      obtain ⟨k, hk, rfl, q0, q1, q2, q3, hr, hbel⟩ := hrel
      have Q0 := Lib.hid q0
      have Q1 := Lib.hid q1
      have Q2 := Lib.hid q2
      have Q3 := Lib.hid q3
      have HR := Lib.hid hr
      clear q0 q1 q2 q3 hr
      by_cases hlt : k < 64
      · have hl : (u64s PR).length = 64 := rfl
        obtain ⟨b, o, rfl, hc⟩ := HR.out.at (k := k) (by rw [hl]; exact hlt)
        have hcell := hc k (by rw [hl]; exact hlt)
        have hval : (u64s PR)[k]'(by rw [hl]; exact hlt) = .int .u64 ((PR.getD k 0 : Nat) : Int) := by
          have hl' : k < PR.length := hlt
          simp [u64s, List.getD, hl']
        rw [hval] at hcell
        have hp3 := part3_K k hlt
        have hp2 := part2_H k
        have hlp := PR_lt k
        have hg : (PR.getD k 0) = PR.getD k 0 := rfl
        have hc2 : wr.cell? ⟨w.heap.size + 2, k, none⟩ = some (.int .u32 0) := by rw [cell_of_row _ _ _ _ _ _ Q2.out, wordsTo_get _ _ _ _ hlt]; simp
        have hf2 : wr.frozen? ⟨w.heap.size + 2, k, none⟩ = false := frozen_of_row _ _ _ _ _ Q2.out
        have hf3 : wr.frozen? ⟨w.heap.size + 3, k, none⟩ = false := frozen_of_row _ _ _ _ _ Q3.out
        have HP3 := Lib.hid hp3
        have HP2 := Lib.hid hp2
        clear hl hc hval hp3 hp2 hg
        generalize PR.getD k 0 = y at *
        have S3 : Hid (∀ u, Calls Try.prog 41 #[.int .u64 (y : Int), .int .i64 3] u fun e w' => e = .returned (.int .u32 ((at_ K k).toNat : Int)) ∧ u = w') := fun u => by
          have h := part_any y 3 u (.inr rfl) hlp
          rw [HP3.out] at h; exact h
        by_cases hk8 : k < 8
        · have hc3 : wr.cell? ⟨w.heap.size + 3, k, none⟩ = some (.int .u32 0) := by rw [cell_of_row _ _ _ _ _ _ Q3.out, wordsTo_get _ _ _ _ hk8]; simp; omega
          have S2 : Hid (∀ u, Calls Try.prog 41 #[.int .u64 (y : Int), .int .i64 2] u fun e w' => e = .returned (.int .u32 ((at_ h0.list k).toNat : Int)) ∧ u = w') := fun u => by
            have h := part_any y 2 u (.inl rfl) hlp
            rw [HP2.out hk8] at h; exact h
          have hm1 : min k 8 = k := by omega
          have hm2 : min (k + 1) 8 = k + 1 := by omega
          have Q3' : Hid (wr.heap[w.heap.size + 3]? = some (.cells (wordsTo h0.list 8 k) 63 (0, 0))) := by have h := Q3.out; rw [hm1] at h; exact Lib.hid h
          have HM2 := Lib.hid hm2
          clear hm1 hm2 HP2 HP3
          go_wp2_with fail
          refine (S3.out _).mono ?_
          rintro e w5 ⟨rfl, rfl⟩
          go_wp2_with fail
          refine (S2.out _).mono ?_
          rintro e w5 ⟨rfl, rfl⟩
          go_wp2_with fail
          refine ⟨⟨k + 1, by omega, by go_num, ?_, ?_, ?_, ?_, ?_, ?_⟩, by simp [intOf]; omega⟩
          · rw [heap_setCell_other _ _ _ _ (by simp <;> omega), heap_setCell_other _ _ _ _ (by simp <;> omega)]; exact Q0.out
          · rw [heap_setCell_other _ _ _ _ (by simp <;> omega), heap_setCell_other _ _ _ _ (by simp <;> omega)]; exact Q1.out
          · rw [heap_setCell_other _ _ _ _ (by simp <;> omega), heap_setCell_same _ _ _ _ _ _ Q2.out, wordsTo_set _ _ _ hlt]
          · rw [HM2.out, heap_setCell_same _ _ _ _ _ _ (by rw [heap_setCell_other _ _ _ _ (by simp <;> omega)]; exact Q3'.out), wordsTo_set _ _ _ hk8]
          · exact (HR.out.set _ _ (fun b' hb' => by have := HPB.out b' hb'; simp; omega)).set _ _ (fun b' hb' => by have := HPB.out b' hb'; simp; omega)
          · exact (hbel.setCell (by simp <;> omega) _).setCell (by simp <;> omega) _
        · have hm2 : min (k + 1) 8 = min k 8 := by omega
          have HM2 := Lib.hid hm2
          clear hm2 HP2 HP3
          go_wp2_with fail
          refine (S3.out _).mono ?_
          rintro e w5 ⟨rfl, rfl⟩
          go_wp2_with fail
          refine ⟨⟨k + 1, by omega, by go_num, ?_, ?_, ?_, ?_, ?_, ?_⟩, by simp [intOf]; omega⟩
          · rw [heap_setCell_other _ _ _ _ (by simp <;> omega)]; exact Q0.out
          · rw [heap_setCell_other _ _ _ _ (by simp <;> omega)]; exact Q1.out
          · rw [heap_setCell_same _ _ _ _ _ _ Q2.out, wordsTo_set _ _ _ hlt]
          · rw [HM2.out, heap_setCell_other _ _ _ _ (by simp <;> omega)]; exact Q3.out
          · exact HR.out.set _ _ (fun b' hb' => by have := HPB.out b' hb'; simp; omega)
          · exact hbel.setCell (by simp <;> omega) _
      · obtain rfl : k = 64 := by omega
        go_wp2_with fail
        go_meet
        exact ⟨64, by omega, rfl, Q0.out, Q1.out, Q2.out, Q3.out, HR.out, hbel⟩
  case rest =>
    obtain ⟨k, hk, hki, q0, q1, q2, q3, hr, hbel⟩ := hcut
    obtain rfl : k = 64 := by simp only [Value.int.injEq, true_and] at hki; omega
    have Q0 := Lib.hid q0
    have Q1 := Lib.hid q1
    have Q2 := Lib.hid q2
    have Q3 : Hid (wc.heap[w.heap.size + 3]? = some (.cells (wordsTo h0.list 8 8) 63 (0, 0))) := q3
    clear q0 q1 q2 q3 hr hki hk
    have hi : (Try.prog.info? 62).map (·.size) = some 64 := hsz
    have hi8 : (Try.prog.info? 63).map (·.size) = some 8 := hsz8
    have hu := Try.underlying62
    have hu8 := Try.underlying63
    go_wp2_with fail
    refine wp_region_any (by kernel_rfl) ?_
    have E64 : Hid ((Try.prog.info? 62).map (·.size) = some (wordsTo K 64 64).size) := by rw [wordsTo_size]; exact Lib.hid hi
    have E8 : Hid ((Try.prog.info? 63).map (·.size) = some (wordsTo h0.list 8 8).size) := by rw [wordsTo_size]; exact Lib.hid hi8
    clear hi hi8 hsz hsz8
    have n01 : w.heap.size ≠ w.heap.size + 1 := by omega
    refine wpAny_ready (rs := [0, 1]) (by kernel_rfl) (by simp) ?_
    refine AllReady.cons rfl (fun K hK => ?_) ?_
    · refine if_run rfl ?_
      refine wp_load_row 62 (.tmp 2) rfl (w.heap.size + 2) rfl 62 (wordsTo Sha.K 64 64) (0, 0) _ ?_ hu rfl E64.out ?_
      · exact Q2.out
      · change K (Act.put _ (some 24) _) _
        refine hK _ _ ?_
        clear hK K
        refine wpAny_ready (rs := [1, 2]) (by kernel_rfl) (by simp) ?_
        refine AllReady.cons rfl (fun K hK => ?_) ?_
        · refine if_run rfl ?_
          refine wp_load_row 63 (.tmp 3) rfl (w.heap.size + 3) rfl 63 (wordsTo h0.list 8 8) (0, 0) _ ?_ hu8 rfl E8.out ?_
          · exact Q3.out
          · change K (Act.put _ (some 25) _) _
            refine hK _ _ ?_
            clear hK K
            refine wpAny_ready (rs := [2]) (by kernel_rfl) (by simp) ?_
            refine AllReady.cons rfl (fun K hK => ?_) ?_
            · refine if_run rfl ?_
              refine wp_store_row 62 (.tmp 0) (.tmp 24) rfl w.heap.size (wordsTo Sha.K 64 64) rfl rfl 62 (wordsTo Sha.K 64 0) ?_ E64.out (by rw [wordsTo_size, wordsTo_size]) (wordsTo_one _ _ _) ?_
              · exact Q0.out
              · change K (Act.put _ (none) _) _
                refine hK _ _ ?_
                clear hK K
                refine wpAny_ready (rs := [3]) (by kernel_rfl) (by simp) ?_
                refine AllReady.cons rfl (fun K hK => ?_) ?_
                · refine if_run rfl ?_
                  refine wp_store_row 63 (.tmp 1) (.tmp 25) rfl (w.heap.size + 1) (wordsTo h0.list 8 8) rfl rfl 63 (wordsTo h0.list 8 0) ?_ E8.out (by rw [wordsTo_size, wordsTo_size]) (wordsTo_one _ _ _) ?_
                  · rw [setRow_other _ _ _ _ (by omega)]; exact Q1.out
                  · change K (Act.put _ (none) _) _
                    refine hK _ _ ?_
                    clear hK K
                    refine wpAny_done (by kernel_rfl) ?_ _
                    simp only [Act.put, List.setIfInBounds_toArray, List.set_cons_zero, List.set_cons_succ]
                    go_wp2_with fail
                    refine bodyPost_ret (results_two_rows (P := Try.prog) rfl _ _ w.heap.size (w.heap.size + 1) (wordsTo Sha.K 64 64) (wordsTo h0.list 8 8) 62 63 _ _ rfl rfl (by rw [setRow_other _ _ _ _ (by omega)]; exact setRow_heap _ _ _ _ _ _ Q0.out) (setRow_heap _ _ _ _ _ _ (by rw [setRow_other _ _ _ _ (by omega)]; exact Q1.out)) hu rfl hu8 rfl E64.out E8.out) rfl ⟨rfl, ?_⟩
                    exact hbel.trans ⟨rfl, rfl, rfl, by simp, fun k hk => by rw [setRow_other _ _ _ _ (by omega), setRow_other _ _ _ _ (by omega)]⟩
                exact AllReady.nil
            exact AllReady.nil
        refine AllReady.cons rfl (fun K hK => ?_) ?_
        · refine if_run rfl ?_
          refine wp_store_row 62 (.tmp 0) (.tmp 24) rfl w.heap.size (wordsTo Sha.K 64 64) rfl rfl 62 (wordsTo Sha.K 64 0) ?_ E64.out (by rw [wordsTo_size, wordsTo_size]) (wordsTo_one _ _ _) ?_
          · exact Q0.out
          · change K (Act.put _ (none) _) _
            refine hK _ _ ?_
            clear hK K
            refine wpAny_ready (rs := [1]) (by kernel_rfl) (by simp) ?_
            refine AllReady.cons rfl (fun K hK => ?_) ?_
            · refine if_run rfl ?_
              refine wp_load_row 63 (.tmp 3) rfl (w.heap.size + 3) rfl 63 (wordsTo h0.list 8 8) (0, 0) _ ?_ hu8 rfl E8.out ?_
              · rw [setRow_other _ _ _ _ (by omega)]; exact Q3.out
              · change K (Act.put _ (some 25) _) _
                refine hK _ _ ?_
                clear hK K
                refine wpAny_ready (rs := [3]) (by kernel_rfl) (by simp) ?_
                refine AllReady.cons rfl (fun K hK => ?_) ?_
                · refine if_run rfl ?_
                  refine wp_store_row 63 (.tmp 1) (.tmp 25) rfl (w.heap.size + 1) (wordsTo h0.list 8 8) rfl rfl 63 (wordsTo h0.list 8 0) ?_ E8.out (by rw [wordsTo_size, wordsTo_size]) (wordsTo_one _ _ _) ?_
                  · rw [setRow_other _ _ _ _ (by omega)]; exact Q1.out
                  · change K (Act.put _ (none) _) _
                    refine hK _ _ ?_
                    clear hK K
                    refine wpAny_done (by kernel_rfl) ?_ _
                    simp only [Act.put, List.setIfInBounds_toArray, List.set_cons_zero, List.set_cons_succ]
                    go_wp2_with fail
                    refine bodyPost_ret (results_two_rows (P := Try.prog) rfl _ _ w.heap.size (w.heap.size + 1) (wordsTo Sha.K 64 64) (wordsTo h0.list 8 8) 62 63 _ _ rfl rfl (by rw [setRow_other _ _ _ _ (by omega)]; exact setRow_heap _ _ _ _ _ _ Q0.out) (setRow_heap _ _ _ _ _ _ (by rw [setRow_other _ _ _ _ (by omega)]; exact Q1.out)) hu rfl hu8 rfl E64.out E8.out) rfl ⟨rfl, ?_⟩
                    exact hbel.trans ⟨rfl, rfl, rfl, by simp, fun k hk => by rw [setRow_other _ _ _ _ (by omega), setRow_other _ _ _ _ (by omega)]⟩
                exact AllReady.nil
            exact AllReady.nil
        exact AllReady.nil
    refine AllReady.cons rfl (fun K hK => ?_) ?_
    · refine if_run rfl ?_
      refine wp_load_row 63 (.tmp 3) rfl (w.heap.size + 3) rfl 63 (wordsTo h0.list 8 8) (0, 0) _ ?_ hu8 rfl E8.out ?_
      · exact Q3.out
      · change K (Act.put _ (some 25) _) _
        refine hK _ _ ?_
        clear hK K
        refine wpAny_ready (rs := [0]) (by kernel_rfl) (by simp) ?_
        refine AllReady.cons rfl (fun K hK => ?_) ?_
        · refine if_run rfl ?_
          refine wp_load_row 62 (.tmp 2) rfl (w.heap.size + 2) rfl 62 (wordsTo Sha.K 64 64) (0, 0) _ ?_ hu rfl E64.out ?_
          · exact Q2.out
          · change K (Act.put _ (some 24) _) _
            refine hK _ _ ?_
            clear hK K
            refine wpAny_ready (rs := [2]) (by kernel_rfl) (by simp) ?_
            refine AllReady.cons rfl (fun K hK => ?_) ?_
            · refine if_run rfl ?_
              refine wp_store_row 62 (.tmp 0) (.tmp 24) rfl w.heap.size (wordsTo Sha.K 64 64) rfl rfl 62 (wordsTo Sha.K 64 0) ?_ E64.out (by rw [wordsTo_size, wordsTo_size]) (wordsTo_one _ _ _) ?_
              · exact Q0.out
              · change K (Act.put _ (none) _) _
                refine hK _ _ ?_
                clear hK K
                refine wpAny_ready (rs := [3]) (by kernel_rfl) (by simp) ?_
                refine AllReady.cons rfl (fun K hK => ?_) ?_
                · refine if_run rfl ?_
                  refine wp_store_row 63 (.tmp 1) (.tmp 25) rfl (w.heap.size + 1) (wordsTo h0.list 8 8) rfl rfl 63 (wordsTo h0.list 8 0) ?_ E8.out (by rw [wordsTo_size, wordsTo_size]) (wordsTo_one _ _ _) ?_
                  · rw [setRow_other _ _ _ _ (by omega)]; exact Q1.out
                  · change K (Act.put _ (none) _) _
                    refine hK _ _ ?_
                    clear hK K
                    refine wpAny_done (by kernel_rfl) ?_ _
                    simp only [Act.put, List.setIfInBounds_toArray, List.set_cons_zero, List.set_cons_succ]
                    go_wp2_with fail
                    refine bodyPost_ret (results_two_rows (P := Try.prog) rfl _ _ w.heap.size (w.heap.size + 1) (wordsTo Sha.K 64 64) (wordsTo h0.list 8 8) 62 63 _ _ rfl rfl (by rw [setRow_other _ _ _ _ (by omega)]; exact setRow_heap _ _ _ _ _ _ Q0.out) (setRow_heap _ _ _ _ _ _ (by rw [setRow_other _ _ _ _ (by omega)]; exact Q1.out)) hu rfl hu8 rfl E64.out E8.out) rfl ⟨rfl, ?_⟩
                    exact hbel.trans ⟨rfl, rfl, rfl, by simp, fun k hk => by rw [setRow_other _ _ _ _ (by omega), setRow_other _ _ _ _ (by omega)]⟩
                exact AllReady.nil
            exact AllReady.nil
        exact AllReady.nil
    exact AllReady.nil
end Go.Proofs.YtfeefpaclaonfaaR
