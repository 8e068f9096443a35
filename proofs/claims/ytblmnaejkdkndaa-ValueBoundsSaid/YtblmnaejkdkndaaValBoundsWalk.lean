/- The walk over ValueBounds. -/
import Derived.Test.YtblmnaejkdkndaaValTold
import Derived.Test.YtblmnaejkdkndaaValMay
import Derived.Deep.RegionLaw
import Derived.Lib.MinMax
set_option linter.unusedSimpArgs false
set_option linter.unusedVariables false
namespace Go.Proofs.Ytblmnaejkdkndaa
open Go.RowKit Wire

/-- so many bytes that are 0 -/
def zer (n : Nat) : List UInt8 := List.replicate n 0
theorem zer_len (n : Nat) : (zer n).length = n := List.length_replicate
theorem run_make_strings (u : World) (k : Nat) (hk : k ≤ 4194304) : (Instr.makeSlice 24 (.int .i64 (k : Int)) (.int .i64 (k : Int))).run Try.prog u =
    .ok (.slice (some ⟨u.heap.size, 0, none⟩) k k) (u.alloc (.cells (sts (List.replicate k [])).toArray 9)) := by
  have hi' : (Try.prog.info? 9).map (fun i => (i.zero, i.size, i.bytes)) = some (some (.string .empty), 1, 16) := by kernel_rfl
  obtain ⟨i0, hi0, hz0, hs0, hb0⟩ := info_parts hi'
  have h := run_make (P := Try.prog) u 24 9 i0 (.string .empty) Try.underlying24 hi0 hz0 .i64 .i64 (k : Int) (k : Int) (by omega) (Int.le_refl _) (by rw [hb0]; omega) (by omega)
  rw [h]
  simp only [Int.toNat_natCast, hs0, Nat.mul_one]
  have e : madeCells (Value.string .empty).cells k = (sts (List.replicate k [])).toArray := by
    show madeCells #[_] k = _
    rw [madeCells_one]
    have he : (ByteArray.empty : ByteArray) = str [] := by decide
    simp [sts, he]
  rw [e]
theorem five_rows (w : World) (a b c d e : Obj) : let w1 := ((((w.alloc a).alloc b).alloc c).alloc d).alloc e
    w1.heap[w.heap.size + 1]? = some b ∧ w1.heap[w.heap.size + 1 + 1]? = some c ∧ w1.heap[w.heap.size + 1 + 1 + 1]? = some d ∧ w1.heap[w.heap.size + 1 + 1 + 1 + 1]? = some e := by
  show (((((w.heap.push a).push b).push c).push d).push e)[w.heap.size + 1]? = _ ∧ (((((w.heap.push a).push b).push c).push d).push e)[w.heap.size + 1 + 1]? = _ ∧ (((((w.heap.push a).push b).push c).push d).push e)[w.heap.size + 1 + 1 + 1]? = _ ∧ (((((w.heap.push a).push b).push c).push d).push e)[w.heap.size + 1 + 1 + 1 + 1]? = _
  refine ⟨?_, ?_, ?_, ?_⟩ <;> simp only [Array.getElem?_push, Array.size_push] <;> (repeat (first | rw [if_pos trivial] | rw [if_pos (by omega)] | rw [if_neg (by omega)]))
/-- append in a region that draws its order -/
theorem step_append_S {P : Program} {w : World} {ops : Array Oper} {o : Oper} {a : Act} {K : Act → World → Prop} {Q : Exit → Act → World → Prop} {E : Prop} (hgd : o.guard = none) (s x : Operand) (t tx : TypeId)
    (ho : o.op = .call { callee := .builtin .append, args := #[s, x], argTypes := #[t, tx] }) {e e' : TypeId} {sz bytes : Nat} (T : SlT P t e sz bytes) (htx : P.underlying tx = some (.slice e')) {base : Nat} {v : Value} {n : Nat} {xs : List Value}
    (hown : OwnS w base e sz v n xs) (hs : a.eval s = v) {p : Option Addr} {news : List Value} (hr : Rd w p news) (h1 : ∀ u ∈ news, u.oneCell' = true) {m : Nat} (hm : news.length = m * sz) (c : Nat) (hx : a.eval x = .slice p m c)
    (hroom : n + m ≤ maxLen ∧ (n + m) * bytes ≤ 140737488355328 ∧ base ≤ w.heap.size)
    (h : ∀ v' w', OwnS w' base e sz v' (n + m) (xs ++ news) → App w w' v v' → K (a.put o.dst v') w') : if Region.wanted o (yielded ops a.tmps) = true then Oper.wp P o a w K Q else E := by
  have hw : Region.wanted o (yielded ops a.tmps) = true := by simp [Region.wanted, hgd]
  rw [if_pos hw]
  exact wp_append_S s x t tx ho T htx (.inr ⟨_, rfl⟩) hown hs hx (Src.of_rd hr hm) h1 hroom.1 hroom.2.1 hroom.2.2 fun v' w' h2 h3 _ => h v' w' h2 h3
theorem news_cell (w : World) (A : Obj) (x : Value) (t : TypeId) : Rd ((w.alloc A).alloc (.cells #[x] t)) (some ⟨w.heap.size + 1, 0, none⟩) [x] := by
  have h := Rd.one (w.alloc A) x t
  have e : (w.alloc A).heap.size = w.heap.size + 1 := by go_simp
  rw [e] at h; exact h
theorem sumT_append (X Y : List (List UInt8)) : sumT (X ++ Y) = sumT X + sumT Y := by simp [sumT]
/-- where the loop that lays a great list stands -/
def BoundRel (gb tot : Nat) (w1 : World) (lv : Value) (wr : World) : Prop :=
  ∃ (left : Nat) (N : List (List UInt8)) (v : Value), lv = .int .i64 (left : Int) ∧ (left = 0 ∨ 16 ≤ left) ∧ (∀ x ∈ N, x.length ≤ 4096) ∧ 16 * N.length + sumT N + left = tot ∧ (0 < left → 4096 * N.length + left ≤ tot) ∧ 4096 * N.length ≤ tot + 4096 ∧
    OwnS wr w1.heap.size 9 1 v N.length (sts N) ∧ wr.heap[gb]? = some (.cells (valC 2 ⟨#[]⟩ v (.slice none 0 0) (.slice none 0 0) (.slice none 0 0)) 29 (0, 0)) ∧ Chg (· = gb) w1 wr
theorem bound_step {gb tot N0 m left left' cap cap3 : Nat} {p p3 : Option Addr} {w1 wr w3 : World} {N : List (List UInt8)} (hn : N0 = N.length)
    (hgw : wr.heap[gb]? = some (.cells (valC 2 ⟨#[]⟩ (.slice p N0 cap) (.slice none 0 0) (.slice none 0 0) (.slice none 0 0)) 29 (0, 0)))
    (hown : OwnS wr w1.heap.size 9 1 (.slice p N0 cap) N0 (sts N)) (hap : Chg (fun j => (Value.slice p N0 cap).ownBlock = some j) wr w3)
    (ho3 : OwnS w3 w1.heap.size 9 1 (.slice p3 (N0 + 1) cap3) (N0 + 1) (sts N ++ sts [zer m])) (hch : Chg (· = gb) w1 wr) (hgb : gb < w1.heap.size)
    (hlen : ∀ x ∈ N, x.length ≤ 4096) (hsum : 16 * N0 + sumT N + left = tot) (hcnt : 0 < left → 4096 * N0 + left ≤ tot)
    (hm : m ≤ 4096) (hl : left' + 16 + m = left) (h16 : left' = 0 ∨ 16 ≤ left') (hm2 : left' = 0 ∨ 4080 ≤ m) :
    BoundRel gb tot w1 (.int .i64 (left' : Int)) (w3.setCell ⟨gb, 2, none⟩ (.slice p3 (N0 + 1) cap3)) := by
  subst hn
  have hne : ¬ (Value.slice p N.length cap).ownBlock = some gb := fun h => by have h1 := (hown.lt gb h).1; omega
  have hne3 : ∀ j, (Value.slice p3 (N.length + 1) cap3).ownBlock = some j → ¬ j = gb := fun j h e => by have h1 := (ho3.lt j h).1; omega
  have hrow := hap.row hgw hne
  have hset := setCell_row hrow 2 (.slice p3 (N.length + 1) cap3)
  simp at hset
  have hc := hcnt (by omega)
  have hl1 : (N ++ [zer m]).length = N.length + 1 := by simp
  refine ⟨left', N ++ [zer m], .slice p3 (N.length + 1) cap3, rfl, h16, ?_, ?_, ?_, ?_, ?_, hset, ?_⟩
  · intro x hx
    rcases List.mem_append.1 hx with h | h
    · exact hlen x h
    · simp at h; subst h; rw [zer_len]; exact hm
  · have hz : sumT [zer m] = m := by simp [sumT, zer_len]
    rw [sumT_append, hl1, hz]; omega
  · intro h; rw [hl1]; omega
  · rw [hl1]; omega
  · have h := ho3.chg (T := (· = gb)) (Chg.setCell w3 ⟨gb, 2, none⟩ (.slice p3 (N.length + 1) cap3) (by simp)) hne3
    rw [← sts_append, ← hl1] at h
    rw [hl1] at h ⊢
    exact h
  · exact (hch.trans hap (fun k hk h => by have h1 := (hown.lt k h).1; omega)).trans (Chg.setCell w3 ⟨gb, 2, none⟩ _ (by simp)) (fun _ _ h => h)
set_option maxHeartbeats 4000000 in
set_option maxRecDepth 20000 in
theorem valueBounds_walk (x : Int) (w : World) (hx : -9223372036854775808 ≤ x ∧ x ≤ 9223372036854775807) :
    Calls Try.prog 4 #[.int .i64 x] w fun e w' => e = .returned (.bool true) ∧ Below w.heap.size w w' := by
  obtain ⟨u, k, hu, hk, hk1, hk2⟩ := uint_mod x 3 3 rfl (by omega)
  have hc : IntKind.i64.wrap (k : Int) = (k : Int) := IntWalk.i64_in _ (by omega)
  have hm1 : ∀ v, (Instr.makeSlice 31 (.int .i64 (4095 + (k : Int))) (.int .i64 (4095 + (k : Int)))).run Try.prog v = .ok (.slice (some ⟨v.heap.size, 0, none⟩) (4095 + k) (4095 + k)) (v.alloc (.cells (by8 (zer (4095 + k))).toArray 5)) := by
    intro v
    have h := run_make_bytes v (4095 + k) (by omega)
    have e : ((4095 + k : Nat) : Int) = 4095 + (k : Int) := by omega
    rw [e] at h; exact h
  have hm2 : ∀ v, (Instr.makeSlice 24 (.int .i64 (999 + (k : Int))) (.int .i64 (999 + (k : Int)))).run Try.prog v = .ok (.slice (some ⟨v.heap.size, 0, none⟩) (999 + k) (999 + k)) (v.alloc (.cells (sts (List.replicate (999 + k) [])).toArray 9)) := by
    intro v
    have h := run_make_strings v (999 + k) (by omega)
    have e : ((999 + k : Nat) : Int) = 999 + (k : Int) := by omega
    rw [e] at h; exact h
  have hb0 : Rd8 (w.alloc (.cells (by8 (zer (4095 + k))).toArray 5)) (some ⟨w.heap.size, 0, none⟩) (zer (4095 + k)) := Rd8.new w _ _ _ _ (List.prefix_refl _)
  have HB0 := Lib.hid hb0
  clear hb0
  go_enter Try.func4, Try.ntmps4
  go_wp2_with (((with_reducible refine L_b2s slB isB isS HB0.out ?_ ?_ ?_); (focus rfl); (focus exact ⟨_, _, rfl, (zer_len _).symm⟩); simp only [Act.put, List.setIfInBounds_toArray, List.set_cons_zero, List.set_cons_succ]))
  obtain ⟨w1, hw1⟩ : ∃ v, v = (((((w.alloc (.cells (by8 (zer (4095 + k))).toArray 5)).alloc (.cells (valC 1 (str (zer (4095 + k))) (.slice none 0 0) (.slice none 0 0) (.slice none 0 0) (.slice none 0 0)) 29)).alloc (.cells (sts (List.replicate (999 + k) [])).toArray 9)).alloc (.cells (valC 2 ⟨#[]⟩ (.slice (some ⟨w.heap.size + 1 + 1, 0, none⟩) (999 + k) (999 + k)) (.slice none 0 0) (.slice none 0 0) (.slice none 0 0)) 29)).alloc (.cells (valC 2 ⟨#[]⟩ (.slice none 0 0) (.slice none 0 0) (.slice none 0 0) (.slice none 0 0)) 29)) := ⟨_, rfl⟩
  rw [← hw1]
  have hbw : Below w.heap.size w w1 := by rw [hw1]; repeat (first | exact Below.refl _ _ | refine grewA ?_ _ | refine Below.drew ?_ | refine grew ?_ (by assumption))
  have hsz : w1.heap.size = w.heap.size + 1 + 1 + 1 + 1 + 1 := by rw [hw1]; go_simp
  obtain ⟨tb, htb⟩ : ∃ tb, tb = w.heap.size + 1 := ⟨_, rfl⟩
  obtain ⟨lp, hlp⟩ : ∃ lp, lp = w.heap.size + 1 + 1 := ⟨_, rfl⟩
  obtain ⟨lb, hlb⟩ : ∃ lb, lb = w.heap.size + 1 + 1 + 1 := ⟨_, rfl⟩
  obtain ⟨gb, hgb⟩ : ∃ gb, gb = w.heap.size + 1 + 1 + 1 + 1 := ⟨_, rfl⟩
  have hrows := five_rows w (.cells (by8 (zer (4095 + k))).toArray 5) (.cells (valC 1 (str (zer (4095 + k))) (.slice none 0 0) (.slice none 0 0) (.slice none 0 0) (.slice none 0 0)) 29) (.cells (sts (List.replicate (999 + k) [])).toArray 9) (.cells (valC 2 ⟨#[]⟩ (.slice (some ⟨w.heap.size + 1 + 1, 0, none⟩) (999 + k) (999 + k)) (.slice none 0 0) (.slice none 0 0) (.slice none 0 0)) 29) (.cells (valC 2 ⟨#[]⟩ (.slice none 0 0) (.slice none 0 0) (.slice none 0 0) (.slice none 0 0)) 29)
  have ht : w1.heap[tb]? = some (.cells (valC 1 (str (zer (4095 + k))) (.slice none 0 0) (.slice none 0 0) (.slice none 0 0) (.slice none 0 0)) 29 (0, 0)) := by rw [hw1, htb]; exact hrows.1
  have hl : w1.heap[lb]? = some (.cells (valC 2 ⟨#[]⟩ (.slice (some ⟨lp, 0, none⟩) (999 + k) (999 + k)) (.slice none 0 0) (.slice none 0 0) (.slice none 0 0)) 29 (0, 0)) := by rw [hw1, hlb, hlp]; exact hrows.2.2.1
  have hg : w1.heap[gb]? = some (.cells (valC 2 ⟨#[]⟩ (.slice none 0 0) (.slice none 0 0) (.slice none 0 0) (.slice none 0 0)) 29 (0, 0)) := by rw [hw1, hgb]; exact hrows.2.2.2
  have hp : w1.heap[lp]? = some (.cells (sts (List.replicate (999 + k) [])).toArray 9 (0, 0)) := by rw [hw1, hlp]; exact hrows.2.1
  clear hrows
  rw [← hgb, ← hlb, ← hlp, ← htb]
  have HG := Lib.hid hg
  have HL := Lib.hid hl
  have HT := Lib.hid ht
  have HP := Lib.hid hp
  have HBW := Lib.hid hbw
  have HSZ := Lib.hid hsz
  have HGB := Lib.hid hgb
  have HLB := Lib.hid hlb
  have HLP := Lib.hid hlp
  have HTB := Lib.hid htb
  clear hw1 hg hl ht hp hbw hsz hgb hlb hlp htb hm1 hm2 HB0 hk1 hk2 hu hc
  go_loopw [7] (fun l wr => BoundRel gb (262127 + k) w1 l wr) (fun l _ => (intOf l).toNat)
  case atStart =>
    refine ⟨262127 + k, [], .slice none 0 0, by simp, by omega, by simp, by simp [sumT], by simp, by simp, OwnS.none, HG.out, Chg.refl _ _⟩
  case round =>
    obtain ⟨left, N, v, rfl, hl16, hlen, hsum, hcnt, hcnt2, ho, hg, hch⟩ := hrel
    have HO := Lib.hid ho
    have HGW := Lib.hid hg
    have HCH := Lib.hid hch
    have HLEN := Lib.hid hlen
    have HSUM := Lib.hid hsum
    have HCNT := Lib.hid hcnt
    have HCNT2 := Lib.hid hcnt2
    have hlt := (Array.getElem?_eq_some_iff.1 hg).1
    have q0 : wr.cell? ⟨gb, 0, none⟩ = some (.int .i64 2) := by simp [World.cell?, hg]
    have q1 : wr.cell? ⟨gb, 1, none⟩ = some (.string ⟨#[]⟩) := by simp [World.cell?, hg]
    have q2 : wr.cell? ⟨gb, 2, none⟩ = some v := by simp [World.cell?, hg]
    have q3 : wr.cell? ⟨gb, 3, none⟩ = some (.slice none 0 0) := by simp [World.cell?, hg]
    have q4 : wr.cell? ⟨gb, 4, none⟩ = some (.slice none 0 0) := by simp [World.cell?, hg]
    have q5 : wr.cell? ⟨gb, 5, none⟩ = some (.slice none 0 0) := by simp [World.cell?, hg]
    have y2 : wr.frozen? ⟨gb, 2, none⟩ = false := by simp [World.frozen?, hg]
    obtain ⟨p, cap, rfl, _, _⟩ := ho.shape
    clear ho hg hch hlen hsum hcnt hcnt2
    rcases hl16 with rfl | hl16
    · clear y2
      have hbr : Below w1.heap.size w1 (wr) ∨ True := .inr trivial
      go_wp2_with fail
      go_fit (told9 _)
      rintro e w2 ⟨rfl, hb2⟩
      have hne (j : Nat) (h : j ≠ gb) (o : Obj) (h1 : w1.heap[j]? = some o) : ∀ u, Below wr.heap.size wr u → u.heap[j]? = some o := by
        intro u hu
        have h2 := HCH.out.row h1 h
        rw [hu.block j (Array.getElem?_eq_some_iff.1 h2).1]; exact h2
      have htu := hne tb (by have := HTB.out; have := HGB.out; omega) _ HT.out
      have hlu := hne lb (by have := HLB.out; have := HGB.out; omega) _ HL.out
      have hpu := hne lp (by have := HLP.out; have := HGB.out; omega) _ HP.out
      have hgu : ∀ u, Below wr.heap.size wr u → u.heap[gb]? = some (.cells (valC 2 ⟨#[]⟩ (.slice p N.length cap) (.slice none 0 0) (.slice none 0 0) (.slice none 0 0)) 29 (0, 0)) := fun u hu => by
        rw [hu.block gb hlt]; exact HGW.out
      have HTU := Lib.hid fun u (hu : Below wr.heap.size wr u) => (show u.cell? ⟨tb, 0, none⟩ = some (.int .i64 1) ∧ u.cell? ⟨tb, 1, none⟩ = some (.string (str (zer (4095 + k)))) ∧ u.cell? ⟨tb, 2, none⟩ = some (.slice none 0 0) ∧ u.cell? ⟨tb, 3, none⟩ = some (.slice none 0 0) ∧ u.cell? ⟨tb, 4, none⟩ = some (.slice none 0 0) ∧ u.cell? ⟨tb, 5, none⟩ = some (.slice none 0 0) from by
        have h := htu u hu
        refine ⟨?_, ?_, ?_, ?_, ?_, ?_⟩ <;> simp [World.cell?, h])
      have HLU := Lib.hid fun u (hu : Below wr.heap.size wr u) => (show u.cell? ⟨lb, 0, none⟩ = some (.int .i64 2) ∧ u.cell? ⟨lb, 1, none⟩ = some (.string ⟨#[]⟩) ∧ u.cell? ⟨lb, 2, none⟩ = some (.slice (some ⟨lp, 0, none⟩) (999 + k) (999 + k)) ∧ u.cell? ⟨lb, 3, none⟩ = some (.slice none 0 0) ∧ u.cell? ⟨lb, 4, none⟩ = some (.slice none 0 0) ∧ u.cell? ⟨lb, 5, none⟩ = some (.slice none 0 0) from by
        have h := hlu u hu
        refine ⟨?_, ?_, ?_, ?_, ?_, ?_⟩ <;> simp [World.cell?, h])
      have HGU := Lib.hid fun u (hu : Below wr.heap.size wr u) => (show u.cell? ⟨gb, 0, none⟩ = some (.int .i64 2) ∧ u.cell? ⟨gb, 1, none⟩ = some (.string ⟨#[]⟩) ∧ u.cell? ⟨gb, 2, none⟩ = some (.slice p N.length cap) ∧ u.cell? ⟨gb, 3, none⟩ = some (.slice none 0 0) ∧ u.cell? ⟨gb, 4, none⟩ = some (.slice none 0 0) ∧ u.cell? ⟨gb, 5, none⟩ = some (.slice none 0 0) from by
        have h := hgu u hu
        refine ⟨?_, ?_, ?_, ?_, ?_, ?_⟩ <;> simp [World.cell?, h])
      have HPU := Lib.hid fun u (hu : Below wr.heap.size wr u) => (show Rd u (some ⟨lp, 0, none⟩) (sts (List.replicate (999 + k) [])) from Rd.of_row (hpu u hu) 0 (by simp))
      have HRU := Lib.hid fun u (hu : Below wr.heap.size wr u) => (show Rd u p (sts N) from by
        obtain ⟨p', c', h1, h2, _⟩ := HO.out.shape
        cases h1
        exact h2.below hu)
      have hcl : k < 3 := hk
      have hnn : N.length ≤ 70 := by have := HCNT2.out; omega
      have hn1 : 1 ≤ N.length := by
        have h := HSUM.out
        rcases Nat.eq_zero_or_pos N.length with h0 | h0
        · have : N = [] := List.eq_nil_of_length_eq_zero h0
          rw [this] at h
          simp [sumT] at h
          omega
        · exact h0
      have hd : ∀ q : Prop, [Decidable q] → (q ↔ k < 2) → (decide ((k : Int) < 2) = true ↔ q) := by
        intro q _ hq
        rw [decide_eq_true_iff, hq]; omega
      have HD := Lib.hid hd
      clear hbr hne htu hlu hpu hgu hd q0 q1 q2 q3 q4 q5
      have HB2 := Lib.hid hb2
      clear hb2
      obtain ⟨q0, q1, q2, q3, q4, q5⟩ := HTU.out w2 HB2.out
      go_wp2_with fail
      go_fit (may_text (zer (4095 + k)) (by rw [zer_len]; omega) (decide ((k : Int) < 2)) (HD.out _ (by rw [zer_len]; omega)) _)
      rintro e w3 ⟨rfl, hb3⟩
      have HB3 := Lib.hid (HB2.out.trans (hb3.mono HB2.out.size))
      clear hb3 q0 q1 q2 q3 q4 q5
      obtain ⟨q0, q1, q2, q3, q4, q5⟩ := HLU.out w3 HB3.out
      go_wp2_with fail
      go_fit (may_list (some ⟨lp, 0, none⟩) (999 + k) (999 + k) (List.replicate (999 + k) []) List.length_replicate.symm (by omega) (by omega) (fun x hx => by rw [(List.mem_replicate.1 hx).2]; simp) (decide ((k : Int) < 2)) (HD.out _ (by simp [sumT]; omega)) (by simp [sumT]) _ (HPU.out w3 HB3.out))
      rintro e w4 ⟨rfl, hb4⟩
      have HB4 := Lib.hid (HB3.out.trans (hb4.mono HB3.out.size))
      clear hb4 q0 q1 q2 q3 q4 q5
      obtain ⟨q0, q1, q2, q3, q4, q5⟩ := HGU.out w4 HB4.out
      have hsz2 : 16 + 16 * N.length + sumT N = 262143 + k := by have := HSUM.out; omega
      have hp0 : p = none → N.length = 0 ∧ cap = 0 := by
        intro h
        rcases HRU.out wr (Below.refl _ _) with h1 | ⟨b, o, h1, _⟩
        · have h2 : N.length = 0 := by
            have h3 := congrArg List.length h1
            rw [sts_mul] at h3
            simpa using h3
          omega
        · rw [h] at h1; cases h1
      have HS2 := Lib.hid hsz2
      have HP0 := Lib.hid hp0
      clear hp0
      have hts : sumT N ≤ 16777216 := by omega
      clear hsz2
      have HTS := Lib.hid hts
      clear hts
      go_wp2_with fail
      go_fit (size_list ⟨#[]⟩ p N.length cap N rfl (by omega) HP0.out HTS.out _ (HRU.out w4 HB4.out))
      rintro e w5 ⟨rfl, hb5⟩
      have HB5 := Lib.hid (HB4.out.trans (hb5.mono HB4.out.size))
      clear hb5 q0 q1 q2 q3 q4 q5
      obtain ⟨q0, q1, q2, q3, q4, q5⟩ := HGU.out w5 HB5.out
      rw [HS2.out]
      have ecast : ((262143 + k : Nat) : Int) = 262143 + (k : Int) := by omega
      go_wp2_with fail
      go_fit (may_list p N.length cap N rfl hn1 (by omega) HLEN.out (decide ((k : Int) < 2)) (HD.out _ (by have := HS2.out; omega)) HTS.out _ (HRU.out w5 HB5.out))
      rintro e w6 ⟨rfl, hb6⟩
      have HB6 := Lib.hid (HB5.out.trans (hb6.mono HB5.out.size))
      clear hb6 q0 q1 q2 q3 q4 q5
      go_wp2_with fail
      go_fit (may_none _)
      rintro e w7 ⟨rfl, hb7⟩
      have HB7 := Lib.hid (HB6.out.trans (hb7.mono HB6.out.size))
      clear hb7
      go_wp2_with fail
      go_ret
      refine ⟨rfl, ?_⟩
      have h1 : Below w.heap.size w1 wr := HCH.out.below HBW.out.size (fun k hk => by have := HGB.out; omega)
      exact (HBW.out.trans h1).trans (HB7.out.mono (HBW.out.trans h1).size)
    · obtain ⟨a, ha⟩ : ∃ a, a = left - 16 := ⟨_, rfl⟩
      have hlb : left ≤ 262129 := by have := HSUM.out; omega
      have f1 : (left : Int) - 16 = (a : Int) := by omega
      have f2 : decide ((0 : Int) < (left : Int)) = true := by rw [decide_eq_true_iff]; omega
      have HA0 := Lib.hid ha
      have hnn : N.length ≤ 70 := by have := HCNT2.out; omega
      have hw1r := HCH.out.size
      have hkf : ∀ u, Chg (fun j => (Value.slice p N.length cap).ownBlock = some j) wr u → u.cell? ⟨gb, 2, none⟩ = some (.slice p N.length cap) ∧ u.frozen? ⟨gb, 2, none⟩ = false := by
        intro u hu
        have hn : ¬ (Value.slice p N.length cap).ownBlock = some gb := fun h => by
          have h1 := (HO.out.lt gb h).1
          have h2 := HSZ.out
          have h3 := HGB.out
          omega
        exact ⟨by rw [hu.cell (p := ⟨gb, 2, none⟩) hlt hn]; exact q2, by rw [hu.frozen (p := ⟨gb, 2, none⟩) hlt hn]; exact y2⟩
      have HKF := Lib.hid hkf
      clear ha hkf
      by_cases hA : a ≤ 4096
      · have fm : min (a : Int) 4096 = (a : Int) := by omega
        have hmk := fun u => run_make_bytes u a (by omega)
        have hcv0 : (convert 31 9 (.slice (some ⟨wr.heap.size, 0, none⟩) a a)).run Try.prog ((wr.alloc (.cells (by8 (List.replicate a 0)).toArray 5))) = .ok (.string (str (zer a))) ((wr.alloc (.cells (by8 (List.replicate a 0)).toArray 5))) := by
          have h := run_b2s (P := Try.prog) slB isB isS (p := some ⟨wr.heap.size, 0, none⟩) (l := zer a) (cap := a) (w := (wr.alloc (.cells (by8 (List.replicate a 0)).toArray 5))) (Rd8.new wr (zer a) (by8 (zer a)).toArray 5 (0, 0) (List.prefix_refl _))
          rw [zer_len] at h
          exact h
        have hcv1 : (convert 31 9 (.slice (some ⟨wr.heap.size, 0, none⟩) a a)).run Try.prog ((wr.alloc (.cells (by8 (List.replicate a 0)).toArray 5)).drew) = .ok (.string (str (zer a))) ((wr.alloc (.cells (by8 (List.replicate a 0)).toArray 5)).drew) := by
          have h := run_b2s (P := Try.prog) slB isB isS (p := some ⟨wr.heap.size, 0, none⟩) (l := zer a) (cap := a) (w := (wr.alloc (.cells (by8 (List.replicate a 0)).toArray 5)).drew) (Rd8.new wr (zer a) (by8 (zer a)).toArray 5 (0, 0) (List.prefix_refl _))
          rw [zer_len] at h
          exact h
        have hcv2 : (convert 31 9 (.slice (some ⟨wr.heap.size, 0, none⟩) a a)).run Try.prog ((wr.alloc (.cells (by8 (List.replicate a 0)).toArray 5)).drew.drew) = .ok (.string (str (zer a))) ((wr.alloc (.cells (by8 (List.replicate a 0)).toArray 5)).drew.drew) := by
          have h := run_b2s (P := Try.prog) slB isB isS (p := some ⟨wr.heap.size, 0, none⟩) (l := zer a) (cap := a) (w := (wr.alloc (.cells (by8 (List.replicate a 0)).toArray 5)).drew.drew) (Rd8.new wr (zer a) (by8 (zer a)).toArray 5 (0, 0) (List.prefix_refl _))
          rw [zer_len] at h
          exact h
        clear hl16 y2
        go_upto_region 10 with (fail)
        go_region_law (refine step_append_S (by rfl) _ _ _ _ (by rfl) slVS Try.underlying24 (by first | exact ((HO.out.alloc _).alloc _).drew | exact ((HO.out.alloc _).alloc _).drew.drew) (by rfl) (p := some ⟨wr.heap.size + 1, 0, none⟩) (news := sts [zer a]) (by first | exact (news_cell _ _ _ _).drew | exact (news_cell _ _ _ _).drew.drew) (sts_one _) (m := 1) (by rfl) 1 (by rfl) ⟨room1 (by omega), by omega, by (try simp); (try omega)⟩ ?_; intro v3 w3 ho3 hg3; have hap3 : Chg (fun j => (Value.slice p N.length cap).ownBlock = some j) wr w3 := (Chg.of_below (by repeat (first | exact Below.refl _ _ | refine grewA ?_ _ | refine Below.drew ?_ | refine grew ?_ (by assumption)))).trans (Chg.of_grown hg3.by_ fun k e => e) (fun _ _ h => h); obtain ⟨z2, y2⟩ := HKF.out _ hap3; obtain ⟨p3, cap3, rfl, _, _⟩ := ho3.shape; have HO3 := Lib.hid ho3; have HAP3 := Lib.hid hap3; clear ho3 hg3 hap3)
        all_goals
          go_wp2_with fail
          exact ⟨bound_step (m := a) (left := left) (left' := 0) rfl HGW.out HO.out HAP3.out HO3.out HCH.out (by have := HSZ.out; have := HGB.out; omega) HLEN.out HSUM.out HCNT.out hA (by have := HA0.out; omega) (.inl rfl) (.inl rfl), by simp [intOf]; omega⟩
      · have fm : min (a : Int) 4096 = 4096 := by omega
        obtain ⟨r, hr⟩ : ∃ r, r = a - 4096 := ⟨_, rfl⟩
        have f3 : (a : Int) - 4096 = (r : Int) := by omega
        have d1 : decide ((0 : Int) < (r : Int)) = true := by rw [decide_eq_true_iff]; omega
        have hal : a ≤ 262129 := by omega
        by_cases h16 : r < 16
        · have d2 : decide ((r : Int) < 16) = true := by rw [decide_eq_true_iff]; omega
          obtain ⟨r2, hr2⟩ : ∃ r2, r2 = r + 16 := ⟨_, rfl⟩
          have f4 : (a : Int) - 4080 = (r2 : Int) := by omega
          have HR := Lib.hid (And.intro hr hr2)
          clear hr hr2
          obtain ⟨M, hM⟩ : ∃ M : Nat, M = 4080 := ⟨_, rfl⟩
          have hmk : ∀ u, (Instr.makeSlice 31 (.int .i64 4080) (.int .i64 4080)).run Try.prog u = .ok (.slice (some ⟨u.heap.size, 0, none⟩) M M) (u.alloc (.cells (by8 (List.replicate M 0)).toArray 5)) := fun u => by rw [hM]; exact run_make_bytes u 4080 (by omega)
          have HM := Lib.hid hM
          clear hM
          have hcv0 : (convert 31 9 (.slice (some ⟨wr.heap.size, 0, none⟩) M M)).run Try.prog ((wr.alloc (.cells (by8 (List.replicate M 0)).toArray 5))) = .ok (.string (str (zer M))) ((wr.alloc (.cells (by8 (List.replicate M 0)).toArray 5))) := by
            have h := run_b2s (P := Try.prog) slB isB isS (p := some ⟨wr.heap.size, 0, none⟩) (l := zer M) (cap := M) (w := (wr.alloc (.cells (by8 (List.replicate M 0)).toArray 5))) (Rd8.new wr (zer M) (by8 (zer M)).toArray 5 (0, 0) (List.prefix_refl _))
            rw [zer_len] at h
            exact h
          have hcv1 : (convert 31 9 (.slice (some ⟨wr.heap.size, 0, none⟩) M M)).run Try.prog ((wr.alloc (.cells (by8 (List.replicate M 0)).toArray 5)).drew) = .ok (.string (str (zer M))) ((wr.alloc (.cells (by8 (List.replicate M 0)).toArray 5)).drew) := by
            have h := run_b2s (P := Try.prog) slB isB isS (p := some ⟨wr.heap.size, 0, none⟩) (l := zer M) (cap := M) (w := (wr.alloc (.cells (by8 (List.replicate M 0)).toArray 5)).drew) (Rd8.new wr (zer M) (by8 (zer M)).toArray 5 (0, 0) (List.prefix_refl _))
            rw [zer_len] at h
            exact h
          have hcv2 : (convert 31 9 (.slice (some ⟨wr.heap.size, 0, none⟩) M M)).run Try.prog ((wr.alloc (.cells (by8 (List.replicate M 0)).toArray 5)).drew.drew) = .ok (.string (str (zer M))) ((wr.alloc (.cells (by8 (List.replicate M 0)).toArray 5)).drew.drew) := by
            have h := run_b2s (P := Try.prog) slB isB isS (p := some ⟨wr.heap.size, 0, none⟩) (l := zer M) (cap := M) (w := (wr.alloc (.cells (by8 (List.replicate M 0)).toArray 5)).drew.drew) (Rd8.new wr (zer M) (by8 (zer M)).toArray 5 (0, 0) (List.prefix_refl _))
            rw [zer_len] at h
            exact h
          clear hl16 y2
          go_upto_region 10 with (fail)
          go_region_law (refine step_append_S (by rfl) _ _ _ _ (by rfl) slVS Try.underlying24 (by first | exact ((HO.out.alloc _).alloc _).drew | exact ((HO.out.alloc _).alloc _).drew.drew) (by rfl) (p := some ⟨wr.heap.size + 1, 0, none⟩) (news := sts [zer M]) (by first | exact (news_cell _ _ _ _).drew | exact (news_cell _ _ _ _).drew.drew) (sts_one _) (m := 1) (by rfl) 1 (by rfl) ⟨room1 (by omega), by omega, by (try simp); (try omega)⟩ ?_; intro v3 w3 ho3 hg3; have hap3 : Chg (fun j => (Value.slice p N.length cap).ownBlock = some j) wr w3 := (Chg.of_below (by repeat (first | exact Below.refl _ _ | refine grewA ?_ _ | refine Below.drew ?_ | refine grew ?_ (by assumption)))).trans (Chg.of_grown hg3.by_ fun k e => e) (fun _ _ h => h); obtain ⟨z2, y2⟩ := HKF.out _ hap3; obtain ⟨p3, cap3, rfl, _, _⟩ := ho3.shape; have HO3 := Lib.hid ho3; have HAP3 := Lib.hid hap3; clear ho3 hg3 hap3)
          all_goals
            go_wp2_with fail
            exact ⟨bound_step (m := M) (left := left) (left' := r2) rfl HGW.out HO.out HAP3.out HO3.out HCH.out (by have := HSZ.out; have := HGB.out; omega) HLEN.out HSUM.out HCNT.out (by have := HM.out; omega) (by have := HA0.out; have := HM.out; have := HR.out; omega) (.inr (by have := HR.out; omega)) (.inr (by have := HM.out; omega)), by simp [intOf]; omega⟩
        · have d2 : decide ((r : Int) < 16) = false := by rw [decide_eq_false_iff_not]; omega
          have HR := Lib.hid hr
          clear hr
          obtain ⟨M, hM⟩ : ∃ M : Nat, M = 4096 := ⟨_, rfl⟩
          have hmk : ∀ u, (Instr.makeSlice 31 (.int .i64 4096) (.int .i64 4096)).run Try.prog u = .ok (.slice (some ⟨u.heap.size, 0, none⟩) M M) (u.alloc (.cells (by8 (List.replicate M 0)).toArray 5)) := fun u => by rw [hM]; exact run_make_bytes u 4096 (by omega)
          have HM := Lib.hid hM
          clear hM
          have hcv0 : (convert 31 9 (.slice (some ⟨wr.heap.size, 0, none⟩) M M)).run Try.prog ((wr.alloc (.cells (by8 (List.replicate M 0)).toArray 5))) = .ok (.string (str (zer M))) ((wr.alloc (.cells (by8 (List.replicate M 0)).toArray 5))) := by
            have h := run_b2s (P := Try.prog) slB isB isS (p := some ⟨wr.heap.size, 0, none⟩) (l := zer M) (cap := M) (w := (wr.alloc (.cells (by8 (List.replicate M 0)).toArray 5))) (Rd8.new wr (zer M) (by8 (zer M)).toArray 5 (0, 0) (List.prefix_refl _))
            rw [zer_len] at h
            exact h
          have hcv1 : (convert 31 9 (.slice (some ⟨wr.heap.size, 0, none⟩) M M)).run Try.prog ((wr.alloc (.cells (by8 (List.replicate M 0)).toArray 5)).drew) = .ok (.string (str (zer M))) ((wr.alloc (.cells (by8 (List.replicate M 0)).toArray 5)).drew) := by
            have h := run_b2s (P := Try.prog) slB isB isS (p := some ⟨wr.heap.size, 0, none⟩) (l := zer M) (cap := M) (w := (wr.alloc (.cells (by8 (List.replicate M 0)).toArray 5)).drew) (Rd8.new wr (zer M) (by8 (zer M)).toArray 5 (0, 0) (List.prefix_refl _))
            rw [zer_len] at h
            exact h
          have hcv2 : (convert 31 9 (.slice (some ⟨wr.heap.size, 0, none⟩) M M)).run Try.prog ((wr.alloc (.cells (by8 (List.replicate M 0)).toArray 5)).drew.drew) = .ok (.string (str (zer M))) ((wr.alloc (.cells (by8 (List.replicate M 0)).toArray 5)).drew.drew) := by
            have h := run_b2s (P := Try.prog) slB isB isS (p := some ⟨wr.heap.size, 0, none⟩) (l := zer M) (cap := M) (w := (wr.alloc (.cells (by8 (List.replicate M 0)).toArray 5)).drew.drew) (Rd8.new wr (zer M) (by8 (zer M)).toArray 5 (0, 0) (List.prefix_refl _))
            rw [zer_len] at h
            exact h
          clear hl16 y2
          go_upto_region 10 with (fail)
          go_region_law (refine step_append_S (by rfl) _ _ _ _ (by rfl) slVS Try.underlying24 (by first | exact ((HO.out.alloc _).alloc _).drew | exact ((HO.out.alloc _).alloc _).drew.drew) (by rfl) (p := some ⟨wr.heap.size + 1, 0, none⟩) (news := sts [zer M]) (by first | exact (news_cell _ _ _ _).drew | exact (news_cell _ _ _ _).drew.drew) (sts_one _) (m := 1) (by rfl) 1 (by rfl) ⟨room1 (by omega), by omega, by (try simp); (try omega)⟩ ?_; intro v3 w3 ho3 hg3; have hap3 : Chg (fun j => (Value.slice p N.length cap).ownBlock = some j) wr w3 := (Chg.of_below (by repeat (first | exact Below.refl _ _ | refine grewA ?_ _ | refine Below.drew ?_ | refine grew ?_ (by assumption)))).trans (Chg.of_grown hg3.by_ fun k e => e) (fun _ _ h => h); obtain ⟨z2, y2⟩ := HKF.out _ hap3; obtain ⟨p3, cap3, rfl, _, _⟩ := ho3.shape; have HO3 := Lib.hid ho3; have HAP3 := Lib.hid hap3; clear ho3 hg3 hap3)
          all_goals
            go_wp2_with fail
            exact ⟨bound_step (m := M) (left := left) (left' := r) rfl HGW.out HO.out HAP3.out HO3.out HCH.out (by have := HSZ.out; have := HGB.out; omega) HLEN.out HSUM.out HCNT.out (by have := HM.out; omega) (by have := HA0.out; have := HM.out; have := HR.out; omega) (.inr (by omega)) (.inr (by have := HM.out; omega)), by simp [intOf]; omega⟩
end Go.Proofs.Ytblmnaejkdkndaa
