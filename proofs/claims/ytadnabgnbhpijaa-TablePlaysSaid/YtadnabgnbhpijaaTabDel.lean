/- The walks over slices.Delete at pairs and over Table.Del. -/
import Derived.Test.YtadnabgnbhpijaaTabPut
import Derived.Deep.RegionLaw
set_option linter.unusedSimpArgs false
set_option linter.unusedVariables false
namespace Go.Proofs.Ytadnabgnbhpijaa
open Go.RowKit Go.Maps

section
variable {P : Program} {w w' : World} {base : Nat} {e : TypeId} {sz : Nat} {n : Nat} {xs : List Value} {g cap : Nat}
theorem own_cap (h : OwnS w base e sz (.slice (some ⟨g, 0, none⟩) n cap) n xs) : n ≤ cap ∧ cap ≤ maxLen := by
  rcases h.2 with ⟨h0, rfl⟩ | ⟨g', cap', cur, fr, h0, hb, hg, hf, hn, hmx, hs, ht⟩
  · simp at h0
  · cases h0; exact ⟨hn, hmx⟩
theorem own_less' {m : Nat} (h : OwnS w base e sz (.slice (some ⟨g, 0, none⟩) n cap) n xs) (hm : m ≤ n) : OwnS w base e sz (.slice (some ⟨g, 0, none⟩) m cap) m (xs.take (m * sz)) := by
  rcases h.2 with ⟨h0, rfl⟩ | ⟨g', cap', cur, fr, h0, hb, hg, hf, hn, hmx, hs, ht⟩
  · simp at h0
  · cases h0
    refine OwnS.mkLe g cap cur fr hb hg hf (Nat.le_trans hm hn) hmx hs ?_
    rw [← ht, List.take_take]
    congr 1
    exact (Nat.min_eq_left (Nat.mul_le_mul_right _ hm)).symm
/-- append where there is room -/
theorem run_append_room (t tx ty : TypeId) {bytes : Nat} (T : SlT P t e sz bytes) {e' : TypeId} (htx : P.underlying tx = some (.slice e')) (hown : OwnS w base e sz (.slice (some ⟨g, 0, none⟩) n cap) n xs) {m : Nat} {x : Value} {news : List Value} (hsrc : Src P w sz m x news)
    (h1 : ∀ u ∈ news, u.oneCell' = true) (hroom : n + m ≤ cap) :
    ∃ w', (Builtin.append_ #[t, tx] ty #[.slice (some ⟨g, 0, none⟩) n cap, x]).run P w = .ok (.slice (some ⟨g, 0, none⟩) (n + m) cap) w' ∧ OwnS w' base e sz (.slice (some ⟨g, 0, none⟩) (n + m) cap) (n + m) (xs ++ news) ∧ w.grownBy w' (some g) := by
  obtain ⟨i, z, hi, hz, rfl, hby, hzs⟩ := T.inf
  have hlen : (xs ++ news).length = (n + m) * i.size := by rw [List.length_append, hown.1, hsrc.1, Nat.add_mul]
  obtain ⟨hl0, hf0⟩ := hsrc.2 w (fun _ => rfl)
  have hunder : ∀ u : World, (underlying tx).run P u = .ok (.slice e') u := run_underlying htx
  have hunt : ∀ u : World, (underlying t).run P u = .ok (.slice e) u := run_underlying T.und
  rcases hown.2 with ⟨h0, rfl⟩ | ⟨g', cap', cur, fr, h0, hbg, hg, hfr, hnc, hcm, hcs, htake⟩
  · simp at h0
  · cases h0
    have hfit : n * i.size + news.length ≤ cur.size := by rw [hsrc.1, ← Nat.add_mul]; exact Nat.le_trans (Nat.mul_le_mul_right _ hroom) hcs
    have hst := run_storeCells_free (P := P) g (n * i.size) e fr news 0 cur w hg hfr (by simpa using hfit) h1
    simp only [Nat.add_zero] at hst
    refine ⟨w.setRow g (cur.toList.take (n * i.size) ++ news ++ cur.toList.drop (n * i.size + news.length)).toArray, ?_,
      OwnS.mkLe g cap _ fr hbg (setRow_heap w g cur _ e _ hg) ?_ hroom hcm ?_ ?_, ⟨rfl, rfl, rfl, by simp, fun k hk hne => setRow_other w g k _ (fun h => hne (by simp [h]))⟩⟩
    · simp [Builtin.append_, hunder, hunt, sizeOf, typeInfo, hi, hl0, hf0, hroom, Addr.add_lit, hst]
    · have : (cur.toList.take (n * i.size) ++ news ++ cur.toList.drop (n * i.size + news.length)).toArray.size = cur.size := by
        simp only [List.size_toArray, List.length_append, List.length_take, List.length_drop, Array.length_toList]; omega
      rw [this]; exact hfr
    · simp only [List.size_toArray, List.length_append, List.length_take, List.length_drop, Array.length_toList]
      omega
    · rw [htake, ← hlen]
      exact List.take_left
/-- 'clear' of what lies right behind -/
theorem run_clear_behind (t ty : TypeId) (z : Value) (ht : P.underlying t = some (.slice e)) (hz : ∀ u, (zeroValue e).run P u = .ok z u) (hzs : z.cells.size = sz) (hz1 : ∀ u ∈ z.cells.toList, u.oneCell' = true) (hown : OwnS w base e sz (.slice (some ⟨g, 0, none⟩) n cap) n xs) (c : Nat) (hn : n + 1 ≤ cap) :
    ∃ w', (Builtin.clear_ #[t] ty #[.slice (some ⟨g, n * sz, none⟩) 1 c]).run P w = .ok (.tuple #[]) w' ∧ OwnS w' base e sz (.slice (some ⟨g, 0, none⟩) n cap) n xs ∧ w.grownBy w' (some g) := by
  rcases hown.2 with ⟨h0, rfl⟩ | ⟨g', cap', cur, fr, h0, hbg, hg, hfr, hnc, hcm, hcs, htake⟩
  · simp at h0
  · cases h0
    have hzc : (Builtin.zeroCells z.cells 1).toList = z.cells.toList := by
      apply List.ext_getElem
      · simp [Builtin.zeroCells]
      · intro i h1 h2
        have hi : i < z.cells.size := by simpa using h2
        simp [Builtin.zeroCells, Nat.mod_eq_of_lt hi, hi]
    have hl : z.cells.toList.length = sz := by simpa using hzs
    have hfit : n * sz + 0 + z.cells.toList.length ≤ cur.size := by
      rw [hl]
      have : (n + 1) * sz ≤ cap * sz := Nat.mul_le_mul_right _ hn
      rw [Nat.add_mul] at this
      omega
    have hst := run_storeCells_free (P := P) g (n * sz) e fr z.cells.toList 0 cur w hg hfr hfit hz1
    simp only [Nat.add_zero] at hst
    refine ⟨w.setRow g (cur.toList.take (n * sz) ++ z.cells.toList ++ cur.toList.drop (n * sz + z.cells.toList.length)).toArray, ?_, OwnS.mkLe g cap _ fr hbg (setRow_heap w g cur _ e _ hg) ?_ hnc hcm ?_ ?_, ⟨rfl, rfl, rfl, by simp, fun k hk hne => setRow_other w g k _ (fun h => hne (by simp [h]))⟩⟩
    · simp [Builtin.clear_, run_underlying ht, hz, hzc, hst]
    · have : (cur.toList.take (n * sz) ++ z.cells.toList ++ cur.toList.drop (n * sz + z.cells.toList.length)).toArray.size = cur.size := by
        simp only [List.size_toArray, List.length_append, List.length_take, List.length_drop, Array.length_toList]; omega
      rw [this]; exact hfr
    · simp only [List.size_toArray, List.length_append, List.length_take, List.length_drop, Array.length_toList]
      omega
    · have hx : xs.length = n * sz := hown.1
      rw [htake, List.append_assoc, ← hx]
      exact List.take_left
end

theorem step_append_run {P : Program} {w w' : World} {ops : Array Oper} {o : Oper} {a : Act} {K : Act → World → Prop} {Q : Exit → Act → World → Prop} {E : Prop} (hgd : o.guard = none) (s x : Operand) (t tx : TypeId)
    (ho : o.op = .call { callee := .builtin .append, args := #[s, x], argTypes := #[t, tx] }) {v xv r : Value} (hs : a.eval s = v) (hx : a.eval x = xv) (hrun : (Builtin.append_ #[t, tx] o.type #[v, xv]).run P w = .ok r w')
    (h : K (a.put o.dst r) w') : if Region.wanted o (yielded ops a.tmps) = true then Oper.wp P o a w K Q else E := by
  have hw : Region.wanted o (yielded ops a.tmps) = true := by simp [Region.wanted, hgd]
  rw [if_pos hw]
  unfold Oper.wp execOp
  simp only [ho, resolve, invoke, builtin, Sem.run_bind, Sem.run_pure, Result.andThen_ok, List.map_toArray, List.map_cons, List.map_nil, hs, hx, hrun]
  exact h
theorem L_clear {P : Program} {ops : Array Oper} {rest : List Oper} {d : Option Tmp} {t0 : TypeId} {pos : String} {af : Array Edge} {tmps : Array Value} {dfs : List Deferred} {w w' : World} {Q : Exit → Act → World → Prop} {T : TypeId} {m : Operand} {xv : Value}
    (hm : (⟨tmps, dfs⟩ : Act).eval m = xv) (hrun : (Builtin.clear_ #[T] t0 #[xv]).run P w = .ok (.tuple #[]) w') (hK : wpList P ops Q rest ((⟨tmps, dfs⟩ : Act).put d (.tuple #[])) w') :
    wpList P ops Q ({ dst := d, op := .call { callee := .builtin .clear, args := #[m], argTypes := #[T] }, type := t0, pos := pos, after := af, guard := none } :: rest) ⟨tmps, dfs⟩ w := by
  refine wpList_plain rfl fun K' hK' => ?_
  unfold Oper.wp
  simp [execOp, resolve, invoke, builtin, hm, hrun, Result.andThen]
  exact hK' _ _ hK
theorem prs_erase (L : Slot) (j : Nat) (hj : j < L.length) : prs (L.take j) ++ prs (L.drop (j + 1)) = prs (L.eraseIdx j) := by
  rw [← prs_append, List.eraseIdx_eq_take_drop_succ]
theorem zeroPair (u : World) : (zeroValue 92).run Try.prog u = .ok (.agg #[.string .empty, .int .i64 0]) u := by kernel_rfl
theorem run_slice_max (w : World) (p : Option Addr) (n cap l h : Nat) (hl : l ≤ h) (hh : h ≤ n) (hm : n ≤ cap) :
    ∃ v, (Instr.slice 93 (.slice p n cap) (some (.int .i64 (l : Int))) (some (.int .i64 (h : Int))) (some (.int .i64 (n : Int)))).run Try.prog w = .ok v w := by
  rw [run_slice_lhm w 93 p n cap (by rw [slP.elem]; exact slP.und) .i64 .i64 .i64 (l : Int) (h : Int) (n : Int) (by omega) (by omega) (by omega) (by omega), slP.elem, slP.size w]
  exact ⟨_, rfl⟩
set_option maxHeartbeats 1000000 in
set_option maxRecDepth 20000 in
theorem delete_pairs {w : World} {L : Slot} {g cap j : Nat} (hown : OwnS w 0 92 2 (.slice (some ⟨g, 0, none⟩) L.length cap) L.length (prs L)) (hj : j < L.length) (hl : L.length ≤ 100000) :
    Calls Try.prog 52 #[.slice (some ⟨g, 0, none⟩) L.length cap, .int .i64 (j : Int), .int .i64 ((j : Int) + 1)] w fun e w' =>
      e = .returned (.slice (some ⟨g, 0, none⟩) (L.length - 1) cap) ∧ OwnS w' 0 92 2 (.slice (some ⟨g, 0, none⟩) (L.length - 1) cap) (L.length - 1) (prs (L.eraseIdx j)) ∧ w.grownBy w' (some g) := by
  obtain ⟨hnc, hcm⟩ := own_cap hown
  have hrd : Rd w (some ⟨g, 0, none⟩) (prs L) := by obtain ⟨p, c, hp, hr, _⟩ := hown.shape; cases hp; exact hr
  have hsrc : Rd w (shift (some ⟨g, 0, none⟩) (j + 1) cap 2) (prs (L.drop (j + 1))) := by
    have := hrd.shift (l := j + 1) (n := L.length) (cap := cap) (sz := 2) (prs_mul L) hnc
    rwa [prs_drop] at this
  have hpre := own_less' (m := j) hown (by omega)
  rw [prs_take] at hpre
  obtain ⟨w1, hr1, ho1, hg1⟩ := run_append_room (w := w.drew) 93 93 93 slP Try.underlying93 hpre (m := L.length - (j + 1)) (x := .slice (shift (some ⟨g, 0, none⟩) (j + 1) cap 2) (L.length - (j + 1)) (cap - (j + 1))) (Src.of_rd hsrc (by rw [prs_mul]; simp)) (prs_one _) (by omega)
  rw [prs_erase L j hj] at ho1
  have e1 : j + (L.length - (j + 1)) = L.length - 1 := by omega
  rw [e1] at hr1 ho1
  obtain ⟨w2, hr2, ho2, hg2⟩ := run_clear_behind (P := Try.prog) 93 0 (.agg #[.string .empty, .int .i64 0]) Try.underlying93 zeroPair rfl (by decide) ho1 (cap - (L.length - 1)) (by omega)
  have hs3 := fun u => run_slice_mid slP u (some ⟨g, 0, none⟩) (L.length - 1) cap (L.length - 1) L.length (by omega) (by omega)
  have hsh : shift (some ⟨g, 0, none⟩) (L.length - 1) cap 2 = some ⟨g, (L.length - 1) * 2, none⟩ := by
    rw [shift_some _ _ _ _ _ (by omega)]; simp
  rw [hsh, show L.length - (L.length - 1) = 1 by omega] at hs3
  have hs1 := fun u => run_slice_to slP u (some ⟨g, 0, none⟩) L.length cap j (by omega)
  have hs2 : ∀ u, (Instr.slice 93 (.slice (some ⟨g, 0, none⟩) L.length cap) (some (.int .i64 ((j : Int) + 1))) none none).run Try.prog u = .ok (.slice (shift (some ⟨g, 0, none⟩) (j + 1) cap 2) (L.length - (j + 1)) (cap - (j + 1))) u := fun u => run_slice_from slP u (some ⟨g, 0, none⟩) L.length cap (j + 1) (by omega)
  obtain ⟨v0, hs0⟩ := run_slice_max w (some ⟨g, 0, none⟩) L.length cap j (j + 1) (by omega) (by omega) hnc
  have HO2 := Lib.hid ho2
  have HG := Lib.hid (And.intro hg1 hg2)
  have HR1 := Lib.hid hr1
  have HR2 := Lib.hid hr2
  clear hrd hsrc hpre ho1 hg1 hg2 hsh ho2 hown hr1 hr2
  have hne : ((j : Int) == (j : Int) + 1) = false := by rw [beq_eq_false_iff_ne]; omega
  go_enter Try.func52, Try.ntmps52
  go_wp2_with fail
  go_region_law ((refine step_append_run (by rfl) _ _ _ _ (by rfl) (by rfl) (by rfl) HR1.out ?_))
  all_goals
    go_wp2_with ((with_reducible refine L_clear ?_ HR2.out ?_); (focus rfl); simp only [Act.put, List.setIfInBounds_toArray, List.set_cons_zero, List.set_cons_succ])
    go_ret
    obtain ⟨q1, q2⟩ := HG.out
    exact ⟨rfl, HO2.out, ⟨q2.os.trans q1.os, q2.tape.trans q1.tape, q2.output.trans q1.output, Nat.le_trans q1.size q2.size, fun k hk hne => (q2.block k (Nat.lt_of_lt_of_le hk q1.size) hne).trans (q1.block k hk hne)⟩⟩
end Go.Proofs.Ytadnabgnbhpijaa
