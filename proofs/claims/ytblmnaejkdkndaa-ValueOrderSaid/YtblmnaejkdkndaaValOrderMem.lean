/- The three values that ValueOrder lays, in memory. Printed by wip/gen_order.py. -/
import Derived.Test.YtblmnaejkdkndaaValTold
import Derived.Test.YtblmnaejkdkndaaValMay
set_option linter.unusedSimpArgs false
set_option linter.unusedVariables false
namespace Go.Proofs.Ytblmnaejkdkndaa
open Go.RowKit Wire

theorem slFd : SlT Try.prog 25 33 2 32 := SlT.of (z := .agg #[.string .empty, .string .empty]) (by kernel_rfl) rfl (by decide) Try.underlying25
theorem slSc : SlT Try.prog 26 35 2 24 := SlT.of (z := .agg #[.string .empty, .int .i64 0]) (by kernel_rfl) rfl (by decide) Try.underlying26
theorem slPt : SlT Try.prog 27 38 2 32 := SlT.of (z := .agg #[.string .empty, .complex .f64 0 0]) (by kernel_rfl) rfl (by decide) Try.underlying27
theorem own_apart {w : World} {B B' n n' sz sz' : Nat} {e e' : TypeId} {v v' : Value} {xs xs' : List Value} (h1 : OwnS w B e sz v n xs) (h2 : OwnS w B' e' sz' v' n' xs') (hne : e ≠ e') : ∀ k, v'.ownBlock = some k → ¬ v.ownBlock = some k := by
  intro k hk hk1
  obtain ⟨c1, f1, r1⟩ := h1.rowOf hk1
  obtain ⟨c2, f2, r2⟩ := h2.rowOf hk
  rw [r1] at r2
  simp only [Option.some.injEq, Obj.cells.injEq] at r2
  exact hne r2.2.1
/-- a hash, scores and points in memory, their names F, S, Q; what they hold lies from block B on -/
structure OrdM (B fb sb pb : Nat) (w : World) (vF vS vQ : Value) (F S Q : List (List UInt8)) : Prop where
  of : OwnS w B 33 2 vF F.length (el2 (.string ⟨#[]⟩) F)
  os : OwnS w B 35 2 vS S.length (el2 (.int .i64 7) S)
  op : OwnS w B 38 2 vQ Q.length (el2 (.complex .f64 0 0) Q)
  rf : w.heap[fb]? = some (.cells (valC 3 ⟨#[]⟩ (.slice none 0 0) vF (.slice none 0 0) (.slice none 0 0)) 29 (0, 0))
  rs : w.heap[sb]? = some (.cells (valC 4 ⟨#[]⟩ (.slice none 0 0) (.slice none 0 0) vS (.slice none 0 0)) 29 (0, 0))
  rp : w.heap[pb]? = some (.cells (valC 5 ⟨#[]⟩ (.slice none 0 0) (.slice none 0 0) (.slice none 0 0) vQ) 29 (0, 0))
  lt : fb < B ∧ sb < B ∧ pb < B
  ne : fb ≠ sb ∧ fb ≠ pb ∧ sb ≠ pb
section
variable {B fb sb pb : Nat} {w w0 w' : World} {vF vS vQ v' : Value} {F S Q : List (List UInt8)}
theorem OrdM.below (h : OrdM B fb sb pb w vF vS vQ F S Q) (hb : Below w.heap.size w w') : OrdM B fb sb pb w' vF vS vQ F S Q :=
  have r : ∀ {k o}, w.heap[k]? = some o → w'.heap[k]? = some o := fun hk => by rw [hb.block _ (Array.getElem?_eq_some_iff.1 hk).1]; exact hk
  ⟨h.of.below hb, h.os.below hb, h.op.below hb, r h.rf, r h.rs, r h.rp, h.lt, h.ne⟩
theorem OrdM.keepF (h : OrdM B fb sb pb w vF vS vQ F S Q) : ∀ u, Chg (fun j => vF.ownBlock = some j) w u → u.cell? ⟨fb, 3, none⟩ = some vF ∧ u.frozen? ⟨fb, 3, none⟩ = false := by
  intro u hu
  have hn : ¬ vF.ownBlock = some fb := fun e => by have h1 := (h.of.lt _ e).1; have h2 := h.lt.1; omega
  have hr := hu.row h.rf hn
  exact ⟨by simp [World.cell?, hr], by simp [World.frozen?, hr]⟩
theorem OrdM.addF {y : List UInt8} (h : OrdM B fb sb pb w vF vS vQ F S Q) (ha : Chg (fun j => vF.ownBlock = some j) w w') (ho : OwnS w' B 33 2 v' (F.length + 1) (el2 (.string ⟨#[]⟩) F ++ el2 (.string ⟨#[]⟩) [y])) :
    OrdM B fb sb pb (w'.setCell ⟨fb, 3, none⟩ v') v' vS vQ (F ++ [y]) S Q ∧ Chg (fun j => vF.ownBlock = some j ∨ j = fb) w (w'.setCell ⟨fb, 3, none⟩ v') := by
  have hn : ∀ j, j < B → ¬ vF.ownBlock = some j := fun j hj e => by have h1 := (h.of.lt _ e).1; omega
  have hl := h.lt
  have hc : Chg (fun j => j = fb) w' (w'.setCell ⟨fb, 3, none⟩ v') := Chg.setCell w' _ _ (by simp)
  have hall := (ha.mono fun j _ e => Or.inl (b := j = fb) e).trans hc (fun j _ e => .inr e)
  have hset := setCell_row (ha.row h.rf (hn _ h.lt.1)) 3 v'
  simp at hset
  have hno : ∀ {v : Value} {e : TypeId} {n : Nat} {xs : List Value}, OwnS w B e 2 v n xs → e ≠ 33 → ∀ j, v.ownBlock = some j → ¬ (vF.ownBlock = some j ∨ j = fb) := by
    intro v e n xs hv he j hj hh
    rcases hh with hh | hh
    · exact own_apart h.of hv (Ne.symm he) j hj hh
    · have h1 := (hv.lt _ hj).1; have h2 := h.lt.1; omega
  have hown : OwnS (w'.setCell ⟨fb, 3, none⟩ v') B 33 2 v' (F ++ [y]).length (el2 (.string ⟨#[]⟩) (F ++ [y])) := by
    rw [el2_append, List.length_append]
    exact ho.chg hc fun j hj e => by have h1 := (ho.lt _ hj).1; have h2 := h.lt.1; omega
  exact ⟨⟨hown, h.os.chg hall (hno h.os (by decide)), h.op.chg hall (hno h.op (by decide)), hset, hall.row h.rs (fun e => e.elim (hn _ h.lt.2.1) (Ne.symm h.ne.1)), hall.row h.rp (fun e => e.elim (hn _ h.lt.2.2) (Ne.symm h.ne.2.1)), h.lt, h.ne⟩, hall⟩
theorem OrdM.keepS (h : OrdM B fb sb pb w vF vS vQ F S Q) : ∀ u, Chg (fun j => vS.ownBlock = some j) w u → u.cell? ⟨sb, 4, none⟩ = some vS ∧ u.frozen? ⟨sb, 4, none⟩ = false := by
  intro u hu
  have hn : ¬ vS.ownBlock = some sb := fun e => by have h1 := (h.os.lt _ e).1; have h2 := h.lt.2.1; omega
  have hr := hu.row h.rs hn
  exact ⟨by simp [World.cell?, hr], by simp [World.frozen?, hr]⟩
theorem OrdM.addS {y : List UInt8} (h : OrdM B fb sb pb w vF vS vQ F S Q) (ha : Chg (fun j => vS.ownBlock = some j) w w') (ho : OwnS w' B 35 2 v' (S.length + 1) (el2 (.int .i64 7) S ++ el2 (.int .i64 7) [y])) :
    OrdM B fb sb pb (w'.setCell ⟨sb, 4, none⟩ v') vF v' vQ F (S ++ [y]) Q ∧ Chg (fun j => vS.ownBlock = some j ∨ j = sb) w (w'.setCell ⟨sb, 4, none⟩ v') := by
  have hn : ∀ j, j < B → ¬ vS.ownBlock = some j := fun j hj e => by have h1 := (h.os.lt _ e).1; omega
  have hl := h.lt
  have hc : Chg (fun j => j = sb) w' (w'.setCell ⟨sb, 4, none⟩ v') := Chg.setCell w' _ _ (by simp)
  have hall := (ha.mono fun j _ e => Or.inl (b := j = sb) e).trans hc (fun j _ e => .inr e)
  have hset := setCell_row (ha.row h.rs (hn _ h.lt.2.1)) 4 v'
  simp at hset
  have hno : ∀ {v : Value} {e : TypeId} {n : Nat} {xs : List Value}, OwnS w B e 2 v n xs → e ≠ 35 → ∀ j, v.ownBlock = some j → ¬ (vS.ownBlock = some j ∨ j = sb) := by
    intro v e n xs hv he j hj hh
    rcases hh with hh | hh
    · exact own_apart h.os hv (Ne.symm he) j hj hh
    · have h1 := (hv.lt _ hj).1; have h2 := h.lt.2.1; omega
  have hown : OwnS (w'.setCell ⟨sb, 4, none⟩ v') B 35 2 v' (S ++ [y]).length (el2 (.int .i64 7) (S ++ [y])) := by
    rw [el2_append, List.length_append]
    exact ho.chg hc fun j hj e => by have h1 := (ho.lt _ hj).1; have h2 := h.lt.2.1; omega
  exact ⟨⟨h.of.chg hall (hno h.of (by decide)), hown, h.op.chg hall (hno h.op (by decide)), hall.row h.rf (fun e => e.elim (hn _ h.lt.1) (h.ne.1)), hset, hall.row h.rp (fun e => e.elim (hn _ h.lt.2.2) (Ne.symm h.ne.2.2)), h.lt, h.ne⟩, hall⟩
theorem OrdM.keepQ (h : OrdM B fb sb pb w vF vS vQ F S Q) : ∀ u, Chg (fun j => vQ.ownBlock = some j) w u → u.cell? ⟨pb, 5, none⟩ = some vQ ∧ u.frozen? ⟨pb, 5, none⟩ = false := by
  intro u hu
  have hn : ¬ vQ.ownBlock = some pb := fun e => by have h1 := (h.op.lt _ e).1; have h2 := h.lt.2.2; omega
  have hr := hu.row h.rp hn
  exact ⟨by simp [World.cell?, hr], by simp [World.frozen?, hr]⟩
theorem OrdM.addQ {y : List UInt8} (h : OrdM B fb sb pb w vF vS vQ F S Q) (ha : Chg (fun j => vQ.ownBlock = some j) w w') (ho : OwnS w' B 38 2 v' (Q.length + 1) (el2 (.complex .f64 0 0) Q ++ el2 (.complex .f64 0 0) [y])) :
    OrdM B fb sb pb (w'.setCell ⟨pb, 5, none⟩ v') vF vS v' F S (Q ++ [y]) ∧ Chg (fun j => vQ.ownBlock = some j ∨ j = pb) w (w'.setCell ⟨pb, 5, none⟩ v') := by
  have hn : ∀ j, j < B → ¬ vQ.ownBlock = some j := fun j hj e => by have h1 := (h.op.lt _ e).1; omega
  have hl := h.lt
  have hc : Chg (fun j => j = pb) w' (w'.setCell ⟨pb, 5, none⟩ v') := Chg.setCell w' _ _ (by simp)
  have hall := (ha.mono fun j _ e => Or.inl (b := j = pb) e).trans hc (fun j _ e => .inr e)
  have hset := setCell_row (ha.row h.rp (hn _ h.lt.2.2)) 5 v'
  simp at hset
  have hno : ∀ {v : Value} {e : TypeId} {n : Nat} {xs : List Value}, OwnS w B e 2 v n xs → e ≠ 38 → ∀ j, v.ownBlock = some j → ¬ (vQ.ownBlock = some j ∨ j = pb) := by
    intro v e n xs hv he j hj hh
    rcases hh with hh | hh
    · exact own_apart h.op hv (Ne.symm he) j hj hh
    · have h1 := (hv.lt _ hj).1; have h2 := h.lt.2.2; omega
  have hown : OwnS (w'.setCell ⟨pb, 5, none⟩ v') B 38 2 v' (Q ++ [y]).length (el2 (.complex .f64 0 0) (Q ++ [y])) := by
    rw [el2_append, List.length_append]
    exact ho.chg hc fun j hj e => by have h1 := (ho.lt _ hj).1; have h2 := h.lt.2.2; omega
  exact ⟨⟨h.of.chg hall (hno h.of (by decide)), h.os.chg hall (hno h.os (by decide)), hown, hall.row h.rf (fun e => e.elim (hn _ h.lt.1) (h.ne.2.1)), hall.row h.rs (fun e => e.elim (hn _ h.lt.2.1) (h.ne.2.2)), hset, h.lt, h.ne⟩, hall⟩
end
end Go.Proofs.Ytblmnaejkdkndaa
