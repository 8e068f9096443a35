/- The program's disk and the document's, side by side. -/
import Derived.Test.YtadnabgnbhpijaaDRefRen
import Derived.Test.YtadnabgnbhpijaaDRefCrash
import Derived.Test.YtadnabgnbhpijaaDiskTold
set_option linter.unusedSimpArgs false
set_option linter.unusedVariables false
namespace Go.Proofs.Ytadnabgnbhpijaa
open Go.RowKit Go.Maps
section
variable {S T X : Nat → Prop} {w w' w0 : World} {db xb r rr : Nat} {D Dr : Files0} {d dr : Bool} {name : List UInt8}
theorem DiskAt.lt (h : DiskAt S w db D r d) : DiskAt (fun k => S k ∧ k < w.heap.size) w db D r d := by
  obtain ⟨mb, E, hd, rfl⟩ := h
  exact ⟨mb, E, ⟨⟨hd.sd, row_lt hd.row⟩, ⟨hd.sm, hd.map.lt⟩, hd.row, hd.map, ⟨fun p hp => ⟨⟨(hd.files.at_ p hp).fb, row_lt (hd.files.at_ p hp).row⟩, (hd.files.at_ p hp).row, (hd.files.at_ p hp).own, fun k hk => ⟨(hd.files.at_ p hp).ob k hk, ((hd.files.at_ p hp).own.lt k hk).2⟩, (hd.files.at_ p hp).le⟩, hd.files.apart⟩, hd.room_le, hd.used_le⟩, rfl⟩
theorem DiskAt.keep3 (h : DiskAt S w db D r d) (hc : Chg T w w') (hn : ∀ k, S k → ¬ T k) : DiskAt S w' db D r d := by
  obtain ⟨mb, E, hd, rfl⟩ := h
  exact ⟨mb, E, hd.keep hc hn, rfl⟩
/-- block db is the program's disk with D, block xb the document's with Dr; X's blocks are others; nothing else behind w0 has changed -/
def BothD (X : Nat → Prop) (w0 w : World) (db xb : Nat) (D : Files0) (r : Nat) (d : Bool) (Dr : Files0) (rr : Nat) (dr : Bool) : Prop :=
  ∃ S1 S2 : Nat → Prop, (∀ k, S1 k → ¬ S2 k) ∧ (∀ k, S1 k → w0.heap.size ≤ k ∧ k < w.heap.size) ∧ (∀ k, S2 k → w0.heap.size ≤ k ∧ k < w.heap.size) ∧ DiskAt S1 w db D r d ∧ DRef S2 w xb Dr rr dr ∧ Below w0.heap.size w0 w ∧ ∀ k, X k → w0.heap.size ≤ k ∧ k < w.heap.size ∧ ¬ S1 k ∧ ¬ S2 k
/-- X's blocks are as they were -/
def KpD (X : Nat → Prop) (w w' : World) : Prop := ∀ k, X k → w'.heap[k]? = w.heap[k]?
theorem KpD.cell {a : Addr} (h : KpD X w w') (ha : X a.block) : w'.cell? a = w.cell? a := World.cell?_of_block (w := w) (h _ ha)
theorem KpD.frozen {a : Addr} (h : KpD X w w') (ha : X a.block) : w'.frozen? a = w.frozen? a := World.frozen?_of_block (w := w) (h _ ha)
theorem KpD.trans {a b c : World} (h : KpD X a b) (k : KpD X b c) : KpD X a c := fun i hi => (k i hi).trans (h i hi)
theorem BothD.base (h : BothD X w0 w db xb D r d Dr rr dr) : Below w0.heap.size w0 w := by obtain ⟨S1, S2, h1, h2, h3, h4, h5, h6, h7⟩ := h; exact h6
theorem BothD.grow (h : BothD X w0 w db xb D r d Dr rr dr) (hb : Below w.heap.size w w') : BothD X w0 w' db xb D r d Dr rr dr := by
  obtain ⟨S1, S2, h1, h2, h3, h4, h5, h6, h7⟩ := h
  have := hb.size
  exact ⟨S1, S2, h1, fun k hk => ⟨(h2 k hk).1, by have := (h2 k hk).2; omega⟩, fun k hk => ⟨(h3 k hk).1, by have := (h3 k hk).2; omega⟩, h4.below hb, h5.below hb, h6.trans (hb.mono h6.size), fun k hk => ⟨(h7 k hk).1, by have := (h7 k hk).2.1; omega, (h7 k hk).2.2⟩⟩
theorem BothD.with (h : BothD X w0 w db xb D r d Dr rr dr) (hb : Below w.heap.size w w') (hlt : w.heap.size < w'.heap.size) : BothD (fun k => X k ∨ k = w.heap.size) w0 w' db xb D r d Dr rr dr := by
  obtain ⟨S1, S2, h1, h2, h3, h4, h5, h6, h7⟩ := h
  have hs0 := h6.size
  refine ⟨S1, S2, h1, fun k hk => ⟨(h2 k hk).1, by have := (h2 k hk).2; omega⟩, fun k hk => ⟨(h3 k hk).1, by have := (h3 k hk).2; omega⟩, h4.below hb, h5.below hb, h6.trans (hb.mono h6.size), fun k hk => ?_⟩
  rcases hk with hk | rfl
  · exact ⟨(h7 k hk).1, by have := (h7 k hk).2.1; omega, (h7 k hk).2.2⟩
  · exact ⟨hs0, hlt, fun hx => by have := (h2 _ hx).2; omega, fun hx => by have := (h3 _ hx).2; omega⟩
theorem BothD.less {Y : Nat → Prop} (h : BothD X w0 w db xb D r d Dr rr dr) (hY : ∀ k, Y k → X k) : BothD Y w0 w db xb D r d Dr rr dr := by
  obtain ⟨S1, S2, h1, h2, h3, h4, h5, h6, h7⟩ := h
  exact ⟨S1, S2, h1, h2, h3, h4, h5, h6, fun k hk => h7 k (hY k hk)⟩
theorem BothD.poke (h : BothD X w0 w db xb D r d Dr rr dr) (hc : Chg X w w') : BothD X w0 w' db xb D r d Dr rr dr := by
  obtain ⟨S1, S2, h1, h2, h3, h4, h5, h6, h7⟩ := h
  have := hc.size
  exact ⟨S1, S2, h1, fun k hk => ⟨(h2 k hk).1, by have := (h2 k hk).2; omega⟩, fun k hk => ⟨(h3 k hk).1, by have := (h3 k hk).2; omega⟩, h4.keep3 hc fun k hk hx => (h7 k hx).2.2.1 hk, h5.keep hc fun k hk hx => (h7 k hx).2.2.2 hk, h6.trans (hc.below h6.size fun k hk => (h7 k hk).1), fun k hk => ⟨(h7 k hk).1, by have := (h7 k hk).2.1; omega, (h7 k hk).2.2⟩⟩
/-- what a call on the program's disk leaves -/
def LeavesP (X : Nat → Prop) (w0 w : World) (db xb : Nat) (D' : Files0) (r' : Nat) (d' : Bool) (Dr : Files0) (rr : Nat) (dr : Bool) (w' : World) : Prop := BothD X w0 w' db xb D' r' d' Dr rr dr ∧ KpD X w w'
theorem BothD.prog {D' : Files0} {r' : Nat} {d' : Bool} {F : Ending → Prop} {f : Nat} {args : Array Value} (h : BothD X w0 w db xb D r d Dr rr dr)
    (hc : ∀ S, DiskAt S w db D r d → Calls Try.prog f args w fun e w' => F e ∧ DiskTo S w w' db D' r' d') : Calls Try.prog f args w fun e w' => F e ∧ LeavesP X w0 w db xb D' r' d' Dr rr dr w' := by
  obtain ⟨S1, S2, h1, h2, h3, h4, h5, h6, h7⟩ := h
  refine (hc S1 h4).mono fun e w' ⟨hF, hd, hch⟩ => ⟨hF, ?_⟩
  have hs := hch.size
  have h0 := h6.size
  refine ⟨⟨fun k => Up S1 w k ∧ k < w'.heap.size, S2, fun k hk hx => ?_, fun k hk => ⟨?_, hk.2⟩, fun k hk => ⟨(h3 k hk).1, by have := (h3 k hk).2; omega⟩, hd.lt, h5.keep hch fun k hk hx => h1 k hx hk, h6.trans (hch.below h0 fun k hk => (h2 k hk).1), fun k hk => ⟨(h7 k hk).1, by have := (h7 k hk).2.1; omega, fun hx => ?_, (h7 k hk).2.2.2⟩⟩, fun k hk => hch.block k (h7 k hk).2.1 (h7 k hk).2.2.1⟩
  · rcases hk.1 with h | h
    · exact h1 k h hx
    · have := (h3 k hx).2; omega
  · rcases hk.1 with h | h
    · exact (h2 k h).1
    · omega
  · rcases hx.1 with h | h
    · exact (h7 k hk).2.2.1 h
    · have := (h7 k hk).2.1; omega
theorem BothD.doc {D' : Files0} {r' : Nat} {d' : Bool} {F : Ending → Prop} {f : Nat} {args : Array Value} (h : BothD X w0 w db xb D r d Dr rr dr)
    (hc : ∀ S, DRef S w xb Dr rr dr → Calls Try.prog f args w fun e w' => F e ∧ DRef (Up S w) w' xb D' r' d' ∧ Chg S w w') : Calls Try.prog f args w fun e w' => F e ∧ LeavesP X w0 w db xb D r d D' r' d' w' := by
  obtain ⟨S1, S2, h1, h2, h3, h4, h5, h6, h7⟩ := h
  refine (hc S2 h5).mono fun e w' ⟨hF, hd, hch⟩ => ⟨hF, ?_⟩
  have hs := hch.size
  have h0 := h6.size
  refine ⟨⟨S1, fun k => Up S2 w k ∧ k < w'.heap.size, fun k hk hx => ?_, fun k hk => ⟨(h2 k hk).1, by have := (h2 k hk).2; omega⟩, fun k hk => ⟨?_, hk.2⟩, h4.keep3 hch fun k hk hx => h1 k hk hx, hd.lt, h6.trans (hch.below h0 fun k hk => (h3 k hk).1), fun k hk => ⟨(h7 k hk).1, by have := (h7 k hk).2.1; omega, (h7 k hk).2.2.1, fun hx => ?_⟩⟩, fun k hk => hch.block k (h7 k hk).2.1 (h7 k hk).2.2.2⟩
  · rcases hx.1 with h | h
    · exact h1 k hk h
    · have := (h2 k hk).2; omega
  · rcases hk.1 with h | h
    · exact (h3 k h).1
    · omega
  · rcases hx.1 with h | h
    · exact (h7 k hk).2.2.2 h
    · have := (h7 k hk).2.1; omega
/-- a call that reads the one disk or the other -/
theorem BothD.rdP {F : Ending → World → Prop} {f : Nat} {args : Array Value} (h : BothD X w0 w db xb D r d Dr rr dr) (hc : ∀ S, DiskAt S w db D r d → Calls Try.prog f args w F) : Calls Try.prog f args w F := by
  obtain ⟨S1, S2, h1, h2, h3, h4, h5, h6, h7⟩ := h; exact hc S1 h4
theorem BothD.rdD {F : Ending → World → Prop} {f : Nat} {args : Array Value} (h : BothD X w0 w db xb D r d Dr rr dr) (hc : ∀ S, DRef S w xb Dr rr dr → Calls Try.prog f args w F) : Calls Try.prog f args w F := by
  obtain ⟨S1, S2, h1, h2, h3, h4, h5, h6, h7⟩ := h; exact hc S2 h5
theorem BothD.good (h : BothD X w0 w db xb D r d Dr rr dr) : GoodD Dr := by obtain ⟨S1, S2, h1, h2, h3, h4, h5, h6, h7⟩ := h; exact h5.good
theorem BothD.doc_ (h : BothD X w0 w db xb D r d Dr rr dr) : ∃ S2, DRef S2 w xb Dr rr dr := by obtain ⟨S1, S2, h1, h2, h3, h4, h5, h6, h7⟩ := h; exact ⟨S2, h5⟩
end
/-- an op: kind, number, names, bytes, garbled -/
structure OpD where
  kind : Int
  n : Int
  name : List UInt8
  to_ : List UInt8
  b : List UInt8
  garble : Bool
def opDV (o : OpD) : Value := .agg #[.int .i64 o.kind, .int .i64 o.n, .string (str o.name), .string (str o.to_), .string (str o.b), .bool o.garble]
theorem OwnS.same {w w' : World} {base : Nat} {e : TypeId} {sz : Nat} {v : Value} {n : Nat} {xs : List Value} (h : OwnS w base e sz v n xs) (hk : ∀ k, v.ownBlock = some k → w'.heap[k]? = w.heap[k]?) : OwnS w' base e sz v n xs := by
  refine ⟨h.1, ?_⟩
  rcases h.2 with hn | ⟨g, cap, cur, fr, rfl, hb, hgg, rest⟩
  · exact .inl hn
  · exact .inr ⟨g, cap, cur, fr, rfl, hb, (hk g rfl).trans hgg, rest⟩
theorem tmod10 (k : Int) : -10 < k.tmod 10 ∧ k.tmod 10 < 10 := by
  rcases Int.le_total 0 k with h | h
  · rw [Int.tmod_eq_emod_of_nonneg h]; omega
  · have e : k.tmod 10 = -((-k).tmod 10) := by rw [Int.neg_tmod, Int.neg_neg]
    rw [e, Int.tmod_eq_emod_of_nonneg (by omega)]; omega
section
variable {w w0 : World} {db xb r : Nat} {D : Files0} {d : Bool}
def ActDoesD (w0 : World) (db xb : Nat) (D : Files0) (e : Ending) (w' : World) : Prop :=
  e = .returned (.bool true) ∧ ∃ D' r' d', BothD (fun _ => False) w0 w' db xb D' r' d' D' r' d' ∧ D'.length ≤ D.length + 1
theorem appendD_len (name b : List UInt8) (D : Files0) (r : Nat) (d : Bool) : (appendD name b D r d).1.length ≤ D.length + 1 := by
  unfold appendD
  split
  · simp
  · split
    · split
      · split
        · exact len_kPut _ _ _
        · rw [kSet_len]; omega
      · simp
    · simp
theorem syncD_len (name : List UInt8) (D : Files0) (d : Bool) : (syncD name D d).1.length ≤ D.length + 1 := by
  unfold syncD
  split
  · simp
  · split
    · simp
    · rw [kSet_len]; omega
theorem cutD_len (name : List UInt8) (n : Int) (D : Files0) (d : Bool) : (cutD name n D d).1.length ≤ D.length + 1 := by
  unfold cutD
  split
  · simp
  · split
    · simp
    · split
      · simp
      · rw [kSet_len]; omega
theorem deleteD_len (name : List UInt8) (D : Files0) (d : Bool) : (deleteD name D d).1.length ≤ D.length + 1 := by
  unfold deleteD
  split
  · simp
  · split
    · simp
    · have := len_kDel name D; simp only; omega
theorem renameD_len (name to_ : List UInt8) (D : Files0) (d : Bool) : (renameD name to_ D d).1.length ≤ D.length + 1 := by
  unfold renameD
  split
  · simp
  · split
    · simp
    · split
      · have h1 := len_kDel name D
        rename_i f _ _
        have h2 := len_kPut to_ f (kDel name D)
        simp only; omega
      · simp
set_option maxHeartbeats 4000000 in
set_option maxRecDepth 20000 in
theorem actD_any (h : BothD (fun _ => False) w0 w db xb D r d D r d) (o : OpD) (hn : -9223372036854775808 ≤ o.n ∧ o.n ≤ 9223372036854775807) (hl : o.name.length ≤ 100) (hl2 : o.to_.length ≤ 100) (hb : o.b.length ≤ 2000) (hm : D.length ≤ 1000) :
    Calls Try.prog 36 #[.pointer (some ⟨db, 0, none⟩), .pointer (some ⟨xb, 0, none⟩), opDV o] w (ActDoesD w0 db xb D) := by
  obtain ⟨kind, n, name, to_, b, garble⟩ := o
  simp only [opDV] at *
  have hlm : name.length ≤ maxLen := by unfold maxLen; omega
  have hlm2 : to_.length ≤ maxLen := by unfold maxLen; omega
  have HLM := Lib.hid hlm
  have HLM2 := Lib.hid hlm2
  obtain ⟨hq1, hq2⟩ := tmod10 kind
  obtain ⟨q, hq, hq10⟩ : ∃ q : Nat, (kind.tmod 10 + 10).tmod 10 = (q : Int) ∧ q < 10 := by
    refine ⟨((kind.tmod 10 + 10) % 10).toNat, ?_, ?_⟩
    · rw [Int.tmod_eq_emod_of_nonneg (by omega)]; omega
    · omega
  have hwq : IntKind.i64.wrap (kind.tmod 10 + 10) = kind.tmod 10 + 10 := IntWalk.i64_in _ (by omega)
  obtain ⟨wB, hwB⟩ : ∃ v, v = w.alloc (.cells #[.int .i64 kind, .int .i64 n, .string (str name), .string (str to_), .string (str b), .bool garble] 57) := ⟨_, rfl⟩
  have hB := h.with (w' := wB) (by rw [hwB]; exact (Below.refl _ _).alloc (Nat.le_refl _) _) (by rw [hwB]; simp)
  have hbx : wB.heap[w.heap.size]? = some (.cells #[.int .i64 kind, .int .i64 n, .string (str name), .string (str to_), .string (str b), .bool garble] 57 (0, 0)) := by rw [hwB]; exact heap_alloc_new w _
  obtain ⟨bx, hbxe⟩ : ∃ bx, bx = w.heap.size := ⟨_, rfl⟩
  rw [← hbxe] at hB hbx
  have hk : ∀ u, KpD (fun k => False ∨ k = bx) wB u → u.cell? ⟨bx, 0, none⟩ = some (.int .i64 kind) ∧ u.cell? ⟨bx, 1, none⟩ = some (.int .i64 n) ∧ u.cell? ⟨bx, 2, none⟩ = some (.string (str name)) ∧ u.cell? ⟨bx, 3, none⟩ = some (.string (str to_)) ∧ u.cell? ⟨bx, 4, none⟩ = some (.string (str b)) ∧ u.cell? ⟨bx, 5, none⟩ = some (.bool garble) := fun u hu => by
    refine ⟨?_, ?_, ?_, ?_, ?_, ?_⟩ <;> (rw [hu.cell (.inr rfl)]; simp [World.cell?, hbx])
  have HK := Lib.hid hk
  have HH := Lib.hid hB
  have HD := Lib.hid (hB.grow (Below.refl _ _).drew)
  have HWB := Lib.hid hwB
  have HBX := Lib.hid hbxe
  obtain ⟨c0, c1, c2, c3, c4, c5⟩ := hk wB (fun _ _ => rfl)
  clear h hB hbx hwB hk hq1 hq2 hbxe
  have hcase : q = 0 ∨ q = 1 ∨ q = 2 ∨ q = 3 ∨ q = 4 ∨ q = 5 ∨ q = 6 ∨ q = 7 ∨ q = 8 ∨ q = 9 := by omega
  rcases hcase with rfl | rfl | rfl | rfl | rfl | rfl | rfl | rfl | rfl | rfl
  case inr.inr.inr.inl =>
    go_enter Try.func36, Try.ntmps36
    go_upto_region 14 with (fail)
    rw [← HWB.out, ← HBX.out]
    go_region_held3 (fun u => u.cell? ⟨bx, 2, none⟩ = some (.string (str name))) ((first | exact (HK.out _ hk3).2.2.1 | exact (HK.out _ hk2).2.2.1 | exact (HK.out _ (fun _ _ => rfl)).2.2.1))
      (first
      | (go_at_call 15; refine (HD.out.prog fun S hS => sync_any hS name HLM.out).mono ?_; rintro e w2 ⟨rfl, hB2, hk2⟩; have HB2 := Lib.hid hB2; clear hB2)
      | (go_at_call 54; refine (HB2.out.doc fun S hS => rsync_any hS HLM.out (by omega)).mono ?_; rintro e w3 ⟨rfl, hB3, hk3'⟩; have hk3 := KpD.trans hk2 hk3'; have HB3 := Lib.hid hB3; clear hB3))
    go_wp2_with fail
    go_ret
    exact ⟨rfl, _, _, _, HB3.out.less (fun _ h => h.elim), syncD_len _ _ _⟩
  case inr.inr.inr.inr.inl =>
    go_enter Try.func36, Try.ntmps36
    go_upto_region 16 with (fail)
    rw [← HWB.out, ← HBX.out]
    go_region_held3 (fun u => u.cell? ⟨bx, 1, none⟩ = some (.int .i64 n) ∧ u.cell? ⟨bx, 2, none⟩ = some (.string (str name))) ((first | exact ⟨(HK.out _ hk3).2.1, (HK.out _ hk3).2.2.1⟩ | exact ⟨(HK.out _ hk2).2.1, (HK.out _ hk2).2.2.1⟩ | exact ⟨(HK.out _ (fun _ _ => rfl)).2.1, (HK.out _ (fun _ _ => rfl)).2.2.1⟩))
      (first
      | (go_at_call 55; refine (HD.out.prog fun S hS => cut_any hS name n HLM.out).mono ?_; rintro e w2 ⟨rfl, hB2, hk2⟩; have HB2 := Lib.hid hB2; clear hB2)
      | (go_at_call 56; refine (HB2.out.doc fun S hS => rcut_any hS n HLM.out (by omega)).mono ?_; rintro e w3 ⟨rfl, hB3, hk3'⟩; have hk3 := KpD.trans hk2 hk3'; have HB3 := Lib.hid hB3; clear hB3))
    go_wp2_with fail
    go_ret
    exact ⟨rfl, _, _, _, HB3.out.less (fun _ h => h.elim), cutD_len _ _ _ _⟩
  case inr.inr.inr.inr.inr.inl =>
    go_enter Try.func36, Try.ntmps36
    go_upto_region 18 with (fail)
    rw [← HWB.out, ← HBX.out]
    go_region_held3 (fun u => u.cell? ⟨bx, 2, none⟩ = some (.string (str name)) ∧ u.cell? ⟨bx, 3, none⟩ = some (.string (str to_))) ((first | exact ⟨(HK.out _ hk3).2.2.1, (HK.out _ hk3).2.2.2.1⟩ | exact ⟨(HK.out _ hk2).2.2.1, (HK.out _ hk2).2.2.2.1⟩ | exact ⟨(HK.out _ (fun _ _ => rfl)).2.2.1, (HK.out _ (fun _ _ => rfl)).2.2.2.1⟩))
      (first
      | (go_at_call 23; refine (HD.out.prog fun S hS => rename_any hS (by omega) name to_ HLM.out HLM2.out).mono ?_; rintro e w2 ⟨rfl, hB2, hk2⟩; have HB2 := Lib.hid hB2; clear hB2)
      | (go_at_call 57; refine (HB2.out.doc fun S hS => rrename_any hS HLM.out HLM2.out (by omega)).mono ?_; rintro e w3 ⟨rfl, hB3, hk3'⟩; have hk3 := KpD.trans hk2 hk3'; have HB3 := Lib.hid hB3; clear hB3))
    go_wp2_with fail
    go_ret
    exact ⟨rfl, _, _, _, HB3.out.less (fun _ h => h.elim), renameD_len _ _ _ _⟩
  case inr.inr.inr.inr.inr.inr.inl =>
    go_enter Try.func36, Try.ntmps36
    go_upto_region 20 with (fail)
    rw [← HWB.out, ← HBX.out]
    go_region_held3 (fun u => u.cell? ⟨bx, 2, none⟩ = some (.string (str name))) ((first | exact (HK.out _ hk3).2.2.1 | exact (HK.out _ hk2).2.2.1 | exact (HK.out _ (fun _ _ => rfl)).2.2.1))
      (first
      | (go_at_call 24; refine (HD.out.prog fun S hS => delete_any hS name HLM.out).mono ?_; rintro e w2 ⟨rfl, hB2, hk2⟩; have HB2 := Lib.hid hB2; clear hB2)
      | (go_at_call 58; refine (HB2.out.doc fun S hS => rdelete_any hS HLM.out (by omega)).mono ?_; rintro e w3 ⟨rfl, hB3, hk3'⟩; have hk3 := KpD.trans hk2 hk3'; have HB3 := Lib.hid hB3; clear hB3))
    go_wp2_with fail
    go_ret
    exact ⟨rfl, _, _, _, HB3.out.less (fun _ h => h.elim), deleteD_len _ _ _⟩
  case inr.inr.inr.inr.inr.inr.inr.inl =>
    go_enter Try.func36, Try.ntmps36
    go_upto_region 22 with (fail)
    rw [← HWB.out, ← HBX.out]
    go_wp2_with fail
    go_fit (HH.out.prog fun S hS => room_any hS n)
    rintro e w2 ⟨rfl, hB2, hk2⟩
    obtain ⟨x0, x1, x2, x3, x4, x5⟩ := HK.out _ hk2
    have HB2 := Lib.hid hB2
    clear hB2 hk2 c0 c1 c2 c3 c4 c5
    go_wp2_with fail
    go_fit (HB2.out.doc fun S hS => rroom_any hS n)
    rintro e w3 ⟨rfl, hB3, hk3⟩
    have HB3 := Lib.hid hB3
    clear hB3 hk3
    go_wp2_with fail
    go_ret
    exact ⟨rfl, _, _, _, HB3.out.less (fun _ h => h.elim), by omega⟩
  case inr.inr.inr.inr.inr.inr.inr.inr.inl =>
    go_enter Try.func36, Try.ntmps36
    go_upto_region 25 with (fail)
    rw [← HWB.out, ← HBX.out]
    go_wp2_with fail
    go_fit (HH.out.prog fun S hS => crash_any hS n garble hn)
    rintro e w2 ⟨rfl, hB2, hk2⟩
    obtain ⟨x0, x1, x2, x3, x4, x5⟩ := HK.out _ hk2
    have HB2 := Lib.hid hB2
    clear hB2 hk2 c0 c1 c2 c3 c4 c5
    go_wp2_with fail
    go_fit (HB2.out.doc fun S hS => rcrash_any hS n garble hn (by omega))
    rintro e w3 ⟨rfl, hB3, hk3⟩
    have HB3 := Lib.hid hB3
    clear hB3 hk3
    go_wp2_with fail
    go_ret
    exact ⟨rfl, _, _, _, HB3.out.less (fun _ h => h.elim), by split <;> (try rw [kMap_len]) <;> omega⟩
  case inr.inr.inr.inr.inr.inr.inr.inr.inr =>
    cases d
    all_goals
      go_enter Try.func36, Try.ntmps36
      go_upto_region 2 with (fail)
      rw [← HWB.out, ← HBX.out]
      go_wp2_with (first
        | (go_at_call 17; refine (HH.out.prog fun S hS => start_any hS).mono ?_; rintro e w2 ⟨rfl, hB2, hk2⟩; have HB2 := Lib.hid hB2; clear hB2)
        | (go_at_call 61; refine (HB2.out.doc fun S hS => rstart_any hS).mono ?_; rintro e w3 ⟨rfl, hB3, hk3⟩; have HB3 := Lib.hid hB3; clear hB3))
      go_ret
      exact ⟨rfl, _, _, _, HB3.out.less (fun _ h => h.elim), Nat.le_succ _⟩
  case inl | inr.inl | inr.inr.inl =>
    go_enter Try.func36, Try.ntmps36
    go_upto_region 6 with (fail)
    rw [← HWB.out, ← HBX.out]
    go_upto_region 7 with (first | ((with_reducible refine L_s2b isS slB isB wB.heap.size (l := b) ?_ ?_ ?_ ?_); (focus rfl); (focus rfl); (focus exact ⟨room1 (by omega), Nat.le_refl _⟩); intro cap7 w7 ho7 hb7; have HO7 := Lib.hid ho7; clear ho7; simp only [Act.put, List.setIfInBounds_toArray, List.set_cons_zero, List.set_cons_succ]) | fail)
    obtain ⟨g, hg⟩ : ∃ g, g = wB.heap.size := ⟨_, rfl⟩
    have hlt7 : wB.heap.size < w7.heap.size := (HO7.out.lt _ rfl).2
    have hB7 := HH.out.with hb7 hlt7
    have hk7 : KpD (fun k => False ∨ k = bx) wB w7 := fun k hk => by
      obtain ⟨S1, S2, _, _, _, _, _, _, hx⟩ := HH.out
      exact hb7.block k (hx k hk).2.1
    have ho7 := HO7.out
    rw [← hg] at hB7 ho7 ⊢
    have HB7 := Lib.hid (hB7.grow (Below.refl _ _).drew)
    have HO := Lib.hid ho7
    have HRD := Lib.hid (show Rd8 w7.drew (some ⟨g, 0, none⟩) b from ho7.txt.2.1)
    have HK7 := Lib.hid hk7
    have kx : ∀ u, KpD (fun k => (False ∨ k = bx) ∨ k = g) w7.drew u → KpD (fun k => False ∨ k = bx) wB u := fun u hu k hk => (hu k (.inl hk)).trans (HK7.out k hk)
    have KX := Lib.hid kx
    clear HO7 hb7 hg hlt7 hB7 hk7 ho7 kx c0 c1 c2 c3 c4 c5
    go_region_held3 (fun u => u.cell? ⟨bx, 2, none⟩ = some (.string (str name)) ∧ u.cell? ⟨bx, 4, none⟩ = some (.string (str b))) ((first | exact ⟨(HK.out _ (KX.out _ hk3)).2.2.1, (HK.out _ (KX.out _ hk3)).2.2.2.2.1⟩ | exact ⟨(HK.out _ (KX.out _ hk2)).2.2.1, (HK.out _ (KX.out _ hk2)).2.2.2.2.1⟩ | exact ⟨(HK.out _ (KX.out _ (fun _ _ => rfl))).2.2.1, (HK.out _ (KX.out _ (fun _ _ => rfl))).2.2.2.2.1⟩))
      (first
      | (go_at_call 14; refine (HB7.out.prog fun S hS => append_any hS (by omega) name b HLM.out HRD.out (by omega)).mono ?_; rintro e w2 ⟨rfl, hB2, hk2⟩; have HB2 := Lib.hid hB2; clear hB2)
      | (go_at_call 53; refine (HB2.out.doc fun S hS => rappend_any hS HLM.out (by omega) b (by omega)).mono ?_; rintro e w3 ⟨rfl, hB3, hk3'⟩; have hk3 := KpD.trans hk2 hk3'; have HB3 := Lib.hid hB3; clear hB3))
    have ho3 : OwnS w3 g 5 1 (.slice (some ⟨g, 0, none⟩) b.length cap7) b.length (by8 b) := HO.out.same (w := w7) fun k hk => by cases hk; exact hk3 g (.inr rfl)
    have HO3 := Lib.hid ho3
    clear ho3 hk2 hk3 hk3'
    go_wp2_with fail
    go_loopw [9] (fun i wr => ∃ k, k ≤ b.length ∧ i = .int .i64 (k : Int) ∧ (∃ l : List UInt8, l.length = b.length ∧ OwnS wr g 5 1 (.slice (some ⟨g, 0, none⟩) b.length cap7) b.length (by8 l)) ∧ BothD (fun k => (False ∨ k = bx) ∨ k = g) w0 wr db xb (appendD name b D r d).1 r d (appendD name b D r d).1 r d) (fun i _ => b.length - (intOf i).toNat)
    case atStart => exact ⟨0, Nat.zero_le _, rfl, ⟨b, rfl, HO3.out⟩, HB3.out⟩
    case round =>
      obtain ⟨k, hk, rfl, ⟨l, hll, hol⟩, hBr⟩ := hrel
      have HOL := Lib.hid hol
      have HBR := Lib.hid hBr
      clear hol hBr HO3 HB3
      by_cases hkl : k < b.length
      · obtain ⟨e1, y1⟩ := HOL.out.get (j := k) (by rw [by8_len]; omega)
        simp only [by8, List.getElem_map] at e1
        have hset := HOL.out.set (j := k) (by rw [by8_len]; omega) (.int .u8 ((l[k] + 1).toNat : Int))
        rw [by8_set] at hset
        have hx : ((l[k].toNat : Int) + 1) % 256 = ((l[k] + 1).toNat : Int) := by
          have : (l[k] + 1).toNat = (l[k].toNat + 1) % 256 := by simp [UInt8.toNat_add]
          rw [this]; omega
        have hx2 : IntKind.u8.wrap ((l[k].toNat : Int) + 1) = ((l[k] + 1).toNat : Int) := by rw [← hx]; rfl
        obtain ⟨c2, hc2⟩ : ∃ c2, c2 = l[k] + 1 := ⟨_, rfl⟩
        rw [← hc2] at hset hx hx2
        clear hc2
        generalize l[k] = c at *
        have HSET := Lib.hid hset
        have k0 : (0 : Int) ≤ (k : Int) := by omega
        have k1 : (k : Int) < (b.length : Int) := by omega
        clear hset
        go_wp2_with fail
        exact ⟨⟨k + 1, by omega, by go_num, ⟨_, by rw [List.length_set]; exact hll, HSET.out⟩, HBR.out.poke (Chg.setCell (S := fun k => (False ∨ k = bx) ∨ k = g) wr ⟨g, k, none⟩ _ (.inr rfl))⟩, by simp [intOf]; omega⟩
      · obtain rfl : k = b.length := by omega
        go_wp2_with fail
        go_ret
        exact ⟨by simp, _, _, _, HBR.out.less (fun _ h => h.elim), appendD_len _ _ _ _ _⟩
end
end Go.Proofs.Ytadnabgnbhpijaa
