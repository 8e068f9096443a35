/- The walk over Disk.Crash: each file loses its end, in whatever order the map tells them. -/
import Derived.Test.YtadnabgnbhpijaaDiskPlain
import Derived.Test.YtadnabgnbhpijaaDiskOps
import Derived.Lib.MinMax
set_option linter.unusedSimpArgs false
set_option linter.unusedVariables false
namespace Go.Proofs.Ytadnabgnbhpijaa
open Go.RowKit Go.Maps

/-- how many bytes stay -/
def keepN (keep : Int) (f : FileV) : Nat := f.sync + (min (max keep 0) ((f.b.length : Int) - f.sync)).toNat
def fromN (keep : Int) (f : FileV) : Nat := max f.sync ((keepN keep f - 1) / 512 * 512)
def garb (from' n : Nat) (l : List UInt8) : List UInt8 := l.mapIdx fun i c => if decide (from' ≤ i) && decide (i < n) then c ^^^ 0xA5 else c
def cutV (n : Nat) : Value → Value
  | .slice p _ _ => .slice p n n
  | v => v
/-- a file in memory, behind a crash -/
def crashM (keep : Int) (garble : Bool) (x : FileM) : FileM := ⟨x.fb, cutV (keepN keep x.f) x.v, crashF keep garble x.f⟩
def crashL (keep : Int) (garble : Bool) (left : Lit → Bool) (E : List (List UInt8 × FileM)) : List (List UInt8 × FileM) := E.map fun p => if left (.string p.1) then p else (p.1, crashM keep garble p.2)

theorem garb_len (a n : Nat) (l : List UInt8) : (garb a n l).length = l.length := by simp [garb]
theorem garb_none (a n : Nat) (l : List UInt8) (h : n ≤ a) : garb a n l = l := by
  unfold garb
  apply List.ext_getElem
  · simp
  · intro i h1 h2
    rw [List.getElem_mapIdx]
    by_cases hi : a ≤ i
    · have : ¬ i < n := by omega
      simp [this]
    · simp [hi]
theorem garb_step (a n : Nat) (l : List UInt8) (h : a ≤ n) (hn : n < l.length) : (garb a n l).set n ((garb a n l)[n]'(by rw [garb_len]; exact hn) ^^^ 0xA5) = garb a (n + 1) l := by
  unfold garb
  apply List.ext_getElem
  · simp
  · intro i h1 h2
    rw [List.getElem_set]
    simp only [List.getElem_mapIdx]
    split
    · rename_i e
      subst e
      simp [h]
    · rename_i e
      by_cases hi : i < n
      · have : i < n + 1 := by omega
        simp [hi, this]
      · have : ¬ i < n + 1 := by omega
        simp [hi, this]
theorem garb_at (a n : Nat) (l : List UInt8) (hn : n < l.length) : (garb a n l)[n]'(by rw [garb_len]; exact hn) = l[n] := by
  simp [garb]
theorem crashF_off (keep : Int) (garble : Bool) (f : FileV) (h : garble = false ∨ keepN keep f = 0) : crashF keep garble f = ⟨f.b.take (keepN keep f), keepN keep f⟩ := by
  unfold crashF
  simp only
  have e : f.sync + (min (max keep 0) ((f.b.length : Int) - f.sync)).toNat = keepN keep f := rfl
  rw [e]
  congr 1
  rcases h with h | h
  · subst h
    apply List.ext_getElem
    · simp
    · intro i h1 h2; simp
  · rw [h]; simp
theorem crashF_on (keep : Int) (f : FileV) (hle : keepN keep f ≤ f.b.length) : crashF keep true f = ⟨garb (fromN keep f) (keepN keep f) (f.b.take (keepN keep f)), keepN keep f⟩ := by
  unfold crashF garb
  simp only
  have e : f.sync + (min (max keep 0) ((f.b.length : Int) - f.sync)).toNat = keepN keep f := rfl
  rw [e]
  congr 1
  apply List.ext_getElem
  · simp
  · intro i h1 h2
    have hi : i < keepN keep f := by simp at h1; omega
    rw [List.getElem_mapIdx, List.getElem_mapIdx]
    by_cases hm : max f.sync ((keepN keep f - 1) / 512 * 512) ≤ i
    · simp [fromN, hi, hm]
    · simp [fromN, hi, hm]
theorem keepN_le (keep : Int) (f : FileV) (h : f.sync ≤ f.b.length) : f.sync ≤ keepN keep f ∧ keepN keep f ≤ f.b.length := by unfold keepN; omega
theorem crashF_len (keep : Int) (garble : Bool) (f : FileV) (h : f.sync ≤ f.b.length) : (crashF keep garble f).b.length = keepN keep f ∧ (crashF keep garble f).sync = keepN keep f := by
  have := keepN_le keep f h
  refine ⟨?_, rfl⟩
  show (List.mapIdx _ (f.b.take (keepN keep f))).length = _
  rw [List.length_mapIdx, List.length_take]; omega
theorem crashL_ptr (keep : Int) (garble : Bool) (left : Lit → Bool) (E : List (List UInt8 × FileM)) : kMap fptr (crashL keep garble left E) = kMap fptr E := by
  simp only [kMap, crashL, List.map_map]
  refine List.map_congr_left fun p _ => ?_
  simp only [Function.comp]
  split <;> rfl
theorem crashL_keys (keep : Int) (garble : Bool) (left : Lit → Bool) (E : List (List UInt8 × FileM)) : (crashL keep garble left E).map (·.1) = E.map (·.1) := by
  simp only [crashL, List.map_map]
  refine List.map_congr_left fun p _ => ?_
  simp only [Function.comp]
  split <;> rfl
theorem crashL_start (keep : Int) (garble : Bool) (E : List (List UInt8 × FileM)) (M : List (List UInt8 × Value)) (hs : Srt M) (hM : M = kMap fptr E) : crashL keep garble (Maps.has (mapD M)) E = E := by
  subst hM
  unfold crashL
  conv => rhs; rw [← List.map_id E]
  refine List.map_congr_left fun p hp => ?_
  have hm : (p.1, fptr p.2) ∈ kMap fptr E := List.mem_map_of_mem (f := fun p : List UInt8 × FileM => (p.1, fptr p.2)) hp
  rw [mapD_has, kGet_of_mem hs hm]; rfl
theorem crashL_end (keep : Int) (garble : Bool) (left : Lit → Bool) (E : List (List UInt8 × FileM)) (h : ∀ kl, left kl = false) : crashL keep garble left E = kMap (crashM keep garble) E := by
  unfold crashL kMap
  refine List.map_congr_left fun p hp => ?_
  rw [h, if_neg (by simp)]
theorem crashL_get (keep : Int) (garble : Bool) (left : Lit → Bool) {E : List (List UInt8 × FileM)} {k : List UInt8} {x : FileM} (h : kGet k E = some x) (hl : left (.string k) = true) : kGet k (crashL keep garble left E) = some x := by
  induction E with
  | nil => simp [kGet] at h
  | cons p r ih =>
    by_cases hp : p.1 = k
    · have e : p.2 = x := by simpa [kGet, List.find?_cons, hp] using h
      subst hp
      simp [crashL, kGet, List.find?_cons, hl, e]
    · have h' : kGet k r = some x := by simpa [kGet, List.find?_cons, hp] using h
      have ih := ih h'
      have hh : ((if left (.string p.1) then p else (p.1, crashM keep garble p.2)).1 == k) = false := by split <;> simpa using hp
      simp only [crashL, List.map_cons, kGet, List.find?_cons, hh]
      exact ih
theorem crashL_step (keep : Int) (garble : Bool) (left : Lit → Bool) {E : List (List UInt8 × FileM)} (hs : Srt E) {k : List UInt8} {x : FileM} (h : kGet k E = some x) (hl : left (.string k) = true) :
    crashL keep garble (fun z => left z && !z.sameKey (.string k)) E = kSet k (crashM keep garble x) (crashL keep garble left E) := by
  unfold crashL kSet
  rw [List.map_map]
  refine List.map_congr_left fun p hp => ?_
  simp only [Function.comp]
  by_cases e : p.1 = k
  · have hx := hs.inj hp (kGet_some h) e
    subst hx
    simp [Lit.sameKey, hl]
  · have hk : (Lit.string p.1).sameKey (.string k) = false := by simp [Lit.sameKey, e]
    by_cases hh : left (.string p.1) = true <;> simp [e, hk, hh]

section
variable {S T : Nat → Prop} {w w' : World} {db mb room : Nat} {down : Bool} {E : List (List UInt8 × FileM)} {x : FileM}
theorem DiskM.keepNot (h : DiskM S w db mb E room down) (hc : Chg T w w') (hn : ∀ k, T k → ∃ o, w.heap[k]? = some o ∧ (∀ c t f, o ≠ .cells c t f) ∧ (∀ e c, o ≠ .map e c)) : DiskM S w' db mb E room down := by
  have hcell : ∀ {k c t f}, w.heap[k]? = some (.cells c t f) → ¬ T k := fun {k c t f} hk ht => by
    obtain ⟨o, ho, h1, _⟩ := hn k ht
    rw [hk] at ho
    exact h1 _ _ _ (Option.some.inj ho).symm
  have hmap : ∀ {k e c}, w.heap[k]? = some (.map e c) → ¬ T k := fun {k e c} hk ht => by
    obtain ⟨o, ho, _, h1⟩ := hn k ht
    rw [hk] at ho
    exact h1 _ _ (Option.some.inj ho).symm
  obtain ⟨es, cl, hm⟩ := h.map.row
  exact ⟨h.sd, h.sm, hc.row h.row (hcell h.row), h.map.chg hc (hmap hm), h.files.chg hc fun p hp => ⟨hcell (h.files.at_ p hp).row, fun k hk => by
    obtain ⟨cur, fr, hr⟩ := (h.files.at_ p hp).own.rowOf hk
    exact hcell hr⟩, h.room_le, h.used_le⟩
theorem iter_obj {P : Program} {K : TypeId} {b r n cnt : Nat} {D : DataW Value} {left : Lit → Bool} (h : w.ranges P K heldE b r n D left cnt) : ∀ k, k = r → ∃ o, w.heap[k]? = some o ∧ (∀ c t f, o ≠ .cells c t f) ∧ (∀ e c, o ≠ .map e c) := by
  rintro k rfl
  obtain ⟨a, s, c, d, hr⟩ := ranges_iter h
  exact ⟨_, hr, by simp, by simp⟩
theorem usedD_crash (keep : Int) (garble : Bool) {y : FileM} {k : List UInt8} {E : List (List UInt8 × FileM)} (hs : Srt E) (hx : kGet k E = some x) (hle : x.f.sync ≤ x.f.b.length) : usedD (kMap FileM.f (kSet k (crashM keep garble x) E)) ≤ usedD (kMap FileM.f E) := by
  have hg : kGet k (kMap FileM.f E) = some x.f := by rw [kGet_map, hx]; rfl
  rw [kSet_map]
  have h1 := usedD_set (k := k) (g := (crashM keep garble x).f) (Srt.map.2 hs) hg
  have h2 := (crashF_len keep garble x.f hle).1
  have h3 := (keepN_le keep x.f hle).2
  have h4 : (crashM keep garble x).f.b.length = keepN keep x.f := h2
  omega

theorem crash_fileAt {p : Option Addr} {l c n : Nat} {keep : Int} {garble : Bool} {wq w3 : World} (hfq : FileAt S wq x) (hv : x.v = .slice p l c) (hn : keepN keep x.f = n) (B : List UInt8) (hB : crashF keep garble x.f = ⟨B, n⟩)
    (hrow : w3.heap[x.fb]? = some (.cells #[.slice p n n, .int .i64 (n : Int)] 80 (0, 0))) (hown : OwnS w3 0 5 1 (.slice p n n) n (by8 B)) (hBl : B.length = n) : FileAt S w3 (crashM keep garble x) := by
  have e : crashM keep garble x = ⟨x.fb, .slice p n n, ⟨B, n⟩⟩ := by unfold crashM; rw [hv, hB, hn]; rfl
  rw [e]
  refine ⟨hfq.fb, hrow, by show OwnS _ _ _ _ _ B.length _; rw [hBl]; exact hown, fun k hk => hfq.ob k ?_, by show n ≤ B.length; omega⟩
  rw [hv]; cases p with
  | none => cases hk
  | some a => exact hk
/-- what holds at the head of a round over the files -/
def CrashRel (S : Nat → Prop) (w : World) (db mb room : Nat) (E : List (List UInt8 × FileM)) (keep : Int) (garble : Bool) (wr : World) : Prop :=
  ∃ left cnt, wr.ranges Try.prog 9 heldE mb w.heap.size E.length (mapD (kMap fptr E)) left cnt ∧ DiskM S wr db mb (crashL keep garble left E) room false ∧ Chg S w wr
theorem crash_round {p : Option Addr} {l c cnt cnt1 : Nat} {keep : Int} {garble : Bool} {left : Lit → Bool} {k : List UInt8} {wr w1 wq w3 : World} (hs : Srt E)
    (h0 : wr.ranges Try.prog 9 heldE mb w.heap.size E.length (mapD (kMap fptr E)) left cnt) (hd1 : DiskM S w1 db mb (crashL keep garble left E) room false) (hbq : Below w1.heap.size w1 wq) (hx : kGet k E = some x) (hlk : left (.string k) = true)
    (hrg1 : w1.ranges Try.prog 9 heldE mb w.heap.size E.length (mapD (kMap fptr E)) (fun z => left z && !z.sameKey (.string k)) cnt1) (hlt : cnt1 < cnt) (hg1 : wr.grownBy w1 (some w.heap.size)) (hch : Chg S w wr) (hv : x.v = .slice p l c)
    (hc : Chg (fun j => j = x.fb ∨ x.v.ownBlock = some j) wq w3) (hfile : FileAt S w3 (crashM keep garble x)) :
    CrashRel S w db mb room E keep garble w3 ∧ w3.rangeLeft mb w.heap.size < wr.rangeLeft mb w.heap.size := by
  have hx1 := crashL_get keep garble left hx hlk
  have hdq := hd1.below hbq
  have hf : FileAt S wq x := hdq.files.at_ _ (kGet_some hx1)
  have hrq := ranges_chg (S := fun _ => False) hrg1 (Chg.of_below hbq) (fun h => h) (fun h => h)
  have hmb : ¬ (mb = x.fb ∨ x.v.ownBlock = some mb) := by
    obtain ⟨es, cl, hm⟩ := hdq.map.row
    rintro (e | e)
    · exact row_ne hm hf.row (by simp) e
    · obtain ⟨cur, fr, hr⟩ := hf.own.rowOf e
      exact row_ne hm hr (by simp) rfl
  have hrr : ¬ (w.heap.size = x.fb ∨ x.v.ownBlock = some w.heap.size) := by
    obtain ⟨a1, a2, a3, a4, hm⟩ := ranges_iter hrq
    rintro (e | e)
    · exact row_ne hm hf.row (by simp) e
    · obtain ⟨cur, fr, hr⟩ := hf.own.rowOf e
      exact row_ne hm hr (by simp) rfl
  have hr3 := ranges_chg hrq hc hmb hrr
  have hu := usedD_crash keep garble (y := x) hdq.srt hx1 hf.le
  have h3 := hdq.setFile (S' := S) (fun _ h => h) hx1 hc hfile rfl (fun j hj => .inl (by
    have e : (crashM keep garble x).v = cutV (keepN keep x.f) x.v := rfl
    rw [e, hv] at hj
    rw [hv]
    cases p with
    | none => cases hj
    | some a => exact hj)) (by have := hdq.used_le; omega)
  refine ⟨⟨_, _, hr3, by rw [crashL_step keep garble left hs hx hlk]; exact h3.1, ?_⟩, by rw [hr3.left_eq, h0.left_eq]; exact hlt⟩
  refine ((hch.trans (Chg.of_grown (S := fun j => j = w.heap.size) hg1 (fun j e => by cases e; rfl)) fun j hj e => ?_).trans (Chg.of_below (S := S) hbq) fun _ _ h => h).trans h3.2 fun _ _ h => h
  omega
theorem b8_xor_a5 (c : UInt8) : bits .xor .u8 (c.toNat : Int) 165 = ((c ^^^ 0xA5).toNat : Int) := b8_xor c 0xA5
/-- what holds at the inner loop's head -/
def GarbRel (S : Nat → Prop) (x : FileM) (keep : Int) (g n : Nat) (wq : World) (i : Value) (wr : World) : Prop :=
  ∃ k : Nat, fromN keep x.f ≤ k ∧ k ≤ n ∧ i = .int .i64 k ∧ wr.heap[x.fb]? = some (.cells #[.slice (some ⟨g, 0, none⟩) n n, .int .i64 (x.f.sync : Int)] 80 (0, 0)) ∧
    OwnS wr 0 5 1 (.slice (some ⟨g, 0, none⟩) n n) n (by8 (garb (fromN keep x.f) k (x.f.b.take n))) ∧ Chg (fun j => j = x.fb ∨ x.v.ownBlock = some j) wq wr

set_option maxHeartbeats 1000000 in
set_option maxRecDepth 20000 in
theorem crash_m (h : DiskM S w db mb E room false) (keep : Int) (garble : Bool) (hk : -9223372036854775808 ≤ keep ∧ keep ≤ 9223372036854775807) :
    Calls Try.prog 16 #[.pointer (some ⟨db, 0, none⟩), .int .i64 keep, .bool garble] w fun e w' => e = .returned (.tuple #[]) ∧ DiskM S w' db mb (kMap (crashM keep garble) E) room true ∧ Chg S w w' := by
  obtain ⟨c0, c1, c2⟩ := h.cells
  have HD := Lib.hid h
  clear h
  go_enter Try.func16, Try.ntmps16
  go_wp2_with (first | (at_range; refine wpList_range_own _ rfl _ 72 rfl 9 75 (string_keyed isS) Try.underlying72 heldE mb _ _ rfl HD.out.map.2 ?_; intro w0 hrg0 hg0 hs0; have HR0 := Lib.hid hrg0; have HG0 := Lib.hid hg0; clear hrg0 hg0))
  go_frame
  go_loopw [23] (fun _ wr => CrashRel S w db mb room E keep garble wr) (fun _ wr => wr.rangeLeft mb w.heap.size)
  case atStart =>
    refine ⟨_, _, by have := HR0.out; rwa [kMap_len] at this, ?_, Chg.of_grown HG0.out (by simp)⟩
    rw [crashL_start keep garble E _ HD.out.map.1 rfl]
    exact HD.out.below ⟨HG0.out.os, HG0.out.tape, HG0.out.output, HG0.out.size, fun k hk => HG0.out.block k hk (by simp)⟩
  case round =>
    obtain ⟨left, cnt, hrg, hd, hch⟩ := hrel
    have HRG := Lib.hid hrg
    have HDR := Lib.hid hd
    have HCH := Lib.hid hch
    clear hrg hd hch
    go_wp2_with (at_next; refine mkp ?_)
    unfold Mkp
    refine L_mnext isS rfl HRG.out ?_ ?_
    · intro hl
      have HL := Lib.hid hl
      clear hl
      simp only [Act.put, List.setIfInBounds_toArray, List.set_cons_zero, List.set_cons_succ]
      have hfr := HDR.out.free.2.2
      have cc2 := HDR.out.cells.2.2
      go_wp2_with fail
      go_end0
      refine ⟨rfl, ?_⟩
      have hd1 := HDR.out.setDiskS (i := 2) (u := .bool true) (room' := room) (down' := true) rfl HDR.out.room_le
      rw [crashL_end keep garble left E HL.out] at hd1
      exact ⟨hd1.1, HCH.out.trans hd1.2 fun _ _ h => h⟩
    · intro k v w1 cnt1 hkv hlk hrg1 hlt hg1 hs1 hen
      obtain ⟨x, hx, rfl⟩ : ∃ x, kGet k E = some x ∧ v = fptr x := by
        rw [get_ptr] at hkv
        cases hx : kGet k E with
        | none => rw [hx] at hkv; cases hkv
        | some x => rw [hx] at hkv; exact ⟨x, rfl, (Option.some.inj hkv).symm⟩
      have hd1 : DiskM S w1 db mb (crashL keep garble left E) room false := HDR.out.keepNot (T := fun j => j = w.heap.size) (Chg.of_grown hg1 fun j e => by cases e; rfl) (iter_obj HRG.out)
      have hx1 := crashL_get keep garble left hx hlk
      have hf : FileAt S w1 x := hd1.files.at_ _ (kGet_some hx1)
      have hlen := hd1.len_le hx1
      have hle := hf.le
      have hkn := keepN_le keep x.f hle
      obtain ⟨p, cap, hv, _, _⟩ := hf.own.shape
      have f0 := hf.cells.1
      rw [hv] at f0
      have f1 := hf.cells.2
      have z0 := hf.free.1
      have z1 := hf.free.2
      have e0 : IntKind.i64.wrap ((x.f.b.length : Int) - (x.f.sync : Int)) = (x.f.b.length : Int) - (x.f.sync : Int) := IntWalk.i64_in _ (by omega)
      have e1 : IntKind.i64.wrap ((x.f.sync : Int) + min (max keep 0) ((x.f.b.length : Int) - (x.f.sync : Int))) = (keepN keep x.f : Int) := by
        rw [IntWalk.i64_in _ (by omega)]; unfold keepN; omega
      generalize hn : keepN keep x.f = n at *
      have HN := Lib.hid hn
      have HX := Lib.hid hx
      have HX1 := Lib.hid hx1
      have HD1 := Lib.hid hd1
      have HF := Lib.hid hf
      have HV := Lib.hid hv
      have HLK := Lib.hid hlk
      have HRG1 := Lib.hid hrg1
      have HG1 := Lib.hid hg1
      have HLT := Lib.hid hlt
      clear hkv hn hx hx1 hd1 hf hv hlk hrg1 hg1 hlt
      simp only [Act.put, List.setIfInBounds_toArray, List.set_cons_zero, List.set_cons_succ]
      go_wp2_with fail
      go_quiet (fail)
      clear e0 e1
      obtain ⟨wq, hwq⟩ : ∃ v, v = w1.drewN nq := ⟨_, rfl⟩
      rw [← hwq]
      have hbq : Below w1.heap.size w1 wq := by rw [hwq]; exact ⟨rfl, rfl, rfl, Nat.le_refl _, fun _ _ => rfl⟩
      have hfq := (HD1.out.below hbq).files.at_ _ (kGet_some HX1.out)
      have q0 : wq.cell? ⟨x.fb, 0, none⟩ = some (.slice p x.f.b.length cap) := by rw [hwq]; exact f0
      have q1 : wq.cell? ⟨x.fb, 1, none⟩ = some (.int .i64 (x.f.sync : Int)) := by rw [hwq]; exact f1
      have y0 : wq.frozen? ⟨x.fb, 0, none⟩ = false := by rw [hwq]; exact z0
      have y1 : wq.frozen? ⟨x.fb, 1, none⟩ = false := by rw [hwq]; exact z1
      have hown := hfq.own
      rw [show ((k, x).2 : FileM) = x from rfl, HV.out] at hown
      have hcap : n ≤ cap := Nat.le_trans hkn.2 hown.txt.2.2.1
      have hrun := run_slice_cut (p := p) (n := x.f.b.length) (cap := cap) n hcap wq
      have HCUT := Lib.hid (hown.cut hkn.2)
      have HBQ := Lib.hid hbq
      have HFQ := Lib.hid hfq
      clear hwq hbq hfq hown f0 f1 z0 z1 hen
      have hfin : ∀ (w3 : World) (B : List UInt8), crashF keep garble x.f = ⟨B, n⟩ → w3.heap[x.fb]? = some (.cells #[.slice p n n, .int .i64 (n : Int)] 80 (0, 0)) → OwnS w3 0 5 1 (.slice p n n) n (by8 B) → B.length = n →
          Chg (fun j => j = x.fb ∨ x.v.ownBlock = some j) wq w3 →
          CrashRel S w db mb room E keep garble w3 ∧ w3.rangeLeft mb w.heap.size < wr.rangeLeft mb w.heap.size :=
        fun w3 B hB hrow hown hBl hc => crash_round HD.out.srt HRG.out HD1.out HBQ.out HX.out HLK.out HRG1.out HLT.out HG1.out HCH.out HV.out hc (crash_fileAt HFQ.out HV.out HN.out B hB hrow hown hBl)
      have HFIN := Lib.hid hfin
      have hoff : garble = false ∨ n = 0 → CrashRel S w db mb room E keep garble ((wq.setCell ⟨x.fb, 0, none⟩ (.slice p n n)).setCell ⟨x.fb, 1, none⟩ (.int .i64 (n : Int))) ∧
          ((wq.setCell ⟨x.fb, 0, none⟩ (.slice p n n)).setCell ⟨x.fb, 1, none⟩ (.int .i64 (n : Int))).rangeLeft mb w.heap.size < wr.rangeLeft mb w.heap.size := by
        intro hgn
        have hc : Chg (fun j => j = x.fb) wq ((wq.setCell ⟨x.fb, 0, none⟩ (.slice p n n)).setCell ⟨x.fb, 1, none⟩ (.int .i64 (n : Int))) := Chg.trans (S := fun j => j = x.fb) (T := fun j => j = x.fb) (Chg.setCell _ ⟨x.fb, 0, none⟩ _ rfl) (Chg.setCell _ ⟨x.fb, 1, none⟩ _ rfl) fun _ _ h => h
        refine HFIN.out _ (x.f.b.take n) ?_ (setCell_row (setCell_row HFQ.out.row 0 _) 1 _) ?_ (by rw [List.length_take]; omega) (hc.mono fun _ _ e => .inl e)
        · have := crashF_off keep garble x.f (by rw [HN.out]; exact hgn)
          rw [HN.out] at this; exact this
        · refine HCUT.out.chg hc fun j hj e => ?_
          have h1 := HFQ.out.own
          rw [show ((k, x).2 : FileM) = x from rfl, HV.out] at h1
          have hj' : (Value.slice p x.f.b.length cap).ownBlock = some j := by
            cases p with
            | none => cases hj
            | some a => exact hj
          obtain ⟨cur, fr, hr⟩ := h1.rowOf hj'
          exact row_ne hr HFQ.out.row (by simp only [ne_eq, Obj.cells.injEq, not_and]; intro _ h; exact absurd h (by decide)) e
      have HOFF := Lib.hid hoff
      clear hfin hoff
      cases garble
      · clear hcap
        go_wp2_with fail
        exact HOFF.out (.inl rfl)
      · by_cases hn0 : 0 < n
        · have d0 : decide (0 < n) = true := by simp; omega
          obtain ⟨g, cg, hp, _, _⟩ := HCUT.out.head hn0
          have wm : (0 : Int) ≤ (n : Int) - 1 := by omega
          have hfr : fromN keep x.f ≤ n := by have := HN.out; unfold fromN; omega
          have hst : (max (x.f.sync : Int) (((n : Int) - 1) / 512 * 512)) = ((fromN keep x.f : Nat) : Int) := by have := HN.out; unfold fromN; omega
          have HST := Lib.hid hst
          clear hcap hn0 hst
          obtain rfl : p = some ⟨g, 0, none⟩ := by simpa using congrArg (fun v => match v with | .slice a _ _ => a | _ => none) hp
          clear hp
          have hgx : g ≠ x.fb := by
            have h1 := HFQ.out.own
            rw [show ((k, x).2 : FileM) = x from rfl, HV.out] at h1
            obtain ⟨cur, fr, hr⟩ := h1.rowOf (k := g) rfl
            exact row_ne hr HFQ.out.row (by simp only [ne_eq, Obj.cells.injEq, not_and]; intro _ h; exact absurd h (by decide))
          have hob : x.v.ownBlock = some g := by rw [HV.out]; rfl
          have HOB := Lib.hid hob
          clear hob
          have hlt : (x.f.b.take n).length = n := by rw [List.length_take]; omega
          have HLT2 := Lib.hid hlt
          clear hlt
          go_wp2_with fail
          go_loopw [9] (fun i wr2 => GarbRel S x keep g n wq i wr2) (fun i _ => n - (intOf i).toNat)
          case atStart =>
            refine ⟨_, Nat.le_refl _, hfr, by rw [HST.out], setCell_row HFQ.out.row 0 _, ?_, Chg.setCell _ _ _ (.inl rfl)⟩
            rw [garb_none _ _ _ (Nat.le_refl _)]
            refine HCUT.out.chg (T := fun j => j = x.fb) (Chg.setCell _ _ _ rfl) fun j hj e => ?_
            simp [Value.ownBlock] at hj
            exact hgx (hj.trans e)
          case round =>
            obtain ⟨m, hm1, hm2, rfl, hrow, hown, hc2⟩ := hrel
            by_cases hlt : m < n
            · have hL : (garb (fromN keep x.f) m (x.f.b.take n)).length = n := by rw [garb_len]; exact HLT2.out
              have c5 : wr.cell? ⟨x.fb, 0, none⟩ = some (.slice (some ⟨g, 0, none⟩) n n) := by simp [World.cell?, hrow]
              obtain ⟨c6, z6⟩ := hown.get (j := m) (by rw [by8_len, hL]; exact hlt)
              have e6 : (by8 (garb (fromN keep x.f) m (x.f.b.take n)))[m]'(by rw [by8_len, hL]; exact hlt) = .int .u8 (((garb (fromN keep x.f) m (x.f.b.take n))[m]'(by rw [hL]; exact hlt)).toNat : Int) := by simp [by8]
              rw [e6] at c6
              have hset := hown.set (j := m) (by rw [by8_len, hL]; exact hlt) (.int .u8 ((((garb (fromN keep x.f) m (x.f.b.take n))[m]'(by rw [hL]; exact hlt)) ^^^ 0xA5).toNat : Int))
              rw [by8_set, garb_step _ _ _ hm1 (by rw [HLT2.out]; exact hlt)] at hset
              generalize (garb (fromN keep x.f) m (x.f.b.take n))[m]'(by rw [hL]; exact hlt) = cc at *
              have HSET := Lib.hid hset
              have HROW := Lib.hid hrow
              have HC2 := Lib.hid hc2
              have HM1 := Lib.hid hm1
              clear hset hrow hc2 hm1 e6 hown hL
              go_wp2_with fail
              go_region
              go_wp2_with fail
              rw [b8_xor_a5]
              refine ⟨⟨m + 1, by have := HM1.out; omega, by omega, by go_num, ?_, HSET.out, ?_⟩, by simp [intOf]; omega⟩
              · show (wr.setCell ⟨g, m, none⟩ _).heap[x.fb]? = _
                rw [heap_setCell_other _ _ _ _ (by simp; omega)]
                exact HROW.out
              · have h9 := HC2.out.trans (T := fun j => j = x.fb ∨ x.v.ownBlock = some j) (Chg.setCell wr ⟨g, m, none⟩ (.int .u8 ((cc ^^^ 0xA5).toNat : Int)) (.inr HOB.out)) fun _ _ h => h
                exact ⟨h9.os, h9.tape, h9.output, h9.size, h9.block⟩
            · obtain rfl : m = n := by omega
              have c7 : wr.cell? ⟨x.fb, 1, none⟩ = some (.int .i64 (x.f.sync : Int)) := by simp [World.cell?, hrow]
              have z7 : wr.frozen? ⟨x.fb, 1, none⟩ = false := by simp [World.frozen?, hrow]
              have HOWN := Lib.hid hown
              have HROW := Lib.hid hrow
              have HC2 := Lib.hid hc2
              clear hown hrow hc2
              go_wp2_with fail
              refine HFIN.out _ (garb (fromN keep x.f) m (x.f.b.take m)) ?_ (setCell_row HROW.out 1 _) ?_ (by rw [garb_len]; exact HLT2.out) ?_
              · have h1 := crashF_on keep x.f (by rw [HN.out]; exact hkn.2)
                rw [HN.out] at h1; exact h1
              · refine HOWN.out.chg (T := fun j => j = x.fb) (Chg.setCell _ _ _ rfl) fun j hj e => ?_
                simp [Value.ownBlock] at hj
                exact hgx (hj.trans e)
              · exact HC2.out.trans (T := fun j => j = x.fb) (Chg.setCell _ _ _ rfl) fun _ _ e => .inl e
        · obtain rfl : n = 0 := by omega
          clear hcap hn0
          go_wp2_with fail
          exact HOFF.out (.inr rfl)

theorem crash_any {D : Files0} (h : DiskAt S w db D room down) (keep : Int) (garble : Bool) (hk : -9223372036854775808 ≤ keep ∧ keep ≤ 9223372036854775807) :
    Calls Try.prog 16 #[.pointer (some ⟨db, 0, none⟩), .int .i64 keep, .bool garble] w fun e w' => e = .returned (.tuple #[]) ∧ DiskTo S w w' db (if down then D else kMap (crashF keep garble) D) room true := by
  obtain ⟨mb, E, hd, rfl⟩ := h
  cases hdown : down
  · subst hdown
    refine (crash_m hd keep garble hk).mono fun e w' ⟨he, hd', hc⟩ => ⟨he, ⟨mb, _, hd'.mono fun k hk => .inl hk, ?_⟩, hc⟩
    rw [if_neg (by simp), kMap_kMap, kMap_kMap]; rfl
  · subst hdown
    obtain ⟨c0, c1, c2⟩ := hd.cells
    have HD := Lib.hid hd
    clear hd
    go_enter Try.func16, Try.ntmps16
    go_wp2_with fail
    (try simp only [Exit.inBlock, Exit.then])
    refine bodyPost_ret (results_none rfl _ _ _) rfl ?_
    exact ⟨rfl, DiskAt.to_same ⟨mb, E, HD.out, rfl⟩⟩
end
end Go.Proofs.Ytadnabgnbhpijaa
