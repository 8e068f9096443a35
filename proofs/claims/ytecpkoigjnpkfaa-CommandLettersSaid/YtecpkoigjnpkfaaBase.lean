/- Small laws that the walks use: 32-bit words, bytes. -/
import Derived.Test.YtecpkoigjnpkfaaSl
import Derived.WalkKit
import Derived.WalkSpells
import Derived.WalkLawsBesides
import Derived.Lib.Hide
import Derived.Deep.QuietTactic
import Derived.BigQuiet
import Derived.Handy
import Derived.Deep.LoopGhost
import Derived.Deep.DeepCutAuto
import Derived.StillTailTactics
import Derived.Deep.WholeRow
import Derived.Deep.MidRow
import Derived.Deep.DeepFit
import Derived.Deep.DeepMust
import Derived.Lib.SlBytesConst
import Derived.Lib.QuietBelow
import Derived.ScopeJumps
set_option linter.unusedSimpArgs false
set_option linter.unusedVariables false
namespace Go.Proofs.Ytecpkoigjnpkfaa
open Go.RowKit

theorem wrap_u32_bv (x : BitVec 32) : IntKind.u32.wrap (x.toNat : Int) = x.toNat := by
  rw [IntKind.wrap_u32']; have := x.isLt; omega
theorem ofInt_bv (n : Nat) (x : BitVec n) : BitVec.ofInt n (x.toNat : Int) = x := by
  apply BitVec.eq_of_toNat_eq
  rw [BitVec.ofInt_natCast, BitVec.toNat_ofNat]
  exact Nat.mod_eq_of_lt x.isLt
theorem ofInt_u8 (c : UInt8) : BitVec.ofInt 32 (c.toNat : Int) = c.toBitVec.setWidth 32 := by
  apply BitVec.eq_of_toNat_eq
  rw [BitVec.ofInt_natCast, BitVec.toNat_ofNat]
  simp [BitVec.toNat_setWidth]

theorem b32_xor (x y : BitVec 32) : bits .xor .u32 (x.toNat : Int) (y.toNat : Int) = ((x ^^^ y).toNat : Int) := by
  show IntKind.u32.wrap ((BitVec.ofInt 32 _ ^^^ BitVec.ofInt 32 _).toNat : Int) = _
  rw [ofInt_bv, ofInt_bv, wrap_u32_bv]
theorem b32_xor_u8 (x : BitVec 32) (c : UInt8) : bits .xor .u32 (x.toNat : Int) (c.toNat : Int) = ((x ^^^ c.toBitVec.setWidth 32).toNat : Int) := by
  show IntKind.u32.wrap ((BitVec.ofInt 32 _ ^^^ BitVec.ofInt 32 _).toNat : Int) = _
  rw [ofInt_bv, ofInt_u8, wrap_u32_bv]
theorem b32_and_one (x : BitVec 32) : bits .and .u32 (x.toNat : Int) 1 = ((x &&& 1#32).toNat : Int) := by
  show IntKind.u32.wrap ((BitVec.ofInt 32 _ &&& BitVec.ofInt 32 1).toNat : Int) = _
  rw [ofInt_bv, wrap_u32_bv]; rfl

theorem val_int {k : IntKind} {a b : Int} (h : a = b) : Value.int k a = .int k b := by rw [h]
theorem bv_half (x : BitVec 32) : (x.toNat : Int) / (2 : Int) = ((x >>> 1).toNat : Int) := by
  rw [BitVec.toNat_ushiftRight]; simp [Nat.shiftRight_eq_div_pow]
theorem bv_byte (x : BitVec 32) : (x.toNat : Int) / (256 : Int) = ((x >>> 8).toNat : Int) := by
  rw [BitVec.toNat_ushiftRight]; simp [Nat.shiftRight_eq_div_pow]
theorem b32_xor_poly (x : BitVec 32) : bits .xor .u32 (x.toNat : Int) 3988292384 = ((x ^^^ 0xEDB88320#32).toNat : Int) := by
  show IntKind.u32.wrap ((BitVec.ofInt 32 _ ^^^ BitVec.ofInt 32 3988292384).toNat : Int) = _
  rw [ofInt_bv, wrap_u32_bv]; rfl
theorem bv_eq_int (x y : BitVec 32) : (((x.toNat : Int) == (y.toNat : Int)) = true) ↔ x = y := by
  rw [beq_iff_eq]; constructor
  · intro h; exact BitVec.eq_of_toNat_eq (by omega)
  · intro h; rw [h]
theorem bv_one (x : BitVec 32) : (((x.toNat : Int) == 1) = true) ↔ x = 1#32 := bv_eq_int x 1#32

theorem b32_not (x : BitVec 32) : bits .xor .u32 IntKind.u32.max (x.toNat : Int) = ((~~~ x).toNat : Int) := by
  show IntKind.u32.wrap ((BitVec.ofInt 32 IntKind.u32.max ^^^ BitVec.ofInt 32 _).toNat : Int) = _
  rw [ofInt_bv, wrap_u32_bv]
  have e : BitVec.ofInt 32 IntKind.u32.max = BitVec.allOnes 32 := by decide
  rw [e, BitVec.allOnes_xor]
theorem ofInt8_u8 (c : UInt8) : BitVec.ofInt 8 (c.toNat : Int) = c.toBitVec := by
  apply BitVec.eq_of_toNat_eq
  rw [BitVec.ofInt_natCast, BitVec.toNat_ofNat]
  exact Nat.mod_eq_of_lt c.toNat_lt
theorem b8_xor (x y : UInt8) : bits .xor .u8 (x.toNat : Int) (y.toNat : Int) = ((x ^^^ y).toNat : Int) := by
  show IntKind.u8.wrap ((BitVec.ofInt 8 _ ^^^ BitVec.ofInt 8 _).toNat : Int) = _
  rw [ofInt8_u8, ofInt8_u8, IntKind.wrap_u8', ← UInt8.toBitVec_xor]
  have := (x ^^^ y).toNat_lt
  show (((x ^^^ y).toNat : Nat) : Int) % 256 = _
  omega
theorem run_min_int4 {P : Program} (w : World) (ts : Array TypeId) (t : TypeId) (k : IntKind) (x y z u : Int) : (Builtin.min_ ts t #[.int k x, .int k y, .int k z, .int k u]).run P w = .ok (.int k (min (min (min x y) z) u)) w := by
  simp [Builtin.min_, Builtin.min2]
  (repeat' split) <;> omega
theorem madeCells_one (z : Value) (n : Nat) : madeCells #[z] n = Array.replicate n z := by
  apply Array.ext
  · simp [madeCells]
  · intro i h1 h2; simp [madeCells, Nat.mod_one]
/-- worlds that have only grown -/
theorem grew {a b c : World} (h : Below a.heap.size a b) (k : Below b.heap.size b c) : Below a.heap.size a c := h.trans (k.mono h.size)
theorem grewA {a b : World} (h : Below a.heap.size a b) (o : Obj) : Below a.heap.size a (b.alloc o) := h.alloc h.size o
theorem jump_ret {l : Nat} {J : Act → World → Prop} {Q : Exit → Act → World → Prop} {a : Act} {w : World} : Exit.jump l J Q .ret a w = Q .ret a w := rfl
/-- 'uint(x) % uint(m)' -/
theorem uint_mod (x M : Int) (m : Nat) (hM : M = (m : Int)) (h0 : 0 < m) : ∃ u k : Nat, IntKind.u64.wrap x = (u : Int) ∧ k < m ∧ (u : Int).tmod M = (k : Int) ∧ (u : Int) % M = (k : Int) := by
  subst hM
  have h : 0 ≤ IntKind.u64.wrap x := by rw [IntKind.wrap_u64]; omega
  obtain ⟨u, hu⟩ := Int.eq_ofNat_of_zero_le h
  refine ⟨u, u % m, hu, Nat.mod_lt _ h0, ?_, by omega⟩
  rw [Int.tmod_eq_emod_of_nonneg (by omega)]; omega
/-- a callee met in a region that draws its order -/
theorem rg_below {P : Program} {f : FuncId} {args : Array Value} {w : World} {v : Value} (h : ∀ u, Below w.heap.size w u → Calls P f args u fun e w' => e = .returned v ∧ Below u.heap.size u w') :
    ∀ d os, Calls P f args (Go.Sort.grow (redrawn w d) os) fun e w'' => e = .returned v ∧ ∃ p : Regrown, w'' = Go.Sort.grow (redrawn w p.d) p.os :=
  fun d os => Calls.regrown_of (h _ (below_regrown w d os))
theorem rg_same {P : Program} {f : FuncId} {args : Array Value} {w : World} {v : Value} (h : ∀ u, Below w.heap.size w u → Calls P f args u fun e w' => e = .returned v ∧ u = w') :
    ∀ d os, Calls P f args (Go.Sort.grow (redrawn w d) os) fun e w'' => e = .returned v ∧ ∃ p : Regrown, w'' = Go.Sort.grow (redrawn w p.d) p.os :=
  rg_below fun u hu => (h u hu).mono fun _ _ ⟨he, hw⟩ => ⟨he, by rw [← hw]; exact Below.refl _ _⟩
theorem foldl_take_succ {α β : Type} (f : β → α → β) (l : List α) (k : Nat) (h : k < l.length) (r : β) : (l.take (k + 1)).foldl f r = f ((l.take k).foldl f r) l[k] := by
  rw [List.take_succ_eq_append_getElem h, List.foldl_append]; rfl

/-! Laws on one operation, its row written out: so that they are met by their looks alone. -/
section
variable {P : Program} {ops : Array Oper} {rest : List Oper} {d : Option Tmp} {t0 : TypeId} {pos : String} {af : Array Edge} {tmps : Array Value} {dfs : List Deferred} {w : World} {Q : Exit → Act → World → Prop}

theorem L_load_row {ty x g t cs fr dd} (hx : tmps.getD x undef = .pointer (some ⟨g, 0, none⟩)) (hg : w.heap[g]? = some (.cells cs t fr))
    (hu : P.underlying ty = some dd) (hd : (match dd with | .struct _ | .array _ _ => true | _ => false) = true) (hi : (P.info? ty).map (·.size) = some cs.size)
    (h : wpList P ops Q rest ((⟨tmps, dfs⟩ : Act).put d (.agg cs)) w) : wpList P ops Q ({ dst := d, op := .load ty (.tmp x), type := t0, pos := pos, after := af, guard := none } :: rest) ⟨tmps, dfs⟩ w :=
  wpList_load_row rfl ty (.tmp x) rfl g hx t cs fr dd hg hu hd hi h

theorem L_store_row {ty x y g t cs old} (hx : tmps.getD x undef = .pointer (some ⟨g, 0, none⟩)) (hy : tmps.getD y undef = .agg cs) (hg : w.heap[g]? = some (.cells old t (0, 0)))
    (hi : (P.info? ty).map (·.size) = some cs.size) (hold : old.size = cs.size) (h1 : cs.all (·.oneCell') = true)
    (h : wpList P ops Q rest ((⟨tmps, dfs⟩ : Act).put d undef) (w.setRow g cs)) : wpList P ops Q ({ dst := d, op := .store ty (.tmp x) (.tmp y), type := t0, pos := pos, after := af, guard := none } :: rest) ⟨tmps, dfs⟩ w :=
  wpList_store_row rfl ty (.tmp x) (.tmp y) rfl g cs hx hy t old hg hi hold h1 h
end

/-- []byte, in this program -/
theorem slB : SlT Try.prog 29 5 1 1 := SlT.of (z := .int .u8 0) (by kernel_rfl) rfl (by decide) Try.underlying29
theorem isB : Try.prog.underlying 5 = some (.int .u8) := Try.underlying5
theorem isS : Try.prog.underlying 9 = some .string := Try.underlying9
/-- 'make([]byte, k)' -/
theorem run_make_bytes (u : World) (k : Nat) (hk : k ≤ 1099511627776) : (Instr.makeSlice 29 (.int .i64 (k : Int)) (.int .i64 (k : Int))).run Try.prog u =
    .ok (.slice (some ⟨u.heap.size, 0, none⟩) k k) (u.alloc (.cells (by8 (List.replicate k 0)).toArray 5)) := by
  have hi' : (Try.prog.info? 5).map (fun i => (i.zero, i.size, i.bytes)) = some (some (.int .u8 0), 1, 1) := by kernel_rfl
  obtain ⟨i0, hi0, hz0, hs0, hb0⟩ := info_parts hi'
  have h := run_make (P := Try.prog) u 29 5 i0 (.int .u8 0) Try.underlying29 hi0 hz0 .i64 .i64 (k : Int) (k : Int) (by omega) (Int.le_refl _) (by rw [hb0]; omega) (by omega)
  rw [h]
  simp only [Int.toNat_natCast, hs0, Nat.mul_one]
  have e : madeCells (Value.int .u8 0).cells k = (by8 (List.replicate k 0)).toArray := by
    show madeCells #[_] k = _
    rw [madeCells_one]
    simp [by8]
  rw [e]
theorem own_made (w : World) (base : Nat) (l : List UInt8) (hb : base ≤ w.heap.size) (hl : l.length ≤ maxLen) : OwnS (w.alloc (.cells (by8 l).toArray 5)) base 5 1 (.slice (some ⟨w.heap.size, 0, none⟩) l.length l.length) l.length (by8 l) :=
  OwnS.mk _ _ _ (0, 0) hb (heap_alloc_new w _) (.inl rfl) (Nat.le_refl _) hl (by simp [by8_len]) (by
    rw [List.take_of_length_le (by simp [by8_len])])
end Go.Proofs.Ytecpkoigjnpkfaa
