/- The walks over package disk: what a disk has, file by file. -/
import Derived.Test.YtblmnaejkdkndaaDiskRep
set_option linter.unusedSimpArgs false
set_option linter.unusedVariables false
namespace Go.Proofs.Ytblmnaejkdkndaa
open Go.RowKit Go.Maps

theorem zeroFile (w : World) : (zeroValue 83).run Try.prog w = .ok (.pointer none) w := by kernel_rfl
section
variable {S : Nat → Prop} {w : World} {db mb room : Nat} {E : List (List UInt8 × FileM)} {down : Bool} {x : FileM}
theorem look_file (h : DiskM S w db mb E room down) (name : List UInt8) (hl : name.length ≤ maxLen) :
    (Instr.lookup 78 (.map (some mb)) (.string (str name)) false).run Try.prog w = .ok (((kGet name E).map fptr).getD (.pointer none)) w := by
  have := h.map.look (T := 78) (E := 83) isS Try.underlying78 (zeroFile w) hl
  rw [get_ptr] at this
  exact this
theorem look_some (h : DiskM S w db mb E room down) {name : List UInt8} (hl : name.length ≤ maxLen) (hx : kGet name E = some x) :
    (Instr.lookup 78 (.map (some mb)) (.string (str name)) false).run Try.prog w = .ok (.pointer (some ⟨x.fb, 0, none⟩)) w := by
  have := look_file h name hl; rw [hx] at this; exact this
theorem look_none (h : DiskM S w db mb E room down) {name : List UInt8} (hl : name.length ≤ maxLen) (hx : kGet name E = none) :
    (Instr.lookup 78 (.map (some mb)) (.string (str name)) false).run Try.prog w = .ok (.pointer none) w := by
  have := look_file h name hl; rw [hx] at this; exact this

theorem may_any (name : List UInt8) (w : World) (hl : name.length ≤ maxLen) :
    Calls Try.prog 58 #[.string (str name)] w fun e w' => e = .returned (.bool (decide (1 ≤ name.length ∧ name.length ≤ 64))) ∧ w = w' := by
  unfold maxLen at hl
  by_cases h1 : 1 ≤ name.length
  · by_cases h2 : name.length ≤ 64
    · have d1 : decide ((1 : Int) ≤ (name.length : Int)) = true := by simp; omega
      have d2 : decide ((name.length : Int) ≤ 64) = true := by simp; omega
      have d3 : decide (1 ≤ name.length ∧ name.length ≤ 64) = true := by simp [h1, h2]
      rw [d3]
      clear h1 h2 d3
      go_enter Try.func58, Try.ntmps58
      go_wp2_with fail
      go_ret
      exact ⟨rfl, rfl⟩
    · have d1 : decide ((1 : Int) ≤ (name.length : Int)) = true := by simp; omega
      have d2 : decide ((name.length : Int) ≤ 64) = false := by simp; omega
      have d3 : decide (1 ≤ name.length ∧ name.length ≤ 64) = false := by simp [h2]
      rw [d3]
      clear h1 h2 d3
      go_enter Try.func58, Try.ntmps58
      go_wp2_with fail
      go_ret
      exact ⟨rfl, rfl⟩
  · have d1 : decide ((1 : Int) ≤ (name.length : Int)) = false := by simp; omega
    have d3 : decide (1 ≤ name.length ∧ name.length ≤ 64) = false := by simp [h1]
    rw [d3]
    clear h1 d3
    go_enter Try.func58, Try.ntmps58
    go_wp2_with fail
    go_ret
    exact ⟨rfl, rfl⟩

theorem find_some (h : DiskM S w db mb E room false) {name : List UInt8} (hl : name.length ≤ maxLen) (hx : kGet name E = some x) :
    Calls Try.prog 38 #[.pointer (some ⟨db, 0, none⟩), .string (str name)] w fun e w' => e = .returned (.tuple #[.pointer (some ⟨x.fb, 0, none⟩), .int .i64 0]) ∧ w = w' := by
  have hr := look_some h hl hx
  obtain ⟨c0, c1, c2⟩ := h.cells
  clear h hx hl
  go_enter Try.func38, Try.ntmps38
  go_wp2_with fail
  go_ret2
  exact ⟨rfl, rfl⟩
theorem find_none (h : DiskM S w db mb E room false) {name : List UInt8} (hl : name.length ≤ maxLen) (hx : kGet name E = none) :
    Calls Try.prog 38 #[.pointer (some ⟨db, 0, none⟩), .string (str name)] w fun e w' => e = .returned (.tuple #[.pointer none, .int .i64 25]) ∧ w = w' := by
  have hr := look_none h hl hx
  obtain ⟨c0, c1, c2⟩ := h.cells
  clear h hx hl
  go_enter Try.func38, Try.ntmps38
  go_wp2_with fail
  go_ret2
  exact ⟨rfl, rfl⟩
theorem find_down (h : DiskM S w db mb E room true) (s : ByteArray) :
    Calls Try.prog 38 #[.pointer (some ⟨db, 0, none⟩), .string s] w fun e w' => e = .returned (.tuple #[.pointer none, .int .i64 23]) ∧ w = w' := by
  obtain ⟨c0, c1, c2⟩ := h.cells
  clear h
  go_enter Try.func38, Try.ntmps38
  go_wp2_with fail
  go_ret2
  exact ⟨rfl, rfl⟩
theorem size_some (h : DiskM S w db mb E room down) {name : List UInt8} (hl : name.length ≤ maxLen) (hx : kGet name E = some x) :
    Calls Try.prog 13 #[.pointer (some ⟨db, 0, none⟩), .string (str name)] w fun e w' => e = .returned (.int .i64 (x.f.b.length : Int)) ∧ w = w' := by
  have hr := look_some h hl hx
  obtain ⟨c0, c1, c2⟩ := h.cells
  have hf := h.files.at_ _ (kGet_some hx)
  obtain ⟨p, cap, hv, _, _⟩ := hf.own.shape
  have f0 := hf.cells.1
  rw [hv] at f0
  clear h hx hl hf hv
  go_enter Try.func13, Try.ntmps13
  go_wp2_with fail
  go_ret
  exact ⟨rfl, rfl⟩
theorem size_none (h : DiskM S w db mb E room down) {name : List UInt8} (hl : name.length ≤ maxLen) (hx : kGet name E = none) :
    Calls Try.prog 13 #[.pointer (some ⟨db, 0, none⟩), .string (str name)] w fun e w' => e = .returned (.int .i64 0) ∧ w = w' := by
  have hr := look_none h hl hx
  obtain ⟨c0, c1, c2⟩ := h.cells
  clear h hx hl
  go_enter Try.func13, Try.ntmps13
  go_wp2_with fail
  go_ret
  exact ⟨rfl, rfl⟩
end
end Go.Proofs.Ytblmnaejkdkndaa
