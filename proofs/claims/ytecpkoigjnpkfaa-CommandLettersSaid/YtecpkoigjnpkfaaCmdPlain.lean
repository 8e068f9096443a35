/- The commands' table, as plain data; what its functions compute. Printed by wip/gen_cmdplain.py. -/
import Derived.Test.YtecpkoigjnpkfaaRows
set_option linter.unusedSimpArgs false
set_option linter.unusedVariables false
namespace Go.Proofs.Ytecpkoigjnpkfaa.Cmd

/-- a row -/
structure CRow where
  name : List UInt8
  least : Int
  most : Int
  write : Bool
  first : Int
  last : Int
  step : Int

def rowsL : List CRow := [
  ⟨[68, 69, 76], 2, 0, true, 1, -1, 1⟩,
  ⟨[69, 88, 73, 83, 84, 83], 2, 0, false, 1, -1, 1⟩,
  ⟨[84, 89, 80, 69], 2, 2, false, 1, 1, 1⟩,
  ⟨[82, 69, 78, 65, 77, 69], 3, 3, true, 1, 2, 1⟩,
  ⟨[82, 69, 78, 65, 77, 69, 78, 88], 3, 3, true, 1, 2, 1⟩,
  ⟨[69, 88, 80, 73, 82, 69], 3, 3, true, 1, 1, 1⟩,
  ⟨[80, 69, 88, 80, 73, 82, 69], 3, 3, true, 1, 1, 1⟩,
  ⟨[80, 69, 88, 80, 73, 82, 69, 65, 84], 3, 3, true, 1, 1, 1⟩,
  ⟨[84, 84, 76], 2, 2, false, 1, 1, 1⟩,
  ⟨[80, 84, 84, 76], 2, 2, false, 1, 1, 1⟩,
  ⟨[80, 69, 82, 83, 73, 83, 84], 2, 2, true, 1, 1, 1⟩,
  ⟨[75, 69, 89, 83], 1, 1, false, 0, 0, 0⟩,
  ⟨[68, 66, 83, 73, 90, 69], 1, 1, false, 0, 0, 0⟩,
  ⟨[70, 76, 85, 83, 72, 65, 76, 76], 1, 1, true, 0, 0, 0⟩,
  ⟨[71, 69, 84], 2, 2, false, 1, 1, 1⟩,
  ⟨[83, 69, 84], 3, 6, true, 1, 1, 1⟩,
  ⟨[83, 69, 84, 78, 88], 3, 3, true, 1, 1, 1⟩,
  ⟨[71, 69, 84, 83, 69, 84], 3, 3, true, 1, 1, 1⟩,
  ⟨[71, 69, 84, 68, 69, 76], 2, 2, true, 1, 1, 1⟩,
  ⟨[65, 80, 80, 69, 78, 68], 3, 3, true, 1, 1, 1⟩,
  ⟨[83, 84, 82, 76, 69, 78], 2, 2, false, 1, 1, 1⟩,
  ⟨[73, 78, 67, 82], 2, 2, true, 1, 1, 1⟩,
  ⟨[68, 69, 67, 82], 2, 2, true, 1, 1, 1⟩,
  ⟨[73, 78, 67, 82, 66, 89], 3, 3, true, 1, 1, 1⟩,
  ⟨[68, 69, 67, 82, 66, 89], 3, 3, true, 1, 1, 1⟩,
  ⟨[71, 69, 84, 82, 65, 78, 71, 69], 4, 4, false, 1, 1, 1⟩,
  ⟨[83, 69, 84, 82, 65, 78, 71, 69], 4, 4, true, 1, 1, 1⟩,
  ⟨[77, 71, 69, 84], 2, 0, false, 1, -1, 1⟩,
  ⟨[77, 83, 69, 84], 3, 0, true, 1, -2, 2⟩,
  ⟨[76, 80, 85, 83, 72], 3, 0, true, 1, 1, 1⟩,
  ⟨[82, 80, 85, 83, 72], 3, 0, true, 1, 1, 1⟩,
  ⟨[76, 80, 85, 83, 72, 88], 3, 0, true, 1, 1, 1⟩,
  ⟨[82, 80, 85, 83, 72, 88], 3, 0, true, 1, 1, 1⟩,
  ⟨[76, 80, 79, 80], 2, 2, true, 1, 1, 1⟩,
  ⟨[82, 80, 79, 80], 2, 2, true, 1, 1, 1⟩,
  ⟨[76, 76, 69, 78], 2, 2, false, 1, 1, 1⟩,
  ⟨[76, 73, 78, 68, 69, 88], 3, 3, false, 1, 1, 1⟩,
  ⟨[76, 83, 69, 84], 4, 4, true, 1, 1, 1⟩,
  ⟨[76, 82, 65, 78, 71, 69], 4, 4, false, 1, 1, 1⟩,
  ⟨[76, 84, 82, 73, 77], 4, 4, true, 1, 1, 1⟩,
  ⟨[76, 82, 69, 77], 4, 4, true, 1, 1, 1⟩,
  ⟨[76, 73, 78, 83, 69, 82, 84], 5, 5, true, 1, 1, 1⟩,
  ⟨[82, 80, 79, 80, 76, 80, 85, 83, 72], 3, 3, true, 1, 2, 1⟩,
  ⟨[72, 83, 69, 84], 4, 0, true, 1, 1, 1⟩,
  ⟨[72, 83, 69, 84, 78, 88], 4, 4, true, 1, 1, 1⟩,
  ⟨[72, 71, 69, 84], 3, 3, false, 1, 1, 1⟩,
  ⟨[72, 77, 71, 69, 84], 3, 0, false, 1, 1, 1⟩,
  ⟨[72, 68, 69, 76], 3, 0, true, 1, 1, 1⟩,
  ⟨[72, 69, 88, 73, 83, 84, 83], 3, 3, false, 1, 1, 1⟩,
  ⟨[72, 76, 69, 78], 2, 2, false, 1, 1, 1⟩,
  ⟨[72, 83, 84, 82, 76, 69, 78], 3, 3, false, 1, 1, 1⟩,
  ⟨[72, 75, 69, 89, 83], 2, 2, false, 1, 1, 1⟩,
  ⟨[72, 86, 65, 76, 83], 2, 2, false, 1, 1, 1⟩,
  ⟨[72, 71, 69, 84, 65, 76, 76], 2, 2, false, 1, 1, 1⟩,
  ⟨[72, 73, 78, 67, 82, 66, 89], 4, 4, true, 1, 1, 1⟩,
  ⟨[90, 65, 68, 68], 4, 0, true, 1, 1, 1⟩,
  ⟨[90, 73, 78, 67, 82, 66, 89], 4, 4, true, 1, 1, 1⟩,
  ⟨[90, 82, 69, 77], 3, 0, true, 1, 1, 1⟩,
  ⟨[90, 83, 67, 79, 82, 69], 3, 3, false, 1, 1, 1⟩,
  ⟨[90, 67, 65, 82, 68], 2, 2, false, 1, 1, 1⟩,
  ⟨[90, 82, 65, 78, 75], 3, 3, false, 1, 1, 1⟩,
  ⟨[90, 82, 69, 86, 82, 65, 78, 75], 3, 3, false, 1, 1, 1⟩,
  ⟨[90, 82, 65, 78, 71, 69], 4, 4, false, 1, 1, 1⟩,
  ⟨[90, 82, 69, 86, 82, 65, 78, 71, 69], 4, 4, false, 1, 1, 1⟩,
  ⟨[90, 82, 65, 78, 71, 69, 66, 89, 83, 67, 79, 82, 69], 4, 4, false, 1, 1, 1⟩,
  ⟨[90, 67, 79, 85, 78, 84], 4, 4, false, 1, 1, 1⟩,
  ⟨[90, 80, 79, 80, 77, 73, 78], 2, 2, true, 1, 1, 1⟩,
  ⟨[90, 80, 79, 80, 77, 65, 88], 2, 2, true, 1, 1, 1⟩,
  ⟨[90, 82, 69, 77, 82, 65, 78, 71, 69, 66, 89, 82, 65, 78, 75], 4, 4, true, 1, 1, 1⟩,
  ⟨[90, 82, 69, 77, 82, 65, 78, 71, 69, 66, 89, 83, 67, 79, 82, 69], 4, 4, true, 1, 1, 1⟩,
  ⟨[80, 65, 68, 68], 5, 0, true, 1, 1, 1⟩,
  ⟨[80, 82, 69, 77], 3, 0, true, 1, 1, 1⟩,
  ⟨[80, 80, 79, 83], 3, 3, false, 1, 1, 1⟩,
  ⟨[80, 67, 65, 82, 68], 2, 2, false, 1, 1, 1⟩,
  ⟨[80, 77, 79, 86, 69], 4, 4, true, 1, 1, 1⟩,
  ⟨[80, 84, 85, 82, 78], 3, 3, true, 1, 1, 1⟩,
  ⟨[80, 83, 67, 65, 76, 69], 4, 4, true, 1, 1, 1⟩,
  ⟨[80, 78, 69, 65, 82], 4, 4, false, 1, 1, 1⟩,
  ⟨[80, 83, 85, 77], 2, 2, false, 1, 1, 1⟩,
  ⟨[80, 65, 76, 76], 2, 2, false, 1, 1, 1⟩,
  ⟨[80, 73, 78, 71], 1, 1, false, 0, 0, 0⟩,
  ⟨[69, 67, 72, 79], 2, 2, false, 0, 0, 0⟩]
def upB (c : UInt8) : UInt8 := if 97 ≤ c ∧ c ≤ 122 then c - 32 else c
/-- great letters -/
def upL (l : List UInt8) : List UInt8 := l.map upB
/-- the row of a name -/
def findP (n : List UInt8) : Option CRow := rowsL.find? fun r => r.name == upL n
def MSET : List UInt8 := [77, 83, 69, 84]
def HSET : List UInt8 := [72, 83, 69, 84]
def ZADD : List UInt8 := [90, 65, 68, 68]
def PADD : List UInt8 := [80, 65, 68, 68]
def FLUSHALL : List UInt8 := [70, 76, 85, 83, 72, 65, 76, 76]
/-- what is behind the key comes in whole groups -/
def groupsP (name : List UInt8) (n : Nat) : Bool :=
  if name = MSET then (n + 1) % 2 == 0 else if name = HSET ∨ name = ZADD then n % 2 == 0 else if name = PADD then n % 3 == 2 else true
def fitsR (r : CRow) (n : Nat) : Int := if (n : Int) < r.least ∨ (0 < r.most ∧ r.most < (n : Int)) ∨ groupsP r.name n = false then 2 else 0
def fitsP (a : List (List UInt8)) : Int :=
  match a with
  | [] => 1
  | x :: _ => match findP x with
    | none => 1
    | some r => fitsR r a.length
/-- from place i on, every step-th up to last -/
def keysFrom (a : List (List UInt8)) (last step : Nat) : Nat → Nat → List (List UInt8)
  | 0, _ => []
  | fuel + 1, i => if i ≤ last then a.getD i [] :: keysFrom a last step fuel (i + step) else []
def lastR (r : CRow) (n : Nat) : Int := if r.last < 0 then (n : Int) + r.last else r.last
def keysR (r : CRow) (a : List (List UInt8)) : List (List UInt8) :=
  if 0 < r.first then keysFrom a (lastR r a.length).toNat r.step.toNat a.length r.first.toNat else []
def keysP (a : List (List UInt8)) : List (List UInt8) :=
  match a with
  | [] => []
  | x :: _ => match findP x with
    | none => []
    | some r => if fitsR r a.length = 0 then keysR r a else []
end Go.Proofs.Ytecpkoigjnpkfaa.Cmd
