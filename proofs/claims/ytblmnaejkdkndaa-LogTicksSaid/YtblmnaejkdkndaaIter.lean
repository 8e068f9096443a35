/- The contracts of the library on sorted keys of a map, laid at this translation (written by the kit's tool). -/
import Derived.Shelf.SlIter.Nil
import Derived.Shelf.SortM.Plain
import Derived.Shelf.SortM.SortNone
import Derived.Ground.GgzProg
import Derived.Ground.SlgmProg
import Derived.Test.YtblmnaejkdkndaaProg
namespace Go.Proofs
open Go.Shelf
def Try.keys80_ren : Go.Shelf.Ren := ⟨fun | 7 => 80 | 10 => 84 | n => n, fun | 23 => 78 | 26 => 9 | 3 => 83 | 28 => 133 | 0 => 0 | 27 => 132 | 33 => 115 | 4 => 4 | n => n, fun | n => n⟩
theorem Try.keys80 : Go.Proofs.SlLaysZ.n7 Try.prog Try.keys80_ren := {
  mixed := by kernel_rfl
  f7 := ⟨Try.f80.name, by decide, Try.func80.trans (congrArg some (by kernel_rfl))⟩
  f10 := ⟨Try.f84.name, by decide, Try.func84.trans (congrArg some (by kernel_rfl))⟩
  t0 := Try.underlying0
  a0 := Try.isAgg0
  z0 := Try.sizeOf0
  v0 := Try.zeroValue0
  t4 := Try.underlying4
  a4 := Try.isAgg4
  z4 := Try.sizeOf4
  v4 := Try.zeroValue4
  t23 := Try.underlying78
  a23 := Try.isAgg78
  z23 := Try.sizeOf78
  v23 := Try.zeroValue78
  t26 := Try.underlying9
  a26 := Try.isAgg9
  z26 := Try.sizeOf9
  v26 := Try.zeroValue9
  t27 := Try.underlying132
  a27 := Try.isAgg132
  z27 := Try.sizeOf132
  v27 := Try.zeroValue132
  t28 := Try.underlying133
  a28 := Try.isAgg133
  z28 := Try.sizeOf133
  v28 := Try.zeroValue133
  t33 := Try.underlying115
  a33 := Try.isAgg115
  z33 := Try.sizeOf115
  v33 := Try.zeroValue115 }
def Try.sorted79_ren : Go.Shelf.Ren := ⟨fun | 6 => 79 | 8 => 82 | 9 => 83 | 11 => 85 | 13 => 87 | 12 => 86 | 23 => 97 | 24 => 98 | 14 => 88 | 15 => 89 | 16 => 90 | 17 => 91 | 18 => 92 | 19 => 93 | 20 => 94 | 21 => 95 | 22 => 96 | 25 => 99 | 26 => 100 | 27 => 101 | 28 => 102 | 29 => 103 | 30 => 104 | 31 => 105 | n => n, fun | 26 => 9 | 28 => 133 | 24 => 24 | 0 => 0 | 3 => 3 | 37 => 30 | 48 => 121 | 50 => 101 | 4 => 4 | 40 => 142 | 39 => 141 | 45 => 147 | 5 => 5 | 9 => 9 | 51 => 151 | 55 => 155 | 57 => 157 | 58 => 158 | 33 => 115 | n => n, fun | n => n⟩
theorem Try.sorted79 : Go.Proofs.SlLaysZ.n6 Try.prog Try.sorted79_ren := {
  mixed := by kernel_rfl
  f6 := ⟨Try.f79.name, by decide, Try.func79.trans (congrArg some (by kernel_rfl))⟩
  f8 := ⟨Try.f82.name, by decide, Try.func82.trans (congrArg some (by kernel_rfl))⟩
  f11 := ⟨Try.f85.name, by decide, Try.func85.trans (congrArg some (by kernel_rfl))⟩
  t0 := Try.underlying0
  a0 := Try.isAgg0
  z0 := Try.sizeOf0
  v0 := Try.zeroValue0
  t24 := Try.underlying24
  a24 := Try.isAgg24
  z24 := Try.sizeOf24
  v24 := Try.zeroValue24
  t26 := Try.underlying9
  a26 := Try.isAgg9
  z26 := Try.sizeOf9
  v26 := Try.zeroValue9
  t28 := Try.underlying133
  a28 := Try.isAgg133
  z28 := Try.sizeOf133
  v28 := Try.zeroValue133
  i26 := by kernel_rfl }
def Try.sort83_ren : Go.Shelf.Ren := ⟨fun | 6 => 83 | 8 => 87 | 9 => 86 | 19 => 97 | 20 => 98 | 21 => 88 | 22 => 89 | 23 => 90 | 24 => 91 | 25 => 92 | 26 => 93 | 27 => 94 | 28 => 95 | 29 => 96 | 36 => 99 | 31 => 100 | 32 => 101 | 37 => 102 | 38 => 103 | 39 => 104 | 41 => 105 | n => n, fun | 27 => 24 | 29 => 9 | 3 => 3 | 32 => 30 | 26 => 24 | 0 => 0 | 44 => 121 | 46 => 101 | 4 => 4 | 36 => 142 | 35 => 141 | 41 => 147 | 5 => 5 | 9 => 9 | 53 => 151 | 57 => 155 | 63 => 157 | 64 => 158 | n => n, fun | n => n⟩
theorem Try.sort83 : Go.Proofs.SlLaysM.n6 Try.prog Try.sort83_ren := {
  mixed := by kernel_rfl
  f6 := ⟨Try.f83.name, by decide, Try.func83.trans (congrArg some (by kernel_rfl))⟩
  f8 := Try.func87.trans (congrArg some (by kernel_rfl))
  f9 := ⟨Try.f86.name, by decide, Try.func86.trans (congrArg some (by kernel_rfl))⟩
  f19 := Try.func97.trans (congrArg some (by kernel_rfl))
  f20 := Try.func98.trans (congrArg some (by kernel_rfl))
  f21 := ⟨Try.f88.name, by decide, Try.func88.trans (congrArg some (by kernel_rfl))⟩
  f22 := ⟨Try.f89.name, by decide, Try.func89.trans (congrArg some (by kernel_rfl))⟩
  f23 := ⟨Try.f90.name, by decide, Try.func90.trans (congrArg some (by kernel_rfl))⟩
  f24 := ⟨Try.f91.name, by decide, Try.func91.trans (congrArg some (by kernel_rfl))⟩
  f25 := ⟨Try.f92.name, by decide, Try.func92.trans (congrArg some (by kernel_rfl))⟩
  f26 := ⟨Try.f93.name, by decide, Try.func93.trans (congrArg some (by kernel_rfl))⟩
  f27 := ⟨Try.f94.name, by decide, Try.func94.trans (congrArg some (by kernel_rfl))⟩
  f28 := ⟨Try.f95.name, by decide, Try.func95.trans (congrArg some (by kernel_rfl))⟩
  f29 := ⟨Try.f96.name, by decide, Try.func96.trans (congrArg some (by kernel_rfl))⟩
  f31 := Try.func100.trans (congrArg some (by kernel_rfl))
  f32 := Try.func101.trans (congrArg some (by kernel_rfl))
  f36 := ⟨Try.f99.name, by decide, Try.func99.trans (congrArg some (by kernel_rfl))⟩
  f37 := ⟨Try.f102.name, by decide, Try.func102.trans (congrArg some (by kernel_rfl))⟩
  f38 := ⟨Try.f103.name, by decide, Try.func103.trans (congrArg some (by kernel_rfl))⟩
  f39 := ⟨Try.f104.name, by decide, Try.func104.trans (congrArg some (by kernel_rfl))⟩
  f41 := ⟨Try.f105.name, by decide, Try.func105.trans (congrArg some (by kernel_rfl))⟩
  t0 := Try.underlying0
  a0 := Try.isAgg0
  z0 := Try.sizeOf0
  v0 := Try.zeroValue0
  t3 := Try.underlying3
  a3 := Try.isAgg3
  z3 := Try.sizeOf3
  v3 := Try.zeroValue3
  t4 := Try.underlying4
  a4 := Try.isAgg4
  z4 := Try.sizeOf4
  v4 := Try.zeroValue4
  t5 := Try.underlying5
  a5 := Try.isAgg5
  z5 := Try.sizeOf5
  v5 := Try.zeroValue5
  t9 := Try.underlying9
  a9 := Try.isAgg9
  z9 := Try.sizeOf9
  v9 := Try.zeroValue9
  t26 := Try.underlying24
  a26 := Try.isAgg24
  z26 := Try.sizeOf24
  v26 := Try.zeroValue24
  t27 := Try.underlying24
  a27 := Try.isAgg24
  z27 := Try.sizeOf24
  v27 := Try.zeroValue24
  t29 := Try.underlying9
  a29 := Try.isAgg9
  z29 := Try.sizeOf9
  v29 := Try.zeroValue9
  t32 := Try.underlying30
  a32 := Try.isAgg30
  z32 := Try.sizeOf30
  v32 := Try.zeroValue30
  t35 := Try.underlying141
  a35 := Try.isAgg141
  z35 := Try.sizeOf141
  v35 := Try.zeroValue141
  t36 := Try.underlying142
  a36 := Try.isAgg142
  z36 := Try.sizeOf142
  v36 := Try.zeroValue142
  t41 := Try.underlying147
  a41 := Try.isAgg147
  z41 := Try.sizeOf147
  v41 := Try.zeroValue147
  t44 := Try.underlying121
  a44 := Try.isAgg121
  z44 := Try.sizeOf121
  v44 := Try.zeroValue121
  t46 := Try.underlying101
  a46 := Try.isAgg101
  z46 := Try.sizeOf101
  v46 := Try.zeroValue101
  t53 := Try.underlying151
  a53 := Try.isAgg151
  z53 := Try.sizeOf151
  v53 := Try.zeroValue151
  t57 := Try.underlying155
  a57 := Try.isAgg155
  z57 := Try.sizeOf155
  v57 := Try.zeroValue155
  t63 := Try.underlying157
  a63 := Try.isAgg157
  z63 := Try.sizeOf157
  v63 := Try.zeroValue157
  t64 := Try.underlying158
  a64 := Try.isAgg158
  z64 := Try.sizeOf158
  v64 := Try.zeroValue158 }
open Go.RowKit Go.Maps Go.Sort Go.Shelf
theorem Try.sorts79 (m : Nat) : AnyZ.SortsIn Try.prog Try.sorted79_ren Fence.wide m :=
  ⟨fun blk off cap ss W hH hblk hsz => callsIn_wide.2 (AnyM.slices_Sort_string Try.sort83 blk off cap ss W hH hblk hsz),
   fun p cap W => callsIn_wide.2 (AnyM.slices_Sort_string_none Try.sort83 p cap W)⟩
theorem Try.maps_Keys_80 (mb : Option Nat) (W : World) : CallsIn Fence.wide 5 Try.prog 80 #[.map mb] W fun e w' => e = .returned (.func (.func 84) #[] #[.pointer (some ⟨W.heap.size, 0, none⟩)]) ∧ w' = W.alloc (.cells #[.map mb] 78) :=
  AnyZ.keys_in Try.keys80 Fence.wide 5 trivial rfl mb W
set_option maxHeartbeats 1000000 in
theorem Try.slices_Sorted_keys_79_80 {H : Type} (b nn : Nat) (D0 : DataW H) (R : Value → Option (DataW H × List MemPlace)) (w : World) (hown : w.ownsMap Try.prog 9 R b nn D0) (hmax : Maps.size D0 ≤ maxLen) (hbytes : Maps.size D0 * 16 ≤ 140737488355328) :
    CallsIn Fence.wide 5 Try.prog 79 #[.func (.func 84) #[] #[.pointer (some ⟨w.heap.size, 0, none⟩)]] (w.alloc (.cells #[.map (some b)] 78)) fun e w' => ∃ (v : Value) (ss : List (List UInt8)), e = .returned v ∧ ss.Perm (strKeys D0) ∧
      w'.ownsRow (w.alloc (.cells #[.map (some b)] 78)).heap.size 9 1 v ss.length ((ss.mergeSort (fun x y => decide (x ≤ y))).map encStr) ∧ (v = .slice none 0 0 ↔ ss = []) ∧ Below (w.alloc (.cells #[.map (some b)] 78)).heap.size (w.alloc (.cells #[.map (some b)] 78)) w' := by
  have hbl := hown.lt
  have hseq : SeqGives Fence.wide 2 Try.prog 84 #[.pointer (some ⟨w.heap.size, 0, none⟩)] encStr (fun ss => ss.Perm (strKeys D0)) (Maps.size D0) (w.alloc (.cells #[.map (some b)] 78)) :=
    AnyZ.keys_gives (ρ := Try.keys80_ren) { Try.keys80 with } Fence.wide _ trivial rfl (by omega) w.heap.size b nn D0 _ (by simp) (by simp) (by
      obtain ⟨es, clock, hb, Ft, hs, hD⟩ := hown
      exact ⟨es, clock, (Below.heap_alloc _ _ b hbl).trans hb, Ft, hs, hD⟩)
  exact AnyZ.sorted_in Try.sorted79 Fence.wide 5 trivial trivial trivial trivial rfl (by omega) (Try.sorts79 _) (enters_of Try.func83 (by kernel_rfl) rfl) 84 #[.pointer (some ⟨w.heap.size, 0, none⟩)] trivial (enters_of Try.func84 (by kernel_rfl) rfl) _ _ hmax hbytes _ hseq
set_option maxHeartbeats 1000000 in
theorem Try.slices_Sorted_keys_nil_79_80 (w : World) :
    CallsIn Fence.wide 5 Try.prog 79 #[.func (.func 84) #[] #[.pointer (some ⟨w.heap.size, 0, none⟩)]] (w.alloc (.cells #[.map none] 78)) fun e w' => ∃ (v : Value) (ss : List (List UInt8)), e = .returned v ∧ ss = [] ∧
      w'.ownsRow (w.alloc (.cells #[.map none] 78)).heap.size 9 1 v ss.length ((ss.mergeSort (fun x y => decide (x ≤ y))).map encStr) ∧ (v = .slice none 0 0 ↔ ss = []) ∧ Below (w.alloc (.cells #[.map none] 78)).heap.size (w.alloc (.cells #[.map none] 78)) w' := by
  have hseq : SeqGives Fence.wide 2 Try.prog 84 #[.pointer (some ⟨w.heap.size, 0, none⟩)] encStr (fun ss : List (List UInt8) => ss = []) 0 (w.alloc (.cells #[.map none] 78)) :=
    AnyZ.keys_gives_nil (ρ := Try.keys80_ren) { Try.keys80 with } Fence.wide _ trivial rfl w.heap.size _ (by simp) (by simp)
  exact AnyZ.sorted_in Try.sorted79 Fence.wide 5 trivial trivial trivial trivial rfl (by omega) (Try.sorts79 _) (enters_of Try.func83 (by kernel_rfl) rfl) 84 #[.pointer (some ⟨w.heap.size, 0, none⟩)] trivial (enters_of Try.func84 (by kernel_rfl) rfl) _ 0 (Nat.zero_le _) (by omega) _ hseq
end Go.Proofs
