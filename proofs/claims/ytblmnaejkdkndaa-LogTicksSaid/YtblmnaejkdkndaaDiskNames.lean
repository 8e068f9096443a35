/- The walk over Disk.Names: the map's keys, sorted. -/
import Derived.Test.YtblmnaejkdkndaaDiskRep
import Derived.Test.YtblmnaejkdkndaaIter
set_option linter.unusedSimpArgs false
set_option linter.unusedVariables false
namespace Go.Proofs.Ytblmnaejkdkndaa
open Go.RowKit Go.Maps Go.Sort Go.Shelf

theorem OwnS.of_row {w : World} {base : Nat} {e : TypeId} {sz n : Nat} {v : Value} {xs : List Value} (h : w.ownsRow base e sz v n xs) : OwnS w base e sz v n xs := by
  refine ⟨h.1, ?_⟩
  rcases h.2 with hz | ⟨g, cap, cur, hv, hb, hg, hn, hm, hs, ht⟩
  · exact .inl hz
  · exact .inr ⟨g, cap, cur, (0, 0), hv, hb, hg, .inl rfl, hn, hm, by omega, ht⟩
theorem encStr_str : encStr = fun l => Value.string (str l) := by funext l; rfl

set_option maxHeartbeats 1000000 in
theorem names_any {S : Nat → Prop} {w : World} {db mb room : Nat} {E : List (List UInt8 × FileM)} {down : Bool} (h : DiskM S w db mb E room down) (hn : E.length ≤ 1000000) :
    Calls Try.prog 71 #[.pointer (some ⟨db, 0, none⟩)] w fun e w' => ∃ v, e = .returned v ∧ OwnS w' w.heap.size 9 1 v E.length (E.map fun p => Value.string (str p.1)) ∧ Below w.heap.size w w' := by
  have hlen : (kMap fptr E).length = E.length := kMap_len _ _
  have hown := h.map.2
  have hsz : Maps.size (mapD (kMap fptr E)) = E.length := by rw [mapD_size, hlen]
  have hmax : Maps.size (mapD (kMap fptr E)) ≤ maxLen := by rw [hsz]; unfold maxLen; omega
  have hbytes : Maps.size (mapD (kMap fptr E)) * 16 ≤ 140737488355328 := by rw [hsz]; omega
  have hsrt := h.map.1
  obtain ⟨c0, c1, c2⟩ := h.cells
  have HO := Lib.hid hown
  have HM := Lib.hid hmax
  have HB := Lib.hid hbytes
  have HZ := Lib.hid hsz
  have HS := Lib.hid hsrt
  have HL := Lib.hid hlen
  clear hown hmax hbytes hsz hsrt hlen h
  refine (callsIn_wide (n := 6)).1 ?_
  have hfK : Fence.wide.fn 80 := trivial
  have hfS : Fence.wide.fn 79 := trivial
  refine callsIn_of_wp Try.func71 rfl trivial ?_ rfl
  simp only [Try.ntmps71, List.size_toArray, List.length_cons, List.length_nil, Nat.reduceAdd, Nat.reduceSub, Array.replicate_succ, Array.replicate_zero, List.push_toArray, List.append_toArray, List.nil_append, List.cons_append]
  gi_wp2_with (first
    | (gi_at_call 80; refine (Try.maps_Keys_80 _ _).mono ?_; rintro e w' ⟨rfl, rfl⟩)
    | (gi_at_call 79; refine (Try.slices_Sorted_keys_79_80 mb _ _ heldE w HO.out HM.out HB.out).mono ?_; rintro e w' ⟨v, ss, rfl, hS, hrow, hnil, hb⟩))
  go_ret
  refine ⟨v, rfl, ?_, ((Below.refl _ w).alloc (Nat.le_refl _) _).trans (hb.mono (by simp))⟩
  have h1 := OwnS.of_row (ownsRow_base_a hrow (show w.heap.size ≤ _ by simp))
  have h2 : ss.length = E.length := by rw [hS.length_eq, mapD_keys, List.length_map]; exact HL.out
  rw [sorted_keys HS.out hS, h2, encStr_str, kMap_keys, List.map_map] at h1
  exact h1
end Go.Proofs.Ytblmnaejkdkndaa
