/- DERIVED. WALKS: assoc's Keys at an array; tedderlaw09.awake. -/
import Derived.Test.YtpnfkipfjanmkaaGreatDoorHAs
import Derived.Test.YtpnfkipfjanmkaaGreatDoorHIt
set_option linter.unusedVariables false
set_option linter.unusedSimpArgs false
namespace Go.Proofs.YtpnfkipfjanmkaaGreatDoor
open Go.RowKit Flt Go.Maps Go.Sort Go.Shelf

set_option maxHeartbeats 1600000 in
theorem keys_any (p b n : Nat) (D : DataW Value) (w : World) (hA : Arr p b n D w) (hmax : Maps.size D ≤ maxLen) (hbytes : Maps.size D * 16 ≤ 140737488355328) :
    Calls Tryz.prog 26 #[.pointer (some ⟨p, 0, none⟩)] w fun e w' => ∃ (v : Value) (ss : List (List UInt8)), e = .returned v ∧ ss.Perm (strKeys D) ∧
      w'.ownsRow w.heap.size 9 1 v ss.length ((ss.mergeSort (fun x y => decide (x ≤ y))).map encStr) ∧ (v = .slice none 0 0 ↔ ss = []) ∧ Below w.heap.size w w' := by
  have hc := hA.cell
  have hown := hA.map
  clear hA
  refine (callsIn_wide (n := 6)).1 ?_
  have hfK : Fence.wide.fn 77 := trivial
  have hfS : Fence.wide.fn 76 := trivial
  refine callsIn_of_wp Tryz.func26 rfl trivial ?_ rfl
  simp only [Tryz.ntmps26, List.size_toArray, List.length_cons, List.length_nil, Nat.reduceAdd, Nat.reduceSub, Array.replicate_succ, Array.replicate_zero, List.push_toArray, List.append_toArray, List.nil_append, List.cons_append]
  gi_wp2_with (first
    | (gi_at_call 77; refine (Tryz.maps_Keys_77 _ _).mono ?_; rintro e w' ⟨rfl, rfl⟩)
    | (gi_at_call 76; refine (Tryz.slices_Sorted_keys_76_77 b n D hR w hown hmax hbytes).mono ?_; rintro e w' ⟨v, ss, rfl, hS, hrow, hnil, hb⟩))
  go_ret
  exact ⟨v, ss, rfl, hS, ownsRow_base_a hrow (by simp), hnil, ((Below.refl _ w).alloc (Nat.le_refl _) _).trans (hb.mono (by simp))⟩
end Go.Proofs.YtpnfkipfjanmkaaGreatDoor
