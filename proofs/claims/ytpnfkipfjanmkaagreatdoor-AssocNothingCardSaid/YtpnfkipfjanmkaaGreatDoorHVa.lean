/- DERIVED. WALKS: value.Of, Plain, Number, Outside, True. -/
import Derived.Test.YtpnfkipfjanmkaaGreatDoorHA8
import Derived.Test.YtpnfkipfjanmkaaGreatDoorHVw
set_option linter.unusedVariables false
set_option linter.unusedSimpArgs false
namespace Go.Proofs.YtpnfkipfjanmkaaGreatDoor
open Go.RowKit Flt Go.Joins

inductive PVal where
  | none
  | num (x : Nat)
  | str (s : ByteArray)
  | both (x : Nat) (s : ByteArray)
/-- a value in memory -/
def VV : PVal → Value
  | .none => .iface 108 (.agg #[])
  | .num x => .iface 112 (.float .f64 x)
  | .str s => .iface 113 (.string s)
  | .both x s => .iface 115 (.agg #[.float .f64 x, .string s])
def ofV (k : ByteArray) (x : Nat) (s : ByteArray) : PVal :=
  if (k.toList == [110, 117, 109]) = true then .num x else if (k.toList == [115, 116, 114]) = true then .str s else if (k.toList == [98, 111, 116, 104]) = true then .both (preV s.data.toList) s else .none
def ValOut (v : Value) (w : World) (e : Ending) (w' : World) : Prop := e = .returned v ∧ Below w.heap.size w w'

set_option maxHeartbeats 1600000 in
theorem of_any {N : Nat} (k s : ByteArray) (x : Nat) (w : World) (hl : s.size ≤ 780) (hV : Vars N w) : Calls Tryz.prog 21 #[.agg #[.string k, .float .f64 x, .string s]] w (ValOut (VV (ofV k x s)) w) := by
  obtain ⟨R, hR⟩ : ∃ R, VV (ofV k x s) = R := ⟨_, rfl⟩
  rw [hR]
  unfold ofV at hR
  have HP := Lib.hid (fun w hV => dprefix_any (N := N) s w hl hV)
  have HV := Lib.hid hV
  have hba := Lib.hid ((Below.refl w.heap.size w).alloc (Nat.le_refl _) (Obj.cells #[Value.string k, Value.float FloatKind.f64 x, Value.string s] 24))
  clear hV
  cases h1 : (k.toList == [110, 117, 109])
  · rw [if_neg (by rw [h1]; decide)] at hR
    cases h2 : (k.toList == [115, 116, 114])
    · rw [if_neg (by rw [h2]; decide)] at hR
      cases h3 : (k.toList == [98, 111, 116, 104])
      · rw [if_neg (by rw [h3]; decide)] at hR
        subst hR
        go_enter Tryz.func21, Tryz.ntmps21
        go_wp2_with fail
        go_ret
        exact ⟨rfl, hba.out⟩
      · rw [if_pos h3] at hR
        obtain ⟨v, hv⟩ : ∃ v, preV s.data.toList = v := ⟨_, rfl⟩
        rw [hv] at hR
        unfold PreOut at HP
        rw [hv] at HP
        subst hR
        clear hv
        go_enter Tryz.func21, Tryz.ntmps21
        go_wp2_with fail
        refine (HP.out _ (HV.out.below hba.out HV.out.size)).mono ?_
        rintro e w2 ⟨rfl, hb2⟩
        have hc : w2.cell? ⟨w.heap.size, 2, none⟩ = some (.string s) := by
          rw [hb2.cell (by show w.heap.size < (w.alloc _).heap.size; rw [Go.Deep.nblk_alloc]; omega)]
          go_simp
        have HB2 := Lib.hid (hba.out.trans (hb2.mono hba.out.size))
        clear hb2
        go_wp2_with fail
        go_ret
        exact ⟨rfl, HB2.out⟩
    · rw [if_pos h2] at hR
      subst hR
      go_enter Tryz.func21, Tryz.ntmps21
      go_wp2_with fail
      go_ret
      exact ⟨rfl, hba.out⟩
  · rw [if_pos h1] at hR
    subst hR
    go_enter Tryz.func21, Tryz.ntmps21
    go_wp2_with fail
    go_ret
    exact ⟨rfl, hba.out⟩
end Go.Proofs.YtpnfkipfjanmkaaGreatDoor
