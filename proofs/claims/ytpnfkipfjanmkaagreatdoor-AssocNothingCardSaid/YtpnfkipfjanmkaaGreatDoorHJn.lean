/- DERIVED. THE CLOSED FACTS OF AssocNothing's ROW AND CARD. -/
import Derived.Test.YtpnfkipfjanmkaaGreatDoorHB0
import Derived.Test.YtpnfkipfjanmkaaGreatDoorHJh
set_option linter.unusedVariables false
set_option linter.unusedSimpArgs false
namespace Go.Proofs.YtpnfkipfjanmkaaGreatDoor.Nothing
open Go
theorem j6 : (Rows.assocNothingRow.inPlace == Tryz.prog.inPlace 3) = true := by kernel_rfl
theorem j7 : (Rows.assocNothingRow.unfollowed == Tryz.prog.unfollowed 3) = true := by kernel_rfl
theorem j8 : (Rows.assocNothingRow.recurses == Tryz.prog.recurses 3) = true := by kernel_rfl
theorem j9 : (Rows.assocNothingRow.named == Tryz.prog.varsNamed 3) = true := by kernel_rfl
theorem facts : joinedFacts Tryz.prog 3 Tryz.f3 Rows.assocNothingSpec Rows.assocNothingRow = true :=
  joined_of jP1 jP2 jP3 jP4 jP5 jP6 (by kernel_rfl) (by kernel_rfl) (by kernel_rfl) (by kernel_rfl) (by kernel_rfl) j6 j7 j8 j9 (by kernel_rfl) (by kernel_rfl) (by kernel_rfl) (by kernel_rfl) (by kernel_rfl) (by kernel_rfl) (by kernel_rfl) (by kernel_rfl) (by kernel_rfl) jPk (by kernel_rfl) jPl (by kernel_rfl) (by kernel_rfl) (by kernel_rfl) (by kernel_rfl) (by kernel_rfl)
theorem jGoes : false = Rows.assocNothingRow.goesBy Tryz.pinned.checked.prog := by kernel_rfl
theorem jWf : Rows.assocNothingRow.wfByText (OpenSpec.ofChange Rows.assocNothingSpec) = true := by kernel_rfl
theorem jStand (f : FuncId) (fn : Func) (hf : Tryz.prog.funcNamed "tedder/tedderlaw09.AssocNothing" = some f) (hfn : Tryz.prog.funcs[f]? = some fn) : true = Tryz.prog.looks [] ∧ ∀ (j : Nat) t, fn.params[j]? = some t → Tryz.prog.wantsStandIn t = false := by
  obtain rfl : f = 3 := Option.some.inj ((show Tryz.prog.funcNamed "tedder/tedderlaw09.AssocNothing" = some 3 by kernel_rfl).symm.trans hf) |>.symm
  obtain rfl : fn = Tryz.f3 := (Option.some.inj (Tryz.func3.symm.trans hfn)).symm
  exact ⟨jLooks, fun j t ht => by
    rw [Tryz.params3] at ht
    have hm : t ∈ [9, 24] := by simpa using Array.mem_of_getElem? ht
    have hall : ([9, 24].all fun u => !Tryz.prog.wantsStandIn u) = true := by kernel_rfl
    exact (show Tryz.prog.wantsStandIn t = false by simpa using List.all_eq_true.1 hall t hm)⟩
end Go.Proofs.YtpnfkipfjanmkaaGreatDoor.Nothing
