/- DERIVED. THE CLOSED FACTS OF ValueRises's ROW AND CARD. -/
import Derived.Test.YtpnfkipfjanmkaaGreatDoorHB0
import Derived.Test.YtpnfkipfjanmkaaGreatDoorHJh
set_option linter.unusedVariables false
set_option linter.unusedSimpArgs false
namespace Go.Proofs.YtpnfkipfjanmkaaGreatDoor.Rises
open Go
theorem j6 : (Rows.valueRisesRow.inPlace == Tryz.prog.inPlace 15) = true := by kernel_rfl
theorem j7 : (Rows.valueRisesRow.unfollowed == Tryz.prog.unfollowed 15) = true := by kernel_rfl
theorem j8 : (Rows.valueRisesRow.recurses == Tryz.prog.recurses 15) = true := by kernel_rfl
theorem j9 : (Rows.valueRisesRow.named == Tryz.prog.varsNamed 15) = true := by kernel_rfl
theorem facts : joinedFacts Tryz.prog 15 Tryz.f15 Rows.valueRisesSpec Rows.valueRisesRow = true :=
  joined_of jP1 jP2 jP3 jP4 jP5 jP6 (by kernel_rfl) (by kernel_rfl) (by kernel_rfl) (by kernel_rfl) (by kernel_rfl) j6 j7 j8 j9 (by kernel_rfl) (by kernel_rfl) (by kernel_rfl) (by kernel_rfl) (by kernel_rfl) (by kernel_rfl) (by kernel_rfl) (by kernel_rfl) (by kernel_rfl) jPk (by kernel_rfl) jPl (by kernel_rfl) (by kernel_rfl) (by kernel_rfl) (by kernel_rfl) (by kernel_rfl)
theorem jGoes : false = Rows.valueRisesRow.goesBy Tryz.pinned.checked.prog := by kernel_rfl
theorem jWf : Rows.valueRisesRow.wfByText (OpenSpec.ofChange Rows.valueRisesSpec) = true := by kernel_rfl
theorem jStand (f : FuncId) (fn : Func) (hf : Tryz.prog.funcNamed "tedder/tedderlaw08.ValueRises" = some f) (hfn : Tryz.prog.funcs[f]? = some fn) : true = Tryz.prog.looks [] ∧ ∀ (j : Nat) t, fn.params[j]? = some t → Tryz.prog.wantsStandIn t = false := by
  obtain rfl : f = 15 := Option.some.inj ((show Tryz.prog.funcNamed "tedder/tedderlaw08.ValueRises" = some 15 by kernel_rfl).symm.trans hf) |>.symm
  obtain rfl : fn = Tryz.f15 := (Option.some.inj (Tryz.func15.symm.trans hfn)).symm
  exact ⟨jLooks, fun j t ht => by
    rw [Tryz.params15] at ht
    have hm : t ∈ [92] := by simpa using Array.mem_of_getElem? ht
    have hall : ([92].all fun u => !Tryz.prog.wantsStandIn u) = true := by kernel_rfl
    exact (show Tryz.prog.wantsStandIn t = false by simpa using List.all_eq_true.1 hall t hm)⟩
end Go.Proofs.YtpnfkipfjanmkaaGreatDoor.Rises
