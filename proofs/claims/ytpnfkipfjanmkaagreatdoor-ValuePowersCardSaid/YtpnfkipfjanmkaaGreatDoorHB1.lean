/- DERIVED. THE ROW's CLOSED FACTS. DERIVED. THE CARD's CLOSED FACTS. -/
import Derived.Test.YtpnfkipfjanmkaaGreatDoorHB0
import Derived.Test.YtpnfkipfjanmkaaGreatDoorHJh
set_option linter.unusedVariables false
set_option linter.unusedSimpArgs false
namespace Go.Proofs.YtpnfkipfjanmkaaGreatDoor.Powers
theorem j6 : (Rows.valuePowersRow.inPlace == Tryz.prog.inPlace 16) = true := by kernel_rfl
theorem j7 : (Rows.valuePowersRow.unfollowed == Tryz.prog.unfollowed 16) = true := by kernel_rfl
theorem j8 : (Rows.valuePowersRow.recurses == Tryz.prog.recurses 16) = true := by kernel_rfl
theorem j9 : (Rows.valuePowersRow.named == Tryz.prog.varsNamed 16) = true := by kernel_rfl
theorem facts : joinedFacts Tryz.prog 16 Tryz.f16 Rows.valuePowersSpec Rows.valuePowersRow = true :=
  joined_of jP1 jP2 jP3 jP4 jP5 jP6 (by kernel_rfl) (by kernel_rfl) (by kernel_rfl) (by kernel_rfl) (by kernel_rfl) j6 j7 j8 j9 (by kernel_rfl) (by kernel_rfl) (by kernel_rfl) (by kernel_rfl) (by kernel_rfl) (by kernel_rfl) (by kernel_rfl) (by kernel_rfl) (by kernel_rfl) jPk (by kernel_rfl) jPl (by kernel_rfl) (by kernel_rfl) (by kernel_rfl) (by kernel_rfl) (by kernel_rfl)
end Go.Proofs.YtpnfkipfjanmkaaGreatDoor.Powers

namespace Go.Proofs.YtpnfkipfjanmkaaGreatDoor.Powers
open Go
theorem jGoes : false = Rows.valuePowersRow.goesBy Tryz.pinned.checked.prog := by kernel_rfl
theorem jWf : Rows.valuePowersRow.wfByText (OpenSpec.ofChange Rows.valuePowersSpec) = true := by kernel_rfl
theorem jStand (f : FuncId) (fn : Func) (hf : Tryz.prog.funcNamed "tedder/tedderlaw08.ValuePowers" = some f) (hfn : Tryz.prog.funcs[f]? = some fn) : true = Tryz.prog.looks [] ∧ ∀ (j : Nat) t, fn.params[j]? = some t → Tryz.prog.wantsStandIn t = false := by
  obtain rfl : f = 16 := Option.some.inj ((show Tryz.prog.funcNamed "tedder/tedderlaw08.ValuePowers" = some 16 by kernel_rfl).symm.trans hf) |>.symm
  obtain rfl : fn = Tryz.f16 := (Option.some.inj (Tryz.func16.symm.trans hfn)).symm
  exact ⟨jLooks, fun j t ht => by
    rw [Tryz.params16] at ht
    have hm : t ∈ [78, 78] := by simpa using Array.mem_of_getElem? ht
    have hall : ([78, 78].all fun u => !Tryz.prog.wantsStandIn u) = true := by kernel_rfl
    exact (show Tryz.prog.wantsStandIn t = false by simpa using List.all_eq_true.1 hall t hm)⟩
end Go.Proofs.YtpnfkipfjanmkaaGreatDoor.Powers
