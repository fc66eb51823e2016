/- That no array has no keys, and takes none: tedderlaw09.AssocNothing answers true at every input, if the library's listed variables hold what its text says. -/
import Derived.Test.YtpnfkipfjanmkaaGreatDoorHNo
import Derived.Test.YtpnfkipfjanmkaaGreatDoorHJn
import Derived.Test.YtpnfkipfjanmkaaGreatDoorTie
import Derived.Test.YtpnfkipfjanmkaaGreatDoorCards
import Derived.SevenTiedAt
set_option linter.unusedVariables false
set_option linter.unusedSimpArgs false
namespace Go.Proofs.YtpnfkipfjanmkaaGreatDoor.Nothing
open Go.RowKit Flt Go.Lib Go.ChangeShapes Go.WideShapes Go.ChangeAt

theorem holds : Rows.assocNothingRow.holds Tryz.pinned (OpenSpec.ofChange Rows.assocNothingSpec) :=
  OpenClaim.holds_of_wide 3 Tryz.f3 rfl rfl rfl rfl rfl rfl rfl ⟨rfl, rfl, rfl, rfl, rfl⟩ rfl rfl rfl rfl rfl (by kernel_rfl) Tryz.func3 facts
    (of_decide_eq_true (by kernel_rfl)) (by unfold Func.isWrapper; first | (rw [if_pos (by decide +kernel)]; kernel_rfl) | (rw [if_neg (by decide +kernel)]; exact ⟨rfl, rfl⟩))
    (fun os started H enc _ => lifted os started H enc)

theorem nothing_card : Rows.AssocNothingCardSaid :=
  Claim7.holds_tied_plain_at .later [] [.data, .data, .widerDeep, .widerDeep, .data, .data, .data, .data, .data, .data, .sentinel, .sentinel, .pinned, .pinned, .pinned] true (true, "7d82dbb534877a6b534a49d817f849667c10679bb841459cc45423545d3355f5") true holds (fun _ h => by cases h) jWf (fun _ h => by cases h) assocNothing_row_tie rfl ⟨rfl, rfl⟩ jMain rfl jStand jGoes
#print axioms nothing_card
end Go.Proofs.YtpnfkipfjanmkaaGreatDoor.Nothing
