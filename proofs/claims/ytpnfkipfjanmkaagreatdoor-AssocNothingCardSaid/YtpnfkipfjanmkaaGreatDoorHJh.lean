/- DERIVED. THE CARDS' CLOSED FACTS. -/
import Derived.Test.YtpnfkipfjanmkaaGreatDoorRows
import Derived.SevenTiedAt
set_option linter.unusedVariables false
set_option linter.unusedSimpArgs false
namespace Go.Proofs.YtpnfkipfjanmkaaGreatDoor
open Go
theorem jLooks : true = Tryz.pinned.checked.prog.looks [] := by kernel_rfl
theorem jMain : Tryz.pinned.checked.prog.mainIs = some (true, "7d82dbb534877a6b534a49d817f849667c10679bb841459cc45423545d3355f5".toList) := by kernel_rfl
end Go.Proofs.YtpnfkipfjanmkaaGreatDoor
