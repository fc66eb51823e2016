/- THE CARD OF ValuePowers: powers are the document's; the conditions are the row's own: the listed variables of the library hold what its text says. -/
import Derived.Test.YtpnfkipfjanmkaaGreatDoorHPowers
import Derived.Test.YtpnfkipfjanmkaaGreatDoorHB1
import Derived.Test.YtpnfkipfjanmkaaGreatDoorTie
import Derived.Test.YtpnfkipfjanmkaaGreatDoorCards
import Derived.SevenTiedAt
set_option linter.unusedVariables false
set_option linter.unusedSimpArgs false
namespace Go.Proofs.YtpnfkipfjanmkaaGreatDoor.Powers
open Go
theorem powers_card : Rows.ValuePowersCardSaid :=
  Claim7.holds_tied_plain_at .later [] [.data, .data, .widerDeep, .widerDeep, .data, .data, .data, .data, .data, .data, .sentinel, .sentinel, .pinned, .pinned, .pinned, .pinned] true (true, "7d82dbb534877a6b534a49d817f849667c10679bb841459cc45423545d3355f5") true holds (fun _ h => by cases h) jWf (fun _ h => by cases h) valuePowers_row_tie rfl ⟨rfl, rfl⟩ jMain rfl jStand jGoes
#print axioms powers_card
end Go.Proofs.YtpnfkipfjanmkaaGreatDoor.Powers
