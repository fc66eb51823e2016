/- DERIVED. Laws of stores that the walks of value want. -/
import Derived.Test.YtpnfkipfjanmkaaGreatDoorHWd
import Derived.Laws.Cover2
set_option linter.unusedVariables false
set_option linter.unusedSimpArgs false
namespace Go.Proofs.YtpnfkipfjanmkaaGreatDoor
open Go.RowKit
variable {P : Program} {w : World} {a : Addr} {m : Mode}
@[go_sem] theorem run_store_float (k : FloatKind) (b : Nat) : (store a (.float k b) m).run P w = stored P w a (.float k b) m := run_store P w a _ m rfl
end Go.Proofs.YtpnfkipfjanmkaaGreatDoor
