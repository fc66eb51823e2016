/-  -/
import Derived.Test.YtpnfkipfjanmkaaGreatDoorHA7
import Derived.Test.YtpnfkipfjanmkaaGreatDoorHA2
set_option linter.unusedVariables false
set_option linter.unusedSimpArgs false
/-! Plain: the text that dec.nearest makes. -/
namespace Go.Proofs.YtpnfkipfjanmkaaGreatDoor
open Flt Go.Lib

/-- the text that dec.nearest makes of figures and a power -/
theorem decText_of (F : List UInt8) (a : Int) : (48 :: 46 :: F) ++ [101] ++ itoa a = decText F (decDigits a.natAbs) (decide (a < 0)) := by
  unfold decText itoa
  by_cases h : a < 0
  · rw [if_pos h, decide_eq_true h]; simp
  · rw [if_neg h, decide_eq_false h, show a.toNat = a.natAbs from by omega]; simp
theorem texp_of (a : Int) : texp (decDigits a.natAbs) (decide (a < 0)) = a := by
  unfold texp
  rw [dval_decDigits]
  by_cases h : a < 0
  · rw [decide_eq_true h]; simp; omega
  · rw [decide_eq_false h]; simp; omega

end Go.Proofs.YtpnfkipfjanmkaaGreatDoor
