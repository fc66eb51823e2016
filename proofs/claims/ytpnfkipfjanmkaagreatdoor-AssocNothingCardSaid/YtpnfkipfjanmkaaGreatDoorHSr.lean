/- DERIVED. The shelf's contracts as dec wants them: all blocks below are as they were. -/
import Derived.Test.YtpnfkipfjanmkaaGreatDoorHSq
import Derived.Shelf.Strings.SlTrimAscii
import Derived.Lib.SmallJoins
import Derived.WalkSmall
import Derived.Lib.AppendIntMem
set_option linter.unusedVariables false
set_option linter.unusedSimpArgs false
namespace Go.Proofs.YtpnfkipfjanmkaaGreatDoor
open Go.RowKit Go.Sort

theorem below_growW (w : World) (os : Array Obj) (n : Nat) : Below w.heap.size w (grow (w.drewN n) os) := Lib.below_grow _ _ (Nat.le_refl _) _ _
theorem tl_blank (s : ByteArray) (w : World) : Calls Tryz.prog 98 #[.string s, .string ⟨#[32, 9, 10]⟩] w fun e w' => e = .returned (.string ⟨(Lib.trimLeftS s.data.toList [32, 9, 10]).toArray⟩) ∧ Below w.heap.size w w' :=
  Any.strings_TrimLeft_laid Tryz.lays161 (by kernel_rfl) s ⟨#[32, 9, 10]⟩ w (by decide) (ascii_of_all (by decide))
theorem tr_blank (s : ByteArray) (w : World) (hs : s.size ≤ 9223372036854775807) : Calls Tryz.prog 104 #[.string s, .string ⟨#[32, 9, 10]⟩] w fun e w' => e = .returned (.string ⟨(Lib.trimS s.data.toList [32, 9, 10]).toArray⟩) ∧ Below w.heap.size w w' :=
  Any.strings_Trim_laid Tryz.lays160 (by kernel_rfl) s ⟨#[32, 9, 10]⟩ w hs (by decide) (ascii_of_all (by decide))
end Go.Proofs.YtpnfkipfjanmkaaGreatDoor
