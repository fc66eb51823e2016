/- DERIVED. Plain: the bits of a double put together. -/
import Derived.Test.YtpnfkipfjanmkaaGreatDoorHWq
set_option linter.unusedVariables false
set_option linter.unusedSimpArgs false
namespace Go.Proofs.YtpnfkipfjanmkaaGreatDoor
open Go.RowKit Flt

theorem bits_lo (a : Nat) (ha : a < 18446744073709551616) : bits .and .u64 (a : Int) 4503599627370495 = ((a % 4503599627370496 : Nat) : Int) := by
  rw [show (4503599627370495 : Int) = ((4503599627370495 : Nat) : Int) from rfl, bits_and_u64_nat _ _ ha (by omega), Nat.and_two_pow_sub_one_eq_mod a 52]
theorem bits_top (a : Nat) (ha : a < 9007199254740992) : bits .and .u64 (a : Int) 4503599627370496 = if a < 4503599627370496 then 0 else 4503599627370496 := by
  rw [show (4503599627370496 : Int) = ((4503599627370496 : Nat) : Int) from rfl, bits_and_u64_nat _ _ (by omega) (by omega), nat_bit52]
  split
  · rename_i h; omega
  · rename_i h; omega
theorem bits_hi (a b : Nat) (ha : a < 4503599627370496) (hb : b < 4096) : bits .or .u64 (a : Int) ((b : Int) * 4503599627370496) = ((b * 4503599627370496 + a : Nat) : Int) := by
  rw [show (b : Int) * 4503599627370496 = ((b * 4503599627370496 : Nat) : Int) from by omega, bits_or_u64_nat _ _ (by omega) (by omega)]
  have := Nat.two_pow_add_eq_or_of_lt (i := 52) ha b
  rw [Nat.or_comm, Nat.mul_comm, ← this]
theorem bits_ex_all : ∀ e : Fin 2048, bits .and .i64 (e.val : Int) 2047 = (e.val : Int) := by decide +kernel
theorem bits_ex (e : Nat) (h : e < 2048) : bits .and .i64 (e : Int) 2047 = (e : Int) := bits_ex_all ⟨e, h⟩
end Go.Proofs.YtpnfkipfjanmkaaGreatDoor
