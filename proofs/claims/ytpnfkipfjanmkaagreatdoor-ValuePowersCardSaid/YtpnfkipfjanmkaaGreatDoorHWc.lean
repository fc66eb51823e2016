/- DERIVED. WALK: tedderlaw08.ValuePowers. -/
import Derived.Test.YtpnfkipfjanmkaaGreatDoorHA3
import Derived.Test.YtpnfkipfjanmkaaGreatDoorHA9
set_option linter.unusedVariables false
set_option linter.unusedSimpArgs false
namespace Go.Proofs.YtpnfkipfjanmkaaGreatDoor
open Go.RowKit Flt Ieee

set_option maxHeartbeats 1600000 in
theorem powers_law {N : Nat} (a b : Nat) (hb : b < 2 ^ 64) (w : World) (hV : Vars N w) : Calls Tryz.prog 16 #[.int .u64 a, .int .u64 b] w (BoolOut true w) := by
  have HV := Lib.hid hV
  have HP := Lib.hid (fun w => power_any a b hb w)
  have HR := Lib.hid (fun w => rpower_any a b hb w)
  have h1 := frombits_run
  clear hV hb
  go_enter Tryz.func16, Tryz.ntmps16
  go_wp2_with fail
  refine (awake08 _ HV.out).mono ?_
  rintro e w1 ⟨rfl, hb⟩
  have HB := Lib.hid hb
  clear hb
  go_wp2_with fail
  refine (HP.out _).mono ?_
  rintro e w2 ⟨p, rfl, hp, hb⟩
  have HB := Lib.hid (HB.out.trans (hb.mono HB.out.size))
  clear hb
  go_wp2_with fail
  refine (HR.out _).mono ?_
  rintro e w3 ⟨q, rfl, hq, hb⟩
  have HB := Lib.hid (HB.out.trans (hb.mono HB.out.size))
  have HN := Lib.hid (nbits_rep hp hq)
  clear hb hp hq
  generalize (powV a b).snd = c at *
  go_wp2_with fail
  refine (bits_any p _).mono ?_
  rintro e w' ⟨rfl, rfl⟩
  go_wp2_with fail
  refine (bits_any q _).mono ?_
  rintro e w' ⟨rfl, rfl⟩
  rw [HN.out]
  generalize nbits q = n
  go_wp2_with fail
  go_ret
  exact ⟨rfl, HB.out⟩
end Go.Proofs.YtpnfkipfjanmkaaGreatDoor
