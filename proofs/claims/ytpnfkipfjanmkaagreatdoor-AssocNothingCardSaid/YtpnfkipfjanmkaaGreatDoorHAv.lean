/- DERIVED. WALK: tedderlaw09.awake. -/
import Derived.Test.YtpnfkipfjanmkaaGreatDoorHAu
set_option linter.unusedVariables false
set_option linter.unusedSimpArgs false
namespace Go.Proofs.YtpnfkipfjanmkaaGreatDoor
open Go.RowKit Flt Go.Maps Go.Sort Go.Shelf
theorem ofNum {N : Nat} (w : World) (hV : Vars N w) : Calls Tryz.prog 21 #[.agg #[.string ⟨#[110, 117, 109]⟩, .float .f64 4607182418800017408, .string ⟨#[]⟩]] w (ValOut (.iface 112 (.float .f64 4607182418800017408)) w) := by
  have h := of_any ⟨#[110, 117, 109]⟩ ⟨#[]⟩ 4607182418800017408 w (by decide) hV
  have e : ofV ⟨#[110, 117, 109]⟩ 4607182418800017408 ⟨#[]⟩ = .num 4607182418800017408 := by kernel_rfl
  rw [e] at h
  simpa only [VV] using h
theorem ofNone {N : Nat} (w : World) (hV : Vars N w) : Calls Tryz.prog 21 #[.agg #[.string ⟨#[]⟩, .float .f64 0, .string ⟨#[]⟩]] w (ValOut (.iface 108 (.agg #[])) w) := by
  have h := of_any ⟨#[]⟩ ⟨#[]⟩ 0 w (by decide) hV
  have e : ofV ⟨#[]⟩ 0 ⟨#[]⟩ = .none := by kernel_rfl
  rw [e] at h
  simpa only [VV] using h
theorem ord1 : FloatKind.f64.format.order 4607182418800017408 4607182418800017408 = some .eq := by kernel_rfl
theorem number1 {N : Nat} (w : World) (hV : Vars N w) : Calls Tryz.prog 68 #[.iface 112 (.float .f64 4607182418800017408)] w (ValOut (.float .f64 4607182418800017408) w) := by
  have h := number_any (.num 4607182418800017408) w (by decide) hV
  simpa only [VV, numberV] using h
set_option maxHeartbeats 1600000 in
theorem awake09 {N : Nat} (w : World) (hV : Vars N w) : Calls Tryz.prog 19 #[] w (BoolOut true w) := by
  have HV := Lib.hid hV
  clear hV
  go_enter Tryz.func19, Tryz.ntmps19
  go_wp2_with fail
  refine (new_any _).mono ?_
  rintro e w1 ⟨p, b, rfl, hA, h2, h3, hb⟩
  have HA := Lib.hid hA
  have HB := Lib.hid hb
  have HPB := Lib.hid (And.intro h2 h3)
  clear hA hb h2 h3
  go_wp2_with fail
  refine (ofNum _ (HV.out.below HB.out HV.out.size)).mono ?_
  rintro e w2 ⟨rfl, hb⟩
  have HB2 := Lib.hid (HB.out.trans (hb.mono HB.out.size))
  have HA2 := Lib.hid (HA.out.below hb)
  clear hb HA HB
  go_wp2_with fail
  refine (put_any p b 0 _ ⟨#[98]⟩ _ _ w2 w.heap.size HA2.out (by decide) (by decide) HPB.out).mono ?_
  rintro e w3 ⟨rfl, hA, hb⟩
  have HB3 := Lib.hid (HB2.out.trans hb)
  have HA3 := Lib.hid hA
  clear hA hb HA2 HB2
  go_wp2_with fail
  refine (ofNone _ (HV.out.below HB3.out HV.out.size)).mono ?_
  rintro e w4 ⟨rfl, hb⟩
  have HB4 := Lib.hid (HB3.out.trans (hb.mono HB3.out.size))
  have HA4 := Lib.hid (HA3.out.below hb)
  clear hb HA3 HB3
  go_wp2_with fail
  refine (put_any p b 1 _ ⟨#[97]⟩ _ _ w4 w.heap.size HA4.out (by decide) (by decide) HPB.out).mono ?_
  rintro e w5 ⟨rfl, hA, hb⟩
  have HB5 := Lib.hid (HB4.out.trans hb)
  have HA5 : Hid (Arr p b 2 (D2 (.iface 112 (.float .f64 4607182418800017408)) (.iface 108 (.agg #[]))) w5) := hA
  clear hA hb HA4 HB4
  go_wp2_with fail
  refine (keys_two p b 2 _ _ w5 HA5.out).mono ?_
  rintro e w6 ⟨g, cap, rfl, c0, c1, hg, hb⟩
  have HB6 := Lib.hid (HB5.out.trans (hb.mono HB5.out.size))
  have HA6 := Lib.hid (HA5.out.below hb)
  clear hb HA5 HB5 c1 hg
  go_wp2_with fail
  have hlen := len_any p b 2 _ w6 HA6.out
  rw [D2_size] at hlen
  refine hlen.mono ?_
  rintro e w' ⟨rfl, rfl⟩
  go_wp2_with fail
  refine (get_hit p b 2 _ ⟨#[98]⟩ (.iface 112 (.float .f64 4607182418800017408)) _ HA6.out (by decide) (D2_has _ _) (D2_get _ _ _)).mono ?_
  rintro e w' ⟨rfl, rfl⟩
  go_wp2_with fail
  refine (number1 _ (HV.out.below HB6.out HV.out.size)).mono ?_
  rintro e w7 ⟨rfl, hb⟩
  have HB7 := Lib.hid (HB6.out.trans (hb.mono HB6.out.size))
  have ho := ord1
  clear hb
  go_wp2_with fail
  go_ret
  exact ⟨rfl, HB7.out⟩
end Go.Proofs.YtpnfkipfjanmkaaGreatDoor
