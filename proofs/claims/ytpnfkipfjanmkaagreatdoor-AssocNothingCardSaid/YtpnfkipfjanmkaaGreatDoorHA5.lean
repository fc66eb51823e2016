/- DERIVED. WALKS: floatBits. DERIVED. WALKS: floatBits, the way through the loops. -/
import Derived.Test.YtpnfkipfjanmkaaGreatDoorHA4
import Derived.Test.YtpnfkipfjanmkaaGreatDoorHWq
import Derived.Test.YtpnfkipfjanmkaaGreatDoorHLw
import Derived.Deep.QuietTactic
import Derived.BigQuiet
set_option linter.unusedVariables false
set_option linter.unusedSimpArgs false
namespace Go.Proofs.YtpnfkipfjanmkaaGreatDoor
open Go.RowKit Flt

set_option maxHeartbeats 1600000 in
set_option maxRecDepth 1000000 in
theorem fb_zero {N : Nat} (p : Nat) (D : Nat → Int) (dp : Int) (tr : Bool) (w : World) (hT : Tabs N w) (h : DecB p D 0 dp false tr w) :
    Calls Tryz.prog 335 #[.pointer (some ⟨p, 0, none⟩), .pointer (some ⟨10, 0, none⟩)] w fun e w' => e = .returned (.tuple #[.int .u64 0, .bool false]) ∧ ∃ k, w' = w.drewN k := by
  have h0 := h.nd'
  have h1 := h.dp'
  have h2 := h.ng'
  have c0 := hT.mant
  have c1 := hT.expb
  have c2 := hT.bias
  clear hT h
  have b1 : bits .and .u64 0 4503599627370495 = 0 := by decide +kernel
  have b2 : bits .and .i64 0 2047 = 0 := by decide +kernel
  have b3 : bits .or .u64 0 0 = 0 := by decide +kernel
  go_enter Tryz.func335, Tryz.ntmps335
  go_wp2_with fail
  refine wp_scope_two 0 1 (by decide) rfl rfl ?_
  intro J H0 H1
  go_wp2_with fail
  refine wp_goto ?_
  refine H0.out _ _ ?_
  clear H0 H1
  go_wp2_with fail
  go_quiet (fail)
  go_wp2_with fail
  rw [Exit.noGoto_ret]
  go_ret2
  exact ⟨rfl, _, rfl⟩

set_option maxHeartbeats 1600000 in
set_option maxRecDepth 1000000 in
theorem fb_small {N n : Nat} (p : Nat) (D : Nat → Int) (dp : Int) (tr : Bool) (w : World) (hT : Tabs N w) (h : DecB p D n dp false tr w) (hn : 0 < n) (hdp : dp < -330) :
    Calls Tryz.prog 335 #[.pointer (some ⟨p, 0, none⟩), .pointer (some ⟨10, 0, none⟩)] w fun e w' => e = .returned (.tuple #[.int .u64 0, .bool false]) ∧ ∃ k, w' = w.drewN k := by
  have h0 := h.nd'
  have h1 := h.dp'
  have h2 := h.ng'
  have c0 := hT.mant
  have c1 := hT.expb
  have c2 := hT.bias
  have hz : ((n : Int) == 0) = false := by rw [beq_eq_false_iff_ne]; omega
  clear hT h
  have b1 : bits .and .u64 0 4503599627370495 = 0 := by decide +kernel
  have b2 : bits .and .i64 0 2047 = 0 := by decide +kernel
  have b3 : bits .or .u64 0 0 = 0 := by decide +kernel
  go_enter Tryz.func335, Tryz.ntmps335
  go_wp2_with fail
  refine wp_scope_two 0 1 (by decide) rfl rfl ?_
  intro J H0 H1
  go_wp2_with fail
  refine wp_goto ?_
  refine H0.out _ _ ?_
  clear H0 H1
  go_wp2_with fail
  go_quiet (fail)
  go_wp2_with fail
  rw [Exit.noGoto_ret]
  go_ret2
  exact ⟨rfl, _, rfl⟩

set_option maxHeartbeats 1600000 in
set_option maxRecDepth 1000000 in
theorem fb_over {N n : Nat} (p : Nat) (D : Nat → Int) (dp : Int) (tr : Bool) (w : World) (hT : Tabs N w) (h : DecB p D n dp false tr w) (hn : 0 < n) (hdp : 310 < dp) :
    Calls Tryz.prog 335 #[.pointer (some ⟨p, 0, none⟩), .pointer (some ⟨10, 0, none⟩)] w fun e w' => e = .returned (.tuple #[.int .u64 9218868437227405312, .bool true]) ∧ ∃ k, w' = w.drewN k := by
  have h0 := h.nd'
  have h1 := h.dp'
  have h2 := h.ng'
  have c0 := hT.mant
  have c1 := hT.expb
  have c2 := hT.bias
  have hz : ((n : Int) == 0) = false := by rw [beq_eq_false_iff_ne]; omega
  clear hT h
  have b1 : bits .and .u64 0 4503599627370495 = 0 := by decide +kernel
  have b2 : bits .and .i64 2047 2047 = 2047 := by decide +kernel
  have b3 : bits .or .u64 0 9218868437227405312 = 9218868437227405312 := by decide +kernel
  go_enter Tryz.func335, Tryz.ntmps335
  go_wp2_with fail
  refine wp_scope_two 0 1 (by decide) rfl rfl ?_
  intro J H0 H1
  go_wp2_with fail
  refine wp_goto ?_
  refine H1.out _ _ ?_
  clear H0 H1
  intro J' H0
  go_wp2_with fail
  go_quiet (fail)
  go_wp2_with fail
  go_step3
  go_wp2_with fail
  go_quiet (fail)
  go_wp2_with fail
  rw [fwd_ret]
  go_ret2
  exact ⟨rfl, _, rfl⟩
end Go.Proofs.YtpnfkipfjanmkaaGreatDoor

namespace Go.Proofs.YtpnfkipfjanmkaaGreatDoor
open Go.RowKit Flt

theorem keep_two {x : Rat} {q : Int} {y : Rat} {e : Int} {tr : Bool} (h : Keep x q y e tr) {a : Int} (ha : q ≤ a) : 2 ^ a ≤ x ↔ 2 ^ a ≤ y * 2 ^ e := by
  obtain ⟨b, hb⟩ : ∃ b : Nat, (b : Int) = a - q := ⟨(a - q).toNat, by omega⟩
  have e1 : ((2 ^ b : Nat) : Rat) * 2 ^ q = 2 ^ a := by rw [← zp2_nat, ← zp2_add]; congr 1; omega
  constructor
  · intro h1
    have := h.grid (2 ^ b) (by rw [e1]; exact h1)
    rwa [e1] at this
  · intro h1
    exact Rat.le_trans h1 h.le

/-- dp > 0: the value is at least 1. -/
theorem keep_big {x : Rat} {B q : Int} (hB2 : x < 2 ^ (B + 1)) {y : Rat} {e : Int} {tr : Bool} (h : Keep x q y e tr) {dp : Int} (hy : 10 ^ (dp - 1) ≤ y) (hdp : 0 < dp) : e ≤ B := by
  have h1 : (1 : Rat) ≤ y := by
    have := zp_le (a := 0) (b := dp - 1) (by omega)
    rw [Rat.zpow_zero] at this
    exact Rat.le_trans this hy
  have h2 : (2 : Rat) ^ e ≤ y * 2 ^ e := by
    have := mul_le_r h1 (Rat.le_of_lt (zp2_pos e)); rwa [Rat.one_mul] at this
  have h3 := rlt_of_le_of_lt (Rat.le_trans h2 h.le) hB2
  have := zp2_lt_imp h3
  omega

/-- Below a half: e is above B + 1. -/
theorem keep_small {x : Rat} {B q : Int} (hB1 : 2 ^ B ≤ x) (hq2 : q ≤ B) {y : Rat} {e : Int} {tr : Bool} (h : Keep x q y e tr) (hy : y * 2 < 1) : B + 1 < e := by
  have h1 := (keep_two h hq2).1 hB1
  have h2 : y * 2 ^ e < 2 ^ (e - 1) := by
    have e1 : (2 : Rat) ^ e = 2 * 2 ^ (e - 1) := by
      have := zp2_add 1 (e - 1)
      rw [Rat.zpow_one] at this
      rw [← this]; congr 1; omega
    rw [e1, ← Rat.mul_assoc]
    have := mul_lt_r hy (zp2_pos (e - 1))
    rwa [Rat.one_mul] at this
  have := zp2_lt_imp (rlt_of_le_of_lt h1 h2)
  omega

/-- From a half up to 1: e is B + 1. -/
theorem keep_mid {x : Rat} {B q : Int} (hB1 : 2 ^ B ≤ x) (hB2 : x < 2 ^ (B + 1)) (hq2 : q ≤ B) {y : Rat} {e : Int} {tr : Bool} (h : Keep x q y e tr) (hy : 1 ≤ y * 2) (hy1 : y < 1) : e = B + 1 := by
  have e1 : (2 : Rat) ^ e = 2 * 2 ^ (e - 1) := by
    have := zp2_add 1 (e - 1)
    rw [Rat.zpow_one] at this
    rw [← this]; congr 1; omega
  have h1 : (2 : Rat) ^ (e - 1) ≤ y * 2 ^ e := by
    rw [e1, ← Rat.mul_assoc]
    have := mul_le_r hy (Rat.le_of_lt (zp2_pos (e - 1)))
    rwa [Rat.one_mul] at this
  have h2 := zp2_lt_imp (rlt_of_le_of_lt (Rat.le_trans h1 h.le) hB2)
  have h3 : y * 2 ^ e < 2 ^ e := by
    have := mul_lt_r hy1 (zp2_pos e); rwa [Rat.one_mul] at this
  have h4 := zp2_lt_imp (rlt_of_le_of_lt ((keep_two h hq2).1 hB1) h3)
  omega

/-- The first digit tells whether it is a half. -/
theorem DecS.half {p : Nat} {y : Rat} {ng tr : Bool} {w : World} (h : DecS p y 0 ng tr w) : ∃ c : Int, w.cell? ⟨p, 0, none⟩ = some (.int .u8 c) ∧ (c < 53 ↔ y * 2 < 1) ∧ 48 ≤ c ∧ c ≤ 57 := by
  obtain ⟨V, n, D, hn0, hn, hV1, hV2, hV10, rfl, hD, hB⟩ := h
  refine ⟨D 0, hB.dig (by omega), ?_, ?_⟩
  · rw [hD 0 hn0]
    have hd : dig V n 0 = V / 10 ^ (n - 1) := by
      unfold dig
      rw [Nat.sub_zero, Nat.mod_eq_of_lt]
      refine Nat.div_lt_of_lt_mul ?_
      rw [← Nat.pow_succ, show (n - 1).succ = n from by omega]; exact hV2
    rw [hd]
    have hpn : 10 ^ n = 10 * 10 ^ (n - 1) := by rw [Nat.mul_comm, ← Nat.pow_succ]; congr 1; omega
    have h1 : (((V / 10 ^ (n - 1) : Nat) : Int) + 48 < 53) ↔ V * 2 < 10 ^ n := by
      rw [hpn]
      have h2 : V / 10 ^ (n - 1) < 5 ↔ V < 5 * 10 ^ (n - 1) := Nat.div_lt_iff_lt_mul (Nat.pow_pos (by omega))
      omega
    rw [h1]
    have e1 : (10 : Rat) ^ (0 - (n : Int)) * 10 ^ (n : Int) = 1 := by rw [← zp_add, show 0 - (n : Int) + n = 0 from by omega, Rat.zpow_zero]
    have h3 : (V : Rat) * 10 ^ (0 - (n : Int)) * 2 * 10 ^ (n : Int) = ((V * 2 : Nat) : Rat) := by
      rw [Rat.natCast_mul]
      calc (V : Rat) * 10 ^ (0 - (n : Int)) * 2 * 10 ^ (n : Int) = V * 2 * (10 ^ (0 - (n : Int)) * 10 ^ (n : Int)) := by grind
        _ = V * 2 := by rw [e1, Rat.mul_one]
    constructor
    · intro h
      rcases Rat.not_le (a := 1) (b := (V : Rat) * 10 ^ (0 - (n : Int)) * 2) with ⟨h4, _⟩
      refine h4 fun h5 => ?_
      have h6 := mul_le_r h5 (Rat.le_of_lt (zp_pos n))
      rw [h3, Rat.one_mul, zp_nat] at h6
      have := Rat.natCast_le_natCast.1 h6
      omega
    · intro h
      have h6 := mul_lt_r h (zp_pos n)
      rw [h3, Rat.one_mul, zp_nat] at h6
      exact Rat.natCast_lt_natCast.1 h6
  · rw [hD 0 hn0]
    have := dig_lt V n 0
    omega
theorem DecS.dpc {p : Nat} {y : Rat} {dp : Int} {ng tr : Bool} {w : World} (h : DecS p y dp ng tr w) : w.cell? ⟨p, 801, none⟩ = some (.int .i64 dp) := by
  obtain ⟨V, n, D, _, _, _, _, _, _, _, hB⟩ := h
  exact hB.dp'
theorem DecS.ngc {p : Nat} {y : Rat} {dp : Int} {ng tr : Bool} {w : World} (h : DecS p y dp ng tr w) : w.cell? ⟨p, 802, none⟩ = some (.bool ng) := by
  obtain ⟨V, n, D, _, _, _, _, _, _, _, hB⟩ := h
  exact hB.ng'

theorem rsV_le_y {V n : Nat} {dp : Int} (hV : V < 10 ^ n) : ((rsV V n dp.toNat : Nat) : Rat) ≤ V * 10 ^ (dp - n) := by
  rcases Int.lt_or_le dp 0 with h | h
  · rw [show dp.toNat = 0 from by omega, rsV_zero hV]
    have := Rat.mul_nonneg (Rat.natCast_nonneg (a := V)) (Rat.le_of_lt (zp_pos (dp - n)))
    simpa using this
  · have h1 : rsV V n dp.toNat * 10 ^ n ≤ V * 10 ^ dp.toNat := Nat.div_mul_le_self _ _
    have h2 := mul_le_r (Rat.natCast_le_natCast.2 h1) (Rat.le_of_lt (zp_pos (-(n : Int))))
    rw [Rat.natCast_mul, Rat.natCast_mul, ← zp_nat, ← zp_nat, Rat.mul_assoc, Rat.mul_assoc, ← zp_add, ← zp_add, Int.add_right_neg, Rat.zpow_zero, Rat.mul_one, show ((dp.toNat : Nat) : Int) + -(n : Int) = dp - n from by omega] at h2
    exact h2

theorem mant_lt {x : Rat} {B q : Int} (hB2 : x < 2 ^ (B + 1)) {y : Rat} {e : Int} {tr : Bool} (h : Keep x q y e tr) (he : B - e ≤ 52) : y < 2 ^ (53 : Int) := by
  have h1 := rlt_of_le_of_lt h.le hB2
  have h2 := rlt_of_lt_of_le h1 (zp2_le (a := B + 1) (b := 53 + e) (by omega))
  rw [zp2_add] at h2
  refine Rat.not_le.1 fun h3 => ?_
  exact absurd (mul_le_r h3 (Rat.le_of_lt (zp2_pos e))) (Rat.not_le.2 h2)

theorem dp_le_16 {y : Rat} {dp : Int} (h : 10 ^ (dp - 1) ≤ y) (hy : y < 2 ^ (53 : Int)) : dp ≤ 16 := by
  rcases Int.lt_or_le 16 dp with h1 | h1
  · have h2 := zp_le (a := 16) (b := dp - 1) (by omega)
    have h3 : (2 : Rat) ^ (53 : Int) ≤ 10 ^ (16 : Int) := by
      rw [show (53 : Int) = ((53 : Nat) : Int) from rfl, show (16 : Int) = ((16 : Nat) : Int) from rfl, zp_nat, zp2_nat]
      exact Rat.natCast_le_natCast.2 (by decide)
    exact absurd (Rat.le_trans h3 (Rat.le_trans h2 h)) (Rat.not_le.2 hy)
  · exact h1

theorem riV_le {V n : Nat} {dp : Int} {tr : Bool} (hV : V < 10 ^ n) (hy : (V : Rat) * 10 ^ (dp - n) < 2 ^ (53 : Int)) : riV V n dp tr ≤ 9007199254740992 := by
  have h1 := rlt_of_le_of_lt (rsV_le_y hV) hy
  rw [show (53 : Int) = ((53 : Nat) : Int) from rfl, zp2_nat] at h1
  have h2 := Rat.natCast_lt_natCast.1 h1
  have h3 : (2 : Nat) ^ 53 = 9007199254740992 := by decide
  rw [h3] at h2
  unfold riV
  split <;> omega

theorem mant_ge {x : Rat} {B q : Int} (hB1 : 2 ^ B ≤ x) (hq2 : q ≤ B) {V n : Nat} (hV : V < 10 ^ n) {dp e : Int} {tr : Bool} (h : Keep x q (V * 10 ^ (dp - n)) e tr) (he : e = B - 52) : 4503599627370496 ≤ rsV V n dp.toNat := by
  have h1 := (keep_two h hq2).1 hB1
  rw [show B = 52 + e from by omega, zp2_add] at h1
  have h2 := le_of_mul_r h1 (zp2_pos e)
  have h3 : (2 : Rat) ^ (52 : Int) = ((4503599627370496 : Nat) : Rat) := by
    rw [show (52 : Int) = ((52 : Nat) : Int) from rfl, zp2_nat]
  rw [h3] at h2
  have h4 := mul_le_r h2 (Rat.le_of_lt (zp_pos (n : Int)))
  rw [Rat.mul_assoc, ← zp_add, show dp - n + (n : Int) = dp from by omega] at h4
  rcases Int.lt_or_le dp 0 with h5 | h5
  · exfalso
    have h6 := mul_lt_r (Rat.natCast_lt_natCast.2 hV) (zp_pos dp)
    have h7 := rlt_of_le_of_lt h4 h6
    rw [← zp_nat] at h7
    have h8 := zp_le (a := dp) (b := 0) (by omega)
    rw [Rat.zpow_zero] at h8
    have h9 := Rat.mul_le_mul_of_nonneg_left h8 (Rat.le_of_lt (zp_pos (n : Int)))
    rw [Rat.mul_one] at h9
    have h10 : (10 : Rat) ^ (n : Int) ≤ ((4503599627370496 : Nat) : Rat) * 10 ^ (n : Int) := by
      have := mul_le_r (show (1 : Rat) ≤ ((4503599627370496 : Nat) : Rat) from by
        have := Rat.natCast_le_natCast.2 (show 1 ≤ 4503599627370496 by omega); simpa using this) (Rat.le_of_lt (zp_pos (n : Int)))
      rwa [Rat.one_mul] at this
    exact absurd (Rat.le_trans h10 (Rat.le_trans (Rat.le_of_lt h7) h9)) (by
      intro h11
      exact absurd (rlt_of_lt_of_le h7 h9) (Rat.not_lt.2 h10))
  · unfold rsV
    rw [Nat.le_div_iff_mul_le (Nat.pow_pos (by omega))]
    rw [show dp = ((dp.toNat : Nat) : Int) from by omega, zp_nat, zp_nat, ← Rat.natCast_mul, ← Rat.natCast_mul] at h4
    exact Rat.natCast_le_natCast.1 h4
end Go.Proofs.YtpnfkipfjanmkaaGreatDoor
