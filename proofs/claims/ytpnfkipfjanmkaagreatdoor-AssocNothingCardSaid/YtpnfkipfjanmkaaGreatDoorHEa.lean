/- DERIVED. WALKS: floatBits at the decimal that set has read. -/
import Derived.Test.YtpnfkipfjanmkaaGreatDoorHA6
import Derived.Test.YtpnfkipfjanmkaaGreatDoorHDt
import Derived.Test.YtpnfkipfjanmkaaGreatDoorHA1
set_option linter.unusedVariables false
set_option linter.unusedSimpArgs false
namespace Go.Proofs.YtpnfkipfjanmkaaGreatDoor
open Go.RowKit Flt

theorem log2_rat {x : Rat} (lo : Int) : ∀ n : Nat, 2 ^ lo ≤ x → x < 2 ^ (lo + n) → ∃ B : Int, lo ≤ B ∧ B < lo + n ∧ 2 ^ B ≤ x ∧ x < 2 ^ (B + 1)
  | 0, h1, h2 => by
    rw [show lo + ((0 : Nat) : Int) = lo from by omega] at h2
    exact absurd h1 (Rat.not_le.2 h2)
  | n + 1, h1, h2 => by
    by_cases h : x < 2 ^ (lo + (n : Int))
    · obtain ⟨B, a, b, c, d⟩ := log2_rat lo n h1 h
      exact ⟨B, a, by omega, c, d⟩
    · refine ⟨lo + n, by omega, by omega, Rat.not_lt.1 h, ?_⟩
      rw [show lo + (n : Int) + 1 = lo + ((n + 1 : Nat) : Int) from by omega]; exact h2

theorem ten_two_nat (z : Nat) : 10 ^ (3 * z) ≤ 2 ^ (10 * z) := by
  rw [Nat.pow_mul, Nat.pow_mul]
  exact Nat.pow_le_pow_left (by decide) z
theorem ten_two (z : Nat) : (10 : Rat) ^ ((3 * z : Nat) : Int) ≤ 2 ^ ((10 * z : Nat) : Int) := by
  rw [zp_nat, zp2_nat]; exact Rat.natCast_le_natCast.2 (ten_two_nat z)
theorem ten_two_neg (z : Nat) : (2 : Rat) ^ (-((10 * z : Nat) : Int)) ≤ 10 ^ (-((3 * z : Nat) : Int)) := by
  have h := ten_two z
  obtain ⟨a, ha⟩ : ∃ a : Int, ((3 * z : Nat) : Int) = a := ⟨_, rfl⟩
  obtain ⟨b, hb⟩ : ∃ b : Int, ((10 * z : Nat) : Int) = b := ⟨_, rfl⟩
  rw [ha, hb] at h ⊢
  have h1 := mul_le_r h (Rat.le_of_lt (Rat.mul_pos (zp_pos (-a)) (zp2_pos (-b))))
  have e1 : (10 : Rat) ^ a * (10 ^ (-a) * 2 ^ (-b)) = 2 ^ (-b) := by
    rw [← Rat.mul_assoc, ← zp_add, Int.add_right_neg, Rat.zpow_zero, Rat.one_mul]
  have e2 : (2 : Rat) ^ b * (10 ^ (-a) * 2 ^ (-b)) = 10 ^ (-a) := by
    rw [Rat.mul_comm ((10 : Rat) ^ (-a)), ← Rat.mul_assoc, ← zp2_add, Int.add_right_neg, Rat.zpow_zero, Rat.one_mul]
  rw [e1, e2] at h1
  exact h1

/-- the digits of a text, as a number's digits -/
theorem dval_vald (F : List UInt8) : ∀ k, k ≤ F.length → dval (F.take k) = vald (fun i => dv (F.getD i 0)) k
  | 0, _ => rfl
  | k + 1, h => by
    have hk : k < F.length := by omega
    rw [take_succ_at hk, dval_snoc, dval_vald F k (by omega)]
    have : F.getD k 0 = F[k] := by rw [List.getD_eq_getElem?_getD, List.getElem?_eq_getElem hk]; rfl
    show _ = 10 * vald _ k + dv (F.getD k 0)
    rw [this, Nat.mul_comm]
theorem digs_getD {F : List UInt8} (hF : Digs F) {i : Nat} (hi : i < F.length) : 48 ≤ (F.getD i 0).toNat ∧ (F.getD i 0).toNat ≤ 57 := by
  have : F.getD i 0 = F[i] := by rw [List.getD_eq_getElem?_getD, List.getElem?_eq_getElem hi]; rfl
  rw [this]; exact hF.at hi
theorem dig_dval {F : List UInt8} (hF : Digs F) {i : Nat} (hi : i < F.length) : dig (dval F) F.length i = (F.getD i 0).toNat - 48 := by
  have h1 := dval_vald F F.length (Nat.le_refl _)
  rw [List.take_length] at h1
  rw [h1, dig_vald (E := fun i => dv (F.getD i 0)) (fun j hj => by have := digs_getD hF hj; show (F.getD j 0).toNat - 48 < 10; omega) hi]
  rfl

theorem one_rat : (one : Rat) * 2 ^ (-1074 : Int) = 1 := by
  obtain ⟨u, hu⟩ : ∃ u : Nat, u = E1074 := ⟨_, rfl⟩
  have h1 : one = 2 ^ u := by rw [hu]; rfl
  have h2 : (-1074 : Int) = -(u : Int) := by rw [hu]; rfl
  rw [h1, h2, ← zp2_nat, ← zp2_add, Int.add_right_neg, Rat.zpow_zero]

theorem units_rat (V : Nat) (p : Int) : (V : Rat) * 10 ^ p * (UD p : Nat) = (UN V p : Nat) * 2 ^ (-1074 : Int) := by
  have h1 := one_rat
  generalize (2 : Rat) ^ (-1074 : Int) = z at *
  unfold UN UD
  by_cases hp : 0 ≤ p
  · rw [if_pos hp, if_pos hp, Rat.natCast_mul, Rat.natCast_mul, ← zp_nat, show ((p.toNat : Nat) : Int) = p from by omega, Rat.mul_assoc (a := (V : Rat) * 10 ^ p), h1]
    rfl
  · rw [if_neg hp, if_neg hp, Rat.natCast_mul, ← zp_nat, show (((-p).toNat : Nat) : Int) = -p from by omega, Rat.mul_assoc, Rat.mul_assoc, h1, ← zp_add, Int.add_right_neg, Rat.zpow_zero]

/-- What set leaves is the number behind a point, times its power of ten. -/
theorem decS_set {p : Nat} {F : List UInt8} {a : Int} {D : Nat → Int} {w : World} (hF : Digs F) (hF1 : 0 < F.length) (hF0 : ∀ c, F[0]? = some c → c.toNat ≠ 48) (hFz : ∀ c, F[F.length - 1]? = some c → c.toNat ≠ 48) (hFl : F.length ≤ 800)
    (hD : ∀ i, i < F.length → D i = ((F.getD i 0).toNat : Int)) (h : DecB p D F.length a false false w) : DecS p ((dval F : Nat) * 10 ^ (a - (F.length : Nat))) a false false w := by
  have hg : ∀ i, i < F.length → F[i]? = some (F.getD i 0) := fun i hi => by
    rw [List.getD_eq_getElem?_getD, List.getElem?_eq_getElem hi]; rfl
  refine ⟨dval F, F.length, D, hF1, hFl, ?_, dval_lt hF, ?_, rfl, fun i hi => ?_, h⟩
  · have h1 := dig_dval hF hF1
    have h2 := digs_getD hF hF1
    have h3 := hF0 _ (hg 0 hF1)
    unfold dig at h1
    rw [Nat.sub_zero] at h1
    rcases Nat.lt_or_ge (dval F) (10 ^ (F.length - 1)) with h4 | h4
    · rw [Nat.div_eq_of_lt h4] at h1; omega
    · exact h4
  · have hl : F.length - 1 < F.length := by omega
    have h1 := dig_dval hF hl
    have h2 := digs_getD hF hl
    have h3 := hFz _ (hg _ hl)
    unfold dig at h1
    rw [Nat.sub_self, Nat.pow_zero, Nat.div_one] at h1
    omega
  · rw [hD i hi, dig_dval hF hi]
    have := digs_getD hF hi
    omega

theorem rn_inf1 {p : Int} (hp : 310 ≤ p) : rn (UN 1 p) (UD p) = infR := by
  rcases Int.lt_or_le 310 p with h | h
  · exact rn_inf (by omega) h
  · have : p = 310 := by omega
    subst this
    decide +kernel

theorem rdec_big {F : List UInt8} {a : Int} (hV : 10 ^ (F.length - 1) ≤ dval F) (hF1 : 0 < F.length) (ha : 310 < a) : rdec F a = infR := by
  unfold rdec
  refine Nat.le_antisymm (rn_le_infR (UD_pos _)) ?_
  rw [← rn_inf1 (p := a - 1) (by omega)]
  exact rn_le (F.length - 1) (by omega) (by omega)

set_option maxHeartbeats 800000 in
theorem fb_set {N p : Nat} {F : List UInt8} {a : Int} {D : Nat → Int} {w : World} (hF : Digs F) (hF1 : 0 < F.length) (hF0 : ∀ c, F[0]? = some c → c.toNat ≠ 48) (hFz : ∀ c, F[F.length - 1]? = some c → c.toNat ≠ 48) (hFl : F.length ≤ 800)
    (ha1 : -326 ≤ a) (hD : ∀ i, i < F.length → D i = ((F.getD i 0).toNat : Int)) (hT : Tabs N w) (hC : Cheats N w) (hN : N ≤ p) (h : DecB p D F.length a false false w) :
    Calls Tryz.prog 335 #[.pointer (some ⟨p, 0, none⟩), .pointer (some ⟨10, 0, none⟩)] w fun e w' => e = .returned (.tuple #[.int .u64 (rdec F a : Nat), .bool (decide (rdec F a = infR))]) ∧ Below p w w' := by
  have hd := decS_set hF hF1 hF0 hFz hFl hD h
  have hV : 10 ^ (F.length - 1) ≤ dval F := by
    rcases Nat.lt_or_ge (dval F) (10 ^ (F.length - 1)) with h4 | h4
    · exfalso
      have h1 := dig_dval hF hF1
      have h2 := digs_getD hF hF1
      have h3 := hF0 (F.getD 0 0) (by rw [List.getD_eq_getElem?_getD, List.getElem?_eq_getElem hF1]; rfl)
      unfold dig at h1
      rw [Nat.sub_zero, Nat.div_eq_of_lt h4] at h1
      omega
    · exact h4
  rcases Int.lt_or_le 310 a with ha | ha
  · rw [rdec_big hV hF1 ha, decide_eq_true rfl]
    refine (fb_over p D a false w hT h hF1 ha).mono ?_
    rintro e w' ⟨rfl, k, rfl⟩
    exact ⟨rfl, below_drewN (Below.refl _ _) k⟩
  · obtain ⟨x, hx⟩ : ∃ x : Rat, (dval F : Nat) * 10 ^ (a - (F.length : Nat)) = x := ⟨_, rfl⟩
    rw [hx] at hd
    have hge := hd.ge
    have hlt := hd.lt
    have h1 : (2 : Rat) ^ (-((10 * 109 : Nat) : Int)) ≤ x := Rat.le_trans (ten_two_neg 109) (Rat.le_trans (zp_le (by omega)) hge)
    have h2 : x < (2 : Rat) ^ ((10 * 104 : Nat) : Int) := rlt_of_lt_of_le hlt (Rat.le_trans (zp_le (by omega)) (ten_two 104))
    obtain ⟨B, hb1, hb2, hb3, hb4⟩ := log2_rat (-((10 * 109 : Nat) : Int)) 2130 h1 (by
      rw [show -((10 * 109 : Nat) : Int) + ((2130 : Nat) : Int) = ((10 * 104 : Nat) : Int) from by decide]; exact h2)
    obtain ⟨q, hq⟩ : ∃ q : Int, q = max (B - 53) (-1115) := ⟨_, rfl⟩
    have hxp : 0 < x := rlt_of_lt_of_le (zp_pos _) hge
    have hkeep : Keep x q x 0 false := ⟨hxp, by rw [Rat.zpow_zero, Rat.mul_one]; exact Rat.le_refl, fun j hj => by rw [Rat.zpow_zero, Rat.mul_one]; exact hj, fun _ => by rw [Rat.zpow_zero, Rat.mul_one], (fun h => by cases h), by omega⟩
    refine fb_main p x B q hN hT.n18 hb3 hb4 (by omega) (by omega) (by omega) (by omega) (by omega) x a false w hT hC hd hkeep ha (by omega) _ ?_
    intro w' R b hout hbw
    obtain ⟨e1, e2⟩ := fbOut_rn (U := UN (dval F) (a - (F.length : Nat))) (Bd := UD (a - (F.length : Nat))) (UD_pos _) (by rw [← hx]; exact units_rat _ _) hb3 hb4 hq hout
    have hr : rn (UN (dval F) (a - (F.length : Nat))) (UD (a - (F.length : Nat))) = rdec F a := by unfold rdec; rfl
    rw [hr] at e1 e2
    rw [e2, e1]
    exact ⟨rfl, hbw⟩
end Go.Proofs.YtpnfkipfjanmkaaGreatDoor
