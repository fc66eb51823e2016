/- DERIVED. Plain: the digits' rounding is rounding to nearest even. DERIVED. Plain: what floatBits hands back is the nearest double. -/
import Derived.Test.YtpnfkipfjanmkaaGreatDoorHDn
set_option linter.unusedVariables false
set_option linter.unusedSimpArgs false
namespace Go.Proofs.YtpnfkipfjanmkaaGreatDoor
open Flt

/-- j of n digits stand ahead of the point: N = V/T, R what is left. -/
theorem sru_iff {V n j : Nat} {tr : Bool} (hV10 : V % 10 ≠ 0) (hj : j < n) :
    sru (dig V n) n j tr = true ↔ 10 ^ (n - j) < 2 * (V % 10 ^ (n - j)) ∨ (10 ^ (n - j) = 2 * (V % 10 ^ (n - j)) ∧ (tr = true ∨ (0 < j ∧ V / 10 ^ (n - j) % 2 = 1))) := by
  obtain ⟨s, hs⟩ : ∃ s, n - j = s + 1 := ⟨n - j - 1, by omega⟩
  have hd : dig V n j = V % 10 ^ (s + 1) / 10 ^ s := by
    unfold dig
    rw [show n - 1 - j = s from by omega, Nat.pow_succ, Nat.mod_mul_right_div_self]
  rw [hs]
  have hT : 10 ^ (s + 1) = 10 * 10 ^ s := by rw [Nat.pow_succ, Nat.mul_comm]
  have hp : 0 < 10 ^ s := Nat.pow_pos (by omega)
  obtain ⟨R, hR⟩ : ∃ R, V % 10 ^ (s + 1) = R := ⟨_, rfl⟩
  rw [hR] at hd ⊢
  have hdm := Nat.div_add_mod R (10 ^ s)
  have hrl := Nat.mod_lt R hp
  have hz : 0 < s → R % 10 ^ s ≠ 0 := by
    intro h0 h1
    have h2 : V % 10 ^ s = 0 := by rw [← hR, hT, Nat.mul_comm, Nat.mod_mul_right_mod] at h1; exact h1
    have h3 : V % 10 = 0 := by
      obtain ⟨u, rfl⟩ : ∃ u, s = u + 1 := ⟨s - 1, by omega⟩
      have h4 := Nat.mod_mul_left_mod V (10 ^ u) 10
      rw [← Nat.pow_succ, h2] at h4
      simpa using h4.symm
    exact hV10 h3
  have hpar : 0 < j → dig V n (j - 1) % 2 = V / 10 ^ (s + 1) % 2 := by
    intro h0
    unfold dig
    rw [show n - 1 - (j - 1) = s + 1 from by omega]; omega
  unfold sru
  rw [if_pos hj, hT, hd]
  obtain ⟨d, hdd⟩ : ∃ d, R / 10 ^ s = d := ⟨_, rfl⟩
  rw [hdd] at hdm ⊢
  have hP0 : s = 0 → 10 ^ s = 1 := by rintro rfl; rfl
  generalize 10 ^ s = P at *
  generalize hrr : R % P = r at *
  have hRe : R = P * d + r := hdm.symm
  by_cases h5 : d = 5 ∧ j + 1 = n
  · have hs0 : s = 0 := by omega
    have hP1 : P = 1 := hP0 hs0
    rw [if_pos h5]
    obtain ⟨rfl, _⟩ := h5
    subst hP1
    have hR5 : R = 5 := by omega
    subst hR5
    rcases Nat.eq_zero_or_pos j with h0 | h0
    · subst h0
      cases tr <;> simp
    · rw [hpar h0]
      cases tr
      · simp [h0, hs0]
      · simp
  · rw [if_neg h5, decide_eq_true_eq]
    rcases Nat.lt_or_ge d 5 with h6 | h6
    · have h7 : P * d ≤ P * 4 := Nat.mul_le_mul_left _ (by omega)
      constructor
      · intro h; omega
      · rintro (h | ⟨h, _⟩) <;> omega
    · have h7 : P * 5 ≤ P * d := Nat.mul_le_mul_left _ h6
      have h8 : R ≠ 5 * P := by
        intro h9
        have hd5 : d = 5 := by
          rcases Nat.lt_or_ge 5 d with h10 | h10
          · have h11 : P * 6 ≤ P * d := Nat.mul_le_mul_left _ h10
            omega
          · omega
        subst hd5
        have hr0 : r = 0 := by omega
        rcases Nat.eq_zero_or_pos s with h10 | h10
        · exact h5 ⟨rfl, by omega⟩
        · exact hz h10 hr0
      constructor
      · intro _; left; omega
      · intro _; exact h6
end Go.Proofs.YtpnfkipfjanmkaaGreatDoor

namespace Go.Proofs.YtpnfkipfjanmkaaGreatDoor
open Flt

theorem rn_huge {U B k : Nat} (hB : 0 < B) (hk : 2046 ≤ k) (h : B52 * (2 ^ k * B) ≤ U) : rn U B = infR := by
  have h1 : IsRn (B52 * (2 ^ k * 1)) 1 (min (k * B52 + B52) infR) := by
    refine isRn_kept (by omega) (.inr (Nat.le_refl _)) ?_ ⟨?_, ?_, ?_⟩
    · have : 0 < B52 * (2 ^ k * 1) := Nat.mul_pos (by decide) (Nat.mul_pos (Nat.two_pow_pos k) (by omega))
      rw [Nat.mul_assoc]; omega
    · rw [Nat.mul_assoc]; omega
    · rw [Nat.mul_assoc]; omega
    · intro _; decide
  have h2 : min (k * B52 + B52) infR = infR := by
    rw [infR_eq]
    have : 2046 * B52 ≤ k * B52 := Nat.mul_le_mul_right _ hk
    omega
  rw [h2] at h1
  have h3 := rn_mono (U := B52 * (2 ^ k * 1)) (B := 1) (U' := U) (B' := B) (by omega) hB (by
    calc B52 * (2 ^ k * 1) * B = B52 * (2 ^ k * B) := by rw [Nat.mul_one, Nat.mul_assoc]
      _ ≤ U * 1 := by rw [Nat.mul_one]; exact h)
  rw [← h1.eq_rn (by omega)] at h3
  exact Nat.le_antisymm (rn_le_infR hB) h3

/-- j half units of the last place against x, in whole numbers. -/
theorem cmp_units {x : Rat} {U Bd k : Nat} {E : Int} (hx : x * Bd = U * 2 ^ (-1074 : Int)) (hB : 0 < Bd) (hk : (k : Int) = E + 1022) (j : Nat) :
    ((j : Rat) * 2 ^ (E - 53) ≤ x ↔ j * (2 ^ k * Bd) ≤ 2 * U) := by
  have hBp : (0 : Rat) < Bd := by have := Rat.natCast_lt_natCast.2 hB; simpa using this
  obtain ⟨a, ha⟩ : ∃ a : Int, a = 1075 := ⟨_, rfl⟩
  obtain ⟨c, hc0⟩ : ∃ c : Int, c = -1074 := ⟨_, rfl⟩
  rw [← hc0] at hx
  have hp := zp2_pos a
  have e1 : (2 : Rat) ^ (E - 53) * 2 ^ a = ((2 ^ k : Nat) : Rat) := by rw [← zp2_add, ← zp2_nat, show E - 53 + a = (k : Int) from by omega]
  have e2 : (2 : Rat) ^ c * 2 ^ a = 2 := by
    rw [← zp2_add, show c + a = 1 from by omega, Rat.zpow_one]
  have f1 : (j : Rat) * 2 ^ (E - 53) * (Bd * 2 ^ a) = ((j * (2 ^ k * Bd) : Nat) : Rat) := by
    rw [Rat.natCast_mul, Rat.natCast_mul, ← e1]; grind
  have f2 : x * (Bd * 2 ^ a) = ((2 * U : Nat) : Rat) := by
    rw [← Rat.mul_assoc, hx, Rat.mul_assoc, e2, Rat.natCast_mul, Rat.mul_comm]; rfl
  have hc : (0 : Rat) < Bd * 2 ^ a := Rat.mul_pos hBp hp
  constructor
  · intro h
    have := mul_le_r h (Rat.le_of_lt hc)
    rw [f1, f2] at this
    exact Rat.natCast_le_natCast.1 this
  · intro h
    refine le_of_mul_r (c := Bd * 2 ^ a) ?_ hc
    rw [f1, f2]
    exact Rat.natCast_le_natCast.2 h

theorem cmp_units_ge {x : Rat} {U Bd k : Nat} {E : Int} (hx : x * Bd = U * 2 ^ (-1074 : Int)) (hB : 0 < Bd) (hk : (k : Int) = E + 1022) (j : Nat) :
    (x ≤ (j : Rat) * 2 ^ (E - 53) ↔ 2 * U ≤ j * (2 ^ k * Bd)) := by
  have hBp : (0 : Rat) < Bd := by have := Rat.natCast_lt_natCast.2 hB; simpa using this
  obtain ⟨a, ha⟩ : ∃ a : Int, a = 1075 := ⟨_, rfl⟩
  obtain ⟨c, hc0⟩ : ∃ c : Int, c = -1074 := ⟨_, rfl⟩
  rw [← hc0] at hx
  have hp := zp2_pos a
  have e1 : (2 : Rat) ^ (E - 53) * 2 ^ a = ((2 ^ k : Nat) : Rat) := by rw [← zp2_add, ← zp2_nat, show E - 53 + a = (k : Int) from by omega]
  have e2 : (2 : Rat) ^ c * 2 ^ a = 2 := by
    rw [← zp2_add, show c + a = 1 from by omega, Rat.zpow_one]
  have f1 : (j : Rat) * 2 ^ (E - 53) * (Bd * 2 ^ a) = ((j * (2 ^ k * Bd) : Nat) : Rat) := by
    rw [Rat.natCast_mul, Rat.natCast_mul, ← e1]; grind
  have f2 : x * (Bd * 2 ^ a) = ((2 * U : Nat) : Rat) := by
    rw [← Rat.mul_assoc, hx, Rat.mul_assoc, e2, Rat.natCast_mul, Rat.mul_comm]; rfl
  have hc : (0 : Rat) < Bd * 2 ^ a := Rat.mul_pos hBp hp
  constructor
  · intro h
    have := mul_le_r h (Rat.le_of_lt hc)
    rw [f1, f2] at this
    exact Rat.natCast_le_natCast.1 this
  · intro h
    refine le_of_mul_r (c := Bd * 2 ^ a) ?_ hc
    rw [f1, f2]
    exact Rat.natCast_le_natCast.2 h

/-- What riV makes of the value: the whole part, and up or not. -/
theorem riV_spec {V n : Nat} {dp : Int} {tr : Bool} (hV : V < 10 ^ n) (hV10 : V % 10 ≠ 0) :
    ∃ (M : Nat) (up : Bool), riV V n dp tr = M + (if up = true then 1 else 0) ∧ ((M : Rat) ≤ V * 10 ^ (dp - n) ∧ (V : Rat) * 10 ^ (dp - n) < ((M + 1 : Nat) : Rat)) ∧
      (up = true ↔ ((2 * M + 1 : Nat) : Rat) < 2 * (V * 10 ^ (dp - n)) ∨ (((2 * M + 1 : Nat) : Rat) = 2 * (V * 10 ^ (dp - n)) ∧ (tr = true ∨ M % 2 = 1))) := by
  rcases Int.lt_or_le dp 0 with hneg | hpos
  · refine ⟨0, false, ?_, ⟨?_, ?_⟩, ?_⟩
    · unfold riV
      rw [if_neg (by omega), show dp.toNat = 0 from by omega, rsV_zero hV]; rfl
    · have := Rat.mul_nonneg (Rat.natCast_nonneg (a := V)) (Rat.le_of_lt (zp_pos (dp - n)))
      simpa using this
    all_goals
      have h1 := mul_lt_r (Rat.natCast_lt_natCast.2 hV) (zp_pos (dp - n))
      rw [← zp_nat, ← zp_add, show (n : Int) + (dp - n) = dp from by omega] at h1
      have h2 := rlt_of_lt_of_le h1 (zp_le (a := dp) (b := -1) (by omega))
      have h3 : (10 : Rat) ^ (-1 : Int) * 10 = 1 := by rw [← Rat.zpow_add_one (by decide), show (-1 : Int) + 1 = 0 from rfl, Rat.zpow_zero]
      generalize (10 : Rat) ^ (-1 : Int) = t at *
      generalize (V : Rat) * 10 ^ (dp - n) = Y at *
    · have : (((0 + 1 : Nat)) : Rat) = 1 := rfl
      rw [this]; grind
    · have : (((2 * 0 + 1 : Nat)) : Rat) = 1 := rfl
      rw [this]
      constructor
      · intro h; cases h
      · rintro (h | ⟨h, _⟩) <;> grind
  · obtain ⟨j, rfl⟩ : ∃ j : Nat, dp = j := ⟨dp.toNat, by omega⟩
    have hr : riV V n (j : Int) tr = rsV V n j + (if sru (dig V n) n j tr = true then 1 else 0) := by
      unfold riV; simp
    rw [hr]
    rcases Nat.lt_or_ge j n with hj | hj
    · obtain ⟨T, hT⟩ : ∃ T, 10 ^ (n - j) = T := ⟨_, rfl⟩
      have hTp : 0 < T := by rw [← hT]; exact Nat.pow_pos (by omega)
      have hM : rsV V n j = V / T := by
        unfold rsV
        have : 10 ^ n = T * 10 ^ j := by rw [← hT, ← Nat.pow_add]; congr 1; omega
        rw [this, Nat.mul_div_mul_right _ _ (Nat.pow_pos (by omega))]
      have hsr := sru_iff (tr := tr) hV10 hj
      rw [hT] at hsr
      have hY : (V : Rat) * 10 ^ ((j : Int) - n) * T = V := by
        rw [← hT, ← zp_nat, Rat.mul_assoc, ← zp_add, show (j : Int) - n + ((n - j : Nat) : Int) = 0 from by omega, Rat.zpow_zero, Rat.mul_one]
      have hTr : (0 : Rat) < T := by have := Rat.natCast_lt_natCast.2 hTp; simpa using this
      have hdm := Nat.div_add_mod V T
      have hml := Nat.mod_lt V hTp
      have h0 : j = 0 → V / T = 0 := by
        intro h; subst h
        refine Nat.div_eq_of_lt ?_
        rw [← hT]; exact hV
      rw [hM]
      generalize (V : Rat) * 10 ^ ((j : Int) - n) = Y at *
      obtain ⟨M, hMe⟩ : ∃ M, V / T = M := ⟨_, rfl⟩
      obtain ⟨R, hRe⟩ : ∃ R, V % T = R := ⟨_, rfl⟩
      rw [hMe, hRe] at hdm hsr
      rw [hMe] at h0 ⊢
      rw [hRe] at hml
      have cmp : ∀ a b : Nat, (a : Rat) * T < b * (Y * T) ↔ (a : Rat) < b * Y := by
        intro a b
        constructor
        · intro h
          refine Rat.not_le.1 fun h1 => absurd (mul_le_r h1 (Rat.le_of_lt hTr)) (Rat.not_le.2 ?_)
          rw [Rat.mul_assoc]; exact h
        · intro h
          have := mul_lt_r h hTr
          rwa [Rat.mul_assoc] at this
      have lt2 : ((2 * M + 1 : Nat) : Rat) < 2 * Y ↔ T < 2 * R := by
        have h1 := cmp (2 * M + 1) 2
        rw [hY, ← Rat.natCast_mul, ← Rat.natCast_mul, Rat.natCast_lt_natCast] at h1
        rw [show (2 : Rat) = ((2 : Nat) : Rat) from rfl, ← h1, ← hdm]
        have : (2 * M + 1) * T = 2 * (T * M) + T := by rw [Nat.add_mul, Nat.mul_assoc, Nat.mul_comm M T, Nat.one_mul]
        rw [this]; omega
      have eq2 : ((2 * M + 1 : Nat) : Rat) = 2 * Y ↔ T = 2 * R := by
        have h1 : ((2 * M + 1 : Nat) : Rat) = 2 * Y ↔ (((2 * M + 1) * T : Nat) : Rat) = ((2 * V : Nat) : Rat) := by
          rw [Rat.natCast_mul, Rat.natCast_mul, ← hY]
          constructor
          · intro h; rw [h, Rat.mul_assoc]; rfl
          · intro h
            have h2 : (((2 * M + 1 : Nat) : Rat) - 2 * Y) * T = 0 := by
              have : ((2 : Nat) : Rat) = 2 := rfl
              rw [this] at h; grind
            rcases Rat.mul_eq_zero.1 h2 with h3 | h3
            · grind
            · grind
        rw [h1, Rat.natCast_inj, ← hdm]
        have : (2 * M + 1) * T = 2 * (T * M) + T := by rw [Nat.add_mul, Nat.mul_assoc, Nat.mul_comm M T, Nat.one_mul]
        rw [this]; omega
      refine ⟨M, sru (dig V n) n j tr, rfl, ⟨?_, ?_⟩, ?_⟩
      · refine le_of_mul_r (c := (T : Rat)) ?_ hTr
        rw [hY, ← Rat.natCast_mul]
        refine Rat.natCast_le_natCast.2 ?_
        rw [← hdm, Nat.mul_comm]; omega
      · have h1 := (cmp (M + 1) 1)
        refine Rat.not_le.1 fun h2 => ?_
        have h3 := mul_le_r h2 (Rat.le_of_lt hTr)
        rw [hY, ← Rat.natCast_mul] at h3
        have h4 := Rat.natCast_le_natCast.1 h3
        rw [← hdm, Nat.add_mul, Nat.mul_comm] at h4
        omega
      · rw [hsr, lt2, eq2]
        constructor
        · rintro (h | ⟨h, h1 | ⟨_, h1⟩⟩)
          · exact .inl h
          · exact .inr ⟨h, .inl h1⟩
          · exact .inr ⟨h, .inr h1⟩
        · rintro (h | ⟨h, h1 | h1⟩)
          · exact .inl h
          · exact .inr ⟨h, .inl h1⟩
          · refine .inr ⟨h, .inr ⟨?_, h1⟩⟩
            rcases Nat.eq_zero_or_pos j with h2 | h2
            · rw [h0 h2] at h1; omega
            · exact h2
    · have hs : sru (dig V n) n j tr = false := by unfold sru; rw [if_neg (by omega)]
      have hY : (V : Rat) * 10 ^ ((j : Int) - n) = ((V * 10 ^ (j - n) : Nat) : Rat) := by
        rw [Rat.natCast_mul, ← zp_nat, show ((j - n : Nat) : Int) = (j : Int) - n from by omega]
      rw [hs, rsV_ge hj, hY]
      generalize V * 10 ^ (j - n) = M
      refine ⟨M, false, rfl, ⟨Rat.le_refl, Rat.natCast_lt_natCast.2 (by omega)⟩, ?_⟩
      rw [show (2 : Rat) = ((2 : Nat) : Rat) from rfl, ← Rat.natCast_mul, Rat.natCast_lt_natCast, Rat.natCast_inj]
      constructor
      · intro h; cases h
      · rintro (h | ⟨h, _⟩) <;> omega

/-- WHAT floatBits HANDS BACK IS THE NEAREST DOUBLE of x = U/Bd units. -/
theorem fbOut_rn {x : Rat} {B q : Int} {R : Nat} {b : Bool} {U Bd : Nat} (hBd : 0 < Bd) (hx : x * Bd = U * 2 ^ (-1074 : Int)) (hB1 : 2 ^ B ≤ x) (hB2 : x < 2 ^ (B + 1)) (hq : q = max (B - 53) (-1115)) (h : FbOut x B q R b) :
    R = rn U Bd ∧ b = decide (rn U Bd = infR) := by
  obtain ⟨E, hE, hor⟩ := h
  have hEm : -1022 ≤ E := by omega
  obtain ⟨k, hk⟩ : ∃ k : Nat, (k : Int) = E + 1022 := ⟨(E + 1022).toNat, by omega⟩
  have hcmp := cmp_units hx hBd hk
  have hcmg := cmp_units_ge hx hBd hk
  have hlow : B = E → B52 * (2 ^ k * Bd) ≤ U := by
    intro hBE
    have h1 := (hcmp (2 * B52)).1 (by
      have e1 : ((2 * B52 : Nat) : Rat) * 2 ^ (E - 53) = 2 ^ B := by
        rw [show 2 * B52 = 2 ^ 53 from rfl, ← zp2_nat, ← zp2_add]; congr 1; omega
      rw [e1]; exact hB1)
    rw [Nat.mul_assoc] at h1
    omega
  rcases hor with ⟨h1, rfl, rfl⟩ | ⟨h1, V, n, dp, tr, g0, g1, g2, g3, g4, hK, hR, rfl⟩
  · have hh := rn_huge hBd (k := k) (by omega) (hlow (by omega))
    rw [hh]
    exact ⟨rfl, rfl⟩
  · have hqE : q ≤ E - 53 := by omega
    obtain ⟨M, up, hm, ⟨hY1, hY2⟩, hup⟩ := riV_spec (tr := tr) (dp := dp) g2 g3
    rw [hm] at hR
    obtain ⟨Y, hY⟩ : ∃ Y, (V : Rat) * 10 ^ (dp - n) = Y := ⟨_, rfl⟩
    rw [hY] at hK hY1 hY2 hup
    -- a number of half units
    have half : ∀ j : Nat, (j : Rat) * 2 ^ (E - 53) ≤ x ↔ (j : Rat) ≤ 2 * Y := by
      intro j
      obtain ⟨c, hc⟩ : ∃ c : Nat, (c : Int) = E - 53 - q := ⟨(E - 53 - q).toNat, by omega⟩
      have e1 : ((j * 2 ^ c : Nat) : Rat) * 2 ^ q = j * 2 ^ (E - 53) := by
        rw [Rat.natCast_mul, ← zp2_nat, Rat.mul_assoc, ← zp2_add]; congr 2; omega
      have e2 : Y * 2 ^ (E - 52) = 2 * Y * 2 ^ (E - 53) := by
        have : (2 : Rat) ^ (E - 52) = 2 * 2 ^ (E - 53) := by
          have := zp2_add 1 (E - 53)
          rw [Rat.zpow_one] at this
          rw [← this]; congr 1; omega
        rw [this]; grind
      have h2 := hK.grid (j * 2 ^ c)
      have h3 := hK.le
      rw [e1, e2] at h2
      rw [e2] at h3
      constructor
      · intro h; exact le_of_mul_r (h2 h) (zp2_pos _)
      · intro h; exact Rat.le_trans (mul_le_r h (Rat.le_of_lt (zp2_pos _))) h3
    have e2 : Y * 2 ^ (E - 52) = 2 * Y * 2 ^ (E - 53) := by
      have : (2 : Rat) ^ (E - 52) = 2 * 2 ^ (E - 53) := by
        have := zp2_add 1 (E - 53)
        rw [Rat.zpow_one] at this
        rw [← this]; congr 1; omega
      rw [this]; grind
    have c0 : 2 * M * (2 ^ k * Bd) ≤ 2 * U := (hcmp (2 * M)).1 ((half _).2 (by
      rw [Rat.natCast_mul]; exact Rat.mul_le_mul_of_nonneg_left hY1 (by decide)))
    have c2 : 2 * U < (2 * M + 2) * (2 ^ k * Bd) := by
      rcases Nat.lt_or_ge (2 * U) ((2 * M + 2) * (2 ^ k * Bd)) with h | h
      · exact h
      · exfalso
        have h2 := (half _).1 ((hcmp (2 * M + 2)).2 h)
        rw [show 2 * M + 2 = 2 * (M + 1) from by omega, Rat.natCast_mul] at h2
        have h3 : ((M + 1 : Nat) : Rat) ≤ Y := by
          have : ((2 : Nat) : Rat) = 2 := rfl
          rw [this] at h2; grind
        exact absurd h3 (Rat.not_le.2 hY2)
    have c1 : (2 * M + 1) * (2 ^ k * Bd) ≤ 2 * U ↔ ((2 * M + 1 : Nat) : Rat) ≤ 2 * Y := by rw [← hcmp, half]
    -- a tie is a tie of the digits, nothing dropped
    have ct : (2 * M + 1) * (2 ^ k * Bd) = 2 * U → ((2 * M + 1 : Nat) : Rat) = 2 * Y ∧ tr = false := by
      intro h
      have h2 := c1.1 (Nat.le_of_eq h)
      have h3 : x ≤ ((2 * M + 1 : Nat) : Rat) * 2 ^ (E - 53) := (hcmg _).2 (Nat.le_of_eq h.symm)
      have h4 := Rat.le_trans hK.le h3
      rw [e2] at h4
      have h5 := le_of_mul_r h4 (zp2_pos _)
      refine ⟨Rat.le_antisymm h2 h5, ?_⟩
      cases tr
      · rfl
      · have h6 := rlt_of_lt_of_le (hK.lt rfl) h3
        rw [e2, ← Rat.le_antisymm h2 h5] at h6
        exact absurd h6 (Rat.not_lt.2 Rat.le_refl)
    have hC : 0 < 2 ^ k * Bd := Nat.mul_pos (Nat.two_pow_pos k) hBd
    have hhi : U < 2 * B52 * (2 ^ k * Bd) := by
      have h1 : ¬ ((4 * B52 : Nat) : Rat) * 2 ^ (E - 53) ≤ x := by
        have e1 : ((4 * B52 : Nat) : Rat) * 2 ^ (E - 53) = 2 ^ (E + 1) := by
          rw [show 4 * B52 = 2 ^ 54 from rfl, ← zp2_nat, ← zp2_add]; congr 1; omega
        rw [e1]
        exact Rat.not_le.2 (rlt_of_lt_of_le hB2 (zp2_le (by omega)))
      have h2 : ¬ 4 * B52 * (2 ^ k * Bd) ≤ 2 * U := fun h => h1 ((hcmp _).2 h)
      rw [show 4 * B52 = 2 * (2 * B52) from by omega, Nat.mul_assoc 2] at h2
      omega
    have cge := hcmg (2 * M + 1)
    have hev : IsEven U (2 ^ k * Bd) (M + (if up = true then 1 else 0)) := by
      generalize 2 ^ k * Bd = C at *
      have m1 : (2 * M + 1) * C = 2 * M * C + C := by rw [Nat.add_mul, Nat.one_mul]
      have m2 : (2 * M + 2) * C = 2 * M * C + 2 * C := by rw [Nat.add_mul]
      cases up
      · have hnu : ¬ (((2 * M + 1 : Nat) : Rat) < 2 * Y ∨ (((2 * M + 1 : Nat) : Rat) = 2 * Y ∧ (tr = true ∨ M % 2 = 1))) := fun h => by have := hup.2 h; cases this
        have hno1 : ¬ (2 * M + 1) * C < 2 * U := by
          intro h
          have h2 := c1.1 (Nat.le_of_lt h)
          have h3 : ((2 * M + 1 : Nat) : Rat) = 2 * Y := Rat.le_antisymm h2 (Rat.not_lt.1 fun h4 => hnu (.inl h4))
          have h4 : tr = false := by
            cases tr
            · rfl
            · exact absurd (.inr ⟨h3, .inl rfl⟩) hnu
          have h5 := hK.ex h4
          rw [e2, ← h3] at h5
          have h6 := cge.1 (by rw [h5]; exact Rat.le_refl)
          omega
        have hno2 : (2 * M + 1) * C = 2 * U → M % 2 = 0 := by
          intro h
          have h2 := (ct h).1
          have h3 : ¬ M % 2 = 1 := fun h4 => hnu (.inr ⟨h2, .inr h4⟩)
          omega
        simp only [Bool.false_eq_true, if_false, Nat.add_zero]
        refine ⟨by omega, by omega, ?_⟩
        rintro (h | h)
        · omega
        · exact hno2 (by omega)
      · have hu := hup.1 rfl
        have hy1 : (2 * M + 1) * C ≤ 2 * U := by
          refine c1.2 ?_
          rcases hu with h | ⟨h, _⟩
          · exact Rat.le_of_lt h
          · rw [h]; exact Rat.le_refl
        have hy2 : (2 * M + 1) * C = 2 * U → M % 2 = 1 := by
          intro h
          obtain ⟨h2, h3⟩ := ct h
          rcases hu with h4 | ⟨_, h4 | h4⟩
          · rw [h2] at h4; exact absurd h4 (Rat.not_lt.2 Rat.le_refl)
          · rw [h3] at h4; cases h4
          · exact h4
        simp only [if_true]
        have m3 : 2 * (M + 1) * C = 2 * M * C + 2 * C := by rw [Nat.mul_add, Nat.add_mul]
        refine ⟨by omega, by omega, ?_⟩
        rintro (h | h)
        · have := hy2 (by omega); omega
        · omega
    have hkz : k = 0 ∨ B52 * (2 ^ k * Bd) ≤ U := by
      rcases Int.lt_or_le (-1022) E with h2 | h2
      · exact .inr (hlow (by omega))
      · left; omega
    have hrn := (isRn_kept (U := U) hBd hkz hhi hev).eq_rn hBd
    have hm2 : M + (if up = true then 1 else 0) ≤ 2 * B52 := by
      have h1 : M < 2 * B52 := by
        rcases Nat.lt_or_ge M (2 * B52) with h | h
        · exact h
        · exfalso
          have h2 := Nat.mul_le_mul_right (2 ^ k * Bd) h
          rw [Nat.mul_assoc] at c0
          omega
      split <;> omega
    have hRe : R = k * B52 + (M + (if up = true then 1 else 0)) := by
      have : (4503599627370496 : Int) = (B52 : Int) := rfl
      rw [this, ← hk] at hR
      generalize (M + (if up = true then 1 else 0)) = m at *
      have h3 : ((k * B52 : Nat) : Int) = (k : Int) * (B52 : Int) := Int.natCast_mul k B52
      omega
    have hle : k * B52 + (M + (if up = true then 1 else 0)) ≤ infR := by
      have h3 : k * B52 ≤ 2045 * B52 := Nat.mul_le_mul_right _ (by omega)
      rw [infR_eq]
      omega
    rw [Nat.min_eq_left hle, ← hRe] at hrn
    rw [← hrn]
    exact ⟨rfl, rfl⟩
end Go.Proofs.YtpnfkipfjanmkaaGreatDoor
