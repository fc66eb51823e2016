/- DERIVED. The decimal by its value: what a shift makes of it. -/
import Derived.Test.YtpnfkipfjanmkaaGreatDoorHDr
set_option linter.unusedVariables false
set_option linter.unusedSimpArgs false
namespace Go.Proofs.YtpnfkipfjanmkaaGreatDoor.Flt

theorem zp_pos (e : Int) : (0 : Rat) < 10 ^ e := Rat.zpow_pos (by decide)
theorem zp_add (a b : Int) : (10 : Rat) ^ (a + b) = 10 ^ a * 10 ^ b := Rat.zpow_add (by decide) a b
theorem zp_nat (n : Nat) : (10 : Rat) ^ (n : Int) = ((10 ^ n : Nat) : Rat) := by rw [Rat.zpow_natCast, Rat.natCast_pow]; rfl
theorem zp2_pos (e : Int) : (0 : Rat) < 2 ^ e := Rat.zpow_pos (by decide)
theorem zp2_add (a b : Int) : (2 : Rat) ^ (a + b) = 2 ^ a * 2 ^ b := Rat.zpow_add (by decide) a b
theorem zp2_nat (n : Nat) : (2 : Rat) ^ (n : Int) = ((2 ^ n : Nat) : Rat) := by rw [Rat.zpow_natCast, Rat.natCast_pow]; rfl

/-- y1 cut to 800 digits, the point behind dp of them, is y'; tr' says whether something was dropped, now or before. -/
def Cut (y1 y' : Rat) (dp : Int) (tr tr' : Bool) : Prop :=
  ∃ X m c : Nat, c = min m 800 ∧ 0 < m ∧ 10 ^ (m - 1) ≤ X ∧ X < 10 ^ m ∧ y1 = X * 10 ^ (dp - m) ∧ y' = ((X / 10 ^ (m - c) : Nat) : Rat) * 10 ^ (dp - c) ∧ tr' = (tr || decide (X % 10 ^ (m - c) ≠ 0))

theorem trim_num {D : Nat → Int} {V c : Nat} (hD : ∀ i, i < c → D i = (dig V c i : Int) + 48) (hV : 10 ^ (c - 1) ≤ V) (hV2 : V < 10 ^ c) :
    ∃ V', V = V' * 10 ^ (c - trimN D c) ∧ trimN D c ≤ c ∧ 0 < trimN D c ∧ V' % 10 ≠ 0 ∧ 10 ^ (trimN D c - 1) ≤ V' ∧ V' < 10 ^ trimN D c ∧ ∀ i, i < trimN D c → D i = (dig V' (trimN D c) i : Int) + 48 := by
  induction c generalizing V with
  | zero => simp at hV hV2; omega
  | succ c ih =>
    have hlast : dig V (c + 1) c = V % 10 := by unfold dig; simp
    unfold trimN
    by_cases h : D c = 48
    · rw [if_pos h]
      have h0 : V % 10 = 0 := by
        have := hD c (by omega)
        rw [hlast] at this; omega
      have hc : 0 < c := by
        rcases Nat.eq_zero_or_pos c with h1 | h1
        · subst h1; simp at hV hV2; omega
        · exact h1
      have hdiv : V = V / 10 * 10 := by omega
      have hp : 10 ^ c = 10 ^ (c - 1) * 10 := by rw [← Nat.pow_succ]; congr 1; omega
      obtain ⟨V', e1, e2, e3, e4, e5, e6, e7⟩ := ih (V := V / 10) (fun i hi => by
          rw [hD i (by omega)]
          congr 2
          unfold dig
          rw [show c + 1 - 1 - i = (c - 1 - i) + 1 from by omega, Nat.pow_succ, Nat.mul_comm, Nat.div_div_eq_div_mul])
        (by simp only [Nat.add_sub_cancel] at hV; omega) (by rw [Nat.pow_succ] at hV2; omega)
      refine ⟨V', ?_, by omega, e3, e4, e5, e6, e7⟩
      rw [show c + 1 - trimN D c = (c - trimN D c) + 1 from by omega, Nat.pow_succ, ← Nat.mul_assoc, ← e1]
      exact hdiv
    · rw [if_neg h]
      refine ⟨V, by simp, Nat.le_refl _, by omega, ?_, hV, hV2, hD⟩
      have := hD c (by omega)
      rw [hlast] at this; omega
end Go.Proofs.YtpnfkipfjanmkaaGreatDoor.Flt
namespace Go.Proofs.YtpnfkipfjanmkaaGreatDoor
open Go.RowKit Flt

/-- Block p is the decimal y, above 0; the point is behind dp digits. -/
def DecS (p : Nat) (y : Rat) (dp : Int) (ng tr : Bool) (w : World) : Prop :=
  ∃ V n : Nat, ∃ D : Nat → Int, 0 < n ∧ n ≤ 800 ∧ 10 ^ (n - 1) ≤ V ∧ V < 10 ^ n ∧ V % 10 ≠ 0 ∧ y = V * 10 ^ (dp - n) ∧ (∀ i, i < n → D i = (dig V n i : Int) + 48) ∧ DecB p D n dp ng tr w

/-- What the shifts put down is the cut value. -/
theorem decS_of {p X m : Nat} {D : Nat → Int} {dp : Int} {ng tr' : Bool} {w : World} (hm : 0 < m) (h1 : 10 ^ (m - 1) ≤ X) (h2 : X < 10 ^ m) (hD : ∀ i, i < 800 → i < m → D i = (dig X m i : Int) + 48)
    (h : DecB p D (trimN D (min m 800) : Nat) (if trimN D (min m 800) = 0 then 0 else dp) ng tr' w) :
    DecS p (((X / 10 ^ (m - min m 800) : Nat) : Rat) * 10 ^ (dp - (min m 800 : Nat))) dp ng tr' w := by
  obtain ⟨c, hc⟩ : ∃ c, min m 800 = c := ⟨_, rfl⟩
  have hc1 : c ≤ m := by omega
  have hc2 : c ≤ 800 := by omega
  have hc0 : 0 < c := by omega
  rw [hc] at h ⊢
  have hp : 10 ^ m = 10 ^ (m - c) * 10 ^ c := by rw [← Nat.pow_add]; congr 1; omega
  have hp2 : 10 ^ (m - 1) = 10 ^ (m - c) * 10 ^ (c - 1) := by rw [← Nat.pow_add]; congr 1; omega
  have hpos : 0 < 10 ^ (m - c) := Nat.pow_pos (by omega)
  obtain ⟨V', e1, e2, e3, e4, e5, e6, e7⟩ := trim_num (D := D) (V := X / 10 ^ (m - c)) (c := c) (fun i hi => by
      rw [hD i (by omega) (by omega)]
      congr 2
      unfold dig
      rw [Nat.div_div_eq_div_mul, ← Nat.pow_add, show m - c + (c - 1 - i) = m - 1 - i from by omega])
    ((Nat.le_div_iff_mul_le hpos).2 (by rw [Nat.mul_comm, ← hp2]; exact h1)) (Nat.div_lt_of_lt_mul (by rw [← hp]; exact h2))
  refine ⟨V', trimN D c, D, e3, by omega, e5, e6, e4, ?_, e7, by rwa [if_neg (by omega)] at h⟩
  rw [e1, Rat.natCast_mul, ← zp_nat, Rat.mul_assoc, ← zp_add]
  congr 2; omega

theorem leftShift_q {N : Nat} (p k : Nat) (y : Rat) (dp : Int) (ng tr : Bool) (w : World) (hC : Cheats N w) (hN : N ≤ p) (hN14 : 14 < N) (h : DecS p y dp ng tr w) (hk0 : 0 < k) (hk : k < 61) (hdp : -100000 ≤ dp) (hdp2 : dp ≤ 100000) :
    Calls Tryz.prog 312 #[.pointer (some ⟨p, 0, none⟩), .int .u64 k] w fun e w' => e = .returned (.tuple #[]) ∧ Below p w w' ∧
      ∃ y' dp' tr', DecS p y' dp' ng tr' w' ∧ Cut (y * 2 ^ (k : Int)) y' dp' tr tr' ∧ dp ≤ dp' ∧ dp' ≤ dp + k := by
  obtain ⟨V, n, D, hn0, hn, hV1, hV2, hV10, rfl, hD, hB⟩ := h
  have hvd := vald_dig_all hV2
  have hE0 : dig V n 0 ≠ 0 := by
    unfold dig
    have h1 : 0 < V / 10 ^ (n - 1 - 0) := Nat.div_pos hV1 (Nat.pow_pos (by omega))
    have h2 : V / 10 ^ (n - 1 - 0) < 10 := Nat.div_lt_of_lt_mul (by rw [← Nat.pow_succ, show (n - 1 - 0).succ = n from by omega]; exact hV2)
    omega
  obtain ⟨m, δ, hm, x1, x2, x3, hcall⟩ := leftShift_any p n k D (dig V n) dp ng tr w hC hN hN14 hB hD (fun i _ => dig_lt V n i) hn0 hn hE0 hk0 hk hdp hdp2
  rw [hvd] at x1 x2 hcall
  refine hcall.mono ?_
  rintro e w' ⟨rfl, hb, hd⟩
  have hds := decS_of (m := m) (D := lsD D (V * 2 ^ k) m m) (dp := dp + δ) (by omega) x1 x2 (fun i _ hi => by unfold lsD; rw [if_pos (by omega)]) hd
  refine ⟨rfl, hb, _, _, _, hds, ⟨V * 2 ^ k, m, min m 800, rfl, by omega, x1, x2, ?_, rfl, ?_⟩, by omega, by omega⟩
  · rw [Rat.natCast_mul, ← zp2_nat, show dp + (δ : Int) - (m : Int) = dp - n from by omega]
    grind
  · unfold lsT
    rw [show min m (m - 800) = m - min m 800 from by omega]

theorem rsV_up {E : Nat → Nat} {n : Nat} (hE : ∀ i, i < n → E i < 10) (s : Nat) : ∀ j, rsV (vald E n) n (s + j) / 10 ^ j = rsV (vald E n) n s
  | 0 => by simp
  | j + 1 => by
    rw [← Nat.add_assoc, rsV_succ hE, Nat.pow_succ, Nat.mul_comm (10 ^ j) 10, ← Nat.div_div_eq_div_mul]
    have := rsE_lt hE (s + j)
    rw [show (10 * rsV (vald E n) n (s + j) + rsE E n (s + j)) / 10 = rsV (vald E n) n (s + j) from by omega]
    exact rsV_up hE s j

theorem rightShift_q (p k : Nat) (y : Rat) (dp : Int) (ng tr : Bool) (w : World) (h : DecS p y dp ng tr w) (hk0 : 0 < k) (hk : k < 61) (hdp : -100000 ≤ dp) (hdp2 : dp ≤ 100000) :
    Calls Tryz.prog 313 #[.pointer (some ⟨p, 0, none⟩), .int .u64 k] w fun e w' => e = .returned (.tuple #[]) ∧ Below p w w' ∧
      ∃ y' dp' tr', DecS p y' dp' ng tr' w' ∧ Cut (y * 2 ^ (-(k : Int))) y' dp' tr tr' ∧ dp - 1000 ≤ dp' ∧ dp' ≤ dp := by
  obtain ⟨V, n, D, hn0, hn, hV1, hV2, hV10, rfl, hD, hB⟩ := h
  have hvd := vald_dig_all hV2
  have hE : ∀ i, i < n → dig V n i < 10 := fun i _ => dig_lt V n i
  have hE0 : dig V n 0 ≠ 0 := by
    unfold dig
    have h1 : 0 < V / 10 ^ (n - 1 - 0) := Nat.div_pos hV1 (Nat.pow_pos (by omega))
    have h2 : V / 10 ^ (n - 1 - 0) < 10 := Nat.div_lt_of_lt_mul (by rw [← Nat.pow_succ, show (n - 1 - 0).succ = n from by omega]; exact hV2)
    omega
  refine (rs_core p n k D (dig V n) dp ng tr w hB hD hE hn0 hn hE0 hk0 hk hdp hdp2).mono ?_
  rintro e w' ⟨rfl, hb, r0, T, D', hr0, hr1, hrT, hlt, hge, hz, rfl, hd⟩
  have hup := rsV_up hE
  have hsp := rsN_split (k := k) hE (t := r0 + T) (by omega)
  have hT : 0 < T := by
    rcases Nat.eq_zero_or_pos T with h | h
    · subst h
      rw [Nat.add_zero, rsN_first hE hr0 hlt] at hz
      have : 0 < 2 ^ k := Nat.pow_pos (by omega)
      omega
    · exact h
  rw [hvd] at hlt hge hd hup hsp
  rw [hz, Nat.add_zero, rsV_ge hrT] at hsp
  have p2 : 0 < 2 ^ k := Nat.pow_pos (by omega)
  have x1 : 10 ^ (T - 1) ≤ rsV V n (r0 + T - 1) / 2 ^ k := by
    rw [Nat.le_div_iff_mul_le p2]
    have h1 := hup r0 (T - 1)
    rw [show r0 + (T - 1) = r0 + T - 1 from by omega] at h1
    have h2 := Nat.div_mul_le_self (rsV V n (r0 + T - 1)) (10 ^ (T - 1))
    rw [h1] at h2
    refine Nat.le_trans ?_ h2
    rw [Nat.mul_comm]
    exact Nat.mul_le_mul_right _ hge
  have x2 : rsV V n (r0 + T - 1) / 2 ^ k < 10 ^ T := by
    refine Nat.div_lt_of_lt_mul ?_
    have h1 := hup (r0 - 1) T
    rw [show r0 - 1 + T = r0 + T - 1 from by omega] at h1
    rw [← h1] at hlt
    rw [Nat.mul_comm]
    have := (Nat.div_lt_iff_lt_mul (Nat.pow_pos (n := T) (show 0 < 10 by omega))).1 hlt
    rwa [Nat.mul_comm] at this
  have hds := decS_of (m := T) (D := rsD D V n k r0 T) (dp := dp - (r0 - 1)) hT x1 x2 (fun i _ hi => by
    unfold rsD
    rw [if_pos hi]
    congr 2
    unfold dig
    have h1 := hup (r0 + i) (T - 1 - i)
    rw [show r0 + i + (T - 1 - i) = r0 + T - 1 from by omega] at h1
    rw [Nat.div_div_eq_div_mul, Nat.mul_comm, ← Nat.div_div_eq_div_mul, h1]) hd
  refine ⟨rfl, hb, _, _, _, hds, ⟨rsV V n (r0 + T - 1) / 2 ^ k, T, min T 800, rfl, hT, x1, x2, ?_, rfl, ?_⟩, by omega, by omega⟩
  · generalize rsV V n (r0 + T - 1) / 2 ^ k = X at hsp
    have h1 : (V : Rat) * 10 ^ ((r0 + T : Nat) - n : Int) = 2 ^ (k : Int) * (10 * X) := by
      have := congrArg (fun z : Nat => (z : Rat)) hsp
      simp only [Rat.natCast_mul] at this
      rw [← zp_nat, ← zp2_nat, show ((r0 + T - n : Nat) : Int) = (r0 + T : Nat) - n from by omega] at this
      exact this
    have h2 : (10 : Rat) ^ (dp - n) = 10 ^ ((r0 + T : Nat) - n : Int) * 10 ^ (dp - (r0 + T : Nat) : Int) := by
      rw [← zp_add]; congr 1; omega
    have h3 : (10 : Rat) ^ (dp - (r0 - 1) - T : Int) = 10 * 10 ^ (dp - (r0 + T : Nat) : Int) := by
      have := zp_add 1 (dp - (r0 + T : Nat))
      rw [Rat.zpow_one] at this
      rw [← this]; congr 1; omega
    have h4 : (2 : Rat) ^ (k : Int) * 2 ^ (-(k : Int)) = 1 := by rw [← zp2_add, Int.add_right_neg, Rat.zpow_zero]
    rw [h2, h3]
    generalize (10 : Rat) ^ (dp - (r0 + T : Nat) : Int) = a at *
    generalize (10 : Rat) ^ ((r0 + T : Nat) - n : Int) = b at *
    generalize (2 : Rat) ^ (k : Int) = c at *
    generalize (2 : Rat) ^ (-(k : Int)) = d at *
    generalize (V : Rat) = v at *
    generalize (X : Rat) = x at *
    calc v * (b * a) * d = (v * b) * a * d := by grind
      _ = c * (10 * x) * a * d := by rw [h1]
      _ = (c * d) * (x * (10 * a)) := by grind
      _ = x * (10 * a) := by rw [h4, Rat.one_mul]
  · unfold rsT
    rw [show T - 800 = T - min T 800 from by omega]
end Go.Proofs.YtpnfkipfjanmkaaGreatDoor
