/- DERIVED. Plain: cutting to 800 digits keeps on which side of a halfway number the value lies. DERIVED. WALKS: decimal.Shift. DERIVED. WALKS: shouldRoundUp, RoundedInteger. -/
import Derived.Test.YtpnfkipfjanmkaaGreatDoorHDq
set_option linter.unusedVariables false
set_option linter.unusedSimpArgs false
namespace Go.Proofs.YtpnfkipfjanmkaaGreatDoor.Flt

theorem zp_le {a b : Int} (h : a ≤ b) : (10 : Rat) ^ a ≤ 10 ^ b := by
  obtain ⟨n, rfl⟩ : ∃ n : Nat, b = a + n := ⟨(b - a).toNat, by omega⟩
  rw [zp_add, zp_nat]
  have h1 := zp_pos a
  have h2 : (1 : Rat) ≤ ((10 ^ n : Nat) : Rat) := by
    have := Rat.natCast_le_natCast.2 (show 1 ≤ 10 ^ n from Nat.pow_pos (by omega)); simpa using this
  have := Rat.mul_le_mul_of_nonneg_left h2 (Rat.le_of_lt h1)
  rwa [Rat.mul_one] at this
theorem zp2_le {a b : Int} (h : a ≤ b) : (2 : Rat) ^ a ≤ 2 ^ b := by
  obtain ⟨n, rfl⟩ : ∃ n : Nat, b = a + n := ⟨(b - a).toNat, by omega⟩
  rw [zp2_add, zp2_nat]
  have h1 := zp2_pos a
  have h2 : (1 : Rat) ≤ ((2 ^ n : Nat) : Rat) := by
    have := Rat.natCast_le_natCast.2 (show 1 ≤ 2 ^ n from Nat.pow_pos (by omega)); simpa using this
  have := Rat.mul_le_mul_of_nonneg_left h2 (Rat.le_of_lt h1)
  rwa [Rat.mul_one] at this
theorem zp2_lt_imp {a b : Int} (h : (2 : Rat) ^ a < 2 ^ b) : a < b := by
  rcases Int.lt_or_le a b with h1 | h1
  · exact h1
  · exact absurd (zp2_le h1) (Rat.not_le.2 h)

theorem mul_le_r {a b c : Rat} (h : a ≤ b) (hc : 0 ≤ c) : a * c ≤ b * c := by
  rw [Rat.mul_comm a, Rat.mul_comm b]; exact Rat.mul_le_mul_of_nonneg_left h hc
theorem mul_lt_r {a b c : Rat} (h : a < b) (hc : 0 < c) : a * c < b * c := by
  rw [Rat.mul_comm a, Rat.mul_comm b]; exact Rat.mul_lt_mul_of_pos_left h hc
theorem le_of_mul_r {a b c : Rat} (h : a * c ≤ b * c) (hc : 0 < c) : a ≤ b := by
  rw [Rat.mul_comm a, Rat.mul_comm b] at h; exact Rat.le_of_mul_le_mul_left h hc

theorem rlt_of_le_of_lt {a b c : Rat} (h : a ≤ b) (h2 : b < c) : a < c := by grind
theorem rlt_of_lt_of_le {a b c : Rat} (h : a < b) (h2 : b ≤ c) : a < c := by grind

/-- y·2^e stands for x. -/
structure Keep (x : Rat) (q : Int) (y : Rat) (e : Int) (tr : Bool) : Prop where
  pos : 0 < y
  le : y * 2 ^ e ≤ x
  grid : ∀ j : Nat, (j : Rat) * 2 ^ q ≤ x → (j : Rat) * 2 ^ q ≤ y * 2 ^ e
  ex : tr = false → y * 2 ^ e = x
  lt : tr = true → y * 2 ^ e < x
  r : e - q ≤ 1115

theorem big10 (v u : Nat) (hv : v = 315) (hu : u = 1061) : 10 ^ v ≤ 2 ^ u := by
  obtain ⟨z, hz⟩ : ∃ z, z = 105 := ⟨_, rfl⟩
  have e1 : v = 3 * z := by omega
  have e2 : u = 10 * z + 11 := by omega
  rw [e1, e2, Nat.pow_mul, Nat.pow_add, Nat.pow_mul]
  refine Nat.le_trans (Nat.pow_le_pow_left (show 10 ^ 3 ≤ 2 ^ 10 by decide) z) (Nat.le_mul_of_pos_right _ (by decide))

theorem room {d r : Int} (hr : r ≤ 1115) (h : (10 : Rat) ^ (d - 1) < 2 ^ (54 - r)) : d + r ≤ 800 := by
  rcases Int.lt_or_le 800 (d + r) with h1 | h1
  · exfalso
    obtain ⟨v, hv⟩ : ∃ v : Nat, v = 315 := ⟨_, rfl⟩
    obtain ⟨u, hu⟩ : ∃ u : Nat, u = 1061 := ⟨_, rfl⟩
    have hbig := big10 v u hv hu
    have h2 := zp_le (a := 800 - r) (b := d - 1) (by omega)
    have h3 : (10 : Rat) ^ (800 - r) < 2 ^ (54 - r) := rlt_of_le_of_lt h2 h
    obtain ⟨t, ht⟩ : ∃ t : Nat, (t : Int) = 1115 - r := ⟨(1115 - r).toNat, by omega⟩
    have h4 : (10 : Rat) ^ (800 - r) * (10 ^ (v : Int) * 2 ^ (u : Int)) < 2 ^ (54 - r) * (10 ^ (v : Int) * 2 ^ (u : Int)) :=
      mul_lt_r h3 (Rat.mul_pos (zp_pos _) (zp2_pos _))
    have e1 : (10 : Rat) ^ (800 - r) * (10 ^ (v : Int) * 2 ^ (u : Int)) = ((10 ^ t * 2 ^ u : Nat) : Rat) := by
      rw [← Rat.mul_assoc, ← zp_add, show 800 - r + (v : Int) = (t : Int) from by omega, zp_nat, zp2_nat, Rat.natCast_mul]
    have e2 : (2 : Rat) ^ (54 - r) * (10 ^ (v : Int) * 2 ^ (u : Int)) = ((2 ^ t * 10 ^ v : Nat) : Rat) := by
      have : (2 : Rat) ^ (54 - r) * (10 ^ (v : Int) * 2 ^ (u : Int)) = (2 ^ (54 - r) * 2 ^ (u : Int)) * 10 ^ (v : Int) := by grind
      rw [this, ← zp2_add, show 54 - r + (u : Int) = (t : Int) from by omega, zp2_nat, zp_nat, Rat.natCast_mul]
    rw [e1, e2] at h4
    have h5 : 10 ^ t * 2 ^ u < 2 ^ t * 10 ^ v := by
      rcases Nat.lt_or_ge (10 ^ t * 2 ^ u) (2 ^ t * 10 ^ v) with h | h
      · exact h
      · exact absurd (Rat.natCast_le_natCast.2 h) (Rat.not_le.2 h4)
    have h6 : 2 ^ t * 10 ^ v ≤ 10 ^ t * 2 ^ u := Nat.mul_le_mul (Nat.pow_le_pow_left (by omega) t) hbig
    exact absurd h5 (Nat.not_lt.2 h6)
  · exact h1

theorem Keep.cut {x : Rat} {B q : Int} (hB : x < 2 ^ (B + 1)) (hq : B - 53 ≤ q) {y : Rat} {e : Int} {tr : Bool} (h : Keep x q y e tr) {s : Int} {y' : Rat} {dp : Int} {tr' : Bool} (hc : Cut (y * 2 ^ s) y' dp tr tr') (hr : e - s - q ≤ 1115) (hdp : dp ≤ 800) : Keep x q y' (e - s) tr' := by
  obtain ⟨X, m, c, hcm, hm, hX1, hX2, hy1, rfl, rfl⟩ := hc
  have hcl : c ≤ m := by omega
  have hpc : 0 < 10 ^ (m - c) := Nat.pow_pos (by omega)
  have hsame : y * 2 ^ e = X * 10 ^ (dp - m) * 2 ^ (e - s) := by
    rw [← hy1, Rat.mul_assoc, ← zp2_add]; congr 2; omega
  have hp2 := zp2_pos (e - s)
  have hpd := zp_pos (dp - m)
  -- the digits kept, at the exact value's grid
  have hkept : ((X / 10 ^ (m - c) : Nat) : Rat) * 10 ^ (dp - c) = ((X / 10 ^ (m - c) * 10 ^ (m - c) : Nat) : Rat) * 10 ^ (dp - m) := by
    rw [Rat.natCast_mul, ← zp_nat, Rat.mul_assoc, ← zp_add]; congr 2; omega
  have hle : X / 10 ^ (m - c) * 10 ^ (m - c) ≤ X := Nat.div_mul_le_self _ _
  have hXpos : 0 < X / 10 ^ (m - c) := by
    refine Nat.div_pos (Nat.le_trans (Nat.pow_le_pow_right (by omega) (by omega)) hX1) hpc
  rw [hkept]
  have hley : ((X / 10 ^ (m - c) * 10 ^ (m - c) : Nat) : Rat) * 10 ^ (dp - m) * 2 ^ (e - s) ≤ y * 2 ^ e := by
    rw [hsame]
    exact mul_le_r (mul_le_r (Rat.natCast_le_natCast.2 hle) (Rat.le_of_lt hpd)) (Rat.le_of_lt hp2)
  refine ⟨Rat.mul_pos ?_ hpd, Rat.le_trans hley h.le, ?_, ?_, ?_, hr⟩
  · have := Rat.natCast_lt_natCast.2 (Nat.mul_pos hXpos hpc); simpa using this
  · intro j hj
    have hj2 := h.grid j hj
    rcases Nat.lt_or_ge c m with hcm2 | hcm2
    · have hc8 : c = 800 := by omega
      obtain ⟨r, hrr⟩ : ∃ r : Int, e - s - q = r := ⟨_, rfl⟩
      -- the room
      have hroom : dp + r ≤ 800 := by
        refine room (by omega) ?_
        have h1 : (10 : Rat) ^ (dp - 1) ≤ X * 10 ^ (dp - m) := by
          have h2 : (10 : Rat) ^ (dp - 1) = ((10 ^ (m - 1) : Nat) : Rat) * 10 ^ (dp - m) := by
            rw [← zp_nat, ← zp_add]; congr 1; omega
          rw [h2]
          exact mul_le_r (Rat.natCast_le_natCast.2 hX1) (Rat.le_of_lt hpd)
        have h3 : (10 : Rat) ^ (dp - 1) * 2 ^ (e - s) < 2 ^ (B + 1) := by
          refine rlt_of_le_of_lt (mul_le_r h1 (Rat.le_of_lt hp2)) ?_
          rw [← hsame]; exact rlt_of_le_of_lt h.le hB
        have h4 := mul_lt_r h3 (zp2_pos (-(e - s)))
        rw [Rat.mul_assoc, ← zp2_add, ← zp2_add, Int.add_right_neg, Rat.zpow_zero, Rat.mul_one] at h4
        exact rlt_of_lt_of_le h4 (zp2_le (by omega))
      -- a halfway number's digits
      obtain ⟨A, hA⟩ : ∃ A : Nat, (j : Rat) * 2 ^ q = A * 10 ^ (dp - c) * 2 ^ (e - s) := by
        rcases Int.lt_or_le 0 r with h0 | h0
        · obtain ⟨a, ha⟩ : ∃ a : Nat, (a : Int) = 800 - dp - r := ⟨(800 - dp - r).toNat, by omega⟩
          obtain ⟨b, hb⟩ : ∃ b : Nat, (b : Int) = r := ⟨r.toNat, by omega⟩
          refine ⟨j * (10 ^ a * 5 ^ b), ?_⟩
          have h5 : ((5 ^ b : Nat) : Rat) * 2 ^ (b : Int) = 10 ^ (b : Int) := by
            rw [zp2_nat, zp_nat, ← Rat.natCast_mul, ← Nat.mul_pow]
          have e1 : (2 : Rat) ^ q * 2 ^ (b : Int) = 2 ^ (e - s) := by rw [← zp2_add]; congr 1; omega
          have e2 : (10 : Rat) ^ (a : Int) * (10 ^ (b : Int) * 10 ^ (dp - c)) = 1 := by
            rw [← zp_add, ← zp_add, show (a : Int) + (b + (dp - c)) = 0 from by omega, Rat.zpow_zero]
          rw [← e1, Rat.natCast_mul, Rat.natCast_mul, ← zp_nat]
          calc (j : Rat) * 2 ^ q = (j : Rat) * 2 ^ q * (10 ^ (a : Int) * (10 ^ (b : Int) * 10 ^ (dp - c))) := by rw [e2, Rat.mul_one]
            _ = (j : Rat) * 2 ^ q * (10 ^ (a : Int) * (((5 ^ b : Nat) : Rat) * 2 ^ (b : Int) * 10 ^ (dp - c))) := by rw [h5]
            _ = _ := by grind
        · obtain ⟨a, ha⟩ : ∃ a : Nat, (a : Int) = 800 - dp := ⟨(800 - dp).toNat, by omega⟩
          obtain ⟨b, hb⟩ : ∃ b : Nat, (b : Int) = -r := ⟨(-r).toNat, by omega⟩
          refine ⟨j * (10 ^ a * 2 ^ b), ?_⟩
          have e1 : (2 : Rat) ^ (b : Int) * 2 ^ (e - s) = 2 ^ q := by rw [← zp2_add]; congr 1; omega
          have e2 : (10 : Rat) ^ (a : Int) * 10 ^ (dp - c) = 1 := by
            rw [← zp_add, show (a : Int) + (dp - c) = 0 from by omega, Rat.zpow_zero]
          rw [Rat.natCast_mul, Rat.natCast_mul, ← zp_nat, ← zp2_nat, ← e1]
          calc (j : Rat) * (2 ^ (b : Int) * 2 ^ (e - s)) = (j : Rat) * (2 ^ (b : Int) * 2 ^ (e - s)) * (10 ^ (a : Int) * 10 ^ (dp - c)) := by rw [e2, Rat.mul_one]
            _ = _ := by grind
      rw [hA, hsame] at hj2
      have hj3 := le_of_mul_r hj2 hp2
      have hAc : (A : Rat) * 10 ^ (dp - c) = ((A * 10 ^ (m - c) : Nat) : Rat) * 10 ^ (dp - m) := by
        rw [Rat.natCast_mul, ← zp_nat, Rat.mul_assoc, ← zp_add]; congr 2; omega
      rw [hAc] at hj3
      have hj4 := Rat.natCast_le_natCast.1 (le_of_mul_r hj3 hpd)
      have hj5 : A ≤ X / 10 ^ (m - c) := (Nat.le_div_iff_mul_le hpc).2 hj4
      rw [hA, hAc]
      exact mul_le_r (mul_le_r (Rat.natCast_le_natCast.2 (Nat.mul_le_mul_right _ hj5)) (Rat.le_of_lt hpd)) (Rat.le_of_lt hp2)
    · have : m - c = 0 := by omega
      rw [this, Nat.pow_zero, Nat.div_one, Nat.mul_one, ← hsame]
      exact hj2
  · intro ht
    rw [Bool.or_eq_false_iff] at ht
    have h1 := decide_eq_false_iff_not.1 ht.2
    have h2 : X / 10 ^ (m - c) * 10 ^ (m - c) = X := by
      have := Nat.div_add_mod X (10 ^ (m - c)); rw [Nat.mul_comm]; omega
    rw [h2, ← hsame]
    exact h.ex ht.1
  · intro ht
    rw [Bool.or_eq_true] at ht
    rcases ht with h1 | h1
    · exact rlt_of_le_of_lt hley (h.lt h1)
    · have h1 := of_decide_eq_true h1
      refine rlt_of_lt_of_le ?_ h.le
      rw [hsame]
      have h2 : X / 10 ^ (m - c) * 10 ^ (m - c) < X := by
        have := Nat.div_add_mod X (10 ^ (m - c)); rw [Nat.mul_comm]; omega
      exact mul_lt_r (mul_lt_r (Rat.natCast_lt_natCast.2 h2) hpd) hp2
end Go.Proofs.YtpnfkipfjanmkaaGreatDoor.Flt

namespace Go.Proofs.YtpnfkipfjanmkaaGreatDoor
open Go.RowKit Flt

theorem DecS.lt {p : Nat} {y : Rat} {dp : Int} {ng tr : Bool} {w : World} (h : DecS p y dp ng tr w) : y < 10 ^ dp := by
  obtain ⟨V, n, D, h0, _, _, h2, _, rfl, _⟩ := h
  have h1 := Rat.natCast_lt_natCast.2 h2
  have := mul_lt_r h1 (zp_pos (dp - n))
  rw [← zp_nat, ← zp_add, show (n : Int) + (dp - n) = dp from by omega] at this
  exact this
theorem DecS.ge {p : Nat} {y : Rat} {dp : Int} {ng tr : Bool} {w : World} (h : DecS p y dp ng tr w) : 10 ^ (dp - 1) ≤ y := by
  obtain ⟨V, n, D, h0, _, h2, _, _, rfl, _⟩ := h
  have h1 := Rat.natCast_le_natCast.2 h2
  have := mul_le_r h1 (Rat.le_of_lt (zp_pos (dp - n)))
  rw [← zp_nat, ← zp_add, show ((n - 1 : Nat) : Int) + (dp - n) = dp - 1 from by omega] at this
  exact this

theorem ten_le_two {d : Int} (h : d ≤ 0) : (10 : Rat) ^ d ≤ 2 ^ d := by
  obtain ⟨a, ha⟩ : ∃ a : Nat, (a : Int) = -d := ⟨(-d).toNat, by omega⟩
  have h1 : (2 : Rat) ^ (a : Int) ≤ 10 ^ (a : Int) := by
    rw [zp_nat, zp2_nat]; exact Rat.natCast_le_natCast.2 (Nat.pow_le_pow_left (by omega) a)
  have e1 : (10 : Rat) ^ d * 10 ^ (a : Int) = 1 := by rw [← zp_add, show d + a = 0 from by omega, Rat.zpow_zero]
  have e2 : (2 : Rat) ^ d * 2 ^ (a : Int) = 1 := by rw [← zp2_add, show d + a = 0 from by omega, Rat.zpow_zero]
  refine le_of_mul_r (c := 10 ^ (a : Int)) ?_ (zp_pos _)
  rw [e1, ← e2]
  exact Rat.mul_le_mul_of_nonneg_left h1 (Rat.le_of_lt (zp2_pos d))

theorem dp_low {x : Rat} {B q : Int} (hB : 2 ^ B ≤ x) (hq : q ≤ B) {y : Rat} {e : Int} {tr : Bool} (h : Keep x q y e tr) {dp : Int} (hy : y < 10 ^ dp) : 0 ≤ dp ∨ B - e < dp := by
  rcases Int.lt_or_le dp 0 with h0 | h0
  · right
    obtain ⟨b, hb⟩ : ∃ b : Nat, (b : Int) = B - q := ⟨(B - q).toNat, by omega⟩
    have e1 : ((2 ^ b : Nat) : Rat) * 2 ^ q = 2 ^ B := by rw [← zp2_nat, ← zp2_add]; congr 1; omega
    have h1 := h.grid (2 ^ b) (by rw [e1]; exact hB)
    rw [e1] at h1
    have h2 : y * 2 ^ e < 2 ^ dp * 2 ^ e := mul_lt_r (rlt_of_lt_of_le hy (ten_le_two (by omega))) (zp2_pos e)
    rw [← zp2_add] at h2
    have := zp2_lt_imp (rlt_of_le_of_lt h1 h2)
    omega
  · exact .inl h0

theorem DecS.nd {p : Nat} {y : Rat} {dp : Int} {ng tr : Bool} {w : World} (h : DecS p y dp ng tr w) : ∃ n : Nat, 0 < n ∧ w.cell? ⟨p, 800, none⟩ = some (.int .i64 n) := by
  obtain ⟨V, n, D, h0, _, _, _, _, _, _, hB⟩ := h
  exact ⟨n, h0, hB.nd'⟩

section
variable {N : Nat} (p : Nat) (x : Rat) (B q : Int) (hN : N ≤ p) (hN14 : 14 < N) (hB1 : 2 ^ B ≤ x) (hB2 : x < 2 ^ (B + 1)) (hq1 : B - 53 ≤ q) (hq2 : q ≤ B) (hBb : -1200 ≤ B)
include hN hN14 hB1 hB2 hq1 hq2 hBb

set_option maxHeartbeats 1600000 in
theorem shift_left (y : Rat) (dp e : Int) (ng tr : Bool) (w : World) (k : Nat) (hC : Cheats N w) (h : DecS p y dp ng tr w) (hk : Keep x q y e tr) (hk0 : 0 < k) (hk1 : k ≤ 500) (he2 : e ≤ 5000) (hdp : dp ≤ 300) :
    Calls Tryz.prog 270 #[.pointer (some ⟨p, 0, none⟩), .int .i64 k] w fun e' w' => e' = .returned (.tuple #[]) ∧ Below p w w' ∧ ∃ y' dp' tr', DecS p y' dp' ng tr' w' ∧ Keep x q y' (e - k) tr' ∧ dp' ≤ dp + k := by
  obtain ⟨n, hn, h0⟩ := h.nd
  have hz : ((n : Int) == 0) = false := by rw [beq_eq_false_iff_ne]; omega
  have HH := Lib.hid h
  have HK := Lib.hid hk
  have HC := Lib.hid hC
  have step : ∀ (wr : World) (y : Rat) (dp e : Int) (tr : Bool) (k : Nat), Below p w wr → DecS p y dp ng tr wr → Keep x q y e tr → 0 < k → k < 61 → e ≤ 6000 → dp + k ≤ 800 →
      Calls Tryz.prog 312 #[.pointer (some ⟨p, 0, none⟩), .int .u64 k] wr fun e' w' => e' = .returned (.tuple #[]) ∧ Below p wr w' ∧ ∃ y' dp' tr', DecS p y' dp' ng tr' w' ∧ Keep x q y' (e - k) tr' ∧ dp' ≤ dp + k := by
    intro wr y dp e tr k hb h hk hk0 hk1 he2 hdp
    have hlow := dp_low hB1 hq2 hk h.lt
    refine (leftShift_q p k y dp ng tr wr (HC.out.below hb hN hN14) hN hN14 h hk0 hk1 (by omega) (by omega)).mono ?_
    rintro e' w' ⟨rfl, hb', y', dp', tr', hd, hc, _, hd2⟩
    exact ⟨rfl, hb', y', dp', tr', hd, (hk.cut hB2 hq1 hc (by have := hk.r; omega) (by omega)), hd2⟩
  have HS := Lib.hid step
  have HB1 := Lib.hid hB1
  have HB2 := Lib.hid hB2
  clear h hk step hB1 hB2 hC
  
  
  go_enter Tryz.func270, Tryz.ntmps270
  go_wp2_with fail
  go_loopw [1] (fun s wr => ∃ (k' : Nat) (y' : Rat) (dp' : Int) (tr' : Bool), s = .int .i64 (k' : Nat) ∧ 0 < k' ∧ k' ≤ k ∧ Below p w wr ∧ DecS p y' dp' ng tr' wr ∧ Keep x q y' (e - ((k : Int) - k')) tr' ∧ dp' ≤ dp + ((k : Int) - k')) (fun s _ => (intOf s).natAbs)
  case atStart => exact ⟨k, y, dp, tr, rfl, hk0, Nat.le_refl _, Below.refl _ _, HH.out, by have := HK.out; rwa [Int.sub_self, Int.sub_zero], by omega⟩
  case round =>
    obtain ⟨k', y', dp', tr', rfl, hk0', hk', hb, hd, hkp, hdl⟩ := hrel
    have HB := Lib.hid hb
    have HD := Lib.hid hd
    have HKP := Lib.hid hkp
    clear hb hd hkp
    by_cases h60 : 60 < k'
    · 
      go_wp2_with fail
      refine (HS.out _ y' dp' _ tr' 60 HB.out HD.out HKP.out (by omega) (by omega) (by omega) (by omega)).mono ?_
      rintro e' w2 ⟨rfl, hb2, y2, dp2, tr2, hd2, hk2, hdp2⟩
      have HB2' := Lib.hid hb2
      have HD2 := Lib.hid hd2
      have HK2 := Lib.hid hk2
      clear hb2 hd2 hk2
      go_wp2_with fail
      refine ⟨⟨k' - 60, y2, dp2, tr2, int_eq (by omega), by omega, by omega, HB.out.trans HB2'.out, HD2.out, ?_, by omega⟩, by simp [intOf]; omega⟩
      have := HK2.out
      rwa [show e - ((k : Int) - k') - ((60 : Nat) : Int) = e - ((k : Int) - (k' - 60 : Nat)) from by omega] at this
    · 
      go_wp2_with fail
      refine (HS.out _ y' dp' _ tr' k' HB.out HD.out HKP.out (by omega) (by omega) (by omega) (by omega)).mono ?_
      rintro e' w2 ⟨rfl, hb2, y2, dp2, tr2, hd2, hk2, hdp2⟩
      have HB2' := Lib.hid hb2
      have HD2 := Lib.hid hd2
      have HK2 := Lib.hid hk2
      clear hb2 hd2 hk2
      go_wp2_with fail
      ((try simp only [Exit.inBlock, Exit.then]); first | refine bodyPost_end (results_none rfl _ _ _) rfl ?_ | refine bodyPost_ret (results_none rfl _ _ _) rfl ?_)
      refine ⟨rfl, HB.out.trans HB2'.out, y2, dp2, tr2, HD2.out, ?_, by omega⟩
      have := HK2.out
      rwa [show e - ((k : Int) - k') - (k' : Int) = e - k from by omega] at this
end
section
variable (p : Nat) (x : Rat) (B q : Int) (hB1 : 2 ^ B ≤ x) (hB2 : x < 2 ^ (B + 1)) (hq1 : B - 53 ≤ q) (hq2 : q ≤ B) (hBb : -1200 ≤ B)
include hB1 hB2 hq1 hq2 hBb
set_option maxHeartbeats 1600000 in
theorem shift_right (y : Rat) (dp e : Int) (ng tr : Bool) (w : World) (k : Nat) (h : DecS p y dp ng tr w) (hk : Keep x q y e tr) (hk0 : 0 < k) (hk1 : k ≤ 500) (he2 : e ≤ 5000) (hdp : dp ≤ 800) (her : e + k - q ≤ 1115) :
    Calls Tryz.prog 270 #[.pointer (some ⟨p, 0, none⟩), .int .i64 (-(k : Int))] w fun e' w' => e' = .returned (.tuple #[]) ∧ Below p w w' ∧ ∃ y' dp' tr', DecS p y' dp' ng tr' w' ∧ Keep x q y' (e + k) tr' ∧ dp' ≤ dp := by
  obtain ⟨n, hn, h0⟩ := h.nd
  have hz : ((n : Int) == 0) = false := by rw [beq_eq_false_iff_ne]; omega
  have HH := Lib.hid h
  have HK := Lib.hid hk
  have HR := Lib.hid her
  have step : ∀ (wr : World) (y : Rat) (dp e : Int) (tr : Bool) (k : Nat), Below p w wr → DecS p y dp ng tr wr → Keep x q y e tr → 0 < k → k < 61 → e ≤ 6000 → e + k - q ≤ 1115 ∧ dp ≤ 800 →
      Calls Tryz.prog 313 #[.pointer (some ⟨p, 0, none⟩), .int .u64 k] wr fun e' w' => e' = .returned (.tuple #[]) ∧ Below p wr w' ∧ ∃ y' dp' tr', DecS p y' dp' ng tr' w' ∧ Keep x q y' (e + k) tr' ∧ dp' ≤ dp := by
    intro wr y dp e tr k hb h hk hk0 hk1 he2 hdp
    have hlow := dp_low hB1 hq2 hk h.lt
    refine (rightShift_q p k y dp ng tr wr h hk0 hk1 (by omega) (by omega)).mono ?_
    rintro e' w' ⟨rfl, hb', y', dp', tr', hd, hc, hd1, hd2⟩
    exact ⟨rfl, hb', y', dp', tr', hd, (by have := hk.cut hB2 hq1 hc (by omega) (by omega); rwa [Int.sub_neg] at this), hd2⟩
  have HS := Lib.hid step
  have HB1 := Lib.hid hB1
  have HB2 := Lib.hid hB2
  clear h hk step hB1 hB2 her
  have hpos : ¬ (0 : Int) < -(k : Int) := by omega
  have hneg : (-(k : Int)) < 0 := by omega
  go_enter Tryz.func270, Tryz.ntmps270
  go_wp2_with fail
  go_loopw [1] (fun s wr => ∃ (k' : Nat) (y' : Rat) (dp' : Int) (tr' : Bool), s = .int .i64 (-((k' : Nat) : Int)) ∧ 0 < k' ∧ k' ≤ k ∧ Below p w wr ∧ DecS p y' dp' ng tr' wr ∧ Keep x q y' (e + ((k : Int) - k')) tr' ∧ dp' ≤ dp) (fun s _ => (intOf s).natAbs)
  case atStart => exact ⟨k, y, dp, tr, rfl, hk0, Nat.le_refl _, Below.refl _ _, HH.out, by have := HK.out; rwa [Int.sub_self, Int.add_zero], by omega⟩
  case round =>
    obtain ⟨k', y', dp', tr', rfl, hk0', hk', hb, hd, hkp, hdl⟩ := hrel
    have HB := Lib.hid hb
    have HD := Lib.hid hd
    have HKP := Lib.hid hkp
    clear hb hd hkp
    by_cases h60 : 60 < k'
    · have h60i : (-(k' : Int)) < -60 := by omega
      go_wp2_with fail
      refine (HS.out _ y' dp' _ tr' 60 HB.out HD.out HKP.out (by omega) (by omega) (by omega) ⟨by have := HR.out; omega, by omega⟩).mono ?_
      rintro e' w2 ⟨rfl, hb2, y2, dp2, tr2, hd2, hk2, hdp2⟩
      have HB2' := Lib.hid hb2
      have HD2 := Lib.hid hd2
      have HK2 := Lib.hid hk2
      clear hb2 hd2 hk2
      go_wp2_with fail
      refine ⟨⟨k' - 60, y2, dp2, tr2, int_eq (by omega), by omega, by omega, HB.out.trans HB2'.out, HD2.out, ?_, by omega⟩, by simp [intOf]; omega⟩
      have := HK2.out
      rwa [show e + ((k : Int) - k') + ((60 : Nat) : Int) = e + ((k : Int) - (k' - 60 : Nat)) from by omega] at this
    · have h60i : ¬ (-(k' : Int)) < -60 := by omega
      go_wp2_with fail
      refine (HS.out _ y' dp' _ tr' k' HB.out HD.out HKP.out (by omega) (by omega) (by omega) ⟨by have := HR.out; omega, by omega⟩).mono ?_
      rintro e' w2 ⟨rfl, hb2, y2, dp2, tr2, hd2, hk2, hdp2⟩
      have HB2' := Lib.hid hb2
      have HD2 := Lib.hid hd2
      have HK2 := Lib.hid hk2
      clear hb2 hd2 hk2
      go_wp2_with fail
      ((try simp only [Exit.inBlock, Exit.then]); first | refine bodyPost_end (results_none rfl _ _ _) rfl ?_ | refine bodyPost_ret (results_none rfl _ _ _) rfl ?_)
      refine ⟨rfl, HB.out.trans HB2'.out, y2, dp2, tr2, HD2.out, ?_, by omega⟩
      have := HK2.out
      rwa [show e + ((k : Int) - k') + (k' : Int) = e + k from by omega] at this
end
end Go.Proofs.YtpnfkipfjanmkaaGreatDoor

namespace Go.Proofs.YtpnfkipfjanmkaaGreatDoor
open Go.RowKit Flt

def sru (E : Nat → Nat) (n j : Nat) (tr : Bool) : Bool :=
  if j < n then (if E j = 5 ∧ j + 1 = n then (tr || (decide (0 < j) && decide (E (j - 1) % 2 ≠ 0))) else decide (5 ≤ E j)) else false

set_option maxHeartbeats 1600000 in
theorem sru_neg (p n : Nat) (D : Nat → Int) (j dp : Int) (ng tr : Bool) (w : World) (h : DecB p D n dp ng tr w) (hj : j < 0) :
    Calls Tryz.prog 314 #[.pointer (some ⟨p, 0, none⟩), .int .i64 j] w fun e w' => e = .returned (.bool false) ∧ w' = w := by
  have h0 := h.nd'
  go_enter Tryz.func314, Tryz.ntmps314
  go_wp2_with fail
  go_ret
  exact ⟨rfl, rfl⟩

set_option maxHeartbeats 1600000 in
theorem sru_any (p n j : Nat) (D : Nat → Int) (E : Nat → Nat) (dp : Int) (ng tr : Bool) (w : World) (h : DecB p D n dp ng tr w) (hD : ∀ i, i < n → D i = (E i : Int) + 48) (hE : ∀ i, i < n → E i < 10) (hn : n ≤ 800) :
    Calls Tryz.prog 314 #[.pointer (some ⟨p, 0, none⟩), .int .i64 j] w fun e w' => e = .returned (.bool (sru E n j tr)) ∧ w' = w := by
  have h0 := h.nd'
  have h1 := h.tr'
  obtain ⟨r, hr⟩ : ∃ r, sru E n j tr = r := ⟨_, rfl⟩
  rw [hr]
  unfold sru at hr
  by_cases hj : j < n
  · rw [if_pos hj] at hr
    have hc := h.dig (i := j) (by omega)
    rw [hD j hj] at hc
    have he := hE j hj
    by_cases h5 : E j = 5
    · by_cases hjn : j + 1 = n
      · rw [if_pos ⟨h5, hjn⟩] at hr
        cases tr
        · rcases j with _ | i
          · have : false = r := by rw [← hr]; rfl
            subst this
            clear hr
            rw [h5] at hc
            go_enter Tryz.func314, Tryz.ntmps314
            go_wp2_with fail
            go_ret
            exact ⟨rfl, rfl⟩
          · have hc2 := h.dig (i := i) (by omega)
            rw [hD i (by omega)] at hc2
            have he2 := hE i (by omega)
            rw [h5] at hc
            have hi1 : ((i + 1 : Nat) : Int) - 1 = i := by omega
            have hr2 : decide (E i % 2 ≠ 0) = r := by simpa using hr
            clear hr hD hE h
            by_cases hodd : E i % 2 = 0
            · have : false = r := by rw [← hr2]; simp [hodd]
              subst this
              have hm : ((E i : Int) % 2 != 0) = false := by rw [bne_eq_false_iff_eq]; omega
              clear hr2
              go_enter Tryz.func314, Tryz.ntmps314
              go_wp2_with fail
              go_ret
              exact ⟨rfl, rfl⟩
            · have : true = r := by rw [← hr2]; simp [hodd]
              subst this
              have hm : ((E i : Int) % 2 != 0) = true := by rw [bne_iff_ne]; omega
              clear hr2
              go_enter Tryz.func314, Tryz.ntmps314
              go_wp2_with fail
              go_ret
              exact ⟨rfl, rfl⟩
        · have : true = r := by rw [← hr]; rfl
          subst this
          clear hr
          rw [h5] at hc
          go_enter Tryz.func314, Tryz.ntmps314
          go_wp2_with fail
          go_ret
          exact ⟨rfl, rfl⟩
      · rw [if_neg (fun h => hjn h.2)] at hr
        have : true = r := by rw [← hr]; simp [h5]
        subst this
        clear hr hD hE h
        rw [h5] at hc
        have hne : ((j : Int) + 1 == n) = false := by rw [beq_eq_false_iff_ne]; omega
        go_enter Tryz.func314, Tryz.ntmps314
        go_wp2_with fail
        go_ret
        exact ⟨rfl, rfl⟩
    · rw [if_neg (fun h => h5 h.1)] at hr
      have hne : ((E j : Int) + 48 == 53) = false := by rw [beq_eq_false_iff_ne]; omega
      by_cases hge : 5 ≤ E j
      · have : true = r := by rw [← hr]; simp [hge]
        subst this
        have hm : decide ((53 : Int) ≤ (E j : Int) + 48) = true := by rw [decide_eq_true_eq]; omega
        clear hr hD hE h
        go_enter Tryz.func314, Tryz.ntmps314
        go_wp2_with fail
        go_ret
        exact ⟨rfl, rfl⟩
      · have : false = r := by rw [← hr]; simp [hge]
        subst this
        have hm : decide ((53 : Int) ≤ (E j : Int) + 48) = false := by rw [decide_eq_false_iff_not]; omega
        clear hr hD hE h
        go_enter Tryz.func314, Tryz.ntmps314
        go_wp2_with fail
        go_ret
        exact ⟨rfl, rfl⟩
  · rw [if_neg hj] at hr
    subst hr
    clear hD hE h
    go_enter Tryz.func314, Tryz.ntmps314
    go_wp2_with fail
    go_ret
    exact ⟨rfl, rfl⟩

/-- The value rounded to a whole number, as a number of digits and a word on what was dropped. -/
def riV (V n : Nat) (dp : Int) (tr : Bool) : Nat := rsV V n dp.toNat + (if 0 ≤ dp ∧ sru (dig V n) n dp.toNat tr = true then 1 else 0)

set_option maxHeartbeats 1600000 in
theorem rounded_any (p n V : Nat) (D : Nat → Int) (dp : Int) (ng tr : Bool) (w : World) (h : DecB p D n dp ng tr w) (hV : V < 10 ^ n) (hD : ∀ i, i < n → D i = (dig V n i : Int) + 48) (hn : n ≤ 800) (hdp : dp ≤ 18) (hdp2 : -100000 ≤ dp) :
    Calls Tryz.prog 346 #[.pointer (some ⟨p, 0, none⟩)] w fun e w' => e = .returned (.int .u64 (riV V n dp tr : Nat)) ∧ w' = w := by
  have h0 := h.nd'
  have h1 := h.dp'
  have hE : ∀ i, i < n → dig V n i < 10 := fun i _ => dig_lt V n i
  have hst := rsV_succ hE
  rw [vald_dig_all hV] at hst
  have hlt : ∀ t, rsV V n t < 10 ^ t := fun t => by
    unfold rsV
    refine Nat.div_lt_of_lt_mul ?_
    exact Nat.mul_lt_mul_of_pos_right hV (Nat.pow_pos (by omega))
  have HH := Lib.hid h
  have HD := Lib.hid hD
  have HV := Lib.hid hV
  have HST := Lib.hid hst
  have HLT := Lib.hid hlt
  rcases Int.lt_or_le dp 0 with hneg | hpos
  · have hsr := sru_neg p n D dp dp ng tr w h hneg
    have hr : riV V n dp tr = 0 := by
      unfold riV; rw [if_neg (by omega), show dp.toNat = 0 from by omega, rsV_zero hV]
    rw [hr]
    have HSR := Lib.hid hsr
    clear hsr hr h hD hE hst hlt hV
    go_enter Tryz.func346, Tryz.ntmps346
    go_wp2_with fail
    go_loopw [3, 4] (fun i c wr => i = .int .i64 0 ∧ c = .int .u64 0 ∧ w = wr) (fun _ _ _ => 0)
    case atStart => exact ⟨rfl, rfl, rfl⟩
    case round =>
      obtain ⟨rfl, rfl, rfl⟩ := hrel
      have hn0 : ¬ 0 < dp := by omega
      go_wp2_with fail
      go_loopw [3, 4] (fun i c wr => i = .int .i64 0 ∧ c = .int .u64 0 ∧ w = wr) (fun _ _ _ => 0)
      case atStart => exact ⟨rfl, rfl, rfl⟩
      case round =>
        obtain ⟨rfl, rfl, rfl⟩ := hrel
        go_wp2_with fail
        refine HSR.out.mono ?_
        rintro e w2 ⟨rfl, rfl⟩
        go_wp2_with fail
        go_ret
        exact ⟨rfl, rfl⟩
  · obtain ⟨d, rfl⟩ : ∃ d : Nat, dp = d := ⟨dp.toNat, by omega⟩
    have hsr := sru_any p n d D (dig V n) d ng tr w h hD hE hn
    have hr : riV V n (d : Int) tr = rsV V n d + (if sru (dig V n) n d tr = true then 1 else 0) := by
      unfold riV; simp
    rw [hr]
    obtain ⟨up, hup⟩ : ∃ up, sru (dig V n) n d tr = up := ⟨_, rfl⟩
    rw [hup] at hsr ⊢
    have HSR := Lib.hid hsr
    clear hsr hr hup h hD hE hst hlt hV
    go_enter Tryz.func346, Tryz.ntmps346
    go_wp2_with fail
    go_loopw [3, 4] (fun i c wr => ∃ t : Nat, t ≤ d ∧ t ≤ n ∧ i = .int .i64 t ∧ c = .int .u64 (rsV V n t : Nat) ∧ w = wr) (fun i _ _ => d - (intOf i).toNat)
    case atStart => exact ⟨0, Nat.zero_le _, Nat.zero_le _, rfl, by rw [rsV_zero HV.out]; rfl, rfl⟩
    case round =>
      obtain ⟨t, ht, htn, rfl, rfl, rfl⟩ := hrel
      have hb := HLT.out t
      have hb2 : 10 ^ t ≤ 10 ^ 18 := Nat.pow_le_pow_right (by omega) (by omega)
      have hs := HST.out t
      obtain ⟨c, hc⟩ : ∃ c, rsV V n t = c := ⟨_, rfl⟩
      rw [hc] at hb hs ⊢
      have hcb : c < 1000000000000000000 := by omega
      have HS := Lib.hid hs
      have HC := Lib.hid hc
      clear hb hb2 hs hc
      by_cases htd : t < d
      · by_cases htn2 : t < n
        · have hcl := HH.out.dig (i := t) (by omega)
          rw [HD.out t htn2] at hcl
          have hdg := dig_lt V n t
          obtain ⟨g, hg⟩ : ∃ g, dig V n t = g := ⟨_, rfl⟩
          rw [hg] at hcl hdg
          have HG := Lib.hid hg
          clear hg
          go_wp2_with fail
          refine ⟨⟨t + 1, by omega, by omega, rfl, int_eq ?_, by trivial⟩, by simp [intOf]; omega⟩
          rw [HS.out, show rsE (dig V n) n t = g from by unfold rsE; rw [if_pos htn2, HG.out]]; omega
        · have htn3 : n = t := by omega
          subst htn3
          go_wp2_with fail
          go_loopw [3, 4] (fun i c wr => ∃ t : Nat, t ≤ d ∧ (n ≤ t ∨ t = d) ∧ i = .int .i64 t ∧ c = .int .u64 (rsV V n t : Nat) ∧ w = wr) (fun i _ _ => d - (intOf i).toNat)
          case atStart => exact ⟨n, by omega, by omega, rfl, by rw [HC.out], rfl⟩
          case round =>
            clear HC HS hcb
            obtain ⟨t, ht, htn, rfl, rfl, rfl⟩ := hrel
            have hb := HLT.out t
            have hb2 : 10 ^ t ≤ 10 ^ 18 := Nat.pow_le_pow_right (by omega) (by omega)
            have hs := HST.out t
            obtain ⟨c, hc⟩ : ∃ c, rsV V n t = c := ⟨_, rfl⟩
            rw [hc] at hb hs ⊢
            have hcb : c ≤ 1000000000000000000 := by omega
            have HS := Lib.hid hs
            have HC := Lib.hid hc
            clear hb hb2 hs hc
            by_cases htd : t < d
            · go_wp2_with fail
              refine ⟨⟨t + 1, by omega, by omega, rfl, int_eq ?_, by trivial⟩, by simp [intOf]; omega⟩
              rw [HS.out, show rsE (dig V n) n t = 0 from by unfold rsE; rw [if_neg (by omega)]]; omega
            · have htd2 : t = d := by omega
              subst htd2
              go_wp2_with fail
              refine HSR.out.mono ?_
              rintro e w2 ⟨rfl, rfl⟩
              cases up
              · go_wp2_with fail
                go_ret
                refine ⟨congrArg Ending.returned (int_eq ?_), rfl⟩
                rw [HC.out]
              · go_wp2_with fail
                go_ret
                refine ⟨congrArg Ending.returned (int_eq ?_), rfl⟩
                rw [HC.out]
      · have htd2 : d = t := by omega
        subst htd2
        clear htd ht htn
        go_wp2_with fail
        go_loopw [3, 4] (fun i c wr => ∃ t : Nat, t ≤ d ∧ (n ≤ t ∨ t = d) ∧ i = .int .i64 t ∧ c = .int .u64 (rsV V n t : Nat) ∧ w = wr) (fun i _ _ => d - (intOf i).toNat)
        case atStart => exact ⟨d, by omega, by omega, rfl, by rw [HC.out], rfl⟩
        case round =>
          clear HC HS hcb
          obtain ⟨t, ht, htn, rfl, rfl, rfl⟩ := hrel
          have hb := HLT.out t
          have hb2 : 10 ^ t ≤ 10 ^ 18 := Nat.pow_le_pow_right (by omega) (by omega)
          have hs := HST.out t
          obtain ⟨c, hc⟩ : ∃ c, rsV V n t = c := ⟨_, rfl⟩
          rw [hc] at hb hs ⊢
          have hcb : c ≤ 1000000000000000000 := by omega
          have HS := Lib.hid hs
          have HC := Lib.hid hc
          clear hb hb2 hs hc
          by_cases htd : t < d
          · go_wp2_with fail
            refine ⟨⟨t + 1, by omega, by omega, rfl, int_eq ?_, by trivial⟩, by simp [intOf]; omega⟩
            rw [HS.out, show rsE (dig V n) n t = 0 from by unfold rsE; rw [if_neg (by omega)]]; omega
          · have htd2 : t = d := by omega
            subst htd2
            go_wp2_with fail
            refine HSR.out.mono ?_
            rintro e w2 ⟨rfl, rfl⟩
            cases up
            · go_wp2_with fail
              go_ret
              refine ⟨congrArg Ending.returned (int_eq ?_), rfl⟩
              rw [HC.out]
            · go_wp2_with fail
              go_ret
              refine ⟨congrArg Ending.returned (int_eq ?_), rfl⟩
              rw [HC.out]
end Go.Proofs.YtpnfkipfjanmkaaGreatDoor
