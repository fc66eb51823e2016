/- DERIVED. Plain: digits from the left, their number; which of two numerals behind a point is less. -/
import Derived.WalkKit
set_option linter.unusedVariables false
set_option linter.unusedSimpArgs false
namespace Go.Proofs.YtpnfkipfjanmkaaGreatDoor.Flt

/-- The number of the first n digits. -/
def vald (E : Nat → Nat) : Nat → Nat
  | 0 => 0
  | n + 1 => 10 * vald E n + E n

theorem vald_lt {E : Nat → Nat} : ∀ {n : Nat}, (∀ i, i < n → E i < 10) → vald E n < 10 ^ n
  | 0, _ => by simp [vald]
  | n + 1, h => by
    have := vald_lt (n := n) fun i hi => h i (by omega)
    have h2 := h n (by omega)
    simp only [vald, Nat.pow_succ]; omega

theorem vald_congr {E F : Nat → Nat} : ∀ {n : Nat}, (∀ i, i < n → E i = F i) → vald E n = vald F n
  | 0, _ => rfl
  | n + 1, h => by simp only [vald]; rw [vald_congr (n := n) fun i hi => h i (by omega), h n (by omega)]

theorem vald_add {E : Nat → Nat} (i : Nat) : ∀ (k : Nat), vald E (i + k) = vald E i * 10 ^ k + vald (fun j => E (i + j)) k
  | 0 => by simp [vald]
  | k + 1 => by
    show 10 * vald E (i + k) + E (i + k) = _
    rw [vald_add i k]
    simp only [vald, Nat.pow_succ]
    have : vald E i * (10 ^ k * 10) = 10 * (vald E i * 10 ^ k) := by ac_rfl
    rw [this]; omega

theorem vald_pre {E : Nat → Nat} {n i : Nat} (h : ∀ j, j < n → E j < 10) (hi : i ≤ n) : vald E i = vald E n / 10 ^ (n - i) := by
  have h1 := vald_add (E := E) i (n - i)
  rw [show i + (n - i) = n from by omega] at h1
  have h2 : vald (fun j => E (i + j)) (n - i) < 10 ^ (n - i) := vald_lt fun j hj => h (i + j) (by omega)
  rw [h1, Nat.mul_comm, Nat.mul_add_div (Nat.pow_pos (by omega)), Nat.div_eq_of_lt h2, Nat.add_zero]

theorem vald_digit {E : Nat → Nat} {n i : Nat} (h : ∀ j, j < n → E j < 10) (hi : i < n) : E i = vald E n / 10 ^ (n - 1 - i) % 10 := by
  have h1 := vald_pre h (i := i + 1) (by omega)
  rw [show n - 1 - i = n - (i + 1) from by omega, ← h1]
  have := h i hi
  simp only [vald]; omega

/-- The digits of a number. -/
def dig (X m i : Nat) : Nat := X / 10 ^ (m - 1 - i) % 10
theorem dig_lt (X m i : Nat) : dig X m i < 10 := Nat.mod_lt _ (by omega)

theorem vald_dig (X m : Nat) : ∀ {n : Nat}, n ≤ m → vald (dig X m) n = X / 10 ^ (m - n) % 10 ^ n
  | 0, _ => by simp [vald, Nat.mod_one]
  | n + 1, h => by
    simp only [vald]
    rw [vald_dig X m (n := n) (by omega)]
    unfold dig
    have e : m - n = (m - (n + 1)) + 1 := by omega
    rw [show m - 1 - n = m - (n + 1) from by omega, e, Nat.pow_succ, ← Nat.div_div_eq_div_mul]
    generalize X / 10 ^ (m - (n + 1)) = Y
    rw [Nat.pow_succ, Nat.mul_comm (10 ^ n) 10, Nat.mod_mul]
    omega

theorem vald_dig_all {X m : Nat} (h : X < 10 ^ m) : vald (dig X m) m = X := by
  rw [vald_dig X m (Nat.le_refl _), Nat.sub_self, Nat.pow_zero, Nat.div_one, Nat.mod_eq_of_lt h]

theorem dig_vald {E : Nat → Nat} {n i : Nat} (h : ∀ j, j < n → E j < 10) (hi : i < n) : dig (vald E n) n i = E i := (vald_digit h hi).symm

/-! ### 0.E against 0.W -/
section
variable {E : Nat → Nat} {n W L : Nat} (hE : ∀ j, j < n → E j < 10)
include hE

end
section
variable {E : Nat → Nat} {n W L : Nat}
theorem pre_end (h : vald E L = W) (hL : L ≤ n) : ¬ vald E n * 10 ^ L < W * 10 ^ n := by
  have h1 := vald_add (E := E) L (n - L)
  rw [show L + (n - L) = n from by omega, h] at h1
  rw [h1]
  have : W * 10 ^ n = W * 10 ^ (n - L) * 10 ^ L := by rw [Nat.mul_assoc, ← Nat.pow_add, show n - L + L = n from by omega]
  rw [this]
  have := Nat.mul_le_mul_right (10 ^ L) (Nat.le_add_right (W * 10 ^ (n - L)) (vald (fun j => E (L + j)) (n - L)))
  omega
end
section
variable {E : Nat → Nat} {n W L : Nat} (hE : ∀ j, j < n → E j < 10)
include hE

end
section
variable {E : Nat → Nat} {n W L : Nat}
theorem pre_short (h : vald E n = W / 10 ^ (L - n)) (hL : n < L) (hz : W % 10 ≠ 0) : vald E n * 10 ^ L < W * 10 ^ n := by
  rw [h]
  have e : 10 ^ L = 10 ^ (L - n) * 10 ^ n := by rw [← Nat.pow_add, show L - n + n = L from by omega]
  rw [e, ← Nat.mul_assoc]
  refine Nat.mul_lt_mul_of_pos_right ?_ (Nat.pow_pos (by omega))
  have h1 := Nat.div_add_mod W (10 ^ (L - n))
  have h2 : W % 10 ^ (L - n) ≠ 0 := by
    intro h0
    obtain ⟨k, hk⟩ : ∃ k, L - n = k + 1 := ⟨L - n - 1, by omega⟩
    rw [hk] at h0
    have : W % 10 = 0 := by
      have h3 := Nat.mod_mul_left_mod W (10 ^ k) 10
      rw [show 10 ^ k * 10 = 10 ^ (k + 1) from (Nat.pow_succ ..).symm, h0] at h3
      simpa using h3.symm
    exact hz this
  rw [Nat.mul_comm]; omega
end
section
variable {E : Nat → Nat} {n W L : Nat} (hE : ∀ j, j < n → E j < 10)
include hE

theorem pre_less {i : Nat} (hi : i < n) (hL : i < L) (h : vald E i = W / 10 ^ (L - i)) (hd : E i < dig W L i) : vald E n * 10 ^ L < W * 10 ^ n := by
  have h1 := vald_pre hE (i := i + 1) (by omega)
  have h2 : vald E (i + 1) = 10 * vald E i + E i := rfl
  have e : L - i = (L - (i + 1)) + 1 := by omega
  have h3 : W / 10 ^ (L - i) = W / 10 ^ (L - (i + 1)) / 10 := by rw [e, Nat.pow_succ, Nat.div_div_eq_div_mul]
  have h4 : vald E (i + 1) + 1 ≤ W / 10 ^ (L - (i + 1)) := by
    unfold dig at hd
    rw [show L - 1 - i = L - (i + 1) from by omega] at hd
    rw [h2, h, h3]; omega
  have hV : vald E n < (vald E (i + 1) + 1) * 10 ^ (n - (i + 1)) := by
    rw [h1]
    have := Nat.div_add_mod (vald E n) (10 ^ (n - (i + 1)))
    have h5 := Nat.mod_lt (vald E n) (Nat.pow_pos (n := n - (i + 1)) (show 0 < 10 by omega))
    rw [Nat.add_mul, Nat.one_mul, Nat.mul_comm]; omega
  have hW : W / 10 ^ (L - (i + 1)) * 10 ^ (L - (i + 1)) ≤ W := Nat.div_mul_le_self ..
  have eL : 10 ^ L = 10 ^ (L - (i + 1)) * 10 ^ (i + 1) := by rw [← Nat.pow_add, show L - (i + 1) + (i + 1) = L from by omega]
  have en : 10 ^ n = 10 ^ (n - (i + 1)) * 10 ^ (i + 1) := by rw [← Nat.pow_add, show n - (i + 1) + (i + 1) = n from by omega]
  have hp : 0 < 10 ^ (L - (i + 1)) := Nat.pow_pos (by omega)
  have hq : 0 < 10 ^ (i + 1) := Nat.pow_pos (by omega)
  have g1 : vald E n * 10 ^ (L - (i + 1)) < W * 10 ^ (n - (i + 1)) := by
    refine Nat.lt_of_lt_of_le (Nat.mul_lt_mul_of_pos_right hV hp) ?_
    refine Nat.le_trans (Nat.mul_le_mul_right _ (Nat.mul_le_mul_right _ h4)) ?_
    have : W / 10 ^ (L - (i + 1)) * 10 ^ (n - (i + 1)) * 10 ^ (L - (i + 1)) = (W / 10 ^ (L - (i + 1)) * 10 ^ (L - (i + 1))) * 10 ^ (n - (i + 1)) := by ac_rfl
    rw [this]
    exact Nat.mul_le_mul_right _ hW
  rw [eL, en, ← Nat.mul_assoc, ← Nat.mul_assoc]
  exact Nat.mul_lt_mul_of_pos_right g1 hq

theorem pre_more {i : Nat} (hi : i < n) (hL : i < L) (h : vald E i = W / 10 ^ (L - i)) (hd : dig W L i < E i) : ¬ vald E n * 10 ^ L < W * 10 ^ n := by
  have h1 := vald_pre hE (i := i + 1) (by omega)
  have h2 : vald E (i + 1) = 10 * vald E i + E i := rfl
  have e : L - i = (L - (i + 1)) + 1 := by omega
  have h3 : W / 10 ^ (L - i) = W / 10 ^ (L - (i + 1)) / 10 := by rw [e, Nat.pow_succ, Nat.div_div_eq_div_mul]
  have h4 : W / 10 ^ (L - (i + 1)) + 1 ≤ vald E (i + 1) := by
    unfold dig at hd
    rw [show L - 1 - i = L - (i + 1) from by omega] at hd
    rw [h2, h, h3]; omega
  have hV : vald E (i + 1) * 10 ^ (n - (i + 1)) ≤ vald E n := by rw [h1]; exact Nat.div_mul_le_self ..
  have hW : W < (W / 10 ^ (L - (i + 1)) + 1) * 10 ^ (L - (i + 1)) := by
    have := Nat.div_add_mod W (10 ^ (L - (i + 1)))
    have h5 := Nat.mod_lt W (Nat.pow_pos (n := L - (i + 1)) (show 0 < 10 by omega))
    rw [Nat.add_mul, Nat.one_mul, Nat.mul_comm]; omega
  have eL : 10 ^ L = 10 ^ (L - (i + 1)) * 10 ^ (i + 1) := by rw [← Nat.pow_add, show L - (i + 1) + (i + 1) = L from by omega]
  have en : 10 ^ n = 10 ^ (n - (i + 1)) * 10 ^ (i + 1) := by rw [← Nat.pow_add, show n - (i + 1) + (i + 1) = n from by omega]
  rw [eL, en, ← Nat.mul_assoc, ← Nat.mul_assoc, Nat.not_lt]
  refine Nat.mul_le_mul_right _ ?_
  refine Nat.le_trans (Nat.mul_le_mul_right _ (Nat.le_of_lt hW)) ?_
  refine Nat.le_trans (Nat.mul_le_mul_right _ (Nat.mul_le_mul_right _ h4)) ?_
  have : vald E (i + 1) * 10 ^ (L - (i + 1)) * 10 ^ (n - (i + 1)) = (vald E (i + 1) * 10 ^ (n - (i + 1))) * 10 ^ (L - (i + 1)) := by ac_rfl
  rw [this]
  exact Nat.mul_le_mul_right _ hV

end
section
variable {E : Nat → Nat} {n W L : Nat}
theorem pre_next {i : Nat} (hL : i < L) (h : vald E i = W / 10 ^ (L - i)) (hd : E i = dig W L i) : vald E (i + 1) = W / 10 ^ (L - (i + 1)) := by
  have h2 : vald E (i + 1) = 10 * vald E i + E i := rfl
  have e : L - i = (L - (i + 1)) + 1 := by omega
  have h3 : W / 10 ^ (L - i) = W / 10 ^ (L - (i + 1)) / 10 := by rw [e, Nat.pow_succ, Nat.div_div_eq_div_mul]
  unfold dig at hd
  rw [show L - 1 - i = L - (i + 1) from by omega] at hd
  rw [h2, h, h3]; omega
end
end Go.Proofs.YtpnfkipfjanmkaaGreatDoor.Flt
