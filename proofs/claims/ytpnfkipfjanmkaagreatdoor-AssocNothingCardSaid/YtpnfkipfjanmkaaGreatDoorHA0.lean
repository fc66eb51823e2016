/- ! Rounding to the nearest double, as a property of a rung. Units: 2^-1074. ! 'uscale': 64 bits times a power of ten, as an unrounded number. ! Decimal texts: digits' values. -/
import Ieee.Arith
set_option linter.unusedVariables false
set_option linter.unusedSimpArgs false
namespace Go.Proofs.YtpnfkipfjanmkaaGreatDoor.Flt

def B52 : Nat := 4503599627370496
def infR : Nat := 9218868437227405312

/-- the magnitude of a rung, in units of 2^-1074 -/
def val (r : Nat) : Nat := if r < B52 then r else (B52 + r % B52) * 2 ^ (r / B52 - 1)

/-- 1, in units of 2^-1074 -/
def E1074 : Nat := 1074
def one : Nat := 2 ^ E1074
theorem one_pos : 0 < one := Nat.two_pow_pos _
theorem pow_one (n : Nat) : 2 ^ (n + 1074) = 2 ^ n * one := Nat.pow_add 2 n E1074
theorem one_pow (n : Nat) : 2 ^ (1074 + n) = one * 2 ^ n := Nat.pow_add 2 E1074 n

theorem B52_pos : 0 < B52 := by decide
theorem infR_pos : ¬ infR ≤ 0 := by decide +kernel
theorem infR_even : infR % 2 = 0 := by decide +kernel
theorem infR_eq : infR = 2047 * B52 := by decide

/-- the rung of 'kept' units of 2^k -/
theorem val_kept (k n : Nat) (h1 : k = 0 ∨ B52 ≤ n) (h2 : n ≤ 2 * B52) : val (k * B52 + n) = n * 2 ^ k := by
  unfold val
  by_cases hn : n < B52
  · have hk : k = 0 := by omega
    subst hk
    simp [hn]
  · have hB := B52_pos
    have hge : ¬ (k * B52 + n < B52) := by
      have : 0 ≤ k * B52 := Nat.zero_le _
      omega
    rw [if_neg hge]
    by_cases hn2 : n = 2 * B52
    · subst hn2
      have e1 : (k * B52 + 2 * B52) = (k + 2) * B52 := by rw [Nat.add_mul]
      rw [e1, Nat.mul_mod_left, Nat.mul_div_cancel _ hB]
      have e2 : k + 2 - 1 = k + 1 := by omega
      rw [e2, Nat.pow_succ, Nat.add_zero, Nat.mul_comm (2 ^ k) 2, ← Nat.mul_assoc, Nat.mul_comm B52 2]
    · obtain ⟨m, rfl⟩ : ∃ m, n = B52 + m := ⟨n - B52, by omega⟩
      have hm : m < B52 := by omega
      have e1 : k * B52 + (B52 + m) = m + (k + 1) * B52 := by rw [Nat.add_mul]; omega
      rw [e1, Nat.add_mul_mod_self_right, Nat.mod_eq_of_lt hm, Nat.add_mul_div_right _ _ hB, Nat.div_eq_of_lt hm]
      have e2 : 0 + (k + 1) - 1 = k := by omega
      rw [e2]

/-- every rung is of that form -/
theorem rung_form (r : Nat) : ∃ k n, r = k * B52 + n ∧ (k = 0 ∨ B52 ≤ n) ∧ n < 2 * B52 := by
  by_cases h : r < B52
  · exact ⟨0, r, by omega, .inl rfl, by omega⟩
  · have hB := B52_pos
    have h1 : 1 ≤ r / B52 := (Nat.le_div_iff_mul_le hB).2 (by omega)
    obtain ⟨k, hk⟩ : ∃ k, r / B52 = k + 1 := ⟨r / B52 - 1, by omega⟩
    have hm := Nat.mod_lt r hB
    have he := Nat.div_add_mod r B52
    rw [hk, Nat.mul_add, Nat.mul_one, Nat.mul_comm] at he
    exact ⟨k, B52 + r % B52, by omega, .inr (by omega), by omega⟩

theorem val_succ_lt (r : Nat) : val r < val (r + 1) := by
  obtain ⟨k, n, rfl, h1, h2⟩ := rung_form r
  rw [val_kept k n h1 (by omega), Nat.add_assoc, val_kept k (n + 1) (by omega) (by omega)]
  exact Nat.mul_lt_mul_of_pos_right (by omega) (Nat.two_pow_pos k)

theorem val_lt {a b : Nat} (h : a < b) : val a < val b := by
  induction b with
  | zero => omega
  | succ b ih =>
    rcases Nat.lt_or_ge a b with h1 | h1
    · exact Nat.lt_trans (ih h1) (val_succ_lt b)
    · have : a = b := by omega
      subst this; exact val_succ_lt a

theorem val_le {a b : Nat} (h : a ≤ b) : val a ≤ val b := by
  rcases Nat.lt_or_ge a b with h1 | h1
  · exact Nat.le_of_lt (val_lt h1)
  · have : a = b := by omega
    subst this; exact Nat.le_refl _

/-- U / B (in units of 2^-1074) is not below what rounds to r -/
def Lo (U B r : Nat) : Prop := r = 0 ∨ ((val (r - 1) + val r) * B ≤ 2 * U ∧ ((val (r - 1) + val r) * B = 2 * U → r % 2 = 0))
def Hi (U B r : Nat) : Prop := 2 * U ≤ (val r + val (r + 1)) * B ∧ (2 * U = (val r + val (r + 1)) * B → r % 2 = 0)

/-- r is the rung of U / B, rounded to nearest, ties to even; too great: infinity -/
def IsRn (U B r : Nat) : Prop := r ≤ infR ∧ Lo U B r ∧ (r = infR ∨ Hi U B r)

theorem IsRn.le_of {U B r r' : Nat} (hB : 0 < B) (h : IsRn U B r) (h' : IsRn U B r') : r' ≤ r := by
  rcases Nat.lt_or_ge r r' with hlt | hge
  · exfalso
    obtain ⟨_, _, hu⟩ := h
    obtain ⟨h1, hl, _⟩ := h'
    rcases hu with hu | ⟨hu1, hu2⟩
    · omega
    rcases hl with hl | ⟨hl1, hl2⟩
    · omega
    have a1 : val r ≤ val (r' - 1) := val_le (by omega)
    have a2 : val (r + 1) ≤ val r' := val_le (by omega)
    have a3 : (val r + val (r + 1)) * B ≤ (val (r' - 1) + val r') * B := Nat.mul_le_mul_right _ (by omega)
    have e1 : 2 * U = (val r + val (r + 1)) * B := by omega
    have e2 : (val (r' - 1) + val r') * B = 2 * U := by omega
    have e3 : (val r + val (r + 1)) = (val (r' - 1) + val r') := Nat.eq_of_mul_eq_mul_right hB (by omega)
    have e4 : r' = r + 1 := by
      rcases Nat.lt_or_ge (r + 1) r' with h5 | h5
      · have := val_lt h5; omega
      · omega
    have := hu2 e1
    have := hl2 e2
    omega
  · exact hge

theorem IsRn.unique {U B r r' : Nat} (hB : 0 < B) (h : IsRn U B r) (h' : IsRn U B r') : r = r' :=
  Nat.le_antisymm (h'.le_of hB h) (h.le_of hB h')

theorem IsRn.scale {U B r : Nat} (c : Nat) (hc : 0 < c) : IsRn (c * U) (c * B) r ↔ IsRn U B r := by
  have e1 : ∀ x y : Nat, x * (c * B) = 2 * (c * y) ↔ x * B = 2 * y := fun x y => by
    rw [Nat.mul_left_comm x, Nat.mul_left_comm 2]; exact Nat.mul_left_cancel_iff hc
  have e2 : ∀ x y : Nat, x * (c * B) ≤ 2 * (c * y) ↔ x * B ≤ 2 * y := fun x y => by
    rw [Nat.mul_left_comm x, Nat.mul_left_comm 2]; exact Nat.mul_le_mul_left_iff hc
  have e3 : ∀ x y : Nat, 2 * (c * y) = x * (c * B) ↔ 2 * y = x * B := fun x y => by
    rw [Nat.mul_left_comm x, Nat.mul_left_comm 2]; exact Nat.mul_left_cancel_iff hc
  have e4 : ∀ x y : Nat, 2 * (c * y) ≤ x * (c * B) ↔ 2 * y ≤ x * B := fun x y => by
    rw [Nat.mul_left_comm x, Nat.mul_left_comm 2]; exact Nat.mul_le_mul_left_iff hc
  unfold IsRn Lo Hi
  simp only [e1, e2, e3, e4]

/-- n is the whole number nearest to U / C, of two the even one -/
def IsEven (U C n : Nat) : Prop := 2 * n * C ≤ 2 * U + C ∧ 2 * U ≤ 2 * n * C + C ∧ ((2 * n * C = 2 * U + C ∨ 2 * U = 2 * n * C + C) → n % 2 = 0)

theorem isRn_kept {U B k n : Nat} (hB : 0 < B) (hlo : k = 0 ∨ B52 * (2 ^ k * B) ≤ U) (hhi : U < 2 * B52 * (2 ^ k * B)) (hn : IsEven U (2 ^ k * B) n) :
    IsRn U B (min (k * B52 + n) infR) := by
  obtain ⟨n1, n2, n3⟩ := hn
  have hC : 0 < 2 ^ k * B := Nat.mul_pos (Nat.two_pow_pos k) hB
  generalize hCe : 2 ^ k * B = C at *
  -- the bounds of n
  have hn2 : n ≤ 2 * B52 := by
    rcases Nat.lt_or_ge (2 * B52) n with h | h
    · have : (2 * (2 * B52) + 2) * C ≤ 2 * n * C := Nat.mul_le_mul_right _ (by omega)
      rw [Nat.add_mul, Nat.mul_assoc] at this
      omega
    · exact h
  have hn1 : k = 0 ∨ B52 ≤ n := by
    rcases hlo with h | h
    · exact .inl h
    · right
      rcases Nat.lt_or_ge n B52 with h' | h'
      · have : (2 * n + 2) * C ≤ 2 * B52 * C := Nat.mul_le_mul_right _ (by omega)
        rw [Nat.add_mul, Nat.mul_assoc 2 B52] at this
        omega
      · exact h'
  have hvr := val_kept k n hn1 hn2
  have hev : n % 2 = 0 → (k * B52 + n) % 2 = 0 := by
    intro h
    have e : k * B52 = 2 * (k * 2251799813685248) := by unfold B52; omega
    rw [e, Nat.mul_add_mod]; exact h
  -- the lower limit
  have hLo : Lo U B (k * B52 + n) := by
    rcases Nat.eq_zero_or_pos (k * B52 + n) with h0 | h0
    · exact .inl h0
    right
    by_cases hb : k = 0 ∨ B52 < n
    · have hn0 : 0 < n := by
        rcases hb with h | h
        · subst h; omega
        · omega
      have hv' : val (k * B52 + n - 1) = (n - 1) * 2 ^ k := by
        rw [show k * B52 + n - 1 = k * B52 + (n - 1) from by omega]
        exact val_kept k (n - 1) (by omega) (by omega)
      have es : (val (k * B52 + n - 1) + val (k * B52 + n)) * B = 2 * n * C - C := by
        rw [hv', hvr, ← Nat.add_mul, Nat.mul_assoc, hCe, show n - 1 + n = 2 * n - 1 from by omega, Nat.sub_mul, Nat.one_mul]
      have hge : C ≤ 2 * n * C := Nat.le_mul_of_pos_left _ (by omega)
      rw [es]
      exact ⟨by omega, fun h => hev (n3 (.inl (by omega)))⟩
    · have hk : k ≠ 0 := by omega
      have hne : n = B52 := by omega
      subst hne
      obtain ⟨k', rfl⟩ : ∃ k', k = k' + 1 := ⟨k - 1, by omega⟩
      have hv' : val ((k' + 1) * B52 + B52 - 1) = (2 * B52 - 1) * 2 ^ k' := by
        rw [show (k' + 1) * B52 + B52 - 1 = k' * B52 + (2 * B52 - 1) from by have := B52_pos; rw [Nat.add_mul]; omega]
        exact val_kept k' _ (by right; have := B52_pos; omega) (by omega)
      have hCe' : C = 2 * (2 ^ k' * B) := by rw [← hCe, Nat.pow_succ]; simp [Nat.mul_comm, Nat.mul_left_comm]
      generalize hD : 2 ^ k' * B = D at hCe'
      have es : (val ((k' + 1) * B52 + B52 - 1) + val ((k' + 1) * B52 + B52)) * B = (2 * B52 - 1) * D + B52 * C := by
        rw [hv', hvr, Nat.add_mul, Nat.mul_assoc, hD, Nat.mul_assoc, hCe]
      rw [es]
      have hlo' : B52 * C ≤ U := by rcases hlo with h | h; · omega
                                    · exact h
      have hlt : (2 * B52 - 1) * D < B52 * C := by
        rw [hCe', ← Nat.mul_assoc, Nat.mul_comm B52 2]
        exact Nat.mul_lt_mul_of_pos_right (by have := B52_pos; omega) (by omega)
      exact ⟨by omega, fun h => by omega⟩
  have hHi : Hi U B (k * B52 + n) := by
    by_cases hb : n = 2 * B52
    · have h1 := val_succ_lt (k * B52 + n)
      have h2 : 2 * (val (k * B52 + n) * B) ≤ (val (k * B52 + n) + val (k * B52 + n + 1)) * B := by
        rw [← Nat.mul_assoc]; exact Nat.mul_le_mul_right _ (by omega)
      have h3 : val (k * B52 + n) * B = 2 * B52 * C := by rw [hvr, Nat.mul_assoc, hCe, hb]
      rw [h3] at h2
      exact ⟨by omega, fun h => by omega⟩
    · have hv' : val (k * B52 + n + 1) = (n + 1) * 2 ^ k := by rw [Nat.add_assoc]; exact val_kept k (n + 1) (by omega) (by omega)
      have es : (val (k * B52 + n) + val (k * B52 + n + 1)) * B = 2 * n * C + C := by
        rw [hv', hvr, ← Nat.add_mul, Nat.mul_assoc, hCe, show n + (n + 1) = 2 * n + 1 from by omega, Nat.add_mul, Nat.one_mul]
      unfold Hi
      rw [es]
      exact ⟨by omega, fun h => hev (n3 (.inr (by omega)))⟩
  rcases Nat.lt_or_ge (k * B52 + n) infR with h | h
  · rw [Nat.min_eq_left (Nat.le_of_lt h)]
    exact ⟨Nat.le_of_lt h, hLo, .inr hHi⟩
  · rw [Nat.min_eq_right h]
    refine ⟨Nat.le_refl _, ?_, .inl rfl⟩
    right
    refine ⟨?_, fun _ => infR_even⟩
    rcases hLo with h0 | ⟨h0, _⟩
    · rw [h0] at h; exact absurd h infR_pos
    · refine Nat.le_trans (Nat.mul_le_mul_right _ (Nat.add_le_add (val_le ?_) (val_le h))) h0
      omega

end Go.Proofs.YtpnfkipfjanmkaaGreatDoor.Flt

/-! 'Ieee''s rounding is that of 'IsRn'. -/
namespace Go.Proofs.YtpnfkipfjanmkaaGreatDoor.Flt
open Ieee

theorem isEven_round {n g : Nat} (hg : 0 < g) :
    IsEven n g (n / g + (decide (g < 2 * (n % g)) || (g == 2 * (n % g) && n / g % 2 == 1)).toNat) := by
  have h1 := Nat.div_add_mod n g
  have h2 := Nat.mod_lt n hg
  generalize hq : n / g = q at *
  generalize hr : n % g = r at *
  have e : 2 * q * g = 2 * (g * q) := by rw [Nat.mul_assoc, Nat.mul_comm q]
  have e' : 2 * (q + 1) * g = 2 * (g * q) + 2 * g := by rw [← e, Nat.mul_add, Nat.add_mul]
  unfold IsEven
  by_cases c1 : g < 2 * r
  · simp only [c1, decide_true, Bool.true_or, Bool.toNat_true]
    rw [e']
    exact ⟨by omega, by omega, fun h => by omega⟩
  · by_cases c2 : g = 2 * r
    · by_cases c3 : q % 2 = 1
      · have : (decide (g < 2 * r) || (g == 2 * r && q % 2 == 1)) = true := by simp [c2, c3]
        rw [this, Bool.toNat_true, e']
        exact ⟨by omega, by omega, fun h => by omega⟩
      · have : (decide (g < 2 * r) || (g == 2 * r && q % 2 == 1)) = false := by simp [c2, c3]
        rw [this, Bool.toNat_false, Nat.add_zero, e]
        exact ⟨by omega, by omega, fun h => by omega⟩
    · have : (decide (g < 2 * r) || (g == 2 * r && q % 2 == 1)) = false := by
        simp only [Bool.or_eq_false_iff, decide_eq_false_iff_not, Bool.and_eq_false_iff, beq_eq_false_iff_ne]
        exact ⟨c1, .inl c2⟩
      rw [this, Bool.toNat_false, Nat.add_zero, e]
      exact ⟨by omega, by omega, fun h => by omega⟩

theorem cut_even (neg : Bool) (n drop : Nat) : IsEven n (2 ^ drop) (Toward.even.cut neg n drop) := by
  unfold Toward.cut
  simp only [Nat.shiftLeft_eq, Nat.one_mul]
  rcases Nat.le_total drop (n.log2 + 2) with h | h
  · rw [Nat.min_eq_left h]
    exact isEven_round (Nat.two_pow_pos _)
  · rw [Nat.min_eq_right h]
    have h1 : n < 2 ^ (n.log2 + 1) := Nat.lt_log2_self
    have h2 : 2 ^ (n.log2 + 2) = 2 * 2 ^ (n.log2 + 1) := by rw [Nat.pow_succ _ (n.log2 + 1), Nat.mul_comm]
    have h3 : 2 ^ (n.log2 + 2) ≤ 2 ^ drop := Nat.pow_le_pow_right (by omega) h
    have h4 : n < 2 ^ (n.log2 + 2) := by omega
    rw [Nat.div_eq_of_lt h4, Nat.mod_eq_of_lt h4]
    have e : (decide (2 ^ (n.log2 + 2) < 2 * n) || (2 ^ (n.log2 + 2) == 2 * n && 0 % 2 == 1)) = false := by
      simp only [Bool.or_eq_false_iff, decide_eq_false_iff_not, Bool.and_eq_false_iff]
      exact ⟨by omega, .inr rfl⟩
    rw [e, Bool.toNat_false]
    unfold IsEven
    refine ⟨by omega, by omega, fun _ => rfl⟩

theorem IsEven.scale {U C n : Nat} (c : Nat) (hc : 0 < c) : IsEven (c * U) (c * C) n ↔ IsEven U C n := by
  unfold IsEven
  have a1 : 2 * n * (c * C) = c * (2 * n * C) := by rw [Nat.mul_left_comm]
  have a2 : 2 * (c * U) + c * C = c * (2 * U + C) := by rw [Nat.mul_add, Nat.mul_left_comm]
  have a3 : 2 * n * (c * C) + c * C = c * (2 * n * C + C) := by rw [Nat.mul_add, a1]
  have a4 : 2 * (c * U) = c * (2 * U) := by rw [Nat.mul_left_comm]
  rw [a3, a1, a2, a4]
  simp only [Nat.mul_le_mul_left_iff hc, Nat.mul_left_cancel_iff hc]

theorem IsEven.of_ratio {U C U' C' n : Nat} (hC : 0 < C) (hC' : 0 < C') (h : U * C' = U' * C) (he : IsEven U C n) : IsEven U' C' n := by
  have h1 := (IsEven.scale C' hC').2 he
  have h2 : C' * U = C * U' := by rw [Nat.mul_comm, h, Nat.mul_comm]
  rw [h2, Nat.mul_comm C' C] at h1
  exact (IsEven.scale C hC).1 h1

theorem IsRn.of_ratio {U B U' B' r : Nat} (hB : 0 < B) (hB' : 0 < B') (h : U * B' = U' * B) (he : IsRn U B r) : IsRn U' B' r := by
  have h1 := (IsRn.scale B' hB').2 he
  have h2 : B' * U = B * U' := by rw [Nat.mul_comm, h, Nat.mul_comm]
  rw [h2, Nat.mul_comm B' B] at h1
  exact (IsRn.scale B hB).1 h1

theorem leastPlace_double : double.leastPlace = -1074 := by decide
theorem binade_double : double.binade = B52 := by decide +kernel
theorem infRung_double : double.infRung = infR := by decide +kernel

/-- the rung of 'mag * 2 ^ place' -/
def rungOf (mag : Nat) (place : Int) : Nat := if mag = 0 then 0 else
  let last := max (place + mag.log2 - 52) (-1074)
  min ((last + 1074).toNat * B52 + Toward.even.cut false (mag <<< (place - last).toNat) (last - place).toNat) infR

theorem nearest_double (neg : Bool) (mag : Nat) (place : Int) : double.nearest neg mag place = double.word neg (rungOf mag place) := by
  unfold Format.nearest rungOf
  split
  · rfl
  · simp only [leastPlace_double, binade_double, infRung_double]
    have : double.fractionBits = 52 := rfl
    rw [this]
    have e : ∀ l : Int, l - -1074 = l + 1074 := fun l => by omega
    rw [e]
    cases neg <;> rfl

/-- 'a' more than 'b' units: U / B = mag * 2 ^ (place + 1074) -/
theorem isRn_rungOf {mag : Nat} {place : Int} {U B a b : Nat} (hB : 0 < B) (hp : (a : Int) - b = place + 1074) (hU : U * 2 ^ b = mag * 2 ^ a * B) :
    IsRn U B (rungOf mag place) := by
  unfold rungOf
  split
  · rename_i h0
    subst h0
    have : U = 0 := by
      rw [Nat.zero_mul, Nat.zero_mul] at hU
      rcases Nat.mul_eq_zero.1 hU with h | h
      · exact h
      · exact absurd h (Nat.ne_of_gt (Nat.two_pow_pos b))
    subst this
    exact ⟨Nat.zero_le _, .inl rfl, .inr ⟨by simp, fun _ => rfl⟩⟩
  · rename_i h0
    have g1 : 2 ^ mag.log2 ≤ mag := Nat.log2_self_le h0
    have g2 : mag < 2 ^ (mag.log2 + 1) := Nat.lt_log2_self
    generalize mag.log2 = L at *
    obtain ⟨last, hl⟩ : ∃ l : Int, max (place + (L : Int) - 52) (-1074) = l := ⟨_, rfl⟩
    simp only [hl]
    have hl1 : place + L - 52 ≤ last := by omega
    have hl2 : -1074 ≤ last := by omega
    have hl3 : last = place + L - 52 ∨ last = -1074 := by omega
    clear hl
    obtain ⟨k, hk⟩ : ∃ k : Nat, last + 1074 = k := ⟨(last + 1074).toNat, by omega⟩
    obtain ⟨u, d, hu, hd, hud⟩ : ∃ u d : Nat, (place - last).toNat = u ∧ (last - place).toNat = d ∧ (u : Int) - d = place - last := ⟨_, _, rfl, rfl, by omega⟩
    rw [hk, hu, hd, Nat.shiftLeft_eq, Int.toNat_natCast]
    have hc := cut_even false (mag * 2 ^ u) d
    generalize Toward.even.cut false (mag * 2 ^ u) d = n at hc
    have key : mag * 2 ^ u * (2 ^ k * B) = U * 2 ^ d := by
      refine Nat.eq_of_mul_eq_mul_right (Nat.two_pow_pos a) ?_
      have e1 : mag * 2 ^ u * (2 ^ k * B) * 2 ^ a = mag * 2 ^ a * B * 2 ^ (u + k) := by
        rw [Nat.pow_add]; simp only [Nat.mul_assoc, Nat.mul_comm, Nat.mul_left_comm]
      rw [e1, ← hU, Nat.mul_assoc, ← Nat.pow_add, Nat.mul_assoc, ← Nat.pow_add]
      congr 2; omega
    have hkB : 0 < 2 ^ k * B := Nat.mul_pos (Nat.two_pow_pos k) hB
    have hd0 := Nat.two_pow_pos d
    refine isRn_kept hB ?_ ?_ (hc.of_ratio hd0 hkB key)
    · rcases hl3 with h | h
      · right
        refine Nat.le_of_mul_le_mul_right (c := 2 ^ d) ?_ hd0
        rw [← key, Nat.mul_right_comm]
        refine Nat.mul_le_mul_right _ ?_
        have e : B52 * 2 ^ d = 2 ^ L * 2 ^ u := by
          rw [show B52 = 2 ^ 52 from by decide +kernel, ← Nat.pow_add, ← Nat.pow_add]; congr 1; omega
        rw [e]; exact Nat.mul_le_mul_right _ g1
      · left; omega
    · refine Nat.lt_of_mul_lt_mul_right (a := 2 ^ d) ?_
      rw [← key, Nat.mul_right_comm (2 * B52)]
      refine Nat.mul_lt_mul_of_pos_right ?_ hkB
      refine Nat.lt_of_lt_of_le (Nat.mul_lt_mul_of_pos_right g2 (Nat.two_pow_pos u)) ?_
      rw [show 2 * B52 = 2 ^ 53 from by decide +kernel, ← Nat.pow_add, ← Nat.pow_add]
      exact Nat.pow_le_pow_right (by omega) (by omega)
end Go.Proofs.YtpnfkipfjanmkaaGreatDoor.Flt

/-! Products, quotients and comparisons of doubles, by their rungs. -/
namespace Go.Proofs.YtpnfkipfjanmkaaGreatDoor.Flt
open Ieee

theorem signWeight_double : double.signWeight = 9223372036854775808 := by decide +kernel
def S63 : Nat := 9223372036854775808

/-- the word of a sign and a rung -/
def wd (neg : Bool) (r : Nat) : Nat := if neg then S63 + r else r
theorem word_double (neg : Bool) (r : Nat) : double.word neg r = wd neg r := by
  unfold Format.word wd; rw [signWeight_double]; rfl

def mag (r : Nat) : Nat := if r < B52 then r else B52 + r % B52
def exq (r : Nat) : Nat := r / B52 - 1

theorem val_mag (r : Nat) : val r = mag r * 2 ^ exq r := by
  unfold val mag exq
  split
  · rename_i h
    rw [Nat.div_eq_of_lt h]; simp
  · rfl

theorem infR_lt_S63 : infR < S63 := by decide +kernel

theorem read_wd (neg : Bool) {r : Nat} (h : r < S63) : double.read (wd neg r) =
    if r < infR then .number neg (mag r) ((exq r : Int) - 1074) else if r = infR then .infinity neg else .nan neg (r - infR) := by
  unfold Format.read
  simp only [signWeight_double, binade_double, infRung_double, leastPlace_double]
  have hs : S63 = 9223372036854775808 := rfl
  have h1 : wd neg r % 9223372036854775808 = r := by
    unfold wd
    split
    · rw [← hs, Nat.add_mod_left, Nat.mod_eq_of_lt h]
    · exact Nat.mod_eq_of_lt h
  have h2 : (wd neg r / 9223372036854775808 % 2 == 1) = neg := by
    unfold wd
    cases neg
    · simp only [Bool.false_eq_true, if_false]
      rw [← hs, Nat.div_eq_of_lt h]; rfl
    · simp only [if_true]
      rw [← hs, Nat.add_div_left _ (by decide), Nat.div_eq_of_lt h]; rfl
  rw [h1, h2]
  by_cases c1 : r < B52
  · have : r < infR := by have : B52 ≤ infR := by decide +kernel
                          omega
    rw [if_pos c1, if_pos this]
    unfold mag exq
    rw [if_pos c1, Nat.div_eq_of_lt c1]; rfl
  · rw [if_neg c1]
    by_cases c2 : r < infR
    · rw [if_pos c2, if_pos c2]
      unfold mag exq
      rw [if_neg c1]
      congr 1
    · rw [if_neg c2, if_neg c2]

theorem pow_pos' (n : Nat) : 0 < 2 ^ n := Nat.two_pow_pos n

theorem nearest_wd (neg : Bool) (m : Nat) (p : Int) : double.nearest neg m p = wd neg (rungOf m p) := by
  rw [nearest_double, word_double]

theorem mul_wd (s t : Bool) {r q : Nat} (hr : r < infR) (hq : q < infR) :
    ∃ z, double.mul (wd s r) (wd t q) = some (wd (s ^^ t) z) ∧ IsRn (val r * val q) one z := by
  have hi := infR_lt_S63
  refine ⟨rungOf (mag r * mag q) ((exq r : Int) - 1074 + ((exq q : Int) - 1074)), ?_, ?_⟩
  · unfold Format.mul
    rw [read_wd s (by omega), read_wd t (by omega), if_pos hr, if_pos hq]
    simp only [Datum.product, Option.map_some, Format.write, nearest_wd]
  · refine isRn_rungOf (a := exq r + exq q) (b := E1074) one_pos (by show ((exq r + exq q : Nat) : Int) - (1074 : Nat) = _; omega) ?_
    rw [val_mag, val_mag, Nat.pow_add, show (2 : Nat) ^ E1074 = one from rfl]
    generalize one = z
    ac_rfl

theorem isEven_sticky {N D g n : Nat} (hD : 0 < D) (h : IsEven (2 * (N / D) + (N % D != 0).toNat) (4 * g) n) : IsEven (2 * N) (4 * g * D) n := by
  have h1 := Nat.div_add_mod N D
  have h2 := Nat.mod_lt N hD
  generalize N / D = q at *
  generalize N % D = r at *
  rw [Nat.mul_comm] at h1
  have e1 : 2 * n * (4 * g * D) = 8 * (n * g * D) := by
    rw [show (8 : Nat) = 2 * 4 from rfl]; ac_rfl
  have e0 : 2 * n * (4 * g) = 8 * (n * g) := by
    rw [show (8 : Nat) = 2 * 4 from rfl]; ac_rfl
  have e2 : 4 * g * D = 4 * (g * D) := Nat.mul_assoc ..
  have e3 : ∀ x, x * D = x * D := fun _ => rfl
  unfold IsEven at *
  rw [e0] at h
  rw [e1, e2]
  obtain ⟨a1, a2, a3⟩ := h
  have hN : 2 * (2 * N) = 4 * (q * D) + 4 * r := by omega
  rw [hN]
  by_cases hr : r = 0
  · subst hr
    have hb : ((0 : Nat) != 0).toNat = 0 := rfl
    rw [hb] at a1 a2 a3
    have b1 := Nat.mul_le_mul_right D a1
    have b2 := Nat.mul_le_mul_right D a2
    have f1 : 8 * (n * g) * D = 8 * (n * g * D) := Nat.mul_assoc ..
    have f2 : (2 * (2 * q + 0) + 4 * g) * D = 4 * (q * D) + 4 * (g * D) := by
      rw [Nat.add_mul, Nat.mul_assoc 4, Nat.add_zero, ← Nat.mul_assoc 2 2 q, Nat.mul_assoc]
    have f3 : (8 * (n * g) + 4 * g) * D = 8 * (n * g * D) + 4 * (g * D) := by
      rw [Nat.add_mul, Nat.mul_assoc, Nat.mul_assoc 4]
    have f4 : 2 * (2 * q + 0) * D = 4 * (q * D) := by
      rw [Nat.add_zero, ← Nat.mul_assoc 2 2 q, Nat.mul_assoc]
    rw [f1, f2] at b1
    rw [f3, f4] at b2
    refine ⟨by omega, by omega, fun hh => a3 ?_⟩
    rcases hh with hh | hh
    · left
      refine Nat.eq_of_mul_eq_mul_right hD ?_
      rw [f1, f2]; omega
    · right
      refine Nat.eq_of_mul_eq_mul_right hD ?_
      rw [f3, f4]; omega
  · have hb : (r != 0).toNat = 1 := by rw [show (r != 0) = true from bne_iff_ne.2 hr]; rfl
    rw [hb] at a1 a2
    have a1' : 8 * (n * g) ≤ 4 * q + 4 * g := by omega
    have a2' : 4 * q + 4 ≤ 8 * (n * g) + 4 * g := by omega
    have b1 := Nat.mul_le_mul_right D a1'
    have b2 := Nat.mul_le_mul_right D a2'
    have f1 : 8 * (n * g) * D = 8 * (n * g * D) := Nat.mul_assoc ..
    have f2 : (4 * q + 4 * g) * D = 4 * (q * D) + 4 * (g * D) := by
      rw [Nat.add_mul, Nat.mul_assoc 4, Nat.mul_assoc]
    have f3 : (8 * (n * g) + 4 * g) * D = 8 * (n * g * D) + 4 * (g * D) := by
      rw [Nat.add_mul, Nat.mul_assoc, Nat.mul_assoc 4]
    have f4 : (4 * q + 4) * D = 4 * (q * D) + 4 * D := by
      rw [Nat.add_mul, Nat.mul_assoc]
    rw [f1, f2] at b1
    rw [f3, f4] at b2
    refine ⟨by omega, by omega, fun hh => ?_⟩
    omega

/-- a number with something left over, of 55 digits at least: its rung is that of the exact one -/
theorem isRn_sticky {N D : Nat} {place : Int} {U B a b : Nat} (hD : 0 < D) (hB : 0 < B) (hbig : 2 ^ 53 ≤ N / D) (hp : (a : Int) - b = place + 1074)
    (hU : U * D * 2 ^ b = 2 * N * 2 ^ a * B) : IsRn U B (rungOf (2 * (N / D) + (N % D != 0).toNat) place) := by
  obtain ⟨M, hM⟩ : ∃ M, 2 * (N / D) + (N % D != 0).toNat = M := ⟨_, rfl⟩
  have hM0 : 2 ^ 54 ≤ M := by omega
  have hMs : M ≤ 2 * (N / D) + 1 := by
    have : (N % D != 0).toNat ≤ 1 := Bool.toNat_le _
    omega
  have hst := @isEven_sticky N D
  rw [hM] at hst ⊢
  unfold rungOf
  rw [if_neg (by omega)]
  have g1 : 2 ^ M.log2 ≤ M := Nat.log2_self_le (by omega)
  have g2 : M < 2 ^ (M.log2 + 1) := Nat.lt_log2_self
  generalize M.log2 = L at *
  have hL : 54 ≤ L := by
    rcases Nat.lt_or_ge L 54 with h | h
    · have := Nat.pow_le_pow_right (n := 2) (by omega) (show L + 1 ≤ 54 by omega)
      omega
    · exact h
  obtain ⟨last, hl⟩ : ∃ l : Int, max (place + (L : Int) - 52) (-1074) = l := ⟨_, rfl⟩
  simp only [hl]
  have hl1 : place + L - 52 ≤ last := by omega
  have hl2 : -1074 ≤ last := by omega
  have hl3 : last = place + L - 52 ∨ last = -1074 := by omega
  clear hl
  obtain ⟨k, hk⟩ : ∃ k : Nat, last + 1074 = k := ⟨(last + 1074).toNat, by omega⟩
  have hu : (place - last).toNat = 0 := by omega
  obtain ⟨d, hd⟩ : ∃ d : Nat, (last - place).toNat = d + 2 := ⟨(last - place).toNat - 2, by omega⟩
  rw [hk, hu, hd, Nat.shiftLeft_eq, Int.toNat_natCast, Nat.pow_zero, Nat.mul_one]
  have hc := cut_even false M (d + 2)
  generalize Toward.even.cut false M (d + 2) = n at hc
  have e4 : 2 ^ (d + 2) = 4 * 2 ^ d := by rw [Nat.pow_add, Nat.mul_comm]
  have hc' := hc
  rw [e4] at hc'
  have hs := hst hD hc'
  rw [← e4] at hs
  have key : 2 * N * (2 ^ k * B) = U * (2 ^ (d + 2) * D) := by
    refine Nat.eq_of_mul_eq_mul_right (Nat.two_pow_pos a) ?_
    have e1 : 2 * N * (2 ^ k * B) * 2 ^ a = 2 * N * 2 ^ a * B * 2 ^ k := by ac_rfl
    have e2 : U * (2 ^ (d + 2) * D) * 2 ^ a = U * D * (2 ^ (d + 2) * 2 ^ a) := by ac_rfl
    rw [e1, ← hU, e2, Nat.mul_assoc, ← Nat.pow_add, ← Nat.pow_add]
    congr 2; omega
  have hkB : 0 < 2 ^ k * B := Nat.mul_pos (Nat.two_pow_pos k) hB
  have hdD : 0 < 2 ^ (d + 2) * D := Nat.mul_pos (Nat.two_pow_pos _) hD
  have m1 : N < D * (N / D + 1) := Nat.lt_mul_div_succ N hD
  have m2 : N / D * D ≤ N := Nat.div_mul_le_self N D
  refine isRn_kept hB ?_ ?_ (hs.of_ratio hdD hkB key)
  · rcases hl3 with h | h
    · right
      refine Nat.le_of_mul_le_mul_right (c := 2 ^ (d + 2) * D) ?_ hdD
      rw [← key, Nat.mul_right_comm, Nat.mul_comm _ (2 ^ k * B), Nat.mul_comm _ (2 ^ k * B), ← Nat.mul_assoc B52]
      refine Nat.mul_le_mul_left _ ?_
      have e : B52 * 2 ^ (d + 2) = 2 ^ L := by
        rw [show B52 = 2 ^ 52 from by decide +kernel, ← Nat.pow_add]; congr 1; omega
      rw [e]
      -- 2^L is even
      obtain ⟨L', rfl⟩ : ∃ L', L = L' + 1 := ⟨L - 1, by omega⟩
      rw [Nat.pow_succ] at g1 ⊢
      have : 2 ^ L' ≤ N / D := by omega
      have := Nat.mul_le_mul_right D this
      rw [Nat.mul_right_comm, Nat.mul_comm _ 2]; omega
    · left; omega
  · refine Nat.lt_of_mul_lt_mul_right (a := 2 ^ (d + 2) * D) ?_
    rw [← key, Nat.mul_comm (2 * N), Nat.mul_right_comm (2 * B52), Nat.mul_comm _ (2 ^ k * B), ← Nat.mul_assoc (2 * B52)]
    refine Nat.mul_lt_mul_of_pos_left ?_ hkB
    have h1 : 2 ^ (L + 1) ≤ 2 * B52 * 2 ^ (d + 2) := by
      rw [show 2 * B52 = 2 ^ 53 from by decide +kernel, ← Nat.pow_add]
      exact Nat.pow_le_pow_right (by omega) (by omega)
    have h2 : 2 * (N / D + 1) ≤ 2 ^ (L + 1) := by
      have : 2 ^ (L + 1) = 2 * 2 ^ L := by rw [Nat.pow_succ, Nat.mul_comm]
      omega
    have h3 := Nat.mul_le_mul_right D (Nat.le_trans h2 h1)
    rw [Nat.mul_assoc, Nat.mul_comm (N / D + 1)] at h3
    omega

theorem div_wd (s t : Bool) {r q : Nat} (hr : r < infR) (hq : q < infR) (hq0 : 0 < q) (hr0 : 0 < r) :
    ∃ z, double.div (wd s r) (wd t q) = some (wd (s ^^ t) z) ∧ IsRn (val r * one) (val q) z := by
  have hi := infR_lt_S63
  have mpos : ∀ {r : Nat}, 0 < r → 0 < mag r := by
    intro r h; unfold mag; have := B52_pos; split <;> omega
  have hm := mpos hr0
  have hn := mpos hq0
  have hv : 0 < val q := by rw [val_mag]; exact Nat.mul_pos hn (pow_pos' _)
  unfold Format.div
  rw [read_wd s (by omega), read_wd t (by omega), if_pos hr, if_pos hq]
  have hf : double.fractionBits = 52 := rfl
  simp only [Datum.quotient, hf, if_neg (Nat.ne_of_gt hn), Option.map_some, Format.write, nearest_wd]
  refine ⟨_, rfl, ?_⟩
  have g1 : 2 ^ (mag r).log2 ≤ mag r := Nat.log2_self_le (by omega)
  have g2 : mag q < 2 ^ ((mag q).log2 + 1) := Nat.lt_log2_self
  generalize (mag r).log2 = l at *
  generalize (mag q).log2 = l' at *
  obtain ⟨more, hmore⟩ : ∃ more, 52 + 2 + l' - l = more := ⟨_, rfl⟩
  rw [hmore, Nat.shiftLeft_eq]
  have hml : 54 + l' ≤ more + l := by omega
  refine isRn_sticky (N := mag r * 2 ^ more) (a := exq r + 1074) (b := exq q + more + 1) hn hv ?_ (by omega) ?_
  · refine (Nat.le_div_iff_mul_le hn).2 ?_
    have h1 : 2 ^ (54 + l') ≤ mag r * 2 ^ more := by
      refine Nat.le_trans (Nat.pow_le_pow_right (by omega) hml) ?_
      rw [Nat.add_comm more, Nat.pow_add]; exact Nat.mul_le_mul_right _ g1
    refine Nat.le_trans (Nat.mul_le_mul_left _ (Nat.le_of_lt g2)) ?_
    rw [← Nat.pow_add, show 53 + (l' + 1) = 54 + l' from by omega]; exact h1
  · rw [val_mag r, val_mag q, Nat.pow_succ 2 (exq q + more), Nat.pow_add 2 (exq q), pow_one]
    generalize one = z
    ac_rfl

end Go.Proofs.YtpnfkipfjanmkaaGreatDoor.Flt

namespace Go.Proofs.YtpnfkipfjanmkaaGreatDoor.Flt

/-- ⌊log2 10^p⌋, as the code reckons it -/
def lg (p : Int) : Int := p * 108853 / 32768
/-- 10^p, brought to [2^127, 2^128), as a fraction -/
def PN (p : Int) : Nat := if 0 ≤ p then 10 ^ p.toNat * 2 ^ 127 else 2 ^ (127 - lg p).toNat
def PD (p : Int) : Nat := if 0 ≤ p then 2 ^ (lg p).toNat else 10 ^ (-p).toNat
/-- the table's whole number -/
def pm (p : Int) : Nat := (PN p + PD p - 1) / PD p

theorem PD_pos (p : Int) : 0 < PD p := by
  unfold PD; split
  · exact Nat.two_pow_pos _
  · exact Nat.pow_pos (by decide)

theorem pm_ge (p : Int) : PN p ≤ pm p * PD p := by
  have h := PD_pos p
  unfold pm
  have h1 := Nat.div_add_mod (PN p + PD p - 1) (PD p)
  have h2 := Nat.mod_lt (PN p + PD p - 1) h
  rw [Nat.mul_comm] at h1
  omega

theorem pm_lt (p : Int) : pm p * PD p < PN p + PD p := by
  have h := PD_pos p
  unfold pm
  have h1 := Nat.div_mul_le_self (PN p + PD p - 1) (PD p)
  omega

/-- floor and 'something is left over', in one number: U / C unrounded -/
def unr (U C : Nat) : Nat := U / C ||| (if U % C = 0 then 0 else 1)

/-- the code's product: x times (hi 2^64 - lo), cut at 128 + s bits -/
def uscale (x hi lo s : Nat) : Nat :=
  let h := x * hi / 2 ^ 64
  let mid := x * hi % 2 ^ 64
  if h / 2 ^ s * 2 ^ s ≠ h then h / 2 ^ s ||| 1
  else
    let mid2 := x * lo / 2 ^ 64
    let h' := if mid < mid2 then h - 1 else h
    h' / 2 ^ s ||| (if 1 < (mid + 2 ^ 64 - mid2) % 2 ^ 64 then 1 else 0)

/-- no multiple of 2^136 lies near x pm -/
def Apart (p : Int) (x : Nat) : Prop := ∀ k : Int, ¬ (-(2 : Int) ^ 64 ≤ (x : Int) * pm p - k * 2 ^ 136 ∧ (x : Int) * pm p - k * 2 ^ 136 ≤ 2 ^ 64)
/-- if one lies near, x P is that very multiple -/
def Exact (p : Int) (x : Nat) : Prop := ∀ k : Nat, -(2 : Int) ^ 64 ≤ (x : Int) * pm p - k * 2 ^ 136 → (x : Int) * pm p - k * 2 ^ 136 ≤ 2 ^ 64 → x * PN p = k * 2 ^ 136 * PD p

theorem unr_inexact {F q D : Nat} (N PD : Nat) (hPD : 0 < PD) (hF : N / PD = F) (h1 : q * D < F) (h2 : F < (q + 1) * D) : unr N (PD * D) = q ||| 1 := by
  unfold unr
  have e1 : N / (PD * D) = q := by
    rw [← Nat.div_div_eq_div_mul, hF]
    exact Nat.div_eq_of_lt_le (Nat.le_of_lt h1) h2
  have e2 : N % (PD * D) ≠ 0 := by
    intro h
    have h3 := Nat.div_add_mod N (PD * D)
    rw [h, e1, Nat.add_zero] at h3
    have : F = q * D := by
      rw [← hF, ← h3, Nat.mul_assoc, Nat.mul_div_cancel_left _ hPD, Nat.mul_comm]
    omega
  rw [e1, if_neg e2]

theorem unr_exact {q D : Nat} (N PD : Nat) (hPD : 0 < PD) (hD : 0 < D) (h : N = q * D * PD) : unr N (PD * D) = q := by
  unfold unr
  have e : N = q * (PD * D) := by rw [h, Nat.mul_assoc, Nat.mul_comm D]
  rw [e, Nat.mul_mod_left, if_pos rfl, Nat.mul_div_cancel _ (Nat.mul_pos hPD hD), Nat.or_zero]

theorem uscale_unr {p : Int} {x hi lo s : Nat} (hx : x < 2 ^ 64) (hx1 : 2 ^ 63 ≤ x) (hlo : lo < 2 ^ 64) (hpm : (hi : Int) * 2 ^ 64 - lo = pm p) (hhi : 2 ^ 63 ≤ hi) (hs : 8 ≤ s)
    (hex : Exact p x) : uscale x hi lo s = unr (x * PN p) (PD p * 2 ^ (128 + s)) := by
  have hPD := PD_pos p
  have g1 := pm_ge p
  have g2 := pm_lt p
  -- the product
  have a1 := Nat.div_add_mod (x * hi) (2 ^ 64)
  have a2 := Nat.mod_lt (x * hi) (Nat.two_pow_pos 64)
  have b1 := Nat.div_add_mod (x * lo) (2 ^ 64)
  have b2 := Nat.mod_lt (x * lo) (Nat.two_pow_pos 64)
  unfold uscale
  generalize hh : x * hi / 2 ^ 64 = h at *
  generalize hmid : x * hi % 2 ^ 64 = mid at *
  generalize hmid2 : x * lo / 2 ^ 64 = mid2 at *
  generalize hlow : x * lo % 2 ^ 64 = low at *
  have hm2 : mid2 ≤ 2 ^ 64 - 2 := by
    have : x * lo ≤ (2 ^ 64 - 1) * (2 ^ 64 - 1) := Nat.mul_le_mul (by omega) (by omega)
    omega
  -- Y = x pm
  obtain ⟨Y, hY⟩ : ∃ Y, x * pm p = Y := ⟨_, rfl⟩
  have hYi : (Y : Int) = (h : Int) * 2 ^ 128 + ((mid : Int) - mid2) * 2 ^ 64 - low := by
    have e1 : (Y : Int) = x * ((hi : Int) * 2 ^ 64 - lo) := by rw [hpm, ← hY]; simp
    have e2 : (x : Int) * ((hi : Int) * 2 ^ 64 - lo) = ((x * hi : Nat) : Int) * 2 ^ 64 - ((x * lo : Nat) : Int) := by
      rw [Int.mul_sub, ← Int.mul_assoc]; simp
    rw [e1, e2, ← a1, ← b1]
    simp only [Int.natCast_add, Int.natCast_mul]
    generalize (h : Int) = hz
    omega
  -- F
  have hF1 : x * PN p ≤ Y * PD p := by
    rw [← hY, Nat.mul_assoc]; exact Nat.mul_le_mul_left _ g1
  have hF2 : Y * PD p < x * PN p + x * PD p := by
    rw [← hY, Nat.mul_assoc, ← Nat.mul_add]; exact Nat.mul_lt_mul_of_pos_left g2 (by omega)
  obtain ⟨F, hF⟩ : ∃ F, x * PN p / PD p = F := ⟨_, rfl⟩
  have hF3 : F ≤ Y := by
    rw [← hF]; exact Nat.le_of_mul_le_mul_right (Nat.le_trans (Nat.div_mul_le_self _ _) hF1) hPD
  have hF4 : Y ≤ F + x := by
    have := Nat.lt_mul_div_succ (x * PN p) hPD
    rw [hF] at this
    have h4 : Y * PD p < (F + 1 + x) * PD p := by
      rw [Nat.add_mul, Nat.mul_comm (F + 1)]; omega
    have := Nat.lt_of_mul_lt_mul_right h4
    omega
  have e128 : ∀ q, q * 2 ^ (128 + s) = q * 2 ^ s * 2 ^ 128 := fun q => by rw [Nat.mul_assoc, ← Nat.pow_add, Nat.add_comm]
  have hS := Nat.two_pow_pos s
  have q1 := Nat.div_mul_le_self h (2 ^ s)
  have q2 : h < (h / 2 ^ s + 1) * 2 ^ s := by
    have := Nat.lt_mul_div_succ h hS; rw [Nat.mul_comm]; exact this
  have hD : 0 < 2 ^ (128 + s) := Nat.two_pow_pos _
  by_cases hc : h / 2 ^ s * 2 ^ s ≠ h
  · rw [if_pos hc]
    refine (unr_inexact _ _ hPD hF ?_ ?_).symm
    · rw [e128]
      have : h / 2 ^ s * 2 ^ s + 1 ≤ h := by omega
      generalize h / 2 ^ s * 2 ^ s = z at *
      omega
    · rw [e128]
      have : h + 1 ≤ (h / 2 ^ s + 1) * 2 ^ s := q2
      generalize (h / 2 ^ s + 1) * 2 ^ s = z at *
      omega
  · rw [if_neg hc]
    dsimp only
    have hc' : h / 2 ^ s * 2 ^ s = h := by omega
    by_cases hm : mid < mid2
    · rw [if_pos hm]
      have hh0 : 0 < h := by
        have := Nat.mul_le_mul hx1 hhi
        omega
      have hd : 1 < (mid + 2 ^ 64 - mid2) % 2 ^ 64 := by
        rw [Nat.mod_eq_of_lt (by omega)]; omega
      rw [if_pos hd]
      -- (h - 1) / 2^s
      have hqp : 1 ≤ h / 2 ^ s := by
        rcases Nat.eq_zero_or_pos (h / 2 ^ s) with h0 | h0
        · rw [h0, Nat.zero_mul] at hc'; omega
        · exact h0
      have hq' : (h - 1) / 2 ^ s = h / 2 ^ s - 1 := by
        refine Nat.div_eq_of_lt_le ?_ ?_
        · rw [Nat.sub_mul, Nat.one_mul, hc']; omega
        · rw [Nat.sub_add_cancel hqp, hc']; omega
      rw [hq']
      have hsub : (h / 2 ^ s - 1) * 2 ^ s = h - 2 ^ s := by rw [Nat.sub_mul, Nat.one_mul, hc']
      refine (unr_inexact _ _ hPD hF ?_ ?_).symm
      · rw [e128, hsub]
        have : h - 2 ^ s ≤ h - 1 := by omega
        generalize h - 2 ^ s = z at *
        omega
      · rw [e128, Nat.sub_add_cancel hqp, hc']
        omega
    · rw [if_neg hm]
      have hme : (mid + 2 ^ 64 - mid2) % 2 ^ 64 = mid - mid2 := by
        rw [show mid + 2 ^ 64 - mid2 = (mid - mid2) + 2 ^ 64 from by omega, Nat.add_mod_right]
        exact Nat.mod_eq_of_lt (by omega)
      rw [hme]
      by_cases hd : 1 < mid - mid2
      · rw [if_pos hd]
        refine (unr_inexact _ _ hPD hF ?_ ?_).symm
        · rw [e128, hc']; omega
        · rw [e128]
          have : h + 1 ≤ (h / 2 ^ s + 1) * 2 ^ s := q2
          generalize (h / 2 ^ s + 1) * 2 ^ s = z at *
          omega
      · rw [if_neg hd, Nat.or_zero]
        obtain ⟨t, rfl⟩ : ∃ t, s = 8 + t := ⟨s - 8, by omega⟩
        have hk : h * 2 ^ 128 = h / 2 ^ (8 + t) * 2 ^ t * 2 ^ 136 := by
          rw [Nat.mul_assoc, ← Nat.pow_add]
          calc h * 2 ^ 128 = h / 2 ^ (8 + t) * 2 ^ (8 + t) * 2 ^ 128 := by rw [hc']
            _ = h / 2 ^ (8 + t) * 2 ^ (t + 136) := by rw [Nat.mul_assoc, ← Nat.pow_add]; congr 2; omega
        have hx := hex (h / 2 ^ (8 + t) * 2 ^ t)
        have hYx : (x : Int) * pm p = Y := by rw [← hY]; simp
        have hki : ((h / 2 ^ (8 + t) * 2 ^ t : Nat) : Int) * 2 ^ 136 = (h : Int) * 2 ^ 128 := by
          have := congrArg (fun n : Nat => (n : Int)) hk
          simpa using this.symm
        rw [hYx, hki] at hx
        have := hx (by omega) (by omega)
        refine (unr_exact _ _ hPD hD ?_).symm
        rw [this, ← hk, e128, hc']

end Go.Proofs.YtpnfkipfjanmkaaGreatDoor.Flt

/-! No product of 64 bits and a power of ten comes near a multiple of 2^136, but those that are one. -/
namespace Go.Proofs.YtpnfkipfjanmkaaGreatDoor.Flt

def near (a m x : Int) : Int × Int := let k := (x * a + m / 2) / m; (k, x * a - k * m)

def five : List Int := [-2, -1, 0, 1, 2]

def chk (a x1 x2 : Int) : Bool :=
  let m : Int := 2 ^ 136
  let u := near a m x1
  let v := near a m x2
  let d := x2 * u.1 - x1 * v.1
  (d == 1 || d == -1) &&
  decide (2 ^ 64 * (v.2.natAbs : Int) + 2 ^ 64 * (x2.natAbs : Int) < 3 * m) &&
  decide (2 ^ 64 * (u.2.natAbs : Int) + 2 ^ 64 * (x1.natAbs : Int) < 3 * m) &&
  five.all fun i => five.all fun j =>
    !(decide (2 ^ 63 ≤ i * x1 + j * x2) && decide (i * x1 + j * x2 < 2 ^ 64) && decide (-2 ^ 64 ≤ i * u.2 + j * v.2) && decide (i * u.2 + j * v.2 ≤ 2 ^ 64))

theorem abs_lt3 {a m : Int} (hm : 0 < m) (h : ((m * a).natAbs : Int) < 3 * m) : a ∈ five := by
  have h1 : -2 ≤ a ∧ a ≤ 2 := by
    rw [Int.natAbs_mul, Int.natCast_mul, Int.natAbs_of_nonneg (Int.le_of_lt hm), Int.mul_comm 3] at h
    have := Int.lt_of_mul_lt_mul_left h (Int.le_of_lt hm)
    omega
  obtain ⟨h1, h2⟩ := h1
  unfold five
  have : a = -2 ∨ a = -1 ∨ a = 0 ∨ a = 1 ∨ a = 2 := by omega
  rcases this with rfl | rfl | rfl | rfl | rfl <;> simp

theorem bound {x y X T p q : Int} (hx : (x.natAbs : Int) ≤ X) (hy : (y.natAbs : Int) ≤ T) : ((x * p - y * q).natAbs : Int) ≤ X * p.natAbs + T * q.natAbs := by
  have h1 : (x * p - y * q).natAbs ≤ (x * p).natAbs + (y * q).natAbs := Int.natAbs_sub_le _ _
  rw [Int.natAbs_mul, Int.natAbs_mul] at h1
  have h2 : ((x.natAbs * p.natAbs : Nat) : Int) ≤ X * p.natAbs := by
    rw [Int.natCast_mul]; exact Int.mul_le_mul_of_nonneg_right hx (Int.natCast_nonneg _)
  have h3 : ((y.natAbs * q.natAbs : Nat) : Int) ≤ T * q.natAbs := by
    rw [Int.natCast_mul]; exact Int.mul_le_mul_of_nonneg_right hy (Int.natCast_nonneg _)
  omega

theorem chk_apart {a x1 x2 : Int} (h : chk a x1 x2 = true) (x k : Int) (hx1 : 2 ^ 63 ≤ x) (hx2 : x < 2 ^ 64) :
    ¬ (-(2 : Int) ^ 64 ≤ x * a - k * 2 ^ 136 ∧ x * a - k * 2 ^ 136 ≤ 2 ^ 64) := by
  rintro ⟨hy1, hy2⟩
  unfold chk at h
  simp only [Bool.and_eq_true, decide_eq_true_eq, List.all_eq_true] at h
  obtain ⟨⟨⟨hd, hb1⟩, hb2⟩, hall⟩ := h
  have hu2 : (near a (2 ^ 136) x1).2 = x1 * a - (near a (2 ^ 136) x1).1 * 2 ^ 136 := rfl
  have hv2 : (near a (2 ^ 136) x2).2 = x2 * a - (near a (2 ^ 136) x2).1 * 2 ^ 136 := rfl
  generalize near a (2 ^ 136) x1 = u at *
  generalize near a (2 ^ 136) x2 = v at *
  obtain ⟨k1, y1⟩ := u
  obtain ⟨k2, y2⟩ := v
  simp only at hd hb1 hb2 hall hu2 hv2
  generalize hm : (2 : Int) ^ 136 = m at *
  have hm0 : 0 < m := by omega
  obtain ⟨y, hy⟩ : ∃ y, x * a - k * m = y := ⟨_, rfl⟩
  rw [hy] at hy1 hy2
  have ei : m * (k * x2 - x * k2) = x * y2 - y * x2 := by
    rw [hv2, ← hy]
    simp only [Int.mul_sub, Int.mul_comm, Int.mul_left_comm]
    omega
  have ej : m * (x * k1 - k * x1) = y * x1 - x * y1 := by
    rw [hu2, ← hy]
    simp only [Int.mul_sub, Int.mul_comm, Int.mul_left_comm]
    omega
  have hi : k * x2 - x * k2 ∈ five := by
    refine abs_lt3 hm0 ?_
    rw [ei]
    exact Int.lt_of_le_of_lt (bound (X := 2 ^ 64) (T := 2 ^ 64) (by omega) (by omega)) hb1
  have hj : x * k1 - k * x1 ∈ five := by
    refine abs_lt3 hm0 ?_
    rw [ej, ← Int.natAbs_neg, show -(y * x1 - x * y1) = x * y1 - y * x1 from by omega]
    exact Int.lt_of_le_of_lt (bound (X := 2 ^ 64) (T := 2 ^ 64) (by omega) (by omega)) hb2
  have ex : (k * x2 - x * k2) * x1 + (x * k1 - k * x1) * x2 = x * (x2 * k1 - x1 * k2) := by
    simp only [Int.mul_sub, Int.mul_comm, Int.mul_left_comm]
    omega
  have ey : (k * x2 - x * k2) * y1 + (x * k1 - k * x1) * y2 = y * (x2 * k1 - x1 * k2) := by
    rw [hu2, hv2, ← hy]
    simp only [Int.mul_sub, Int.mul_comm, Int.mul_left_comm]
    omega
  have neg_five : ∀ z, z ∈ five → -z ∈ five := by
    intro z hz
    unfold five at *
    simp only [List.mem_cons, List.not_mem_nil, or_false] at *
    omega
  simp only [Bool.or_eq_true, beq_iff_eq] at hd
  rcases hd with hd | hd
  · have := hall _ hi _ hj
    rw [ex, ey, hd] at this
    simp only [Int.mul_one, Bool.not_eq_true', Bool.and_eq_false_iff, decide_eq_false_iff_not] at this
    omega
  · have := hall _ (neg_five _ hi) _ (neg_five _ hj)
    rw [Int.neg_mul, Int.neg_mul, Int.neg_mul, Int.neg_mul, ← Int.neg_add, ← Int.neg_add, ex, ey, hd] at this
    simp only [Int.mul_neg, Int.mul_one, Int.neg_neg, Bool.not_eq_true', Bool.and_eq_false_iff, decide_eq_false_iff_not] at this
    omega

def chks (up : Bool) (base : Nat) (l : List (Int × Int)) : Bool := l.zipIdx.all fun c => chk (pm (if up then ((28 + base + c.2 : Nat) : Int) else -((31 + base + c.2 : Nat) : Int))) c.1.1 c.1.2

theorem chks_apart {up : Bool} {base : Nat} {l : List (Int × Int)} (h : chks up base l = true) {i : Nat} (hi : i < l.length) {x : Nat} (hx1 : 2 ^ 63 ≤ x) (hx2 : x < 2 ^ 64) :
    Apart (if up then ((28 + base + i : Nat) : Int) else -((31 + base + i : Nat) : Int)) x := by
  unfold chks at h
  rw [List.all_eq_true] at h
  have := h (l[i], i) (List.mem_zipIdx_iff_getElem?.2 (by simp [hi]))
  intro k
  exact chk_apart this x k (by omega) (by omega)

def cu0 : List (Int × Int) := [
  (-110151372361655730329, 382806734950989382323), (-65001596091071168666, -317805138859918213657), (-242684360188807863127, -75120778671110350530), (-60096622936888280424, -302780983125696143551),
  (-157629940700662373961, -107714347598147956477), (-157629940700662373961, -149223454358783314766), (154267346163910750283, -315259881401324747922), (154267346163910750283, 288441525612644546279),
  (-238790487176186418738, -49651038436458127541), (-17967474373362407223, -324376474359369360725), (-241533705114133081357, -277468653860857895803), (137733233319134885925, 277468653860857895803),
  (-110186586655307908740, -277468653860857895803), (176298538648492653984, 321543288522981059299), (263445388573185697173, 116195799899590724252), (-75928237694555284285, 598212128125411082982),
  (60742590155644227428, 664926592388935175969), (157282354540044726165, 242970360622576909712), (-31456470908008945233, 1160620267938361310246), (-62259110684423957791, -313910877948495519655),
  (251128702358796415724, 62259110684423957791), (188451139750152341021, -250710250434576298812), (-62259110684423957791, -326425467874013328750), (-261140374299210663000, -3025982890378707959),
  (-208912299439368530400, 49202091969463424641), (-117927747582031399679, 334259679102989648640), (267407743282391718912, -82628059879762389505), (16525611975952477901, -1020054137201709441945),
  (33051223951904955802, 634261578025890296645), (93801091653273103527, 319807079114166030262), (90402394984357170694, 413608170767439133789), (129282310313232785238, 245445945125330734007),
  (-116163634812097948769, -299782604350850815396), (83189247832589752833, -450427186910095486087), (-23534039115947294951, -379825069562253601234), (-80671821735640179237, -215086795750622536577),
  (-80671821735640179237, 268875622683266244346), (161343643471280358474, -252759528197458820365), (50551905639491764073, 835781997014816991135), (101103811278983528146, 384864704445418560527)]
theorem cu0_ok : chks true 0 cu0 = true := by decide +kernel
def cu1 : List (Int × Int) := [
  (238739038935457357139, -73062832754980601694), (132540964944381404356, -311801871690437958833), (213589316003139056171, -247917725260221557865), (-213589316003139056171, -15255135794961809879),
  (-244103070567797419502, 61024026154581983089), (85436422996202571183, 378357321297771679727), (7322325862592278999, 363712669572587121729), (-135233811621405658093, 299756926693180432182),
  (-212758779030263214127, 135233811621405658093), (278394072521335097776, -3963224639261890795), (1585289855704756318, -1130221833570240332443), (-220971439175792846271, 227312598598611871543),
  (46730751604286179363, 582135133164444230631), (-242200203586634928125, 55277197169490210673), (193760162869307942500, 55277197169490210673), (-155008130295446354000, 177234998273679320327),
  (248013008472714166400, 177234998273679320327), (198410406778171333120, -21175408504492012793), (-158728325422537066496, 100539571215760546041), (11637750841355304091, 1328015357587073052423),
  (270258171853956732121, 46551003365421216364), (-126723670087751179394, 223707168488535515757), (159569035110671545333, 222154571820558754303), (-159569035110671545333, 259705893846491079685),
  (-103882357538596431874, 371079248990641306603), (-136545264321286120445, 267196891452044874729), (-109236211457028896356, 397848518582803629013), (123264188299372284345, -313680657528743301079),
  (-49305675319748913738, -849236853996356713979), (-189569640927170908291, 204875761630820401613), (233606017394064887278, 28730255763244485665), (11492102305297794266, -472958085940778671689),
  (85397935343917498925, -518926495161969848753), (-68318348275133999140, 484767321024402849183), (-54654678620107199312, -566749338954563648151), (25902381998741210731, -514944574957081226689),
  (-190436400783587764237, 242241164781070185699), (190436400783587764237, -269967492138291254254), (101712153240480344861, -380872801567175528474), (-96516990961531174667, -213814631038859030110)]
theorem cu1_ok : chks true 40 cu1 = true := by decide +kernel
def cu2 : List (Int × Int) := [
  (53754064753759368645, 386067963846124698668), (-86006503606014989832, -289310647289357835107), (207988989816020696997, -162643314946674276220), (175460326826685841753, 130114651957339420976),
  (219621527165892294259, 85953451618132968470), (-254002907813145481647, 185240146518639106871), (-138649192428986014033, 45467284249679828357), (-8643988913946659879, 285942373771918687945),
  (114376949508767475178, -383031345452792843365), (-37770680418208906505, 344195756780443181197), (-30216544334567125204, 329087484613159618595), (35600952588064798515, 419737117616860994207),
  (7120190517612959703, -1935275329101510526136), (-14240381035225919406, 804014931814578641207), (-155106833948825360479, -196290619615843365710), (194364957871994033621, -231697420051313374674),
  (-194364957871994033621, -146484944466651893015), (29296988893330378603, -1261949774042648482938), (-117187955573321514412, 246530557029863620867), (194793516447246778285, 286112951729259871406),
  (77917406578898711314, 219102808213687962371), (-96430770199280087891, -311669626315594845256), (-43047771223262951473, -644009708136698060402), (231775220520721453277, -172191084893051805892),
  (207941566269653594323, -47667308502135717908), (-64109703107007150566, 383828280985803613363), (-76599668665912864666, 371338315426897899263), (238122922989321312491, -181507199217657590385),
  (-36301439843531518077, -1061396011487879804195), (-5529436763613147623, 284882081984638996993), (-229011552940433827119, 223482116176820679496), (48014085293532024473, -410009020587335629765),
  (279993131176336479339, 96028170587064048946), (-20823910234383943289, 300817041410720422628), (124491598611164957709, 331826975364726986549), (-90372559027740405, -331826975364726986549),
  (-18074511805548081, -1327416348529741234682), (265530263436642671947, 72298047222192324), (159332617671430041633, 212250695435980875980), (-201782756758626216829, 169800556348784700784)]
theorem cu2_ok : chks true 80 cu2 = true := by decide +kernel
def cu3 : List (Int × Int) := [
  (-12792880163936606418, 397169073435284130449), (-84550966752631468657, -540685246612673854927), (169101933505262937314, -111254523630139503045), (146851028779235036705, 235854647683346639141),
  (-117480823023388029364, 353335470706734668505), (-93627457764082191326, -329482105447428830467), (-178963771715640860015, 113781751935411558252), (-71585508686256344006, -452498828648612151553),
  (-238793574227056752117, -95096921035937247814), (9299437776150998265, -324591057486843001666), (-3719775110460399306, 654761777639376602291), (-119049075174402042679, -267856351232487279806),
  (-154762170562755728994, -5954894504670491867), (63095847126036389971, -429761140872913746063), (-111190567024997305201, 282385642958296509366), (-111190567024997305201, -307806207353349857472),
  (-222381134049994610402, 77020537703655206373), (265121265047799330739, 25599927644879477319), (-191617069922335882736, 313025532528383301423), (-52365135447724869357, -399912331555269445445),
  (-24747804584395849625, 319929865244215556356), (19798243667516679700, -324879426161094726281), (15838594934013343760, 332798723628101398161), (25341751894421350016, 323295566667693391905),
  (-129318226667077356762, -115342617122381378413), (178250395424969103797, -160772115818371219454), (178250395424969103797, -134915484625538077227), (-178250395424969103797, -34667928639544821256),
  (-21782907629175892257, 334717883220762315337), (146956897865810461489, 250347980473269138464), (-105600464822826990699, -376626661817587864558), (204855904125987320595, -72515318388440214067),
  (-163884723300789856476, 318342403339624998781), (132993187293022828015, 380125475355159055703), (-53197274917209131206, 680455038334504414597), (114812097700017230437, 212789099668836524824),
  (-114812097700017230437, -317500139930134993631), (109424867066033890901, 197300811596134423658), (-109424867066033890901, -114070702450493982566), (-111283201219817927567, -326416267044317636037)]
theorem cu3_ok : chks true 120 cu3 = true := by decide +kernel
def cu4 : List (Int × Int) := [
  (-240363040714517752649, 68256588054917985873), (-82493898674823503885, 383994872134306483401), (65995118939858803108, -685495845593789462917), (-216293311846588456313, 263980475759435212432),
  (-216293311846588456313, -167925718238230478683), (177599236959902074209, 254987386733274838417), (177599236959902074209, 132950214602659041050), (-204189279880433882419, 106360171682127232840),
  (-204189279880433882419, -34013005189030309875), (6802601037806061975, 769138912257093095851), (-1360520207561212395, -3094242411726668144539), (1088416166048969916, 6608341359506726434175),
  (-4353664664195879664, -1283573706089631339775), (-261068405882122147619, 17414658656783518656), (-222786451631124533020, 132260521409776362453), (178229161304899626416, 176817811736001269057),
  (-35928102174759596755, -461419929996281328379), (7185620434951919351, 1860050960855029152218), (-14371240869903838702, -1363010973115859925067), (-57484963479615354808, -269727946449191217273),
  (184830753261360872287, -169794386375660689972), (-6014546754280072926, 730301192914023379759), (-135234054425100544685, 294526295867321381074), (267479484982301272137, 108187243540080435748),
  (-75133345704476341577, -562035620064407003979), (75133345704476341577, 254281797219887115083), (9250317119603650245, -300533382817905366308), (3700126847841460098, 1170682453064969054399),
  (-235616541352130394919, -14800507391365840392), (41203105313879742827, 471233082704260789838), (-163771369893376470239, -164812421255518971308), (98679242480882882571, -327542739786752940478),
  (-216261492368228340801, 12602004937641717106), (-162927589944469298956, -228863497305870057907), (-267660170339097473909, 38796673033227416002), (-152836767596813001145, 306456843372324889911),
  (244538828154900801832, -783308178698887621), (195944385795400196514, -195161077616701308893), (78691077589639633654, 273852155206340942547), (7555784487484408317, -682419112129507927451)]
theorem cu4_ok : chks true 160 cu4 = true := by decide +kernel
def cu5 : List (Int × Int) := [
  (279012272441790697634, 154617705195864165451), (-18834285859197779783, -346903982110123890468), (-131227878500370444274, -272178961187346785543), (133172519337691623673, -140951082686976341269),
  (-236599109468131035573, -266345038675383247346), (112487201311603741293, -105990685794198635494), (-224974402623207482586, -244873236678566188525), (-195898589342852950820, 175999755287494244881),
  (-156718871474282360656, 254359191024635425209), (66790905449214049793, 328862449999134228692), (91470436730125261601, -316522684358678622788), (-8422274833660567597, -399570846255143316792),
  (61385164616975414645, -312918857137186199356), (-24554065846790165858, 564452549657396984067), (117801323100837429985, 137386382814514196538), (94241058480669943988, -267113320634823784855),
  (-53422664126964756971, 323541569795715018981), (-107446445260714809373, 323541569795715018981), (150905916970428969467, -22931969868427670909), (39353971341456862257, 301811833940857938934),
  (217837084347812233793, 257191055689269096050), (-114960662072104595373, -411505689102830553680), (-197261799892670706109, 131942751389593736835), (26388550277918747367, -1000155601794032803372),
  (52777100555837494734, 594293789267460013235), (66081657297654507913, -343271716818658994762), (97659692348870893157, 327482699293050802140), (-97659692348870893157, -426312626520010390267),
  (31929105514642993735, 326780558366197585158), (-6385821102928598747, -1256035664641361550656), (-260147282472372348377, 209060713648943558401), (-145871055718737651031, 19491739858325836291),
  (-120595192546655288083, -342293837781640027958), (-177358916187987791900, 196850656046313628191), (-196850656046313628191, 141887132950390233520), (225228082636391674895, -113509706360312186816),
  (180182466109113339916, 248646555942147191753), (-58380168477038565599, 624137370194366800942), (-58380168477038565599, -534337997241716580113), (-58380168477038565599, -509202633661227255929)]
theorem cu5_ok : chks true 200 cu5 = true := by decide +kernel
def cu6 : List (Int × Int) := [
  (-63568649119598344934, 328873647587551779797), (-91202189165349693933, -475342916844404171728), (91202189165349693933, 398514771308593276169), (66220548402840855059, 398514771308593276169),
  (66220548402840855059, -332055926727442791947), (185798809413249800826, -146257117314192991121), (-209523824672683886649, 146257117314192991121), (-146257117314192991121, 284624753589501502216),
  (201604171824316395559, 110694109020246808876), (-249838624675650563548, -34009249533755695091), (-93133599963509086401, -347419298958038649385), (-93133599963509086401, 94598960687605426096),
  (-93719744253147622279, -278814655600888723325), (223051724480710978660, -93719744253147622279), (-178441379584568782928, 182940434045432013743), (179341190476741429091, -172142703339360259787),
  (104725319431092389733, 253957061522390468449), (185363080153830099166, -253957061522390468449), (107134075301927857763, -351456113340976454092), (-91718037728580862371, 488644076078097192658),
  (42697992578470921109, 452268136071265291702), (-259339326668682022700, 20561153489771336543), (176164749490980550163, 207471461334945618160), (-165977169067956494528, 259153334024958797427),
  (161902136898746872274, -259153334024958797427), (-45310615334256363879, 330434240255192941943), (-141235819168928449553, -50614588500415721795), (282471638337856899106, 120989983768762160835),
  (-193583974030019457336, 306669635091609331273), (277535033260659298378, 29134601830950032895), (5826920366190006579, 1150928575605967239565), (-230185715121193447913, 46615362929520052632),
  (119465283900908047695, -340906146341478848131), (47786113560363219078, -705705349463139305801), (122026624468482573529, -260262284014423179095), (-192000792134080511239, 296105705739849782877),
  (160084247738247621806, -192000792134080511239), (-230501255712713248415, -102333552370298516042), (184401004570170598732, -56233301227755866359), (243774525975307065022, 3140220177380599931)]
theorem cu6_ok : chks true 240 cu6 = true := by decide +kernel
def cu7 : List (Int × Int) := [
  (-50639037301489772963, -633185723500322249071), (106381529779468540629, -415319208764896173110), (272509213285427009873, -59746153726489928615)]
theorem cu7_ok : chks true 280 cu7 = true := by decide +kernel
def cd0 : List (Int × Int) := [
  (75831386216699428651, 364061373761663214894), (-182030686880831607447, 231312247931497991399), (-206671467406164799423, 61601951313332979940), (175870491749498309453, -252872930891164534378),
  (12358506575979010566, -718691873259764409907), (30896266439947526415, 337718550121918936463), (-261012979201426083951, -138498103800387905342), (-213071997376118051131, 186439085625695938162),
  (-93219542812847969081, 392850679221023174206), (93219542812847969081, 444453577619854983217), (137123797163723845848, -356645068918103229683), (171404746454654807310, -185240322463448422373),
  (-306876094300042720324, -121635771836594297951), (-99177397705802489016, -284417720169250911389), (24794349426450622254, -1645237745684310157231), (-61985873566126555635, 717242887779739934036),
  (-58662424189404213937, -544579064588249633923), (209472796383817675902, 125633471820614282119), (-94287861377556115867, -335106268204431958021), (-268371330988742546180, 227757735808934939549),
  (-26479237567378029914, -335464163735928182725), (187591510043497613798, 121393416125052539013), (39998462235048470421, -388981850638647093653), (87245847100899655808, 287238158276142007913),
  (109057308876124569760, -178180849400017438153), (-68160818047577856100, -328134649104688721573), (-85201022559472320125, -464456285199844433773), (-75588229458851611838, -274828653879658376949),
  (156311384304542091434, 32659189342586938161), (-78155692152271045717, 412063524401521139857), (72834426242229567899, -317944034519125660686), (-115903221750896199121, -331247199294229355231),
  (-227690827012177587709, -175912640871151703948), (95756346358813809748, -315647147447753439683), (119695432948517262185, 363525320627160344557), (241610376787838803371, 31588491405232524797),
  (-31588491405232524797, 309910093836106635413), (-240329693228388107759, -107572309810204530511), (223735020301115160603, 140761655664750424823), (-182248337982932792713, -285965043778388712438)]
theorem cd0_ok : chks false 0 cd0 = true := by decide +kernel
def cd1 : List (Int × Int) := [
  (-266332135731519494191, 182248337982932792713), (280362796071532679315, -14030660340013185124), (-3507665085003296281, 1398306315272660100294), (-3507665085003296281, -1770682717143346551194),
  (-3507665085003296281, 1098784451773334177864), (-281711443113340137028, -17538325425016481405), (123317396131653587109, 352139303891675171285), (-28602738470002698022, 1303052703938332688073),
  (71506846175006745055, -515663344236653528432), (128915836059163382108, -29213277302456421049), (-161144795073954227635, 323797431004075667509), (-121235556519507473786, -285396033305796125899),
  (-69464207256240016176, 303088891298768684465), (43415129535150010110, 320454943112828688509), (-127666124405051836672, 363870072647978698619), (-31916531101262959168, 1308685865619686146407),
  (19947831938289349480, 1947016487644945329767), (24934789922861686850, -1727590336323762485487), (62336974807154217125, 570811386568256422256), (-80365871834909888439, -311684874035771085625),
  (245031716169175608790, 17646814632760355077), (70081336358674079736, -542497954064264942239), (17520334089668519934, -2379603422617622832449), (43800835224171299835, -763534071267465212477),
  (-70431220950395228573, -359866618021646956321), (72358849267812931937, -569232652555414938676), (107333506203333333303, -361794246339064659685), (97385074271067168359, -341897382474532329797),
  (97385074271067168359, -354332922389865035977), (282323747913082627710, 40920324688450642817), (191282648590586649374, 131961424010946621153), (-18160049857826648233, -496366671334293271668),
  (177057476821446652759, 89285908703526631308), (-199378953997328310586, 87771568117920021451), (-93730522558292088372, 310986339876736599721), (-23432630639573022093, -1234402147163515430116),
  (-23432630639573022093, -1449272161396102199273), (117163153197865110465, -333027252049559272202), (154176007818051004692, 61688091033643157045), (-192720009772563755865, -53943914829895096474)]
theorem cd1_ok : chks false 40 cd1 = true := by decide +kernel
def cd2 : List (Int × Int) := [
  (-82874026178808103814, -549229917968778260255), (-251259265488055707808, -44074200041035448273), (-44074200041035448273, -314074081860069634760), (122592720506052856963, -269999881819034186487),
  (-79722255417149094672, -503147973309823040593), (-99652819271436368340, -443356281746961219589), (-124566024089295460425, -293877052839806667079), (-229176793321570992301, 64700259518235674778),
  (81556795649731126117, 327590125102797569757), (266081792739530958847, 41459869076802095703), (280777404578411078930, 14695611838880120083), (-266081792739530958847, 242006326046389664043),
  (248025192719674987744, -30094333366426618505), (62006298179918746936, -584515754091564321077), (-38753936362449216835, -1134821650438343200134), (-193769681812246084175, -31804826253665890606),
  (-104836047469539514739, 444668171713532847180), (-108001545198961363267, -416178692148736210428), (100087800875406741947, 320047763435106779141), (-215013872357478398869, 95141710673185103622),
  (215013872357478398869, -113217037260110289481), (-189564663583136371522, -62318619711426234787), (-94782331791568185761, -297970046965917865609), (309745459771498267264, -145579260585155605723),
  (164166199186342661541, 223015625528030172539), (-67370743007749453021, -551348023900715495621), (67370743007749453021, -302485800558103776625), (126149507395338033922, 293893821937942904505),
  (63074753697669016961, 703197177996022752782), (166743089371589115299, 18112410254833145793), (194844554023361534779, -212956964278194680572), (248083795092910204922, -266196205347743350715),
  (-71077153900644124127, -487797628617748066470), (-86410830204114954554, 528207429911450529743), (216027075510287386385, -242501007404696526233), (225954799970690813828, -16546207434005712405),
  (-56488699992672703457, -30246362815316844889), (-106416815691006442272, 282443499963363517285), (-133021019613758052840, -309047703886115127853), (83138137258598783025, 325675331337834884458)]
theorem cd2_ok : chks false 80 cd2 = true := by decide +kernel
def cd3 : List (Int × Int) := [
  (122987901463758112627, -322236722489554760637), (122987901463758112627, 310554977014124866326), (-8072396760826080134, 679518681405399204207), (-20180991902065200335, -333705043132080042003),
  (-58200020905438510082, 333705043132080042003), (-90701263396199824261, -217305001321203021839), (-90701263396199824261, -294306567500553733364), (73576641875138433341, 453506316980999121305),
  (-84279530325801802666, -474912093882325859955), (-210698825814504506665, 174246399196811577978), (148911012706455147827, -11117040127336498536), (-150300642722372210144, -293653135365159108703),
  (-187875803402965262680, 143352492642786898559), (-234844754253706578350, 143352492642786898559), (-241327283132689980696, -136869963763803496213), (-60331820783172495174, 201695252553637519673),
  (30165910391586247587, -1152805204803198122303), (-150829551957931237935, 176412147310204115324), (194932588785482266766, -169349993433209389377), (35941849520234127997, -595157020524408050906),
  (94876480850750820731, 327045825927462371820), (150407888594845958134, 258399393814482006641), (-75203944297422979067, 307580735197801610801), (246104058468652105601, -64957831509231394867),
  (-142723304003702269984, -246104058468652105601), (139061580465875403113, -317465710470503240593), (139061580465875403113, 362066742971660199963), (6889749803245751172, 612630904690428001501),
  (-8612187254057188965, 607463592337993688122), (156171991711527016513, -113111055441241071688), (-142033109781371882552, 354760629213519434909), (177541387226714853190, 283744074322833493633),
  (-8715996741380606924, 461285461549548346823), (-2178999185345151731, -1152124154281198291192), (10894995926725758655, -279315041828918965874), (-75276258420592620796, -547735087731112173093),
  (94095323025740775995, -452648657614463560937), (-136685995160051084233, 60418629648550627276), (-121581337747913427414, 318685962556515138923), (186055161168553033718, 117898183201230534817)]
theorem cd3_ok : chks false 120 cd3 = true := by decide +kernel
def cd4 : List (Int × Int) := [
  (173619859860076024739, 291518043061306559556), (-246499370625402664628, -128601187424172129811), (-61624842656350666157, -633682092613005000906), (65983259168725250991, 308124213281753330785),
  (121070477056514039897, 346563863506584187323), (-235898116239418855156, 112746693225035073713), (294872645299273568945, -53772164165180359924), (-13443041041295089981, 1474363226496367844725),
  (196058064223179184324, -128842859016703734419), (-49014516055794796081, -630163122367146026011), (-49014516055794796081, 211783339303343678562), (-245072580278973980405, 181838775824209923524),
  (-199612886322921499524, -27685583457340904881), (-249516107903651874405, 177395248199532029524), (160818483803885859643, -221744060249415036905), (63051712118044906384, 415151467948581214301),
  (-15762928029511226596, -1681684139005125406605), (-19703660036889033245, 1792024635211703992777), (-231391951915296386564, -132873651730851220339), (-57847987978824096641, -203351561028105347920),
  (57847987978824096641, -774821343094548554669), (60697675400053508933, -289239939894120483205), (57135566123516743568, 760572905988401493209), (-71419457654395929460, 603450099148730448397),
  (-89274322067994911825, -489201125917154539031), (144618861996287362714, 157133886347399833697), (-114721658672771757527, 246825496317946649258), (-4345544743100783551, 302013553282782136246),
  (224337392590536210409, 82021705435346709388), (-20505426358836677347, 1162697815670354406739), (20505426358836677347, 754881096037371935564), (188720274009342983891, 102527131794183386735),
  (-145623702901763185313, -253365130670712681758), (68076567059279881548, 20723723143262770463), (-85095708824099851935, 3704581378442800076), (84169563479489151916, 341308980641010107759),
  (-181175685755441197869, 75963731406079757974), (-109578775729240538428, 357984550131003297205), (-27394693932310134607, -1543370505264225274562), (136973469661550673035, -336743456302656366007)]
theorem cd4_ok : chks false 160 cd4 = true := by decide +kernel
def cd5 : List (Int × Int) := [
  (-87030973001274249792, -336743456302656366007), (-108788716251592812240, -314985713052337803559), (-67992947657245507650, 301387123520888702029), (167691798674755727927, -169982369143113769125),
  (-1145285234179020599, 418656854069799809518), (105236856134539462679, -415220998367262747721), (-170294087947264738979, 185596104778167835437), (-259266636128622882583, -73670531350455047146),
  (36835265675227523573, 740254754509626015390), (28070129382055085671, -296456845904357960549), (134193358261151437439, 271465360846864870336), (-134193358261151437439, -197441731986024661836),
  (176609820893474073429, 141137328625334966908), (-211894153049807815156, -35472492268139106521), (264867691312259768945, 35472492268139106521), (-207518891551229603339, -143371999402575414015),
  (-191482168514066056008, -111298553328248319353), (-239352710642582570010, 128054157314334250657), (-123865256317812767831, 237258260144321828597), (-33584377202279118724, 451404395577668245535),
  (8396094300569779681, 2021931337472387396607), (8396094300569779681, 1260558550557528455499), (41980471502848898405, 308842566913954779114), (-98200877479913143981, 379302907365234371861),
  (231539508695491441447, 27925370008582837011), (-282443043367218592556, 27925370008582837011), (113296151675026459267, -353053804209023240695), (-266436021804760413383, 233174977942024849981),
  (124902749936696315841, 83152609656838908505), (10437535069964351834, 634951284753445931039), (154823745537124850822, -26093837674910879585), (-103070890315388198324, 283988473527423928731),
  (128838612894235247905, 309756196106270978312), (206277661920802992483, -180917583212035730407), (-93628801444613772963, -406215304164414169447), (-93628801444613772963, -390733128399750495605),
  (-121090482461091067142, -347053524761977797673), (60545241230545533571, -691134181182290764768), (112238304065027157621, 414964510217754825476), (-103741127554438706369, -61255245001496450109)]
theorem cd5_ok : chks false 200 cd5 = true := by decide +kernel
def cd6 : List (Int × Int) := [
  (-46559828458101571152, -518705637772193531845), (-58199785572626963940, 413946023741464996753), (72749731965783704925, -413946023741464996753), (-6274670489068309016, 395122012274260069705),
  (7843338111335386270, 401396682763328378721), (-190894168742494956523, 210502514020833422198), (21410727933019561356, -633309924717181362275), (-26763409916274451695, -569077740918122678207),
  (-189105402583010960018, 244393755584649661561), (94552701291505480009, 376406720449441186958), (235930732049618516753, -236832774407908883292), (117514344845664075107, 413555312855550179222),
  (-162146000636719582359, 273725140114358350489), (108967785187769483212, -265891077244750495735), (-136209731484711854015, -293133023541692866538), (277597853112490997657, -75872450956956861448),
  (-277597853112490997657, -94840563696196076810), (-115088785632196479626, 352190194872686671651), (102433646922196227866, -287721964080491199065), (-118252570309696542566, -374336687615187112231),
  (39352630920472877908, -334984056694714234323), (-9838157730118219477, 812864747411490037115), (205675726285402064148, -49190788650591097385), (257094657856752580185, -2228142920759418652),
  (-255980586396372870859, 2785178650949273315), (-192681734460016971473, -34434604619127223008), (175464432150453359969, -218507687924362388729), (-186225246093930617159, -132421176376544331209),
  (-66732837667502511521, -265886851711549354251), (-182731929366786387808, 233042682357028444407), (-228414911708482984760, -95993735331938653551), (-142759319817801865475, -352960511003982011406),
  (193340723344085575817, 302379107477698301064), (-117745946474661000551, -377973884347122876330), (35620497849450218807, -419036608659728267202), (35620497849450218807, 505985511899935224599),
  (-270803004874692721703, -46350257813720813834), (-50319404538527875238, -367472667226941410775), (-145996780209574798959, -271795291555894487054), (-145996780209574798959, -266745724340080709338)]
theorem cd6_ok : chks false 240 cd6 = true := by decide +kernel
def cd7 : List (Int × Int) := [
  (69842410594903788407, 380771848073355052760), (-69842410594903788407, 362144117047151644934), (125457234559239805437, -349212052974518942035), (-171211070149359411733, 296668304708599217170),
  (-159772611251829510159, -102580316764180002289), (253956990499656642206, 36992084760177624177), (-167971140252329807423, 130979055492152183246), (219211946505456665323, 36992084760177624177),
  (-155160938689048092948, 145227776985101416969), (38790234672262023237, -266093855782098484330), (193951173361310116185, 124708815953917655938), (128152790669134472077, 328991913460878220540),
  (-36343166061304638193, 338553559703488499289), (-111895764471850603467, -300777260498215516652), (75194315124553879163, -42075698637178015969), (29317503440432973783, 375971575622769395815),
  (-202644539531601184799, 216658795113960263770), (-47157570987310526457, -541646987784900659425), (-123622354199397533242, 235787854936552632285), (-43494169459213466416, -352550054957707299521),
  (54367711824016833020, -396044224416920765937), (-67959639780021041275, 314492656680895516407), (-61633254225218618783, 447248743463536387711), (-219670380760016679798, 131174490393940265681),
  (10669650006965962891, -570515251913973625277), (-83317762747083411412, 279922800953503831193), (20829440686770852853, -1399614004767519155965), (104147203433854264265, 344696141020187075778),
  (-17050216769059818406, -725338618397989142197), (-42625541922649546015, -332831429853139888888), (83207857463284972222, 129919852149962757853), (208019643658212430555, 167692731415328769324),
  (209615914269160961655, -166096460804380238224), (-168091799068065902099, -207620576005475297780), (213808759537455012162, -259525720006844122225)]
theorem cd7_ok : chks false 280 cd7 = true := by decide +kernel

theorem apart_up (n : Nat) (h1 : 28 ≤ n) (h2 : n ≤ 310) {x : Nat} (hx1 : 2 ^ 63 ≤ x) (hx2 : x < 2 ^ 64) : Apart (n : Int) x := by
  obtain ⟨i, rfl⟩ : ∃ i, n = 28 + i := ⟨n - 28, by omega⟩
  by_cases c0 : i < 40
  · obtain ⟨j, rfl⟩ : ∃ j, i = 0 + j := ⟨i - 0, by omega⟩
    have := chks_apart cu0_ok (i := j) (by show j < 40; omega) hx1 hx2
    rw [← Nat.add_assoc]; exact this
  by_cases c40 : i < 80
  · obtain ⟨j, rfl⟩ : ∃ j, i = 40 + j := ⟨i - 40, by omega⟩
    have := chks_apart cu1_ok (i := j) (by show j < 40; omega) hx1 hx2
    rw [← Nat.add_assoc]; exact this
  by_cases c80 : i < 120
  · obtain ⟨j, rfl⟩ : ∃ j, i = 80 + j := ⟨i - 80, by omega⟩
    have := chks_apart cu2_ok (i := j) (by show j < 40; omega) hx1 hx2
    rw [← Nat.add_assoc]; exact this
  by_cases c120 : i < 160
  · obtain ⟨j, rfl⟩ : ∃ j, i = 120 + j := ⟨i - 120, by omega⟩
    have := chks_apart cu3_ok (i := j) (by show j < 40; omega) hx1 hx2
    rw [← Nat.add_assoc]; exact this
  by_cases c160 : i < 200
  · obtain ⟨j, rfl⟩ : ∃ j, i = 160 + j := ⟨i - 160, by omega⟩
    have := chks_apart cu4_ok (i := j) (by show j < 40; omega) hx1 hx2
    rw [← Nat.add_assoc]; exact this
  by_cases c200 : i < 240
  · obtain ⟨j, rfl⟩ : ∃ j, i = 200 + j := ⟨i - 200, by omega⟩
    have := chks_apart cu5_ok (i := j) (by show j < 40; omega) hx1 hx2
    rw [← Nat.add_assoc]; exact this
  by_cases c240 : i < 280
  · obtain ⟨j, rfl⟩ : ∃ j, i = 240 + j := ⟨i - 240, by omega⟩
    have := chks_apart cu6_ok (i := j) (by show j < 40; omega) hx1 hx2
    rw [← Nat.add_assoc]; exact this
  by_cases c280 : i < 283
  · obtain ⟨j, rfl⟩ : ∃ j, i = 280 + j := ⟨i - 280, by omega⟩
    have := chks_apart cu7_ok (i := j) (by show j < 3; omega) hx1 hx2
    rw [← Nat.add_assoc]; exact this
  omega

theorem apart_down (n : Nat) (h1 : 31 ≤ n) (h2 : n ≤ 345) {x : Nat} (hx1 : 2 ^ 63 ≤ x) (hx2 : x < 2 ^ 64) : Apart (-(n : Int)) x := by
  obtain ⟨i, rfl⟩ : ∃ i, n = 31 + i := ⟨n - 31, by omega⟩
  by_cases c0 : i < 40
  · obtain ⟨j, rfl⟩ : ∃ j, i = 0 + j := ⟨i - 0, by omega⟩
    have := chks_apart cd0_ok (i := j) (by show j < 40; omega) hx1 hx2
    rw [← Nat.add_assoc]; exact this
  by_cases c40 : i < 80
  · obtain ⟨j, rfl⟩ : ∃ j, i = 40 + j := ⟨i - 40, by omega⟩
    have := chks_apart cd1_ok (i := j) (by show j < 40; omega) hx1 hx2
    rw [← Nat.add_assoc]; exact this
  by_cases c80 : i < 120
  · obtain ⟨j, rfl⟩ : ∃ j, i = 80 + j := ⟨i - 80, by omega⟩
    have := chks_apart cd2_ok (i := j) (by show j < 40; omega) hx1 hx2
    rw [← Nat.add_assoc]; exact this
  by_cases c120 : i < 160
  · obtain ⟨j, rfl⟩ : ∃ j, i = 120 + j := ⟨i - 120, by omega⟩
    have := chks_apart cd3_ok (i := j) (by show j < 40; omega) hx1 hx2
    rw [← Nat.add_assoc]; exact this
  by_cases c160 : i < 200
  · obtain ⟨j, rfl⟩ : ∃ j, i = 160 + j := ⟨i - 160, by omega⟩
    have := chks_apart cd4_ok (i := j) (by show j < 40; omega) hx1 hx2
    rw [← Nat.add_assoc]; exact this
  by_cases c200 : i < 240
  · obtain ⟨j, rfl⟩ : ∃ j, i = 200 + j := ⟨i - 200, by omega⟩
    have := chks_apart cd5_ok (i := j) (by show j < 40; omega) hx1 hx2
    rw [← Nat.add_assoc]; exact this
  by_cases c240 : i < 280
  · obtain ⟨j, rfl⟩ : ∃ j, i = 240 + j := ⟨i - 240, by omega⟩
    have := chks_apart cd6_ok (i := j) (by show j < 40; omega) hx1 hx2
    rw [← Nat.add_assoc]; exact this
  by_cases c280 : i < 315
  · obtain ⟨j, rfl⟩ : ∃ j, i = 280 + j := ⟨i - 280, by omega⟩
    have := chks_apart cd7_ok (i := j) (by show j < 35; omega) hx1 hx2
    rw [← Nat.add_assoc]; exact this
  omega
end Go.Proofs.YtpnfkipfjanmkaaGreatDoor.Flt

/-! The fast way from 64 bits and a power of ten to the nearest double. -/
namespace Go.Proofs.YtpnfkipfjanmkaaGreatDoor.Flt

theorem or_one (n : Nat) : n ||| 1 = n / 2 * 2 + 1 := by
  apply Nat.eq_of_testBit_eq
  intro i
  cases i with
  | zero => simp [Nat.testBit_zero]
  | succ i =>
    rw [Nat.testBit_succ, Nat.testBit_succ, Nat.or_div_two]
    congr 1
    have : (1 : Nat) / 2 = 0 := rfl
    rw [this, Nat.or_zero]; omega

theorem unr_ratio {U C U' C' : Nat} (hC : 0 < C) (hC' : 0 < C') (h : U * C' = U' * C) : unr U C = unr U' C' := by
  have key : ∀ {U C : Nat} (c : Nat), 0 < C → 0 < c → unr (c * U) (c * C) = unr U C := by
    intro U C c hC hc
    unfold unr
    rw [Nat.mul_div_mul_left _ _ hc, Nat.mul_mod_mul_left]
    by_cases hz : U % C = 0
    · rw [hz, Nat.mul_zero]
    · rw [if_neg hz, if_neg (by rw [Nat.mul_eq_zero]; omega)]
  have h2 : C' * U = C * U' := by rw [Nat.mul_comm, h, Nat.mul_comm]
  rw [← key C' hC hC', ← key C hC' hC, h2, Nat.mul_comm C' C]

def rnd (u : Nat) : Nat := (u + 1 + u / 4 % 2) / 4

theorem unr_cases (N C : Nat) : (N % C = 0 ∧ unr N C = N / C) ∨ (0 < N % C ∧ unr N C = N / C / 2 * 2 + 1) := by
  unfold unr
  by_cases h : N % C = 0
  · left; rw [if_pos h, Nat.or_zero]; exact ⟨h, rfl⟩
  · right; rw [if_neg h, or_one]; exact ⟨by omega, rfl⟩

theorem rnd_unr (U C : Nat) (hC : 0 < C) : IsEven U C (rnd (unr (4 * U) C)) := by
  have h1 := Nat.div_add_mod (4 * U) C
  have h2 := Nat.mod_lt (4 * U) hC
  have hc := unr_cases (4 * U) C
  generalize unr (4 * U) C = u at *
  generalize 4 * U / C = q at *
  generalize 4 * U % C = r at *
  rw [Nat.mul_comm] at h1
  have e0 : ∀ n, 2 * n * C = 2 * (n * C) := fun n => Nat.mul_assoc ..
  unfold IsEven rnd
  rw [e0]
  obtain ⟨m, j, hj, rfl⟩ : ∃ m j, j < 4 ∧ q = 4 * m + j := ⟨q / 4, q % 4, by omega, by omega⟩
  have e1 : (4 * m + j) * C = 4 * (m * C) + j * C := by rw [Nat.add_mul, Nat.mul_assoc]
  rw [e1] at h1
  have e2 : (m + 1) * C = m * C + C := by rw [Nat.add_mul, Nat.one_mul]
  have hjj : j = 0 ∨ j = 1 ∨ j = 2 ∨ j = 3 := by omega
  rcases hc with ⟨hr, rfl⟩ | ⟨hr, rfl⟩
  · rcases hjj with rfl | rfl | rfl | rfl
    · have : (4 * m + 0 + 1 + (4 * m + 0) / 4 % 2) / 4 = m := by omega
      rw [this]; exact ⟨by omega, by omega, fun h => by omega⟩
    · have : (4 * m + 1 + 1 + (4 * m + 1) / 4 % 2) / 4 = m := by omega
      rw [this]; exact ⟨by omega, by omega, fun h => by omega⟩
    · by_cases hm : m % 2 = 0
      · have : (4 * m + 2 + 1 + (4 * m + 2) / 4 % 2) / 4 = m := by omega
        rw [this]; exact ⟨by omega, by omega, fun h => by omega⟩
      · have : (4 * m + 2 + 1 + (4 * m + 2) / 4 % 2) / 4 = m + 1 := by omega
        rw [this, e2]; exact ⟨by omega, by omega, fun h => by omega⟩
    · have : (4 * m + 3 + 1 + (4 * m + 3) / 4 % 2) / 4 = m + 1 := by omega
      rw [this, e2]; exact ⟨by omega, by omega, fun h => by omega⟩
  · rcases hjj with rfl | rfl | rfl | rfl
    · have : ((4 * m + 0) / 2 * 2 + 1 + 1 + ((4 * m + 0) / 2 * 2 + 1) / 4 % 2) / 4 = m := by omega
      rw [this]; exact ⟨by omega, by omega, fun h => by omega⟩
    · have : ((4 * m + 1) / 2 * 2 + 1 + 1 + ((4 * m + 1) / 2 * 2 + 1) / 4 % 2) / 4 = m := by omega
      rw [this]; exact ⟨by omega, by omega, fun h => by omega⟩
    · have : ((4 * m + 2) / 2 * 2 + 1 + 1 + ((4 * m + 2) / 2 * 2 + 1) / 4 % 2) / 4 = m + 1 := by omega
      rw [this, e2]; exact ⟨by omega, by omega, fun h => by omega⟩
    · have : ((4 * m + 3) / 2 * 2 + 1 + 1 + ((4 * m + 3) / 2 * 2 + 1) / 4 % 2) / 4 = m + 1 := by omega
      rw [this, e2]; exact ⟨by omega, by omega, fun h => by omega⟩

theorem unr_half (N C : Nat) (hC : 0 < C) : unr N C / 2 ||| unr N C % 2 = unr N (C * 2) := by
  have h1 := Nat.div_add_mod N C
  have h2 := Nat.mod_lt N hC
  have e1 : N / (C * 2) = N / C / 2 := by rw [Nat.div_div_eq_div_mul]
  have e2 : N % (C * 2) = C * (N / C % 2) + N % C := by rw [Nat.mod_mul]; omega
  have hu : unr N (C * 2) = N / C / 2 ||| (if C * (N / C % 2) + N % C = 0 then 0 else 1) := by unfold unr; rw [e1, e2]
  rw [hu]
  rcases unr_cases N C with ⟨hr, he⟩ | ⟨hr, he⟩
  · rw [he, hr, Nat.add_zero]
    rcases Nat.mod_two_eq_zero_or_one (N / C) with h | h
    · rw [h, Nat.mul_zero, if_pos rfl]
    · rw [h, Nat.mul_one, if_neg (by omega)]
  · rw [he, if_neg (by omega)]
    have a : (N / C / 2 * 2 + 1) / 2 = N / C / 2 := by omega
    have b : (N / C / 2 * 2 + 1) % 2 = 1 := by omega
    rw [a, b]

/-- the table: 10^p, brought to [2^127, 2^128), well below its upper end -/
def fits (p : Int) : Bool := decide (2 ^ 127 * PD p ≤ PN p) && decide (PN p * 2 ^ 54 ≤ PD p * 2 ^ 128 * (2 ^ 54 - 2))
theorem fits_all : ((List.range 696).all fun i => fits ((i : Int) - 348)) = true := by decide +kernel
theorem fits_at {p : Int} (h1 : -348 ≤ p) (h2 : p ≤ 347) : 2 ^ 127 * PD p ≤ PN p ∧ PN p * 2 ^ 54 ≤ PD p * 2 ^ 128 * (2 ^ 54 - 2) := by
  have h := List.all_eq_true.1 fits_all (p + 348).toNat (List.mem_range.2 (by omega))
  rw [show (((p + 348).toNat : Nat) : Int) - 348 = p from by omega] at h
  unfold fits at h
  rw [Bool.and_eq_true, decide_eq_true_eq, decide_eq_true_eq] at h
  exact h

def phi (p : Int) : Nat := (pm p + 2 ^ 64 - 1) / 2 ^ 64
def plo (p : Int) : Nat := phi p * 2 ^ 64 - pm p

theorem pm_range {p : Int} (h1 : -348 ≤ p) (h2 : p ≤ 347) : 2 ^ 127 ≤ pm p ∧ pm p ≤ 2 ^ 128 - 2 ^ 64 := by
  obtain ⟨a, b⟩ := fits_at h1 h2
  have hPD := PD_pos p
  constructor
  · exact Nat.le_of_mul_le_mul_right (Nat.le_trans a (pm_ge p)) hPD
  · have c := pm_lt p
    have d : PN p * 2 ^ 54 ≤ PD p * ((2 ^ 128 - 2 ^ 75) * 2 ^ 54) := by
      have e : 2 ^ 128 * (2 ^ 54 - 2) = (2 ^ 128 - 2 ^ 75) * 2 ^ 54 := by decide +kernel
      rw [← e, ← Nat.mul_assoc]; exact b
    rw [← Nat.mul_assoc] at d
    have f : PN p ≤ PD p * (2 ^ 128 - 2 ^ 75) := Nat.le_of_mul_le_mul_right d (by decide)
    have g : pm p * PD p < (2 ^ 128 - 2 ^ 75 + 1) * PD p := by
      rw [Nat.add_mul, Nat.one_mul, Nat.mul_comm (2 ^ 128 - 2 ^ 75)]; omega
    have := Nat.lt_of_mul_lt_mul_right g
    omega

theorem phi_plo {p : Int} (h1 : -348 ≤ p) (h2 : p ≤ 347) : (phi p : Int) * 2 ^ 64 - plo p = pm p ∧ plo p < 2 ^ 64 ∧ 2 ^ 63 ≤ phi p ∧ phi p < 2 ^ 64 := by
  obtain ⟨a, b⟩ := pm_range h1 h2
  have c : phi p = (pm p + 2 ^ 64 - 1) / 2 ^ 64 := rfl
  have d : plo p = phi p * 2 ^ 64 - pm p := rfl
  generalize phi p = h at *
  generalize plo p = l at *
  generalize pm p = n at *
  omega

/-- the easy powers: a near multiple is met -/
def easyUp (n : Nat) : Bool := PN n == pm n * PD n && pm n % 2 ^ 65 == 0
theorem easyUp_all : ((List.range 28).all easyUp) = true := by decide +kernel
def easyG (n : Nat) : Nat := 2 ^ min (127 - lg (-(n : Int))).toNat (136 + n)
def easyDown (n : Nat) : Bool := decide (2 ^ 65 * PD (-(n : Int)) ≤ easyG n) && PN (-(n : Int)) % easyG n == 0 && (2 ^ 136 * PD (-(n : Int))) % easyG n == 0
theorem easyDown_all : ((List.range 30).all fun n => easyDown (n + 1)) = true := by decide +kernel

theorem exact_of_apart {p : Int} {x : Nat} (h : Apart p x) : Exact p x := fun k a b => absurd ⟨a, b⟩ (h k)

theorem exact_up (n : Nat) (h : n ≤ 27) (x : Nat) : Exact (n : Int) x := by
  have := List.all_eq_true.1 easyUp_all n (List.mem_range.2 (by omega))
  unfold easyUp at this
  rw [Bool.and_eq_true, beq_iff_eq, beq_iff_eq] at this
  obtain ⟨e1, e2⟩ := this
  intro k a b
  rw [e1, ← Nat.mul_assoc]
  congr 1
  obtain ⟨c, hc⟩ : ∃ c, pm (n : Int) = 2 ^ 65 * c := ⟨pm n / 2 ^ 65, by have := Nat.div_add_mod (pm (n : Int)) (2 ^ 65); omega⟩
  rw [hc] at a b ⊢
  have e3 : (x : Int) * ((2 ^ 65 * c : Nat) : Int) = 2 ^ 65 * ((x * c : Nat) : Int) := by
    simp only [Int.natCast_mul, Int.natCast_pow]; exact Int.mul_left_comm ..
  have e4 : x * (2 ^ 65 * c) = 2 ^ 65 * (x * c) := Nat.mul_left_comm ..
  rw [e3] at a b
  rw [e4]
  generalize x * c = y at *
  omega

theorem exact_down (n : Nat) (h : n ≤ 30) (h0 : 1 ≤ n) {x : Nat} (hx : x < 2 ^ 64) : Exact (-(n : Int)) x := by
  have hall := List.all_eq_true.1 easyDown_all (n - 1) (List.mem_range.2 (by omega))
  rw [Nat.sub_add_cancel h0] at hall
  unfold easyDown at hall
  rw [Bool.and_eq_true, Bool.and_eq_true, decide_eq_true_eq, beq_iff_eq, beq_iff_eq] at hall
  obtain ⟨⟨e0, e1⟩, e2⟩ := hall
  have g1 := pm_ge (-(n : Int))
  have g2 := pm_lt (-(n : Int))
  have hPD := PD_pos (-(n : Int))
  generalize -(n : Int) = p at *
  generalize easyG n = G at *
  intro k a b
  obtain ⟨c, hc⟩ : ∃ c, PN p = G * c := ⟨PN p / G, by have := Nat.div_add_mod (PN p) G; omega⟩
  obtain ⟨d, hd⟩ : ∃ d, 2 ^ 136 * PD p = G * d := ⟨2 ^ 136 * PD p / G, by have := Nat.div_add_mod (2 ^ 136 * PD p) G; omega⟩
  have f1 : x * PN p ≤ x * (pm p * PD p) := Nat.mul_le_mul_left _ g1
  have f2 : x * (pm p * PD p) ≤ x * PN p + x * PD p := by rw [← Nat.mul_add]; exact Nat.mul_le_mul_left _ (by omega)
  have f2' : x * PD p ≤ (2 ^ 64 - 1) * PD p := Nat.mul_le_mul_right _ (by omega)
  have a' : (k * 2 ^ 136) * PD p ≤ (x * pm p + 2 ^ 64) * PD p := Nat.mul_le_mul_right _ (by
    have : ((x * pm p : Nat) : Int) = (x : Int) * pm p := by simp
    omega)
  have b' : (x * pm p) * PD p ≤ (k * 2 ^ 136 + 2 ^ 64) * PD p := Nat.mul_le_mul_right _ (by
    have : ((x * pm p : Nat) : Int) = (x : Int) * pm p := by simp
    omega)
  rw [Nat.add_mul, Nat.mul_assoc x] at a'
  rw [Nat.add_mul, Nat.mul_assoc x] at b'
  have e5 : k * 2 ^ 136 * PD p = G * (k * d) := by rw [Nat.mul_assoc, hd, Nat.mul_left_comm]
  have e6 : x * PN p = G * (x * c) := by rw [hc, Nat.mul_left_comm]
  rw [e5] at a' b' ⊢
  rw [e6] at f1 f2 ⊢
  have hG : 0 < G := by omega
  generalize x * (pm p * PD p) = z at *
  generalize x * PD p = y at *
  congr 1
  generalize k * d = u at *
  generalize x * c = v at *
  generalize PD p = D at *
  have hlt : G * v < G * (u + 1) := by rw [Nat.mul_add]; omega
  have hgt : G * u < G * (v + 1) := by rw [Nat.mul_add]; omega
  have := Nat.lt_of_mul_lt_mul_left hlt
  have := Nat.lt_of_mul_lt_mul_left hgt
  omega

theorem exact_parse {p : Int} (h1 : -345 ≤ p) (h2 : p ≤ 310) {x : Nat} (hx1 : 2 ^ 63 ≤ x) (hx2 : x < 2 ^ 64) : Exact p x := by
  rcases Int.lt_or_le p 0 with h | h
  · obtain ⟨n, rfl⟩ : ∃ n : Nat, p = -(n : Int) := ⟨p.natAbs, by omega⟩
    by_cases hn : n ≤ 30
    · exact exact_down n hn (by omega) hx2
    · exact exact_of_apart (apart_down n (by omega) (by omega) hx1 hx2)
  · obtain ⟨n, rfl⟩ : ∃ n : Nat, p = (n : Int) := ⟨p.natAbs, by omega⟩
    by_cases hn : n ≤ 27
    · exact exact_up n hn x
    · exact exact_of_apart (apart_up n (by omega) (by omega) hx1 hx2)

end Go.Proofs.YtpnfkipfjanmkaaGreatDoor.Flt

/-! 'parseFloat64': d 10^p, rounded. -/
namespace Go.Proofs.YtpnfkipfjanmkaaGreatDoor.Flt

/-- the rung of d 10^p, as the code comes to it -/
def parse64 (d : Nat) (p : Int) : Nat :=
  let b : Nat := d.log2 + 1
  let e : Int := min 1074 (53 - b - lg p)
  let s : Int := -(e - (64 - b) + lg p + 3)
  if 64 ≤ s then 0 else
  let u := uscale (d * 2 ^ (64 - b)) (phi p) (plo p) s.toNat
  let t : Nat := if 2 ^ 55 - 2 ≤ u then 1 else 0
  let m := rnd (u / 2 ^ t ||| u % 2)
  if m < B52 then m else if 972 ≤ (t : Int) - e then infR else m - B52 + (1075 + t - e).toNat * B52

/-- d 10^p in units of 2^-1074 -/
def UN (d : Nat) (p : Int) : Nat := (if 0 ≤ p then d * 10 ^ p.toNat else d) * one
def UD (p : Int) : Nat := if 0 ≤ p then 1 else 10 ^ (-p).toNat

theorem UD_pos (p : Int) : 0 < UD p := by
  unfold UD; split
  · exact Nat.one_pos
  · exact Nat.pow_pos (by decide)

theorem lg_nonneg {p : Int} (h : 0 ≤ p) : 0 ≤ lg p := by unfold lg; omega
theorem lg_neg {p : Int} (h : p < 0) : lg p < 0 := by unfold lg; omega

/-- P is 10^p 2^(127 - lg p) -/
theorem PN_UD (p : Int) (a b : Nat) (h : (a : Int) - b = 127 - lg p) (d : Nat) : d * PN p * (UD p * one) * 2 ^ b = UN d p * PD p * 2 ^ a := by
  unfold PN PD UN UD
  generalize one = z
  by_cases hp : 0 ≤ p
  · simp only [hp, if_true]
    have hg := lg_nonneg hp
    obtain ⟨n, rfl⟩ : ∃ n : Nat, p = n := ⟨p.toNat, by omega⟩
    generalize hq : (lg (n : Int)).toNat = q
    have ea : 127 + b = q + a := by omega
    have e1 : d * (10 ^ (n : Int).toNat * 2 ^ 127) * (1 * z) * 2 ^ b = d * 10 ^ (n : Int).toNat * z * 2 ^ (127 + b) := by
      rw [Nat.pow_add, Nat.one_mul]; ac_rfl
    rw [e1, ea, Nat.pow_add]; ac_rfl
  · simp only [hp, if_false]
    have hg := lg_neg (Int.lt_of_not_ge hp)
    generalize hq : (127 - lg p).toNat = q
    have ea : q + b = a := by omega
    rw [← ea, Nat.pow_add]; ac_rfl

theorem mul4 (U : Nat) : 4 * U = U * 2 ^ 2 := Nat.mul_comm ..

theorem even_unique {U C n m : Nat} (hC : 0 < C) (h : IsEven U C n) (h' : IsEven U C m) : n = m := by
  have key : ∀ {n m : Nat}, IsEven U C n → IsEven U C m → n ≤ m := by
    intro n m h h'
    rcases Nat.lt_or_ge m n with hl | hl
    · exfalso
      obtain ⟨a1, a2, a3⟩ := h
      obtain ⟨b1, b2, b3⟩ := h'
      have c1 : 2 * m * C + 2 * C ≤ 2 * n * C := by
        rw [← Nat.add_mul]; exact Nat.mul_le_mul_right _ (by omega)
      have d1 : 2 * U = 2 * m * C + C := by omega
      have d2 : 2 * n * C = 2 * U + C := by omega
      have d3 : 2 * n * C = (2 * m + 2) * C := by rw [Nat.add_mul]; omega
      have := Nat.eq_of_mul_eq_mul_right hC d3
      have := a3 (.inl d2)
      have := b3 (.inr d1)
      omega
    · exact hl
  exact Nat.le_antisymm (key h h') (key h' h)

/-- to so many digits, by code: at k, or at k + 1 if 53 digits do not hold it -/
theorem isRn_two {U B k u : Nat} (hB : 0 < B) (hu : u = unr (4 * U) (2 ^ k * B)) (hlo : k = 0 ∨ B52 * (2 ^ k * B) ≤ U) (hhi : U < (4 * B52 - 1) * (2 ^ k * B)) :
    let t : Nat := if 2 ^ 55 - 2 ≤ u then 1 else 0
    let m := rnd (u / 2 ^ t ||| u % 2)
    IsRn U B (min ((k + t) * B52 + m) infR) ∧ m < 2 * B52 ∧ (k + t = 0 ∨ B52 ≤ m) := by
  have hC : 0 < 2 ^ k * B := Nat.mul_pos (Nat.two_pow_pos k) hB
  have hr := rnd_unr U _ hC
  have hc := unr_cases (4 * U) (2 ^ k * B)
  have hh := unr_half (4 * U) _ hC
  have hr2 := rnd_unr U (2 ^ k * B * 2) (by omega)
  rw [← hu] at hc hh hr
  have e2 : 2 ^ k * B * 2 = 2 ^ (k + 1) * B := by rw [Nat.pow_succ]; ac_rfl
  have f1 := Nat.div_add_mod (4 * U) (2 ^ k * B)
  have f2 := Nat.mod_lt (4 * U) hC
  have hB52 : B52 = 4503599627370496 := rfl
  intro t
  by_cases ht : 2 ^ 55 - 2 ≤ u
  · have htt : t = 1 := if_pos ht
    rw [htt]
    intro m
    have hm : m = rnd (unr (4 * U) (2 ^ k * B * 2)) := by show rnd _ = _; rw [← hh]
    rw [← hm] at hr2
    clear_value m
    have hq : 2 ^ 55 - 2 ≤ 4 * U / (2 ^ k * B) := by omega
    have hU : (2 ^ 55 - 2) * (2 ^ k * B) ≤ 4 * U := by
      have := Nat.mul_le_mul_right (2 ^ k * B) hq
      rw [Nat.mul_comm (4 * U / (2 ^ k * B))] at this
      omega
    have hm1 : B52 ≤ m := by
      rcases Nat.lt_or_ge m B52 with hl | hl
      · exfalso
        have := hr2.2.1
        have c : 2 * m * (2 ^ k * B * 2) ≤ (2 * B52 - 2) * (2 ^ k * B * 2) := Nat.mul_le_mul_right _ (by omega)
        rw [hB52] at c
        generalize 2 ^ k * B = C at *
        omega
      · exact hl
    have hm2 : m < 2 * B52 := by
      rcases Nat.lt_or_ge m (2 * B52) with hl | hl
      · exact hl
      · exfalso
        have := hr2.1
        have c : (4 * B52) * (2 ^ k * B * 2) ≤ 2 * m * (2 ^ k * B * 2) := Nat.mul_le_mul_right _ (by omega)
        rw [hB52] at c hhi
        generalize 2 ^ k * B = C at *
        omega
    refine ⟨?_, hm2, .inr hm1⟩
    by_cases hb : 2 * B52 * (2 ^ k * B) ≤ U
    · refine isRn_kept hB (.inr ?_) ?_ (by rw [← e2]; exact hr2)
      · rw [← e2]; rw [hB52] at hb ⊢
        generalize 2 ^ k * B = C at *
        omega
      · rw [← e2]; rw [hB52] at hhi ⊢
        generalize 2 ^ k * B = C at *
        omega
    · have hn : IsEven U (2 ^ k * B) (2 * B52) := by
        unfold IsEven
        rw [hB52] at hb ⊢
        generalize 2 ^ k * B = C at *
        exact ⟨by omega, by omega, fun _ => rfl⟩
      have hmm : m = B52 := by
        refine even_unique (by omega) hr2 ?_
        unfold IsEven
        rw [hB52] at hb ⊢
        generalize 2 ^ k * B = C at *
        exact ⟨by omega, by omega, fun _ => rfl⟩
      have := isRn_kept hB hlo (by omega) hn
      rw [hmm, Nat.add_mul, Nat.add_assoc, Nat.one_mul, ← Nat.two_mul]
      exact this
  · have htt : t = 0 := if_neg ht
    rw [htt]
    intro m
    have hum : u / 2 ^ 0 ||| u % 2 = u := by
      rw [Nat.pow_zero, Nat.div_one]
      rcases Nat.mod_two_eq_zero_or_one u with h | h
      · rw [h, Nat.or_zero]
      · rw [h, or_one]; omega
    have hm : m = rnd u := by show rnd _ = _; rw [hum]
    rw [← hm] at hr
    clear_value m
    have hq : 4 * U / (2 ^ k * B) ≤ 2 ^ 55 - 3 := by omega
    have hU : 4 * U < (2 ^ 55 - 2) * (2 ^ k * B) := by
      have := Nat.mul_le_mul_right (2 ^ k * B) hq
      rw [Nat.mul_comm (4 * U / (2 ^ k * B))] at this
      have e : (2 ^ 55 - 2) * (2 ^ k * B) = (2 ^ 55 - 3) * (2 ^ k * B) + 2 ^ k * B := by
        rw [← Nat.succ_mul]
      omega
    have hm2 : m < 2 * B52 := by
      rcases Nat.lt_or_ge m (2 * B52) with hl | hl
      · exact hl
      · exfalso
        have := hr.1
        have c : (4 * B52) * (2 ^ k * B) ≤ 2 * m * (2 ^ k * B) := Nat.mul_le_mul_right _ (by omega)
        rw [hB52] at c
        generalize 2 ^ k * B = C at *
        omega
    refine ⟨?_, hm2, ?_⟩
    · rw [Nat.add_zero]
      refine isRn_kept hB hlo ?_ hr
      rw [hB52]
      generalize 2 ^ k * B = C at *
      omega
    · rw [Nat.add_zero]
      rcases hlo with h | h
      · exact .inl h
      · right
        rcases Nat.lt_or_ge m B52 with hl | hl
        · exfalso
          have := hr.2.1
          have c : 2 * m * (2 ^ k * B) ≤ (2 * B52 - 2) * (2 ^ k * B) := Nat.mul_le_mul_right _ (by omega)
          rw [hB52] at c h
          generalize 2 ^ k * B = C at *
          omega
        · exact hl

theorem ac1 (d X P K U z b : Nat) : d * X * P * (K * U) * (z * b) = (d * P * (U * z) * b) * (X * K) := by ac_rfl
theorem ac2 (f U P y z : Nat) : f * U * (P * y) * z = U * P * (f * y * z) := by ac_rfl
theorem ac3 (f z n P y : Nat) : f * z * n * (P * y) = (f * (P * (y * n))) * z := by ac_rfl
theorem ac4 (d X P K z : Nat) : d * X * P * K * z = d * X * (P * z) * K := by ac_rfl
theorem ac5 (y z K P x : Nat) : y * z * K * (P * x) = y * (P * x * z) * K := by ac_rfl
theorem ac6 (f n P y : Nat) : f * n * (P * y) = f * (P * (y * n)) := by ac_rfl
theorem ac7 (z K P y t : Nat) : z * K * (P * (y * t)) = z * t * (y * P) * K := by ac_rfl

/-- the mantissa that 'parse64' packs -/
def mant64 (d : Nat) (p : Int) : Nat :=
  let b : Nat := d.log2 + 1
  let e : Int := min 1074 (53 - b - lg p)
  let s : Int := -(e - (64 - b) + lg p + 3)
  if 64 ≤ s then 0 else
  let u := uscale (d * 2 ^ (64 - b)) (phi p) (plo p) s.toNat
  let t : Nat := if 2 ^ 55 - 2 ≤ u then 1 else 0
  rnd (u / 2 ^ t ||| u % 2)

theorem parse64_both {d : Nat} {p : Int} (hd : 0 < d) (hd2 : d < 2 ^ 64) (h1 : -345 ≤ p) (h2 : p ≤ 310) : mant64 d p < 2 * B52 ∧ IsRn (UN d p) (UD p) (parse64 d p) := by
  obtain ⟨L, hL⟩ : ∃ L, d.log2 = L := ⟨_, rfl⟩
  have g1 : 2 ^ L ≤ d := by rw [← hL]; exact Nat.log2_self_le (by omega)
  have g2 : d < 2 ^ (L + 1) := by rw [← hL]; exact Nat.lt_log2_self
  have hL64 : L < 64 := by
    rcases Nat.lt_or_ge L 64 with h | h
    · exact h
    · have := Nat.pow_le_pow_right (n := 2) (by omega) h
      omega
  obtain ⟨f1, f2⟩ := fits_at (p := p) (by omega) (by omega)
  obtain ⟨q1, q2, q3, _⟩ := phi_plo (p := p) (by omega) (by omega)
  have hUD := UD_pos p
  have hPD := PD_pos p
  have hpu := PN_UD p
  unfold parse64 mant64
  rw [hL]
  obtain ⟨l, hl⟩ : ∃ l : Int, lg p = l := ⟨_, rfl⟩
  have hlb : -1147 ≤ l ∧ l ≤ 1029 := by rw [← hl]; unfold lg; omega
  rw [hl] at hpu ⊢
  obtain ⟨e, he⟩ : ∃ e : Int, min 1074 (53 - ((L + 1 : Nat) : Int) - l) = e := ⟨_, rfl⟩
  simp only [he]
  have he1 : e ≤ 1074 := by omega
  have he2 : e ≤ 52 - L - l := by omega
  have he3 : e = 1074 ∨ e = 52 - L - l := by omega
  clear he
  obtain ⟨k, hk⟩ : ∃ k : Nat, (k : Int) = 1074 - e := ⟨(1074 - e).toNat, by omega⟩
  obtain ⟨s, hs⟩ : ∃ s : Int, -(e - (64 - ((L + 1 : Nat) : Int)) + l + 3) = s := ⟨_, rfl⟩
  rw [hs]
  have hs8 : 8 ≤ s := by omega
  have hx : d * 2 ^ (64 - (L + 1)) < 2 ^ 64 := by
    refine Nat.lt_of_lt_of_le (Nat.mul_lt_mul_of_pos_right g2 (Nat.two_pow_pos _)) ?_
    rw [← Nat.pow_add]; exact Nat.pow_le_pow_right (by omega) (by omega)
  have hx1 : 2 ^ 63 ≤ d * 2 ^ (64 - (L + 1)) := by
    refine Nat.le_trans (Nat.pow_le_pow_right (by omega) ?_) (Nat.le_trans (Nat.le_of_eq (Nat.pow_add 2 L (64 - (L + 1)))) (Nat.mul_le_mul_right _ g1))
    omega
  -- the ratio: x P / 2^(128 + s) = 4 U / (2^k B)
  have hratio : d * 2 ^ (64 - (L + 1)) * PN p * (2 ^ k * UD p) = 4 * UN d p * (PD p * 2 ^ (128 + s.toNat)) := by
    obtain ⟨a, b, hab⟩ : ∃ a b : Nat, (a : Int) - b = 127 - l := ⟨(127 - l).toNat, (l - 127).toNat, by omega⟩
    have h := hpu a b hab d
    refine Nat.eq_of_mul_eq_mul_right (Nat.mul_pos one_pos (Nat.two_pow_pos b)) ?_
    have e1 : d * 2 ^ (64 - (L + 1)) * PN p * (2 ^ k * UD p) * (one * 2 ^ b) = (d * PN p * (UD p * one) * 2 ^ b) * 2 ^ (64 - (L + 1) + k) := by
      rw [Nat.pow_add 2 _ k]; exact ac1 ..
    have e2 : 4 * UN d p * (PD p * 2 ^ (128 + s.toNat)) * (one * 2 ^ b) = (UN d p * PD p) * 2 ^ (2 + (128 + s.toNat) + (1074 + b)) := by
      rw [Nat.pow_add 2 (2 + (128 + s.toNat)), Nat.pow_add 2 2, one_pow, show (2 : Nat) ^ 2 = 4 from rfl]; exact ac2 ..
    have e3 : a + (64 - (L + 1) + k) = 2 + (128 + s.toNat) + (1074 + b) := by omega
    rw [e1, h, e2, Nat.mul_assoc, ← Nat.pow_add, e3]
  have hC : 0 < 2 ^ k * UD p := Nat.mul_pos (Nat.two_pow_pos k) hUD
  have hD : 0 < PD p * 2 ^ (128 + s.toNat) := Nat.mul_pos hPD (Nat.two_pow_pos _)
  -- how great it is
  have hup : 4 * UN d p * 2 ^ 54 * 2 ^ s.toNat ≤ 2 ^ 64 * (2 ^ 54 - 2) * (2 ^ k * UD p) := by
    refine Nat.le_of_mul_le_mul_right (c := PD p * 2 ^ 128) ?_ (Nat.mul_pos hPD (Nat.two_pow_pos _))
    have e1 : 4 * UN d p * 2 ^ 54 * 2 ^ s.toNat * (PD p * 2 ^ 128) = (4 * UN d p * (PD p * 2 ^ (128 + s.toNat))) * 2 ^ 54 := by
      rw [Nat.pow_add]; exact ac3 ..
    rw [e1, ← hratio]
    have e2 : d * 2 ^ (64 - (L + 1)) * PN p * (2 ^ k * UD p) * 2 ^ 54 = (d * 2 ^ (64 - (L + 1))) * (PN p * 2 ^ 54) * (2 ^ k * UD p) := by
      exact ac4 ..
    have e3 : 2 ^ 64 * (2 ^ 54 - 2) * (2 ^ k * UD p) * (PD p * 2 ^ 128) = 2 ^ 64 * (PD p * 2 ^ 128 * (2 ^ 54 - 2)) * (2 ^ k * UD p) := by
      exact ac5 ..
    rw [e2, e3]
    exact Nat.mul_le_mul_right _ (Nat.mul_le_mul (Nat.le_of_lt hx) f2)
  have hdown : 2 ^ 62 * (2 ^ k * UD p) ≤ 4 * UN d p * 2 ^ s.toNat := by
    refine Nat.le_of_mul_le_mul_right (c := PD p * 2 ^ 128) ?_ (Nat.mul_pos hPD (Nat.two_pow_pos _))
    have e1 : 4 * UN d p * 2 ^ s.toNat * (PD p * 2 ^ 128) = 4 * UN d p * (PD p * 2 ^ (128 + s.toNat)) := by
      rw [Nat.pow_add]; exact ac6 ..
    rw [e1, ← hratio]
    have e3 : 2 ^ 62 * (2 ^ k * UD p) * (PD p * 2 ^ 128) = 2 ^ 63 * (2 ^ 127 * PD p) * (2 ^ k * UD p) := by
      rw [show (2 : Nat) ^ 63 = 2 ^ 62 * 2 from rfl, show (2 : Nat) ^ 128 = 2 ^ 127 * 2 from rfl]
      exact ac7 ..
    rw [e3]
    exact Nat.mul_le_mul_right _ (Nat.mul_le_mul hx1 f1)
  generalize hsn : s.toNat = n at *
  by_cases hs64 : 64 ≤ s
  · rw [if_pos hs64, if_pos hs64]
    refine ⟨by decide, Nat.zero_le _, .inl rfl, .inr ?_⟩
    have hk0 : k = 0 := by omega
    subst hk0
    -- 4 U < UD
    have h3 : 4 * UN d p < UD p := by
      have hn : 2 ^ 64 ≤ 2 ^ n := Nat.pow_le_pow_right (by omega) (by omega)
      have h4 : 4 * UN d p * 2 ^ 54 * 2 ^ 64 ≤ 4 * UN d p * 2 ^ 54 * 2 ^ n := Nat.mul_le_mul_left _ hn
      have h5 := Nat.le_trans h4 hup
      omega
    have v0 : val 0 = 0 := rfl
    have v1 : val (0 + 1) = 1 := by decide
    unfold Hi
    rw [v0, v1]
    exact ⟨by omega, fun _ => rfl⟩
  · rw [if_neg hs64, if_neg hs64]
    have hus := uscale_unr hx hx1 q2 q1 q3 (s := n) (by omega) (exact_parse h1 h2 hx1 hx)
    rw [unr_ratio hD hC hratio] at hus
    have hlo : k = 0 ∨ B52 * (2 ^ k * UD p) ≤ UN d p := by
      rcases he3 with h | h
      · left; omega
      · right
        have : n = 8 := by omega
        subst this
        have hB : B52 = 4503599627370496 := rfl
        rw [hB]
        generalize UN d p = U at *
        generalize 2 ^ k * UD p = C at *
        omega
    have hhi : UN d p < (4 * B52 - 1) * (2 ^ k * UD p) := by
      have hn : 2 ^ 8 ≤ 2 ^ n := Nat.pow_le_pow_right (by omega) (by omega)
      have h4 : 4 * UN d p * 2 ^ 54 * 2 ^ 8 ≤ 4 * UN d p * 2 ^ 54 * 2 ^ n := Nat.mul_le_mul_left _ hn
      have h5 := Nat.le_trans h4 hup
      have hB : B52 = 4503599627370496 := rfl
      rw [hB]
      clear h4 hup hdown hratio hus
      generalize UN d p = U at *
      generalize 2 ^ k * UD p = C at *
      omega
    have hmain := isRn_two hUD hus hlo hhi
    obtain ⟨u, hu⟩ : ∃ u, uscale (d * 2 ^ (64 - (L + 1))) (phi p) (plo p) n = u := ⟨_, rfl⟩
    rw [hu] at hmain ⊢
    obtain ⟨t, ht⟩ : ∃ t, (if 2 ^ 55 - 2 ≤ u then 1 else 0) = t := ⟨_, rfl⟩
    simp only [ht] at hmain ⊢
    obtain ⟨m, hm⟩ : ∃ m, rnd (u / 2 ^ t ||| u % 2) = m := ⟨_, rfl⟩
    rw [hm] at hmain ⊢
    obtain ⟨m1, m2, m3⟩ := hmain
    refine ⟨m2, ?_⟩
    by_cases c1 : m < B52
    · rw [if_pos c1]
      have : k + t = 0 := by omega
      rw [this, Nat.zero_mul, Nat.zero_add, Nat.min_eq_left] at m1
      · exact m1
      · have : B52 ≤ infR := by decide +kernel
        omega
    · rw [if_neg c1]
      have hinf : infR = 2047 * B52 := infR_eq
      by_cases c2 : 972 ≤ (t : Int) - e
      · rw [if_pos c2]
        have : 2046 ≤ k + t := by omega
        have h6 := Nat.mul_le_mul_right B52 this
        rw [Nat.min_eq_right (by omega)] at m1
        exact m1
      · rw [if_neg c2]
        have h7 : k + t ≤ 2045 := by omega
        have h6 := Nat.mul_le_mul_right B52 h7
        rw [Nat.min_eq_left (by omega)] at m1
        have e9 : (1075 + (t : Int) - e).toNat = k + t + 1 := by omega
        rw [e9, Nat.add_mul (k + t), Nat.one_mul]
        have : m - B52 + ((k + t) * B52 + B52) = (k + t) * B52 + m := by omega
        rw [this]; exact m1

theorem parse64_isRn {d : Nat} {p : Int} (hd : 0 < d) (hd2 : d < 2 ^ 64) (h1 : -345 ≤ p) (h2 : p ≤ 310) : IsRn (UN d p) (UD p) (parse64 d p) := (parse64_both hd hd2 h1 h2).2

theorem uscale_lt {x hi lo s : Nat} (hx : x < 2 ^ 64) (hhi : hi < 2 ^ 64) (hs : 8 ≤ s) : uscale x hi lo s < 2 ^ 57 := by
  have h1 : x * hi / 2 ^ 64 < 2 ^ 64 := by
    refine (Nat.div_lt_iff_lt_mul (Nat.two_pow_pos _)).2 ?_
    exact Nat.mul_lt_mul'' hx hhi
  have h2 : ∀ h, h < 2 ^ 64 → h / 2 ^ s < 2 ^ 57 := by
    intro h hh
    have : h / 2 ^ s ≤ h / 2 ^ 8 := Nat.div_le_div_left (Nat.pow_le_pow_right (by omega) hs) (by decide)
    omega
  unfold uscale
  dsimp only
  generalize x * hi / 2 ^ 64 = h at *
  split
  · exact Nat.or_lt_two_pow (h2 _ h1) (by decide)
  · refine Nat.or_lt_two_pow (h2 _ ?_) ?_
    · split <;> omega
    · split <;> decide

end Go.Proofs.YtpnfkipfjanmkaaGreatDoor.Flt

/-! The rounding as a function; the exact road by products and quotients. -/
namespace Go.Proofs.YtpnfkipfjanmkaaGreatDoor.Flt

theorem IsRn.mono {U B U' B' r r' : Nat} (hB : 0 < B) (hB' : 0 < B') (hle : U * B' ≤ U' * B) (h : IsRn U B r) (h' : IsRn U' B' r') : r ≤ r' := by
  rcases Nat.lt_or_ge r' r with hlt | hge
  · exfalso
    obtain ⟨h1, hl, _⟩ := h
    obtain ⟨_, _, hu⟩ := h'
    rcases hu with hu | ⟨hu1, hu2⟩
    · omega
    rcases hl with hl | ⟨hl1, hl2⟩
    · omega
    have a1 : val r' ≤ val (r - 1) := val_le (by omega)
    have a2 : val (r' + 1) ≤ val r := val_le (by omega)
    have a3 : (val r' + val (r' + 1)) * B ≤ (val (r - 1) + val r) * B := Nat.mul_le_mul_right _ (by omega)
    have b1 := Nat.mul_le_mul_right B' (Nat.le_trans a3 hl1)
    have b2 := Nat.mul_le_mul_right B hu1
    have b3 : (val r' + val (r' + 1)) * B * B' = (val r' + val (r' + 1)) * B' * B := Nat.mul_right_comm ..
    have b4 : 2 * U * B' ≤ 2 * U' * B := by rw [Nat.mul_assoc, Nat.mul_assoc]; omega
    have c1 : 2 * U' * B = (val r' + val (r' + 1)) * B' * B := by omega
    have c2 : 2 * U' = (val r' + val (r' + 1)) * B' := Nat.eq_of_mul_eq_mul_right hB c1
    have c3 : 2 * U * B' = (val r' + val (r' + 1)) * B * B' := by omega
    have c4 : 2 * U = (val r' + val (r' + 1)) * B := Nat.eq_of_mul_eq_mul_right hB' c3
    have c5 : (val (r - 1) + val r) * B = 2 * U := by omega
    have c6 : val (r - 1) + val r = val r' + val (r' + 1) := Nat.eq_of_mul_eq_mul_right hB (by omega)
    have e4 : r = r' + 1 := by
      rcases Nat.lt_or_ge (r' + 1) r with h5 | h5
      · have := val_lt h5; omega
      · omega
    have := hu2 c2
    have := hl2 c5
    omega
  · exact hge

theorem isRn_of_val {U B r : Nat} (hB : 0 < B) (hr : r ≤ infR) (h : val r * B = U) : IsRn U B r := by
  refine ⟨hr, ?_, .inr ?_⟩
  · rcases Nat.eq_zero_or_pos r with h0 | h0
    · exact .inl h0
    · right
      have h1 := val_lt (show r - 1 < r by omega)
      have h2 : (val (r - 1) + val r) * B < 2 * val r * B := Nat.mul_lt_mul_of_pos_right (by omega) hB
      rw [Nat.mul_assoc, h] at h2
      exact ⟨by omega, fun e => by omega⟩
  · have h1 := val_succ_lt r
    have h2 : 2 * val r * B < (val r + val (r + 1)) * B := Nat.mul_lt_mul_of_pos_right (by omega) hB
    rw [Nat.mul_assoc, h] at h2
    exact ⟨by omega, fun e => by omega⟩

/-- the rung of U / B units: it is there -/
def rn (U B : Nat) : Nat := if U = 0 then 0 else
  let m := 54 + B.log2
  rungOf (2 * (U * 2 ^ m / B) + (U * 2 ^ m % B != 0).toNat) (-1074 - (m : Int) - 1)

theorem isRn_rn {B : Nat} (U : Nat) (hB : 0 < B) : IsRn U B (rn U B) := by
  unfold rn
  split
  · rename_i h; subst h
    exact isRn_of_val hB (Nat.zero_le _) (by rw [show val 0 = 0 from rfl, Nat.zero_mul])
  · rename_i h
    dsimp only
    have g2 : B < 2 ^ (B.log2 + 1) := Nat.lt_log2_self
    refine isRn_sticky (N := U * 2 ^ (54 + B.log2)) (a := 0) (b := 54 + B.log2 + 1) hB hB ?_ (by omega) ?_
    · refine (Nat.le_div_iff_mul_le hB).2 ?_
      have h1 : 2 ^ 53 * B ≤ 2 ^ 53 * 2 ^ (B.log2 + 1) := Nat.mul_le_mul_left _ (Nat.le_of_lt g2)
      rw [← Nat.pow_add, show 53 + (B.log2 + 1) = 54 + B.log2 from by omega] at h1
      exact Nat.le_trans h1 (Nat.le_mul_of_pos_left _ (by omega))
    · rw [Nat.pow_succ, Nat.pow_zero, Nat.mul_one]
      generalize 2 ^ (54 + B.log2) = z
      ac_rfl

theorem IsRn.eq_rn {U B r : Nat} (hB : 0 < B) (h : IsRn U B r) : r = rn U B := h.unique hB (isRn_rn U hB)
theorem rn_le_infR {U B : Nat} (hB : 0 < B) : rn U B ≤ infR := (isRn_rn U hB).1
theorem rn_mono {U B U' B' : Nat} (hB : 0 < B) (hB' : 0 < B') (hle : U * B' ≤ U' * B) : rn U B ≤ rn U' B' :=
  IsRn.mono hB hB' hle (isRn_rn U hB) (isRn_rn U' hB')
theorem rn_ratio {U B U' B' : Nat} (hB : 0 < B) (hB' : 0 < B') (h : U * B' = U' * B) : rn U B = rn U' B' :=
  Nat.le_antisymm (rn_mono hB hB' (Nat.le_of_eq h)) (rn_mono hB' hB (Nat.le_of_eq h.symm))
theorem rn_of_val {U B r : Nat} (hB : 0 < B) (hr : r ≤ infR) (h : val r * B = U) : rn U B = r := ((isRn_of_val hB hr h).eq_rn hB).symm

theorem val_zero : val 0 = 0 := rfl
theorem one_le_E : E1074 = 1022 + 52 := rfl

/-- whole numbers below 2^53 are met -/
theorem val_whole {m : Nat} (h : m ≤ 2 ^ 53) : ∃ r, r < infR ∧ val r = m * one := by
  rcases Nat.eq_zero_or_pos m with h0 | h0
  · subst h0; exact ⟨0, by decide +kernel, by rw [val_zero, Nat.zero_mul]⟩
  rcases Nat.lt_or_ge m (2 ^ 53) with h' | h'
  · have g1 : 2 ^ m.log2 ≤ m := Nat.log2_self_le (by omega)
    have g2 : m < 2 ^ (m.log2 + 1) := Nat.lt_log2_self
    generalize m.log2 = L at *
    have hL : L ≤ 52 := by
      rcases Nat.lt_or_ge 52 L with h | h
      · have := Nat.pow_le_pow_right (n := 2) (by omega) (show 53 ≤ L by omega)
        omega
      · exact h
    have e52 : B52 = 2 ^ 52 := by decide +kernel
    have k1 : B52 ≤ m * 2 ^ (52 - L) := by
      rw [e52, show 52 = L + (52 - L) from by omega, Nat.pow_add]
      have := Nat.mul_le_mul_right (2 ^ (52 - L)) g1
      rw [show L + (52 - L) - L = 52 - L from by omega]; exact this
    have k2 : m * 2 ^ (52 - L) < 2 * B52 := by
      have h1 : 2 * B52 = 2 ^ (L + 1) * 2 ^ (52 - L) := by
        rw [show 2 * B52 = 2 ^ 53 from by decide +kernel, ← Nat.pow_add]; congr 1; omega
      rw [h1]
      exact Nat.mul_lt_mul_of_pos_right g2 (Nat.two_pow_pos _)
    refine ⟨(1022 + L) * B52 + m * 2 ^ (52 - L), ?_, ?_⟩
    · have h1 : (1022 + L) * B52 ≤ 1074 * B52 := Nat.mul_le_mul_right _ (by omega)
      have h2 : infR = 2047 * B52 := infR_eq
      omega
    · rw [val_kept _ _ (.inr k1) (Nat.le_of_lt k2), Nat.mul_assoc, ← Nat.pow_add]
      unfold one
      rw [show 52 - L + (1022 + L) = E1074 from by rw [one_le_E]; omega]
  · have : m = 2 ^ 53 := by omega
    subst this
    refine ⟨1075 * B52 + B52, by decide +kernel, ?_⟩
    rw [val_kept _ _ (.inr (Nat.le_refl _)) (by omega)]
    decide +kernel

theorem rn_whole {m : Nat} (h : m ≤ 2 ^ 53) : val (rn (m * one) 1) = m * one ∧ rn (m * one) 1 < infR := by
  obtain ⟨r, h1, h2⟩ := val_whole h
  rw [rn_of_val Nat.one_pos (Nat.le_of_lt h1) (by rw [Nat.mul_one, h2])]
  exact ⟨h2, h1⟩

theorem val_inj {a b : Nat} (h : val a = val b) : a = b := by
  rcases Nat.lt_trichotomy a b with h1 | h1 | h1
  · have := val_lt h1; omega
  · exact h1
  · have := val_lt h1; omega

theorem rungOf_whole (m : Nat) : rungOf m 0 = rn (m * one) 1 :=
  (isRn_rungOf (U := m * one) (B := 1) (a := E1074) (b := 0) Nat.one_pos (by show ((1074 : Nat) : Int) - ((0 : Nat) : Int) = _; rfl) (by rw [Nat.pow_zero, Nat.mul_one, Nat.mul_one]; rfl)).eq_rn Nat.one_pos

end Go.Proofs.YtpnfkipfjanmkaaGreatDoor.Flt

namespace Go.Proofs.YtpnfkipfjanmkaaGreatDoor.Flt

def dv (c : UInt8) : Nat := c.toNat - 48
/-- what the digits say -/
def dval (l : List UInt8) : Nat := l.foldl (fun m c => m * 10 + dv c) 0
def Digs (l : List UInt8) : Prop := ∀ c ∈ l, 48 ≤ c.toNat ∧ c.toNat ≤ 57

theorem dval_nil : dval [] = 0 := rfl
theorem dval_snoc (l : List UInt8) (c : UInt8) : dval (l ++ [c]) = dval l * 10 + dv c := by
  unfold dval; rw [List.foldl_append]; rfl

theorem dval_foldl (l : List UInt8) (m : Nat) : l.foldl (fun m c => m * 10 + dv c) m = m * 10 ^ l.length + dval l := by
  induction l generalizing m with
  | nil => simp [dval]
  | cons c l ih =>
    have h0 : dval (c :: l) = l.foldl (fun m c => m * 10 + dv c) (0 * 10 + dv c) := rfl
    rw [List.foldl_cons, ih, h0, ih, List.length_cons, Nat.pow_succ, Nat.zero_mul, Nat.zero_add, Nat.add_mul, ← Nat.add_assoc, Nat.mul_assoc, Nat.mul_comm 10]

theorem dval_append (l k : List UInt8) : dval (l ++ k) = dval l * 10 ^ k.length + dval k := by
  have : dval (l ++ k) = k.foldl (fun m c => m * 10 + dv c) (dval l) := by unfold dval; rw [List.foldl_append]
  rw [this, dval_foldl]

theorem Digs.append {l k : List UInt8} (h : Digs l) (h' : Digs k) : Digs (l ++ k) := fun c hc => by
  rcases List.mem_append.1 hc with h1 | h1
  · exact h c h1
  · exact h' c h1
theorem Digs.left {l k : List UInt8} (h : Digs (l ++ k)) : Digs l := fun c hc => h c (List.mem_append.2 (.inl hc))
theorem Digs.right {l k : List UInt8} (h : Digs (l ++ k)) : Digs k := fun c hc => h c (List.mem_append.2 (.inr hc))
theorem Digs.take {l : List UInt8} (h : Digs l) (n : Nat) : Digs (l.take n) := fun c hc => h c (List.mem_of_mem_take hc)
theorem Digs.drop {l : List UInt8} (h : Digs l) (n : Nat) : Digs (l.drop n) := fun c hc => h c (List.mem_of_mem_drop hc)
theorem Digs.at {l : List UInt8} (h : Digs l) {j : Nat} (hj : j < l.length) : 48 ≤ l[j].toNat ∧ l[j].toNat ≤ 57 := h _ (List.getElem_mem hj)

theorem dval_lt {l : List UInt8} (h : Digs l) : dval l < 10 ^ l.length := by
  induction l with
  | nil => simp [dval]
  | cons c l ih =>
    have h1 := h c (by simp)
    have h2 := ih (fun c hc => h c (by simp [hc]))
    have e : dval (c :: l) = dval [c] * 10 ^ l.length + dval l := dval_append [c] l
    have e1 : dval [c] = dv c := by unfold dval; simp
    rw [e, e1, List.length_cons, Nat.pow_succ]
    have h3 : dv c ≤ 9 := by unfold dv; omega
    have h4 := Nat.mul_le_mul_right (10 ^ l.length) h3
    omega

theorem take_succ_at {l : List UInt8} {j : Nat} (hj : j < l.length) : l.take (j + 1) = l.take j ++ [l[j]] := by
  rw [List.take_succ_eq_append_getElem hj]

/-- the first nineteen digits, and whether more than zeros stand behind them -/
def mantN (F : List UInt8) : Nat := dval (F.take 19)
def truncB (F : List UInt8) : Bool := (F.drop 19).any (· != 48)

theorem mantN_step {F : List UInt8} {j : Nat} (hj : j < F.length) (h : j < 19) : mantN (F.take (j + 1)) = mantN (F.take j) * 10 + dv F[j] := by
  unfold mantN
  rw [List.take_take, List.take_take, Nat.min_eq_right (by omega), Nat.min_eq_right (by omega), take_succ_at hj, dval_snoc]
theorem mantN_stay {F : List UInt8} {j : Nat} (h : 19 ≤ j) : mantN (F.take (j + 1)) = mantN (F.take j) := by
  unfold mantN
  rw [List.take_take, List.take_take, Nat.min_eq_left (by omega), Nat.min_eq_left (by omega)]
theorem truncB_few {F : List UInt8} (h : F.length ≤ 19) : truncB F = false := by
  unfold truncB; rw [List.drop_eq_nil_of_le h]; rfl
theorem truncB_step {F : List UInt8} {j : Nat} (hj : j < F.length) (h : 19 ≤ j) : truncB (F.take (j + 1)) = (truncB (F.take j) || F[j] != 48) := by
  unfold truncB
  rw [take_succ_at hj, List.drop_append_of_le_length (by rw [List.length_take]; omega), List.any_append]
  simp
theorem mantN_lt {F : List UInt8} (h : Digs F) (n : Nat) (hn : F.length ≤ n) : mantN F < 10 ^ n := by
  refine Nat.lt_of_lt_of_le (dval_lt (h.take 19)) (Nat.pow_le_pow_right (by omega) ?_)
  rw [List.length_take]; omega
theorem mantN_lt19 {F : List UInt8} (h : Digs F) : mantN F < 10 ^ 19 := by
  refine Nat.lt_of_lt_of_le (dval_lt (h.take 19)) (Nat.pow_le_pow_right (by omega) ?_)
  rw [List.length_take]; omega

end Go.Proofs.YtpnfkipfjanmkaaGreatDoor.Flt
