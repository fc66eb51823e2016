/-  -/
import Derived.Test.YtpnfkipfjanmkaaGreatDoorHA0
import Derived.Laws.FloatArith
set_option linter.unusedVariables false
set_option linter.unusedSimpArgs false
/-! The model's float operations on doubles that are not below zero, by their rungs. -/
namespace Go.Proofs.YtpnfkipfjanmkaaGreatDoor.Flt
open Ieee

theorem wd_false (r : Nat) : wd false r = r := by unfold wd; rw [if_neg (by decide)]

theorem fofint (d : Nat) : floatOfInt .f64 (d : Int) = rn (d * one) 1 := by
  have h1 : floatOfInt .f64 (d : Int) = double.nearest (decide ((d : Int) < 0)) (d : Int).natAbs 0 := by unfold floatOfInt; rfl
  rw [h1, show decide ((d : Int) < 0) = false from by simp, Int.natAbs_natCast, nearest_wd, rungOf_whole, wd_false]

theorem fmul {r q : Nat} (hr : r < infR) (hq : q < infR) : floatBits .mul .f64 r q = some (rn (val r * val q) one) := by
  obtain ⟨z, h1, h2⟩ := mul_wd false false hr hq
  rw [← h2.eq_rn one_pos]
  rw [wd_false, wd_false, show (false ^^ false) = false from rfl, wd_false] at h1
  unfold floatBits
  exact h1

theorem fdiv {r q : Nat} (hr : r < infR) (hq : q < infR) (hq0 : 0 < q) (hr0 : 0 < r) : floatBits .quo .f64 r q = some (rn (val r * one) (val q)) := by
  obtain ⟨z, h1, h2⟩ := div_wd false false hr hq hq0 hr0
  have hv : 0 < val q := by have := val_lt hq0; rw [val_zero] at this; exact this
  rw [← h2.eq_rn hv]
  rw [wd_false, wd_false, show (false ^^ false) = false from rfl, wd_false] at h1
  unfold floatBits
  exact h1

def sgn (neg : Bool) (v : Nat) : Int := if neg then -(v : Int) else v

theorem compare_mul (a b c : Int) (hc : 0 < c) : compare (a * c) (b * c) = compare a b := by
  simp only [compare, compareOfLessAndEq]
  have h1 : a * c < b * c ↔ a < b := ⟨fun h => Int.lt_of_mul_lt_mul_right h (Int.le_of_lt hc), fun h => Int.mul_lt_mul_of_pos_right h hc⟩
  have h2 : a * c = b * c ↔ a = b := ⟨fun h => Int.eq_of_mul_eq_mul_right (by omega) h, fun h => by rw [h]⟩
  simp only [h1, h2]

theorem order_wd (s t : Bool) {r q : Nat} (hr : r < infR) (hq : q < infR) : double.order (wd s r) (wd t q) = some (compare (sgn s (val r)) (sgn t (val q))) := by
  have hi := infR_lt_S63
  unfold Format.order
  rw [read_wd s (by omega), read_wd t (by omega), if_pos hr, if_pos hq]
  simp only [Datum.order]
  congr 1
  obtain ⟨b, hb⟩ : ∃ b : Nat, b = min (exq r) (exq q) := ⟨_, rfl⟩
  have e1 : ((exq r : Int) - 1074 - min ((exq r : Int) - 1074) ((exq q : Int) - 1074)).toNat = exq r - b := by omega
  have e2 : ((exq q : Int) - 1074 - min ((exq r : Int) - 1074) ((exq q : Int) - 1074)).toNat = exq q - b := by omega
  rw [e1, e2]
  have key : ∀ (s : Bool) (r : Nat), b ≤ exq r → signed s (mag r) (exq r - b) * (2 ^ b : Nat) = sgn s (val r) := by
    intro s r h
    have : mag r * 2 ^ (exq r - b) * 2 ^ b = val r := by rw [Nat.mul_assoc, ← Nat.pow_add, Nat.sub_add_cancel h, val_mag]
    unfold signed sgn
    rw [Nat.shiftLeft_eq]
    cases s
    · simp only [Bool.false_eq_true, if_false]; rw [← Int.natCast_mul, this]
    · simp only [if_true]; rw [Int.neg_mul, ← Int.natCast_mul, this]
  rw [← compare_mul _ _ ((2 ^ b : Nat) : Int) (by have := Nat.two_pow_pos b; omega), key s r (by omega), key t q (by omega)]

/-- 10^k, k <= 22, and what stands about it -/
theorem ten_whole {k : Nat} (hk : k ≤ 22) : ∃ r, rn (10 ^ k * one) 1 = r ∧ r < infR ∧ 0 < r ∧ val r = 10 ^ k * one := by
  have all : ∀ k, k ≤ 22 → ∃ r, r < infR ∧ 0 < r ∧ val r = 10 ^ k * one := by
    intro k hk
    have hk' : k = 0 ∨ k = 1 ∨ k = 2 ∨ k = 3 ∨ k = 4 ∨ k = 5 ∨ k = 6 ∨ k = 7 ∨ k = 8 ∨ k = 9 ∨ k = 10 ∨ k = 11 ∨ k = 12 ∨ k = 13 ∨ k = 14 ∨ k = 15 ∨ k = 16 ∨ k = 17 ∨ k = 18 ∨ k = 19 ∨ k = 20 ∨ k = 21 ∨ k = 22 := by omega
    rcases hk' with rfl | rfl | rfl | rfl | rfl | rfl | rfl | rfl | rfl | rfl | rfl | rfl | rfl | rfl | rfl | rfl | rfl | rfl | rfl | rfl | rfl | rfl | rfl
    · exact ⟨4607182418800017408, by decide +kernel⟩
    · exact ⟨4621819117588971520, by decide +kernel⟩
    · exact ⟨4636737291354636288, by decide +kernel⟩
    · exact ⟨4652007308841189376, by decide +kernel⟩
    · exact ⟨4666723172467343360, by decide +kernel⟩
    · exact ⟨4681608360884174848, by decide +kernel⟩
    · exact ⟨4696837146684686336, by decide +kernel⟩
    · exact ⟨4711630319722168320, by decide +kernel⟩
    · exact ⟨4726483295884279808, by decide +kernel⟩
    · exact ⟨4741671816366391296, by decide +kernel⟩
    · exact ⟨4756540486875873280, by decide +kernel⟩
    · exact ⟨4771362005757984768, by decide +kernel⟩
    · exact ⟨4786511204640096256, by decide +kernel⟩
    · exact ⟨4801453603149578240, by decide +kernel⟩
    · exact ⟨4816244402031689728, by decide +kernel⟩
    · exact ⟨4831355200913801216, by decide +kernel⟩
    · exact ⟨4846369599423283200, by decide +kernel⟩
    · exact ⟨4861130398305394688, by decide +kernel⟩
    · exact ⟨4876203697187506176, by decide +kernel⟩
    · exact ⟨4891288408196988160, by decide +kernel⟩
    · exact ⟨4906019910204099648, by decide +kernel⟩
    · exact ⟨4921056587992461136, by decide +kernel⟩
    · exact ⟨4936209963552724370, by decide +kernel⟩
  obtain ⟨r, a, b, c⟩ := all k hk
  exact ⟨r, rn_of_val Nat.one_pos (Nat.le_of_lt a) (by rw [Nat.mul_one, c]), a, b, c⟩

end Go.Proofs.YtpnfkipfjanmkaaGreatDoor.Flt

/-! What the roads of atof64 come to. -/
namespace Go.Proofs.YtpnfkipfjanmkaaGreatDoor.Flt

/-- the double nearest to 0.F times 10^a -/
def rdec (F : List UInt8) (a : Int) : Nat := rn (UN (dval F) (a - F.length)) (UD (a - F.length))

theorem UN_zero (p : Int) : UN 0 p = 0 := by unfold UN; split <;> simp
theorem rn_zero {B : Nat} (hB : 0 < B) : rn 0 B = 0 := rn_of_val hB (Nat.zero_le _) (by rw [val_zero, Nat.zero_mul])
theorem rdec_nil (a : Int) : rdec [] a = 0 := by
  unfold rdec; rw [dval_nil, UN_zero]; exact rn_zero (UD_pos _)

/-- m 10^p <= n 10^q by cross products -/
theorem UN_le {m n : Nat} {p q : Int} (k : Nat) (hq : p = q + k) (h : m * 10 ^ k ≤ n) : UN m p * UD q ≤ UN n q * UD p := by
  unfold UN UD
  rcases Int.lt_or_le q 0 with h1 | h1
  · rw [if_neg (by omega : ¬ 0 ≤ q), if_neg (by omega : ¬ 0 ≤ q)]
    rcases Int.lt_or_le p 0 with h2 | h2
    · rw [if_neg (by omega), if_neg (by omega)]
      rw [show (-q).toNat = (-p).toNat + k from by omega, Nat.pow_add]
      have e1 : m * one * (10 ^ (-p).toNat * 10 ^ k) = m * 10 ^ k * (one * 10 ^ (-p).toNat) := by generalize one = z; ac_rfl
      have e2 : n * one * 10 ^ (-p).toNat = n * (one * 10 ^ (-p).toNat) := Nat.mul_assoc ..
      rw [e1, e2]
      exact Nat.mul_le_mul_right _ h
    · rw [if_pos (by omega), if_pos (by omega), Nat.mul_one]
      have e1 : m * 10 ^ p.toNat * one * 10 ^ (-q).toNat = m * 10 ^ k * one := by
        have : 10 ^ k = 10 ^ p.toNat * 10 ^ (-q).toNat := by rw [← Nat.pow_add]; congr 1; omega
        rw [this]; generalize one = z; ac_rfl
      rw [e1]
      exact Nat.mul_le_mul_right _ h
  · rw [if_pos h1, if_pos h1, if_pos (by omega), if_pos (by omega), Nat.mul_one, Nat.mul_one]
    rw [show p.toNat = k + q.toNat from by omega, Nat.pow_add, ← Nat.mul_assoc]
    exact Nat.mul_le_mul_right _ (Nat.mul_le_mul_right _ h)

theorem UN_ge {m n : Nat} {p q : Int} (k : Nat) (hq : p = q + k) (h : n ≤ m * 10 ^ k) : UN n q * UD p ≤ UN m p * UD q := by
  unfold UN UD
  rcases Int.lt_or_le q 0 with h1 | h1
  · rw [if_neg (by omega : ¬ 0 ≤ q), if_neg (by omega : ¬ 0 ≤ q)]
    rcases Int.lt_or_le p 0 with h2 | h2
    · rw [if_neg (by omega), if_neg (by omega)]
      rw [show (-q).toNat = (-p).toNat + k from by omega, Nat.pow_add]
      have e1 : m * one * (10 ^ (-p).toNat * 10 ^ k) = m * 10 ^ k * (one * 10 ^ (-p).toNat) := by generalize one = z; ac_rfl
      have e2 : n * one * 10 ^ (-p).toNat = n * (one * 10 ^ (-p).toNat) := Nat.mul_assoc ..
      rw [e1, e2]
      exact Nat.mul_le_mul_right _ h
    · rw [if_pos (by omega), if_pos (by omega), Nat.mul_one]
      have e1 : m * 10 ^ p.toNat * one * 10 ^ (-q).toNat = m * 10 ^ k * one := by
        have : 10 ^ k = 10 ^ p.toNat * 10 ^ (-q).toNat := by rw [← Nat.pow_add]; congr 1; omega
        rw [this]; generalize one = z; ac_rfl
      rw [e1]
      exact Nat.mul_le_mul_right _ h
  · rw [if_pos h1, if_pos h1, if_pos (by omega), if_pos (by omega), Nat.mul_one, Nat.mul_one]
    rw [show p.toNat = k + q.toNat from by omega, Nat.pow_add, ← Nat.mul_assoc]
    exact Nat.mul_le_mul_right _ (Nat.mul_le_mul_right _ h)

theorem rn_le {m n : Nat} {p q : Int} (k : Nat) (hq : p = q + k) (h : m * 10 ^ k ≤ n) : rn (UN m p) (UD p) ≤ rn (UN n q) (UD q) :=
  rn_mono (UD_pos _) (UD_pos _) (UN_le k hq h)
theorem rn_ge {m n : Nat} {p q : Int} (k : Nat) (hq : p = q + k) (h : n ≤ m * 10 ^ k) : rn (UN n q) (UD q) ≤ rn (UN m p) (UD p) :=
  rn_mono (UD_pos _) (UD_pos _) (UN_ge k hq h)

/-- the first nineteen digits and the rest -/
theorem dval_split (F : List UInt8) (hF : Digs F) : ∃ r, dval F = mantN F * 10 ^ (F.length - min F.length 19) + r ∧ r < 10 ^ (F.length - min F.length 19) ∧ (truncB F = false → r = 0) := by
  refine ⟨dval (F.drop 19), ?_, ?_, ?_⟩
  · have h := dval_append (F.take 19) (F.drop 19)
    rw [List.take_append_drop] at h
    rw [h, List.length_drop]
    unfold mantN
    congr 2
    congr 1
    omega
  · refine Nat.lt_of_lt_of_le (dval_lt (hF.drop 19)) (Nat.pow_le_pow_right (by omega) ?_)
    rw [List.length_drop]; omega
  · intro h
    unfold truncB at h
    rw [List.any_eq_false] at h
    have key : ∀ l : List UInt8, (∀ c ∈ l, ¬ (c != 48) = true) → dval l = 0 := by
      intro l hl
      induction l with
      | nil => rfl
      | cons c l ih =>
        have h1 := dval_append [c] l
        have h2 : c = 48 := by have := hl c (by simp); simpa using this
        rw [show [c] ++ l = c :: l from rfl, ih fun c hc => hl c (by simp [hc])] at h1
        rw [h1, h2]
        have : dval [48] = 0 := by decide
        rw [this, Nat.zero_mul]
    exact key _ h

theorem rdec_exact {F : List UInt8} (hF : Digs F) (a : Int) (h : truncB F = false) : rdec F a = rn (UN (mantN F) (a - (min F.length 19 : Nat))) (UD (a - (min F.length 19 : Nat))) := by
  obtain ⟨r, h1, _, h3⟩ := dval_split F hF
  rw [h3 h, Nat.add_zero] at h1
  unfold rdec
  have hk : a - (min F.length 19 : Nat) = (a - (F.length : Int)) + ((F.length - min F.length 19 : Nat) : Int) := by omega
  exact Nat.le_antisymm (rn_ge _ hk (by rw [h1]; exact Nat.le_refl _)) (rn_le _ hk (by rw [h1]; exact Nat.le_refl _))

theorem rdec_between {F : List UInt8} (hF : Digs F) (a : Int) :
    rn (UN (mantN F) (a - (min F.length 19 : Nat))) (UD (a - (min F.length 19 : Nat))) ≤ rdec F a ∧
    rdec F a ≤ rn (UN (mantN F + 1) (a - (min F.length 19 : Nat))) (UD (a - (min F.length 19 : Nat))) := by
  obtain ⟨r, h1, h2, _⟩ := dval_split F hF
  have hk : a - (min F.length 19 : Nat) = (a - (F.length : Int)) + ((F.length - min F.length 19 : Nat) : Int) := by omega
  refine ⟨rn_le _ hk (by omega), rn_ge _ hk (by rw [Nat.add_mul, Nat.one_mul]; omega)⟩

theorem rn_inf {m : Nat} {p : Int} (hm : 0 < m) (hp : 310 < p) : rn (UN m p) (UD p) = infR := by
  refine Nat.le_antisymm (rn_le_infR (UD_pos p)) ?_
  have h : rn (UN 1 311) (UD 311) = infR := by decide +kernel
  rw [← h]
  obtain ⟨k, hk⟩ : ∃ k : Nat, p = 311 + k := ⟨(p - 311).toNat, by omega⟩
  have h1 : rn (UN 1 311) (UD 311) ≤ rn (UN 1 p) (UD p) := by
    refine rn_mono (UD_pos _) (UD_pos _) ?_
    unfold UN UD
    rw [if_pos (by omega), if_pos (by omega), if_pos (by omega), if_pos (by omega)]
    rw [Nat.mul_one, Nat.mul_one, Nat.one_mul, Nat.one_mul]
    exact Nat.mul_le_mul_right _ (Nat.pow_le_pow_right (by omega) (by omega))
  refine Nat.le_trans h1 (rn_mono (UD_pos _) (UD_pos _) (Nat.mul_le_mul_right _ ?_))
  unfold UN
  rw [if_pos (by omega), if_pos (by omega)]
  exact Nat.mul_le_mul_right _ (Nat.mul_le_mul_right _ hm)

theorem rn_small {m : Nat} {p : Int} (hm : m ≤ 10 ^ 19) (hp : p < -345) : rn (UN m p) (UD p) = 0 := by
  have h : rn (UN (10 ^ 19) (-346)) (UD (-346)) = 0 := by decide +kernel
  refine Nat.le_zero.1 ?_
  rw [← h]
  obtain ⟨k, hk⟩ : ∃ k : Nat, -346 = p + (k : Int) := ⟨(-346 - p).toNat, by omega⟩
  exact rn_ge k hk (Nat.le_trans hm (Nat.le_mul_of_pos_right _ (Nat.pow_pos (by decide))))

end Go.Proofs.YtpnfkipfjanmkaaGreatDoor.Flt

/-! Doubles: what is cut towards zero; what is whole. -/
namespace Go.Proofs.YtpnfkipfjanmkaaGreatDoor.Flt
open Ieee

theorem cut_zero (neg : Bool) (n drop : Nat) : Toward.zero.cut neg n drop = n / 2 ^ drop := by
  unfold Toward.cut
  simp only [Nat.one_shiftLeft, Bool.toNat_false, Nat.add_zero]
  rcases Nat.le_total drop (n.log2 + 2) with h | h
  · rw [Nat.min_eq_left h]
  · rw [Nat.min_eq_right h]
    have h1 : n < 2 ^ (n.log2 + 1) := by
      rcases Nat.eq_zero_or_pos n with h0 | h0
      · subst h0; exact Nat.two_pow_pos _
      · exact Nat.lt_log2_self
    have h2 : 2 ^ (n.log2 + 1) ≤ 2 ^ (n.log2 + 2) := Nat.pow_le_pow_right (by omega) (by omega)
    have h3 : 2 ^ (n.log2 + 2) ≤ 2 ^ drop := Nat.pow_le_pow_right (by omega) h
    rw [Nat.div_eq_of_lt (by omega), Nat.div_eq_of_lt (by omega)]

theorem mag_lt (r : Nat) : mag r < 2 * B52 := by
  unfold mag
  have : r % B52 < B52 := Nat.mod_lt _ (by decide)
  split <;> omega

theorem cut_units (m e u : Nat) : m * 2 ^ ((e : Int) - (u : Int)).toNat / 2 ^ (-((e : Int) - (u : Int))).toNat = m * 2 ^ e / 2 ^ u := by
  rcases Nat.le_total e u with h3 | h3
  · rw [show ((e : Int) - u).toNat = 0 from by omega, show (-((e : Int) - u)).toNat = u - e from by omega, Nat.pow_zero, Nat.mul_one]
    have h4 : 2 ^ u = 2 ^ (u - e) * 2 ^ e := by rw [← Nat.pow_add]; congr 1; omega
    rw [h4, Nat.mul_div_mul_right _ _ (Nat.two_pow_pos _)]
  · rw [show ((e : Int) - u).toNat = e - u from by omega, show (-((e : Int) - u)).toNat = 0 from by omega, Nat.pow_zero, Nat.div_one]
    have h4 : 2 ^ e = 2 ^ (e - u) * 2 ^ u := by rw [← Nat.pow_add]; congr 1; omega
    rw [h4, ← Nat.mul_assoc, Nat.mul_div_cancel _ (Nat.two_pow_pos _)]

theorem integral_wd (neg : Bool) {r : Nat} (h : r < infR) : (double.read (wd neg r)).integral .zero = .number neg (val r / one) 0 := by
  have hi := infR_lt_S63
  rw [read_wd neg (by omega), if_pos h]
  show Datum.number neg (Toward.zero.cut neg (mag r <<< ((exq r : Int) - 1074).toNat) (-((exq r : Int) - 1074)).toNat) 0 = _
  rw [cut_zero, Nat.shiftLeft_eq, val_mag]
  exact congrArg (fun n => Datum.number neg n 0) (cut_units (mag r) (exq r) E1074)

theorem trunc_cases (m e u B : Nat) (hm : m < B) : m * 2 ^ e / 2 ^ u * 2 ^ u = m * 2 ^ e ∨ m * 2 ^ e / 2 ^ u < B := by
  rcases Nat.lt_or_ge e u with h3 | h3
  · right
    have h5 : 2 ^ e ≤ 2 ^ u := Nat.pow_le_pow_right (by omega) (by omega)
    refine (Nat.div_lt_iff_lt_mul (Nat.two_pow_pos u)).2 ?_
    calc m * 2 ^ e ≤ m * 2 ^ u := Nat.mul_le_mul_left _ h5
      _ < B * 2 ^ u := Nat.mul_lt_mul_of_pos_right hm (Nat.two_pow_pos _)
  · left
    have h5 : 2 ^ e = 2 ^ (e - u) * 2 ^ u := by rw [← Nat.pow_add]; congr 1; omega
    rw [h5, ← Nat.mul_assoc, Nat.mul_div_cancel _ (Nat.two_pow_pos _)]

theorem trunc_val {r : Nat} (h : r < infR) : val (rn (val r / one * one) 1) = val r / one * one ∧ rn (val r / one * one) 1 < infR := by
  have h0 := trunc_cases (mag r) (exq r) E1074 (2 * B52) (mag_lt r)
  rw [← val_mag] at h0
  have h0 : val r / one * one = val r ∨ val r / one < 2 * B52 := h0
  rcases h0 with h4 | h4
  · have h6 := rn_of_val (U := val r) (B := 1) (r := r) (by omega) (by omega) (Nat.mul_one _)
    rw [h4, h6]
    exact ⟨rfl, h⟩
  · exact rn_whole (Nat.le_of_lt h4)

theorem write_whole (neg : Bool) (T : Nat) : double.write (.number neg T 0) = wd neg (rn (T * one) 1) := by
  show double.nearest neg T 0 = _
  rw [nearest_double, word_double, rungOf_whole]

/-- a word's sign and rung -/
theorem word_split {y : Nat} (h : y < 2 ^ 64) : ∃ (neg : Bool) (r : Nat), r < S63 ∧ y = wd neg r := by
  have hs : S63 = 9223372036854775808 := rfl
  rcases Nat.lt_or_ge y S63 with h1 | h1
  · exact ⟨false, y, h1, (wd_false y).symm⟩
  · refine ⟨true, y - S63, by omega, ?_⟩
    unfold wd; rw [if_pos rfl]; omega

/-- is the number whole? (an infinity counts, a NaN doesn't) -/
def wholeR (r : Nat) : Bool := if r < infR then val r % one == 0 else r == infR
/-- its whole part, at finite numbers -/
def wholeN (r : Nat) : Nat := val r / one

/-- What math.Trunc hands back of what is no NaN. -/
def truncW (y : Nat) : Nat := double.write ((double.read y).integral .zero)
theorem truncW_wd (neg : Bool) {r : Nat} (h : r < infR) : truncW (wd neg r) = wd neg (rn (val r / one * one) 1) := by
  unfold truncW; rw [integral_wd neg h, write_whole]
theorem cmp_eq (a b : Int) : compare a b = .eq ↔ a = b := by
  simp only [compare, compareOfLessAndEq]
  split
  · exact ⟨(fun h => by cases h), fun h => by omega⟩
  · split
    · exact ⟨fun _ => by assumption, fun _ => rfl⟩
    · exact ⟨(fun h => by cases h), fun h => by contradiction⟩
theorem order_trunc (neg : Bool) {r : Nat} (h : r ≤ infR) : (double.order (wd neg r) (truncW (wd neg r)) == some .eq) = wholeR r := by
  rcases Nat.lt_or_ge r infR with h1 | h1
  · rw [truncW_wd neg h1]
    obtain ⟨h2, h3⟩ := trunc_val h1
    rw [order_wd neg neg h1 h3, h2]
    unfold wholeR
    rw [if_pos h1]
    have h4 := Nat.div_add_mod (val r) one
    rw [Nat.mul_comm] at h4
    rw [Bool.eq_iff_iff, beq_iff_eq, beq_iff_eq]
    constructor
    · intro h5
      have h6 := Option.some.inj h5
      rw [cmp_eq] at h6
      unfold sgn at h6
      split at h6 <;> omega
    · intro h5
      rw [(cmp_eq _ _).2]
      rw [show val r / one * one = val r from by omega]
  · have h2 : r = infR := by omega
    subst h2
    have hi := infR_lt_S63
    have h3 : double.read (wd neg infR) = .infinity neg := by rw [read_wd neg hi, if_neg (by omega), if_pos rfl]
    have h4 : truncW (wd neg infR) = wd neg infR := by
      unfold truncW
      rw [h3]
      show double.word neg double.infRung = _
      rw [word_double, infRung_double]
    rw [h4]
    unfold Format.order
    rw [h3]
    unfold wholeR
    rw [if_neg (by omega)]
    cases neg <;> decide
theorem order_nan (neg : Bool) {r : Nat} (h : infR < r) (hr : r < S63) (b : Nat) : double.order (wd neg r) b = none ∧ double.order b (wd neg r) = none := by
  have h3 : double.read (wd neg r) = .nan neg (r - infR) := by rw [read_wd neg hr, if_neg (by omega), if_neg (by omega)]
  constructor
  · unfold Format.order
    rw [h3]; rfl
  · unfold Format.order
    rw [h3]
    cases double.read b <;> rfl

theorem toInt_wd (neg : Bool) {r : Nat} (h : r < infR) (hT : wholeN r < 2 ^ 62) : floatToIntVal .f64 (wd neg r) .i64 = some (sgn neg (wholeN r)) := by
  unfold floatToIntVal
  have h1 : (FloatKind.f64.decode (wd neg r)).toInt .zero = some (signed neg (wholeN r) 0) := by
    show Datum.toInt .zero (double.read (wd neg r)) = _
    unfold Datum.toInt
    rw [integral_wd neg h]; rfl
  have h2 : signed neg (wholeN r) 0 = sgn neg (wholeN r) := by
    unfold signed sgn; cases neg <;> simp
  rw [h1, h2]
  have h3 : IntKind.i64.min = -9223372036854775808 := by decide
  have h4 : IntKind.i64.max = 9223372036854775807 := by decide
  show (if IntKind.i64.min ≤ sgn neg (wholeN r) ∧ sgn neg (wholeN r) ≤ IntKind.i64.max then some (sgn neg (wholeN r)) else none) = _
  rw [if_pos]
  rw [h3, h4]
  unfold sgn
  cases neg <;> simp <;> omega
end Go.Proofs.YtpnfkipfjanmkaaGreatDoor.Flt

/-! Plain: the numeral that a text begins with. -/
namespace Go.Proofs.YtpnfkipfjanmkaaGreatDoor.Flt

def isD (c : UInt8) : Bool := decide (48 ≤ c.toNat ∧ c.toNat ≤ 57)
/-- how many digits a text begins with -/
def runL (l : List UInt8) : Nat := (l.takeWhile isD).length
def signL : List UInt8 → Nat
  | [] => 0
  | c :: _ => if c.toNat = 43 ∨ c.toNat = 45 then 1 else 0

theorem takeWhile_le (p : UInt8 → Bool) (l : List UInt8) : (l.takeWhile p).length ≤ l.length := by
  have := (List.takeWhile_prefix p (l := l)).length_le
  exact this
theorem runL_le (l : List UInt8) : runL l ≤ l.length := takeWhile_le _ _
theorem runL_digit : ∀ {l : List UInt8} {k : Nat} {c : UInt8}, k < runL l → l[k]? = some c → isD c = true
  | [], k, c, h, _ => by simp [runL] at h
  | a :: l, k, c, h, hc => by
    unfold runL at h
    rw [List.takeWhile_cons] at h
    by_cases ha : isD a = true
    · rw [if_pos ha, List.length_cons] at h
      cases k with
      | zero => rw [List.getElem?_cons_zero] at hc; cases hc; exact ha
      | succ k => rw [List.getElem?_cons_succ] at hc; exact runL_digit (l := l) (k := k) (by unfold runL; omega) hc
    · rw [if_neg ha] at h; simp at h
theorem runL_end : ∀ {l : List UInt8} {c : UInt8}, l[runL l]? = some c → isD c = false
  | [], c, hc => by simp at hc
  | a :: l, c, hc => by
    unfold runL at hc
    rw [List.takeWhile_cons] at hc
    by_cases ha : isD a = true
    · rw [if_pos ha, List.length_cons, List.getElem?_cons_succ] at hc
      exact runL_end (l := l) hc
    · rw [if_neg ha, List.length_nil, List.getElem?_cons_zero] at hc
      cases hc; simpa using ha
theorem signL_le (l : List UInt8) : signL l ≤ 1 ∧ signL l ≤ l.length := by
  cases l with
  | nil => simp [signL]
  | cons c l =>
    show (if c.toNat = 43 ∨ c.toNat = 45 then 1 else 0) ≤ 1 ∧ (if c.toNat = 43 ∨ c.toNat = 45 then 1 else 0) ≤ l.length + 1
    split <;> omega

theorem digs_takeWhile (l : List UInt8) : Digs (l.takeWhile isD) := fun c hc => by
  have h := List.all_takeWhile (p := isD) (l := l)
  rw [List.all_eq_true] at h
  have := h c hc
  unfold isD at this
  exact of_decide_eq_true this

/-- the digits behind a point at b -/
def dotL (l : List UInt8) (b : Nat) : Nat := if l[b]? = some 46 then runL (l.drop (b + 1)) else 0
/-- where what begins at c with an exponent ends -/
def expL (l : List UInt8) (c : Nat) : Nat :=
  if l[c]? = some 101 ∨ l[c]? = some 69 then
    if 0 < runL (l.drop (c + 1 + signL (l.drop (c + 1)))) then c + 1 + signL (l.drop (c + 1)) + runL (l.drop (c + 1 + signL (l.drop (c + 1)))) else c
  else c
def numAt (l : List UInt8) (a wh : Nat) : Nat :=
  if wh + dotL l (a + wh) = 0 then 0 else expL l (if l[a + wh]? = some 46 then a + wh + 1 + dotL l (a + wh) else a + wh)
/-- how long the numeral is that a text begins with -/
def numL (l : List UInt8) : Nat := numAt l (signL l) (runL (l.drop (signL l)))
end Go.Proofs.YtpnfkipfjanmkaaGreatDoor.Flt
