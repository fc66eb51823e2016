/- DERIVED. WALKS: special, atof64exact. -/
import Derived.Test.YtpnfkipfjanmkaaGreatDoorHWd
import Derived.Test.YtpnfkipfjanmkaaGreatDoorHA0
import Derived.Test.YtpnfkipfjanmkaaGreatDoorHA1
set_option linter.unusedVariables false
set_option linter.unusedSimpArgs false
namespace Go.Proofs.YtpnfkipfjanmkaaGreatDoor
open Go.RowKit Flt

set_option maxHeartbeats 400000 in
theorem special_zero (s : ByteArray) (w : World) (hs2 : 1 ≤ s.size) (b0 : ∀ h : 0 < s.size, (s[0]'h).toNat = 48) :
    Calls Tryz.prog 327 #[.string s] w fun e w' => e = .returned (.tuple #[.float .f64 0, .int .i64 0, .bool false]) ∧ w' = w := by
  have hE : ¬ s = ByteArray.empty := by intro h; rw [h] at hs2; exact absurd hs2 (by decide)
  go_enter Tryz.func327, Tryz.ntmps327
  go_wp2_with fail
  go_ret3
  exact ⟨rfl, rfl⟩

section
variable (d : Nat) (p : Int) (w : World) (hc : w.cell? ⟨10, 0, none⟩ = some (.int .u64 52)) (F : Nat) (hF : floatOfInt .f64 (d : Int) = F)
include hc

set_option maxHeartbeats 400000 in
theorem exact_big (hd : 4503599627370496 ≤ d) :
    Calls Tryz.prog 338 #[.int .u64 d, .int .i64 p, .bool false] w fun e w' => e = .returned (.tuple #[.float .f64 0, .bool false]) ∧ w' = w := by
  have h0 : ((d : Int) / 4503599627370496 != 0) = true := by rw [bne_iff_ne]; omega
  go_enter Tryz.func338, Tryz.ntmps338
  go_wp2_with fail
  go_ret2
  exact ⟨rfl, rfl⟩

include hF
variable (h0 : ((d : Int) / 4503599627370496 != 0) = false)
include h0

set_option maxHeartbeats 400000 in
theorem exact_zero : Calls Tryz.prog 338 #[.int .u64 d, .int .i64 0, .bool false] w fun e w' => e = .returned (.tuple #[.float .f64 F, .bool true]) ∧ w' = w := by
  go_enter Tryz.func338, Tryz.ntmps338
  go_wp2_with fail
  go_ret2
  exact ⟨rfl, rfl⟩

set_option maxHeartbeats 400000 in
theorem exact_far (h : 37 < p ∨ p < -22) : Calls Tryz.prog 338 #[.int .u64 d, .int .i64 p, .bool false] w fun e w' => e = .returned (.tuple #[.float .f64 F, .bool false]) ∧ w' = w := by
  have hp : (p == 0) = false := by rw [beq_eq_false_iff_ne]; omega
  rcases h with h | h
  all_goals
    go_enter Tryz.func338, Tryz.ntmps338
    go_wp2_with fail
    go_ret2
    exact ⟨rfl, rfl⟩

variable (b off : Nat) (c17 : w.cell? ⟨17, 0, none⟩ = some (.slice (some ⟨b, off, none⟩) 23 23))

set_option maxHeartbeats 400000 in
theorem exact_no1 (h1 : 0 < p) (h2 : p ≤ 22) (hgt : FloatKind.f64.format.order F 4831355200913801216 = some .gt) :
    Calls Tryz.prog 338 #[.int .u64 d, .int .i64 p, .bool false] w fun e w' => e = .returned (.tuple #[.float .f64 F, .bool false]) ∧ w' = w := by
  have hp : (p == 0) = false := by rw [beq_eq_false_iff_ne]; omega
  go_enter Tryz.func338, Tryz.ntmps338
  go_wp2_with fail
  go_ret2
  exact ⟨rfl, rfl⟩

include c17

set_option maxHeartbeats 400000 in
theorem exact_ok1 (h1 : 0 < p) (h2 : p ≤ 22) (o : Ordering) (ho : o = .lt ∨ o = .eq) (hgt : FloatKind.f64.format.order F 4831355200913801216 = some o) (hlt : FloatKind.f64.format.order F 14054727237768577024 = some .gt)
    (T R : Nat) (ct : w.cell? ⟨b, off + p.toNat, none⟩ = some (.float .f64 T)) (hm : floatBits .mul .f64 F T = some R) :
    Calls Tryz.prog 338 #[.int .u64 d, .int .i64 p, .bool false] w fun e w' => e = .returned (.tuple #[.float .f64 R, .bool true]) ∧ w' = w := by
  have hm' := fun w => run_float_arith (P := Tryz.prog) w _ 22 .f64 _ _ _ hm
  clear hm
  have hp : (p == 0) = false := by rw [beq_eq_false_iff_ne]; omega
  rcases ho with rfl | rfl
  all_goals
    go_enter Tryz.func338, Tryz.ntmps338
    go_wp2_with fail
    go_ret2
    exact ⟨rfl, rfl⟩

set_option maxHeartbeats 400000 in
theorem exact_no2 (h1 : 22 < p) (h2 : p ≤ 37) (T F1 : Nat) (ct : w.cell? ⟨b, off + (p - 22).toNat, none⟩ = some (.float .f64 T)) (hm : floatBits .mul .f64 F T = some F1)
    (hgt : FloatKind.f64.format.order F1 4831355200913801216 = some .gt) :
    Calls Tryz.prog 338 #[.int .u64 d, .int .i64 p, .bool false] w fun e w' => e = .returned (.tuple #[.float .f64 F1, .bool false]) ∧ w' = w := by
  have hm' := fun w => run_float_arith (P := Tryz.prog) w _ 22 .f64 _ _ _ hm
  clear hm
  have hp : (p == 0) = false := by rw [beq_eq_false_iff_ne]; omega
  go_enter Tryz.func338, Tryz.ntmps338
  go_wp2_with fail
  go_ret2
  exact ⟨rfl, rfl⟩

set_option maxHeartbeats 400000 in
theorem exact_ok2 (h1 : 22 < p) (h2 : p ≤ 37) (T F1 : Nat) (ct : w.cell? ⟨b, off + (p - 22).toNat, none⟩ = some (.float .f64 T)) (hm : floatBits .mul .f64 F T = some F1)
    (o : Ordering) (ho : o = .lt ∨ o = .eq) (hgt : FloatKind.f64.format.order F1 4831355200913801216 = some o) (hlt : FloatKind.f64.format.order F1 14054727237768577024 = some .gt)
    (T2 R : Nat) (ct2 : w.cell? ⟨b, off + 22, none⟩ = some (.float .f64 T2)) (hm2 : floatBits .mul .f64 F1 T2 = some R) :
    Calls Tryz.prog 338 #[.int .u64 d, .int .i64 p, .bool false] w fun e w' => e = .returned (.tuple #[.float .f64 R, .bool true]) ∧ w' = w := by
  have hm' := fun w => run_float_arith (P := Tryz.prog) w _ 22 .f64 _ _ _ hm
  have hm2' := fun w => run_float_arith (P := Tryz.prog) w _ 22 .f64 _ _ _ hm2
  clear hm hm2
  have hp : (p == 0) = false := by rw [beq_eq_false_iff_ne]; omega
  rcases ho with rfl | rfl
  all_goals
    go_enter Tryz.func338, Tryz.ntmps338
    go_wp2_with fail
    go_ret2
    exact ⟨rfl, rfl⟩

set_option maxHeartbeats 400000 in
theorem exact_down (h1 : p < 0) (h2 : -22 ≤ p) (T R : Nat) (ct : w.cell? ⟨b, off + (-p).toNat, none⟩ = some (.float .f64 T)) (hm : floatBits .quo .f64 F T = some R) :
    Calls Tryz.prog 338 #[.int .u64 d, .int .i64 p, .bool false] w fun e w' => e = .returned (.tuple #[.float .f64 R, .bool true]) ∧ w' = w := by
  have hm' := fun w => run_float_arith (P := Tryz.prog) w _ 22 .f64 _ _ _ hm
  clear hm
  have hp : (p == 0) = false := by rw [beq_eq_false_iff_ne]; omega
  go_enter Tryz.func338, Tryz.ntmps338
  go_wp2_with fail
  go_ret2
  exact ⟨rfl, rfl⟩
end

theorem rn_finite {m : Nat} (h : m ≤ 2 ^ 200) : rn (m * one) 1 < infR := by
  have hv : val (1222 * B52 + B52) = 2 ^ 200 * one := by
    rw [val_kept _ _ (.inr (Nat.le_refl _)) (by omega)]; decide +kernel
  have hlt : 1222 * B52 + B52 < infR := by decide +kernel
  have h1 := rn_of_val (U := 2 ^ 200 * one) (B := 1) Nat.one_pos (Nat.le_of_lt hlt) (by rw [Nat.mul_one, hv])
  have h2 := rn_mono (U := m * one) (B := 1) (U' := 2 ^ 200 * one) (B' := 1) Nat.one_pos Nat.one_pos (Nat.mul_le_mul_right _ (Nat.mul_le_mul_right _ h))
  rw [h1] at h2
  exact Nat.lt_of_le_of_lt h2 hlt

def C15 : Nat := 4831355200913801216
theorem C15_lt : C15 < infR := by decide +kernel
theorem C15_val : val C15 = 10 ^ 15 * one := by decide +kernel
theorem C15_neg : wd true C15 = 14054727237768577024 := by decide +kernel

theorem compare_one (a b : Nat) : compare ((a * one : Nat) : Int) ((b * one : Nat) : Int) = compare (a : Int) (b : Int) := by
  rw [Int.natCast_mul, Int.natCast_mul]
  exact compare_mul _ _ _ (by have := one_pos; omega)

theorem order_C15 {r : Nat} (hr : r < infR) : FloatKind.f64.format.order r 4831355200913801216 = some (compare ((val r : Nat) : Int) ((10 ^ 15 * one : Nat) : Int)) := by
  have := order_wd false false hr C15_lt
  rw [wd_false, wd_false, C15_val] at this
  exact this
theorem order_nC15 {r : Nat} (hr : r < infR) : FloatKind.f64.format.order r 14054727237768577024 = some .gt := by
  have := order_wd false true hr C15_lt
  rw [wd_false, C15_neg, C15_val] at this
  have h1 : 0 < 10 ^ 15 * one := Nat.mul_pos (by decide) one_pos
  have h2 : compare (sgn false (val r)) (sgn true (10 ^ 15 * one)) = .gt := by
    simp only [sgn, compare, compareOfLessAndEq, if_true, Bool.false_eq_true, if_false]
    generalize 10 ^ 15 * one = z at *
    rw [if_neg (by omega), if_neg (by omega)]
  rw [h2] at this
  exact this

theorem compare_cases (a b : Nat) : (a ≤ b ∧ ∃ o, compare (a : Int) (b : Int) = o ∧ (o = .lt ∨ o = .eq)) ∨ (b < a ∧ compare (a : Int) (b : Int) = .gt) := by
  simp only [compare, compareOfLessAndEq]
  rcases Nat.lt_trichotomy a b with h | h | h
  · left; exact ⟨by omega, .lt, by rw [if_pos (by omega)], .inl rfl⟩
  · left; exact ⟨by omega, .eq, by rw [if_neg (by omega), if_pos (by omega)], .inr rfl⟩
  · right; exact ⟨h, by rw [if_neg (by omega), if_neg (by omega)]⟩

/-- 'atof64exact': where it answers, it is the nearest double. -/
theorem exact_any {N : Nat} (d : Nat) (p : Int) (w : World) (hT : Tabs N w) (hd0 : 0 < d) (hd : d < 18446744073709551616) :
    Calls Tryz.prog 338 #[.int .u64 d, .int .i64 p, .bool false] w fun e w' => ∃ f ok, e = .returned (.tuple #[.float .f64 f, .bool ok]) ∧ w' = w ∧ (ok = true → f = rn (UN d p) (UD p)) := by
  have hc := hT.mant
  by_cases hb : 4503599627370496 ≤ d
  · exact (exact_big d p w hc hb).mono fun e w' ⟨h1, h2⟩ => ⟨_, _, h1, h2, fun h => by cases h⟩
  have h0 : ((d : Int) / 4503599627370496 != 0) = false := by rw [bne_eq_false_iff_eq]; omega
  obtain ⟨hFv, hFi⟩ := rn_whole (m := d) (by omega)
  have hF := fofint d
  obtain ⟨F, hFe⟩ : ∃ F, rn (d * one) 1 = F := ⟨_, rfl⟩
  rw [hFe] at hF hFv hFi
  have hF0 : 0 < F := by
    rcases Nat.eq_zero_or_pos F with h | h
    · rw [h, val_zero] at hFv
      rcases Nat.mul_eq_zero.1 hFv.symm with h1 | h1
      · omega
      · exact absurd h1 (Nat.ne_of_gt one_pos)
    · exact h
  obtain ⟨b, off, c17, hbN, hcell⟩ := hT.ften
  by_cases hfar : 37 < p ∨ p < -22
  · exact (exact_far d p w hc F hF h0 hfar).mono fun e w' ⟨h1, h2⟩ => ⟨_, _, h1, h2, fun h => by cases h⟩
  rcases Int.lt_trichotomy p 0 with hp | hp | hp
  · obtain ⟨T, hT1, hT2, hT3, hT4⟩ := ten_whole (k := (-p).toNat) (by omega)
    have ct := hcell (-p).toNat (by omega)
    simp only [hT1] at ct
    refine (exact_down d p w hc F hF h0 b off c17 hp (by omega) T _ ct (fdiv hFi hT2 hT3 hF0)).mono fun e w' ⟨h1, h2⟩ => ⟨_, _, h1, h2, fun _ => ?_⟩
    rw [hFv, hT4]
    unfold UN UD
    rw [if_neg (by omega), if_neg (by omega)]
    refine rn_ratio (Nat.mul_pos (Nat.pow_pos (by decide)) one_pos) (Nat.pow_pos (by decide)) ?_
    generalize one = z
    ac_rfl
  · subst hp
    refine (exact_zero d w hc F hF h0).mono fun e w' ⟨h1, h2⟩ => ⟨_, _, h1, h2, fun _ => ?_⟩
    rw [← hFe]
    unfold UN UD
    simp
  · by_cases h22 : p ≤ 22
    · rcases compare_cases d (10 ^ 15) with ⟨_, o, ho, ho'⟩ | ⟨_, ho⟩
      · obtain ⟨T, hT1, hT2, hT3, hT4⟩ := ten_whole (k := p.toNat) (by omega)
        have ct := hcell p.toNat (by omega)
        simp only [hT1] at ct
        refine (exact_ok1 d p w hc F hF h0 b off c17 hp h22 o ho' (by rw [order_C15 hFi, hFv, compare_one, ho]) (order_nC15 hFi) T _ ct (fmul hFi hT2)).mono fun e w' ⟨h1, h2⟩ => ⟨_, _, h1, h2, fun _ => ?_⟩
        rw [hFv, hT4]
        unfold UN UD
        rw [if_pos (by omega), if_pos (by omega)]
        refine rn_ratio one_pos Nat.one_pos ?_
        generalize one = z
        ac_rfl
      · exact (exact_no1 d p w hc F hF h0 hp h22 (by rw [order_C15 hFi, hFv, compare_one, ho])).mono fun e w' ⟨h1, h2⟩ => ⟨_, _, h1, h2, fun h => by cases h⟩
    · obtain ⟨T, hT1, hT2, hT3, hT4⟩ := ten_whole (k := (p - 22).toNat) (by omega)
      have ct := hcell (p - 22).toNat (by omega)
      simp only [hT1] at ct
      obtain ⟨T2, hU1, hU2, hU3, hU4⟩ := ten_whole (k := 22) (by omega)
      have ct2 := hcell 22 (by omega)
      simp only [hU1] at ct2
      have hm := fmul hFi hT2
      rw [hFv, hT4, rn_ratio one_pos Nat.one_pos (U' := d * 10 ^ (p - 22).toNat * one) (by generalize one = z; ac_rfl)] at hm
      obtain ⟨m, hme⟩ : ∃ m, d * 10 ^ (p - 22).toNat = m := ⟨_, rfl⟩
      rw [hme] at hm
      have hmb : m ≤ 2 ^ 200 := by
        rw [← hme]
        have : 10 ^ (p - 22).toNat ≤ 10 ^ 15 := Nat.pow_le_pow_right (by omega) (by omega)
        exact Nat.le_trans (Nat.mul_le_mul (Nat.le_of_lt hd) this) (by decide)
      have hfin := rn_finite hmb
      obtain ⟨F1, hF1⟩ : ∃ F1, rn (m * one) 1 = F1 := ⟨_, rfl⟩
      rw [hF1] at hm hfin
      rcases compare_cases m (10 ^ 15) with ⟨hle, o, ho, ho'⟩ | ⟨hgt, ho⟩
      · obtain ⟨hv1, _⟩ := rn_whole (m := m) (Nat.le_trans hle (by decide))
        rw [hF1] at hv1
        refine (exact_ok2 d p w hc F hF h0 b off c17 (by omega) (by omega) T F1 ct hm o ho' (by rw [order_C15 hfin, hv1, compare_one, ho]) (order_nC15 hfin) T2 _ ct2 (fmul hfin hU2)).mono fun e w' ⟨h1, h2⟩ => ⟨_, _, h1, h2, fun _ => ?_⟩
        rw [hv1, hU4]
        unfold UN UD
        rw [if_pos (by omega), if_pos (by omega)]
        refine rn_ratio one_pos Nat.one_pos ?_
        rw [← hme, show p.toNat = (p - 22).toNat + 22 from by omega, Nat.pow_add]
        generalize 10 ^ 22 = z
        generalize one = z
        ac_rfl
      · refine (exact_no2 d p w hc F hF h0 b off c17 (by omega) (by omega) T F1 ct hm ?_).mono fun e w' ⟨h1, h2⟩ => ⟨_, _, h1, h2, fun h => by cases h⟩
        rw [order_C15 hfin]
        refine congrArg some ?_
        have h3 := rn_mono (U := (10 ^ 15 + 1) * one) (B := 1) (U' := m * one) (B' := 1) Nat.one_pos Nat.one_pos (Nat.mul_le_mul_right _ (Nat.mul_le_mul_right _ hgt))
        rw [hF1] at h3
        have h4 := val_le h3
        rw [(rn_whole (m := 10 ^ 15 + 1) (by decide)).1] at h4
        have h5 : 10 ^ 15 * one < (10 ^ 15 + 1) * one := Nat.mul_lt_mul_of_pos_right (by decide) one_pos
        simp only [compare, compareOfLessAndEq]
        generalize 10 ^ 15 * one = z at *
        rw [if_neg (by omega), if_neg (by omega)]

end Go.Proofs.YtpnfkipfjanmkaaGreatDoor
