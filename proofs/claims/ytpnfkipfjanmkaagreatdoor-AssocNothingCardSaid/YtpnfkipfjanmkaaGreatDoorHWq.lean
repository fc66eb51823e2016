/- DERIVED. WALKS: prescale, pack64, parseFloat64. -/
import Derived.Test.YtpnfkipfjanmkaaGreatDoorHWu
set_option linter.unusedVariables false
set_option linter.unusedSimpArgs false
namespace Go.Proofs.YtpnfkipfjanmkaaGreatDoor
open Go.RowKit Flt

set_option maxHeartbeats 400000 in
theorem log2Pow10_any (p : Int) (w : World) (h1 : -1000 ≤ p) (h2 : p ≤ 1000) :
    Calls Tryz.prog 303 #[.int .i64 p] w fun e w' => e = .returned (.int .i64 (lg p)) ∧ w' = w := by
  go_enter Tryz.func303, Tryz.ntmps303
  go_wp2
  go_ret
  exact ⟨rfl, rfl⟩

set_option maxHeartbeats 400000 in
theorem prescale_any (b : Nat) (e p l : Int) (v0 v1 v2 : Value) (w : World) (h1 : -348 ≤ p) (h2 : p ≤ 347) (he1 : -5000 ≤ e) (he2 : e ≤ 5000) (hl1 : -5000 ≤ l) (hl2 : l ≤ 5000)
    (c0 : w.cell? ⟨b, 0, none⟩ = some v0) (c1 : w.cell? ⟨b, 1, none⟩ = some v1) (c2 : w.cell? ⟨b, 2, none⟩ = some v2)
    (f0 : w.frozen? ⟨b, 0, none⟩ = false) (f1 : w.frozen? ⟨b, 1, none⟩ = false) (f2 : w.frozen? ⟨b, 2, none⟩ = false)
    (g0 : w.cell? ⟨13, (p + 348).toNat * 2, none⟩ = some (.int .u64 (phi p))) (g1 : w.cell? ⟨13, (p + 348).toNat * 2 + 1, none⟩ = some (.int .u64 (plo p))) (hb : b ≠ 13) :
    Calls Tryz.prog 302 #[.pointer (some ⟨b, 0, none⟩), .int .i64 e, .int .i64 p, .int .i64 l] w fun en w' => en = .returned (.tuple #[]) ∧
      w' = ((w.setCell ⟨b, 0, none⟩ (.int .u64 (phi p))).setCell ⟨b, 1, none⟩ (.int .u64 (plo p))).setCell ⟨b, 2, none⟩ (.int .i64 (-(e + l + 3))) := by
  have hb' : ¬ b = 13 := hb
  go_enter Tryz.func302, Tryz.ntmps302
  go_wp2
  go_end0
  exact ⟨rfl, rfl⟩

set_option maxHeartbeats 400000 in
theorem bool2i (b : Bool) (w : World) : Calls Tryz.prog 258 #[.bool b] w fun e w' => e = .returned (.int .i64 (if b then 1 else 0)) ∧ w' = w := by
  cases b
  all_goals
    go_enter Tryz.func258, Tryz.ntmps258
    go_wp2
    go_ret
    exact ⟨rfl, rfl⟩

set_option maxHeartbeats 400000 in
theorem unmin53 (w : World) : Calls Tryz.prog 309 #[.int .u64 9007199254740992] w fun e w' => e = .returned (.int .u64 36028797018963966) ∧ w' = w := by
  go_enter Tryz.func309, Tryz.ntmps309
  go_wp2
  go_ret
  exact ⟨rfl, rfl⟩

set_option maxHeartbeats 400000 in
theorem round_any (u : Nat) (hu : u < 9223372036854775808) (w : World) : Calls Tryz.prog 308 #[.int .u64 u] w fun e w' => e = .returned (.int .u64 (rnd u : Nat)) ∧ w' = w := by
  have hr : ((rnd u : Nat) : Int) = ((u : Int) + 1 + (u : Int) / 4 % 2) / 4 := by unfold rnd; omega
  rw [hr]
  clear hr
  have hb : bits .and .u64 ((u : Int) / 4) 1 = (u : Int) / 4 % 2 := by
    rw [show (u : Int) / 4 = ((u / 4 : Nat) : Int) from by omega, show (1 : Int) = ((1 : Nat) : Int) from rfl, bits_and_u64_nat _ _ (by omega) (by omega), nat_mask1]; omega
  have hw : IntKind.u64.wrap ((u : Int) + 1 + (u : Int) / 4 % 2) = (u : Int) + 1 + (u : Int) / 4 % 2 := by
    rw [IntKind.wrap_u64]; omega
  go_enter Tryz.func308, Tryz.ntmps308
  go_wp2
  go_ret
  exact ⟨rfl, rfl⟩

theorem bits64_run (n : Int) (w : World) : (callFunc 337 #[.int .u64 n]).run Tryz.prog w = .ok (.value (.float .f64 n.toNat)) w := by
  rw [run_callFunc_extern (e := Extern.MathFloatBits.float64frombits) Tryz.func337 (by kernel_rfl) (by kernel_rfl) (by kernel_rfl) (by kernel_rfl)]
  rfl

theorem nat_clear52 (S z : Nat) (hS : S ≤ 1) (hz : z < 4503599627370496) : (S * 9223372036854775808 + (4503599627370496 + z)) &&& (18446744073709551615 - 4503599627370496) = S * 9223372036854775808 + z := by
  generalize hx : S * 9223372036854775808 + (4503599627370496 + z) = x
  generalize hy : 18446744073709551615 - 4503599627370496 = y
  have h1 := Nat.div_add_mod (x &&& y) (2 ^ 53)
  rw [Nat.and_div_two_pow, Nat.and_mod_two_pow] at h1
  have e1 : x / 2 ^ 53 = S * 1024 := by omega
  have e2 : x % 2 ^ 53 = 4503599627370496 + z := by omega
  have e3 : y / 2 ^ 53 = 2 ^ 11 - 1 := by omega
  have e4 : y % 2 ^ 53 = 2 ^ 52 - 1 := by omega
  rw [e1, e2, e3, e4, Nat.and_two_pow_sub_one_eq_mod, Nat.and_two_pow_sub_one_eq_mod] at h1
  omega

theorem nat_or63 (S r : Nat) (hr : r < 9223372036854775808) : S * 9223372036854775808 ||| r = S * 9223372036854775808 + r := by
  have := Nat.two_pow_add_eq_or_of_lt (i := 63) (b := r) hr S
  rw [Nat.mul_comm]; exact this.symm

theorem nat_or52 (e z : Nat) (hz : z < 4503599627370496) : z ||| e * 4503599627370496 = e * 4503599627370496 + z := by
  have := Nat.two_pow_add_eq_or_of_lt (i := 52) (b := z) hz e
  rw [Nat.or_comm, Nat.mul_comm]; exact this.symm

theorem and_hid (S m : Nat) (hS : S ≤ 1) (hm : m < 9007199254740992) : bits BinOp.and IntKind.u64 ((S * 9223372036854775808 + m : Nat) : Int) 4503599627370496 = if m < 4503599627370496 then 0 else 4503599627370496 := by
  rw [show (4503599627370496 : Int) = ((4503599627370496 : Nat) : Int) from rfl, bits_and_u64_nat _ _ (by omega) (by omega), nat_bit52]
  split <;> omega

set_option maxHeartbeats 400000 in
theorem pack64_small (x : Nat) (k : Int) (w : World) (h : (bits BinOp.and IntKind.u64 (x : Int) 4503599627370496 == 0) = true) :
    Calls Tryz.prog 347 #[.int .u64 x, .int .i64 k] w fun e w' => e = .returned (.tuple #[.float .f64 x, .nilIface]) ∧ w' = w := by
  have hf := bits64_run
  go_enter Tryz.func347, Tryz.ntmps347
  go_wp2
  go_ret2
  exact ⟨rfl, rfl⟩

set_option maxHeartbeats 400000 in
theorem pack64_inf (x y : Nat) (k : Int) (w : World) (h : (bits BinOp.and IntKind.u64 (x : Int) 4503599627370496 == 0) = false) (hk : 972 ≤ k)
    (hy : bits .or .u64 (bits .and .u64 x 9223372036854775808) 9218868437227405312 = y) :
    Calls Tryz.prog 347 #[.int .u64 x, .int .i64 k] w fun e w' => e = .returned (.tuple #[.float .f64 y, .iface 283 (.int .i64 1)]) ∧ w' = w := by
  have hf := bits64_run
  go_enter Tryz.func347, Tryz.ntmps347
  go_wp2
  go_ret2
  exact ⟨rfl, rfl⟩

set_option maxHeartbeats 400000 in
theorem pack64_norm (x y : Nat) (k a : Int) (w : World) (h : (bits BinOp.and IntKind.u64 (x : Int) 4503599627370496 == 0) = false) (hk : k < 972) (hk2 : -1075 ≤ k) (ha : IntKind.u64.wrap ((1075 + k) * 4503599627370496) = a)
    (hy : bits .or .u64 (bits .andNot .u64 x 4503599627370496) a = y) :
    Calls Tryz.prog 347 #[.int .u64 x, .int .i64 k] w fun e w' => e = .returned (.tuple #[.float .f64 y, .nilIface]) ∧ w' = w := by
  have hf := bits64_run
  have hw : IntKind.u64.wrap (1075 + k) = 1075 + k := by rw [IntKind.wrap_u64]; omega
  go_enter Tryz.func347, Tryz.ntmps347
  go_wp2
  go_ret2
  exact ⟨rfl, rfl⟩


def errInf (r : Nat) : Value := if r = infR then .iface 283 (.int .i64 1) else .nilIface

/-- 'pack64' by rungs: m 2^k with a sign. -/
theorem pack64_any (S m : Nat) (k : Int) (w : World) (hS : S ≤ 1) (hm : m < 9007199254740992) (hk : m < 4503599627370496 ∨ -1074 ≤ k) (r : Nat)
    (hr : r = if m < B52 then m else if 972 ≤ k then infR else m - B52 + (1075 + k).toNat * B52) :
    Calls Tryz.prog 347 #[.int .u64 (S * 9223372036854775808 + m : Nat), .int .i64 k] w fun e w' => e = .returned (.tuple #[.float .f64 (S * 9223372036854775808 + r), errInf r]) ∧ w' = w := by
  have hB : B52 = 4503599627370496 := rfl
  have hI : infR = 9218868437227405312 := rfl
  have ha := and_hid S m hS hm
  rw [hB] at hr
  by_cases h1 : m < 4503599627370496
  · rw [if_pos h1] at hr ha
    rw [hr]
    have he : errInf m = .nilIface := by unfold errInf; rw [if_neg (by rw [hI]; omega)]
    rw [he]
    exact pack64_small _ _ _ (by rw [ha]; rfl)
  · rw [if_neg h1] at hr ha
    have ha' : (bits BinOp.and IntKind.u64 ((S * 9223372036854775808 + m : Nat) : Int) 4503599627370496 == 0) = false := by rw [ha]; rfl
    by_cases h2 : 972 ≤ k
    · rw [if_pos h2] at hr
      subst hr
      have he : errInf infR = .iface 283 (.int .i64 1) := by unfold errInf; rw [if_pos rfl]
      rw [he]
      refine pack64_inf _ _ _ _ ha' h2 ?_
      rw [show (9223372036854775808 : Int) = ((9223372036854775808 : Nat) : Int) from rfl, bits_and_u64_nat _ _ (by omega) (by omega), nat_bit63,
        show (S * 9223372036854775808 + m) / 9223372036854775808 % 2 = S from by omega,
        show (9218868437227405312 : Int) = ((9218868437227405312 : Nat) : Int) from rfl, bits_or_u64_nat _ _ (by omega) (by omega), nat_or63 _ _ (by omega)]
      rfl
    · rw [if_neg h2] at hr
      obtain ⟨z, rfl⟩ : ∃ z, m = 4503599627370496 + z := ⟨m - 4503599627370496, by omega⟩
      obtain ⟨e, he⟩ : ∃ e : Nat, 1075 + k = e := ⟨(1075 + k).toNat, by omega⟩
      rw [he, Int.toNat_natCast] at hr
      have hr' : r = e * 4503599627370496 + z := by omega
      subst hr'
      have hne : errInf (e * 4503599627370496 + z) = .nilIface := by unfold errInf; rw [if_neg (by rw [hI]; omega)]
      rw [hne]
      refine pack64_norm _ _ _ ((e * 4503599627370496 : Nat) : Int) _ ha' (by omega) (by omega) ?_ ?_
      · rw [he, IntKind.wrap_u64]; omega
      · rw [show (4503599627370496 : Int) = ((4503599627370496 : Nat) : Int) from rfl, u64_andNot_nat _ _ (by omega) (by omega), nat_clear52 S z hS (by omega), bits_or_u64_nat _ _ (by omega) (by omega),
          ← nat_or63 _ _ (by omega), Nat.or_assoc, nat_or52 _ _ (by omega), nat_or63 _ _ (by omega)]


theorem bitLen_log2 (d : Nat) (h : 0 < d) (hd : d < 18446744073709551616) : Lib.bitLen d = d.log2 + 1 := by
  have h1 : 2 ^ d.log2 ≤ d := Nat.log2_self_le (by omega)
  have h2 : d < 2 ^ (d.log2 + 1) := Nat.lt_log2_self
  rw [Lib.bitLen_shift d.log2 d h1 hd]
  have : d / 2 ^ d.log2 = 1 := Nat.div_eq_of_lt_le (by omega) (by rw [Nat.pow_succ] at h2; omega)
  rw [this]; rfl

theorem ret_f64 {a b : Nat} {v : Value} (h : a = b) : Ending.returned (.tuple #[.float .f64 a, v]) = .returned (.tuple #[.float .f64 b, v]) := by rw [h]

set_option maxHeartbeats 1600000 in
set_option maxRecDepth 100000 in
theorem parseFloat64_any {N : Nat} (d S : Nat) (p : Int) (w : World) (hd0 : 0 < d) (hd : d < 18446744073709551616) (h1 : -345 ≤ p) (h2 : p ≤ 310) (hS : S ≤ 1) (hT : Tabs N w) :
    Calls Tryz.prog 339 #[.int .u64 d, .int .i64 p, .int .u64 (S * 9223372036854775808 : Nat)] w fun e w' => e = .returned (.tuple #[.float .f64 (S * 9223372036854775808 + parse64 d p), errInf (parse64 d p)]) ∧ Below w.heap.size w w' := by
  obtain ⟨R, hR⟩ : ∃ R, parse64 d p = R := ⟨_, rfl⟩
  rw [hR]
  obtain ⟨l, hl⟩ : ∃ l, lg p = l := ⟨_, rfl⟩
  have hl1 : -1200 ≤ l := by rw [← hl]; unfold lg; omega
  have hl2 : l ≤ 1200 := by rw [← hl]; unfold lg; omega
  have hll := log2Pow10_any p
  have hL : d.log2 < 64 := (Nat.log2_lt (by omega)).2 hd
  have g1' : 2 ^ d.log2 ≤ d := Nat.log2_self_le (by omega)
  have g2' : d < 2 ^ (d.log2 + 1) := Nat.lt_log2_self
  have hlen := fun w => Tryz.bits_Len64 d w (by omega) (by omega)
  have hmt := (parse64_both hd0 hd h1 h2).1
  unfold parse64 at hR
  unfold mant64 at hmt
  rw [hl] at hll hR hmt
  rw [Int.toNat_natCast, bitLen_log2 d hd0 hd] at hlen
  generalize d.log2 = L at *
  obtain ⟨e, he⟩ : ∃ e : Int, min 1074 (53 - ((L : Int) + 1) - l) = e := ⟨_, rfl⟩
  have he1 : e ≤ 1074 := by omega
  have he2 : -1300 ≤ e := by omega
  have he3 : e ≤ 53 - ((L : Int) + 1) - l := by omega
  obtain ⟨s, hs⟩ : ∃ s : Nat, -(e - (64 - ((L : Int) + 1)) + l + 3) = s := ⟨(-(e - (64 - ((L : Int) + 1)) + l + 3)).toNat, by omega⟩
  simp only [Int.natCast_add, Int.natCast_one, he, hs, Int.toNat_natCast] at hR hmt
  have HE := Lib.hid he
  have HLL := Lib.hid hll
  have HLEN := Lib.hid hlen
  have g0 := hT.hi (p + 348).toNat (by omega)
  have g1 := hT.lo (p + 348).toNat (by omega)
  rw [show (((p + 348).toNat : Nat) : Int) - 348 = p from by omega, Nat.mul_comm] at g0 g1
  have hsz := hT.size
  have hn18 := hT.n18
  obtain ⟨q1, q2, q3, q4⟩ := phi_plo (p := p) (by omega) (by omega)
  have hpre : ∀ (w1 : World) (_ : w.heap.size = w1.heap.size) (_ : w1.cell? ⟨13, (p + 348).toNat * 2, none⟩ = some (.int .u64 (phi p))) (_ : w1.cell? ⟨13, (p + 348).toNat * 2 + 1, none⟩ = some (.int .u64 (plo p))), _ := fun (w1 : World) hw1 hg0 hg1 =>
    prescale_any w1.heap.size (e - (64 - ((L : Int) + 1))) p l _ _ _ (w1.alloc (.cells #[.int .u64 0, .int .u64 0, .int .i64 0] 340)) (by omega) (by omega) (by omega) (by omega) (by omega) (by omega) (by simp; rfl) (by simp; rfl) (by simp; rfl) (by simp) (by simp) (by simp) (by rw [World.cell?_alloc_past _ _ _ (by show 13 < _; omega)]; exact hg0) (by rw [World.cell?_alloc_past _ _ _ (by show 13 < _; omega)]; exact hg1) (by omega)
  rw [hs] at hpre
  have HP := Lib.hid hpre
  have G0 := Lib.hid g0
  have G1 := Lib.hid g1
  have HS := Lib.hid hs
  have HR := Lib.hid hR
  have HMT := Lib.hid hmt
  clear hmt hpre g0 g1 hs hR he hll hlen hl
  have hf := bits64_run
  by_cases h64 : 64 ≤ s
  · have hor : bits .or .u64 ((S : Int) * 9223372036854775808) 0 = (S : Int) * 9223372036854775808 := by
      rw [show (S : Int) * 9223372036854775808 = ((S * 9223372036854775808 : Nat) : Int) from by omega, show (0 : Int) = ((0 : Nat) : Int) from rfl, bits_or_u64_nat _ _ (by omega) (by omega), Nat.or_zero]
    have hR := HR.out
    rw [if_pos (by omega)] at hR
    subst hR
    have he0 : errInf 0 = .nilIface := by unfold errInf; rw [if_neg (by decide)]
    rw [he0]
    clear he0 HR
    go_enter Tryz.func339, Tryz.ntmps339
    go_wp2_with fail
    refine (HLEN.out _).mono ?_
    rintro e' w1 ⟨rfl, rfl⟩
    go_wp2_with fail
    refine (HLL.out _ (by omega) (by omega)).mono ?_
    rintro e' w1 ⟨rfl, rfl⟩
    go_wp2_with fail
    have := HE.out
    rw [this]
    refine (HP.out _ rfl G0.out G1.out).mono ?_
    rintro e' w2 ⟨rfl, rfl⟩
    go_wp2_with fail
    go_ret2
    exact ⟨ret_f64 (by omega), (Below.refl _ _).alloc (Nat.le_refl _) _⟩
  · have hR := HR.out
    rw [if_neg (by omega)] at hR
    clear HR
    have hxx : d * 2 ^ (64 - (L + 1)) < 18446744073709551616 := by
      refine Nat.lt_of_lt_of_le (Nat.mul_lt_mul_of_pos_right g2' (Nat.two_pow_pos _)) ?_
      rw [← Nat.pow_add]; exact Nat.le_trans (Nat.pow_le_pow_right (by omega) (show L + 1 + (64 - (L + 1)) ≤ 64 by omega)) (by decide)
    have hxx1 : 2 ^ 63 ≤ d * 2 ^ (64 - (L + 1)) := by
      refine Nat.le_trans (Nat.pow_le_pow_right (by omega) ?_) (Nat.le_trans (Nat.le_of_eq (Nat.pow_add 2 L (64 - (L + 1)))) (Nat.mul_le_mul_right _ g1'))
      omega
    have hxw : IntKind.u64.wrap ((d : Int) * 2 ^ (63 - L)) = ((d * 2 ^ (64 - (L + 1)) : Nat) : Int) := by
      rw [← wrap_u64_nat hxx]
      congr 1
      rw [show 64 - (L + 1) = 63 - L from by omega]
      simp
    have hxh : 0 < d * 2 ^ (64 - (L + 1)) * phi p / 18446744073709551616 := by
      refine Nat.div_pos ?_ (by decide)
      exact Nat.le_trans (by decide) (Nat.mul_le_mul hxx1 q3)
    generalize d * 2 ^ (64 - (L + 1)) = x at *
    obtain ⟨u, hu⟩ : ∃ u, uscale x (phi p) (plo p) s = u := ⟨_, rfl⟩
    have hub : u < 144115188075855872 := by
      rw [← hu]; exact uscale_lt hxx q4 (by have := HS.out; omega)
    have hus := uscale_any x (phi p) (plo p) s w.heap.size
    have hmt := HMT.out
    rw [if_neg (by omega)] at hmt
    rw [hu] at hus hR hmt
    have HU := Lib.hid hus
    clear hus
    have e2 : (2 : Nat) ^ 55 - 2 = 36028797018963966 := rfl
    rw [e2] at hR hmt
    have hBB : B52 = 4503599627370496 := rfl
    by_cases ht : 36028797018963966 ≤ u
    · simp only [ht, if_true, Nat.pow_one] at hR hmt
      have hv : bits .or .u64 ((u : Int) / 2) (bits .and .u64 (u : Int) 1) = ((u / 2 ||| u % 2 : Nat) : Int) := by
        rw [show (1 : Int) = ((1 : Nat) : Int) from rfl, bits_and_u64_nat _ _ (by omega) (by omega), nat_mask1, show (u : Int) / 2 = ((u / 2 : Nat) : Int) from by omega, bits_or_u64_nat _ _ (by omega) (by omega)]
      have hvb : (u / 2 ||| u % 2) < 9223372036854775808 := Nat.or_lt_two_pow (n := 63) (by omega) (by omega)
      generalize u / 2 ||| u % 2 = v at *
      obtain ⟨m, hm⟩ : ∃ m, rnd v = m := ⟨_, rfl⟩
      have hrd := round_any v hvb
      rw [hm] at hrd hR hmt
      have hsm : bits .or .u64 ((S : Int) * 9223372036854775808) (m : Int) = ((S * 9223372036854775808 + m : Nat) : Int) := by
        rw [show (S : Int) * 9223372036854775808 = ((S * 9223372036854775808 : Nat) : Int) from by omega, bits_or_u64_nat _ _ (by omega) (by omega), nat_or63 _ _ (by omega)]
      have hpk := fun w => pack64_any S m (-(e - 1)) w hS (by omega) (.inr (by omega)) R (by
        rw [← hR, show -(e - 1) = ((1 : Nat) : Int) - e from by omega, show 1075 + (((1 : Nat) : Int) - e) = 1075 + ((1 : Nat) : Int) - e from by omega])
      have HPK := Lib.hid hpk
      have HRD := Lib.hid hrd
      have HM := Lib.hid hmt
      clear hpk hrd hR hm hu HMT hmt hvb hBB e2
      go_enter Tryz.func339, Tryz.ntmps339
      go_wp2_with fail
      refine (HLEN.out _).mono ?_
      rintro e' w1 ⟨rfl, rfl⟩
      go_wp2_with fail
      refine (HLL.out _ (by omega) (by omega)).mono ?_
      rintro e' w1 ⟨rfl, rfl⟩
      go_wp2_with fail
      have := HE.out
      rw [this]
      refine (HP.out _ rfl G0.out G1.out).mono ?_
      rintro e' w2 ⟨rfl, rfl⟩
      go_wp2_with fail
      refine (HU.out _ hxx (by omega) hxh q2 (by omega) (by simp) (by simp) (by simp)).mono ?_
      rintro e' w2 ⟨rfl, n, rfl⟩
      go_wp2_with fail
      refine (unmin53 _).mono ?_
      rintro e' w2 ⟨rfl, rfl⟩
      go_wp2_with fail
      refine (bool2i _ _).mono ?_
      rintro e' w2 ⟨rfl, rfl⟩
      go_wp2_with fail
      refine (HRD.out _).mono ?_
      rintro e' w2 ⟨rfl, rfl⟩
      go_wp2_with fail
      refine (HPK.out _).mono ?_
      rintro e' w2 ⟨rfl, rfl⟩
      go_wp2_with fail
      go_ret2
      exact ⟨rfl, Below.drewN' ((Below.refl _ _).alloc (Nat.le_refl _) _) n⟩
    · simp only [ht, if_false, Nat.pow_zero, Nat.div_one] at hR hmt
      have hv : bits .or .u64 (u : Int) (bits .and .u64 (u : Int) 1) = ((u ||| u % 2 : Nat) : Int) := by
        rw [show (1 : Int) = ((1 : Nat) : Int) from rfl, bits_and_u64_nat _ _ (by omega) (by omega), nat_mask1, bits_or_u64_nat _ _ (by omega) (by omega)]
      have hvb : (u ||| u % 2) < 9223372036854775808 := Nat.or_lt_two_pow (n := 63) (by omega) (by omega)
      generalize u ||| u % 2 = v at *
      obtain ⟨m, hm⟩ : ∃ m, rnd v = m := ⟨_, rfl⟩
      have hrd := round_any v hvb
      rw [hm] at hrd hR hmt
      have hsm : bits .or .u64 ((S : Int) * 9223372036854775808) (m : Int) = ((S * 9223372036854775808 + m : Nat) : Int) := by
        rw [show (S : Int) * 9223372036854775808 = ((S * 9223372036854775808 : Nat) : Int) from by omega, bits_or_u64_nat _ _ (by omega) (by omega), nat_or63 _ _ (by omega)]
      have hpk := fun w => pack64_any S m (-e) w hS (by omega) (.inr (by omega)) R (by
        rw [← hR, show -e = ((0 : Nat) : Int) - e from by omega, show 1075 + (((0 : Nat) : Int) - e) = 1075 + ((0 : Nat) : Int) - e from by omega])
      have HPK := Lib.hid hpk
      have HRD := Lib.hid hrd
      have HM := Lib.hid hmt
      clear hpk hrd hR hm hu HMT hmt hvb hBB e2
      go_enter Tryz.func339, Tryz.ntmps339
      go_wp2_with fail
      refine (HLEN.out _).mono ?_
      rintro e' w1 ⟨rfl, rfl⟩
      go_wp2_with fail
      refine (HLL.out _ (by omega) (by omega)).mono ?_
      rintro e' w1 ⟨rfl, rfl⟩
      go_wp2_with fail
      have := HE.out
      rw [this]
      refine (HP.out _ rfl G0.out G1.out).mono ?_
      rintro e' w2 ⟨rfl, rfl⟩
      go_wp2_with fail
      refine (HU.out _ hxx (by omega) hxh q2 (by omega) (by simp) (by simp) (by simp)).mono ?_
      rintro e' w2 ⟨rfl, n, rfl⟩
      go_wp2_with fail
      refine (unmin53 _).mono ?_
      rintro e' w2 ⟨rfl, rfl⟩
      go_wp2_with fail
      refine (bool2i _ _).mono ?_
      rintro e' w2 ⟨rfl, rfl⟩
      go_wp2_with fail
      refine (HRD.out _).mono ?_
      rintro e' w2 ⟨rfl, rfl⟩
      go_wp2_with fail
      refine (HPK.out _).mono ?_
      rintro e' w2 ⟨rfl, rfl⟩
      go_wp2_with fail
      go_ret2
      exact ⟨rfl, Below.drewN' ((Below.refl _ _).alloc (Nat.le_refl _) _) n⟩
end Go.Proofs.YtpnfkipfjanmkaaGreatDoor
