/- DERIVED. PLAIN, WALKS: powers: a product, a quotient that may be no number; value.Power, the reference's Power, tedderlaw08.bits. DERIVED. WALKS: value.Power, tedderref08.Power, tedderlaw08.bits. DERIVED. WALKS: tedderref08.Power; both Powers at any argument. -/
import Derived.Test.YtpnfkipfjanmkaaGreatDoorHVx
import Derived.Test.YtpnfkipfjanmkaaGreatDoorHWs
set_option linter.unusedVariables false
set_option linter.unusedSimpArgs false
namespace Go.Proofs.YtpnfkipfjanmkaaGreatDoor
open Go.RowKit Flt Ieee

/-! ### plain -/
namespace Flt
def C10 : Nat := 4652218415073722368
theorem C10_lt : C10 < infR := by decide +kernel
theorem C10_val : val C10 = 1024 * one := by decide +kernel
theorem C10_neg : wd true C10 = 13875590451928498176 := by decide +kernel

/-- no whole number up to 1024 -/
def bigR (r : Nat) : Bool := !(decide (r < infR) && decide (wholeN r ≤ 1024))

theorem cmp_gt (a b : Int) : compare a b = .gt ↔ b < a := by
  simp only [compare, compareOfLessAndEq]
  split
  · constructor
    · intro h; cases h
    · intro h; omega
  · split
    · constructor
      · intro h; cases h
      · intro h; omega
    · constructor
      · intro _; omega
      · intro _; rfl
theorem cmp_lt (a b : Int) : compare a b = .lt ↔ a < b := by
  simp only [compare, compareOfLessAndEq]
  split
  · constructor
    · intro _; assumption
    · intro _; rfl
  · split
    · constructor
      · intro h; cases h
      · intro h; omega
    · constructor
      · intro h; cases h
      · intro h; omega

theorem some_gt (a b : Int) : ((some (compare a b)) == some Ordering.gt) = decide (b < a) := by
  rw [Bool.eq_iff_iff, beq_iff_eq, decide_eq_true_eq, Option.some.injEq]
  exact cmp_gt a b
theorem some_lt (a b : Int) : ((some (compare a b)) == some Ordering.lt) = decide (a < b) := by
  rw [Bool.eq_iff_iff, beq_iff_eq, decide_eq_true_eq, Option.some.injEq]
  exact cmp_lt a b

theorem whole_val {r : Nat} (h : r < infR) (hw : wholeR r = true) : val r = wholeN r * one := by
  unfold wholeR at hw
  rw [if_pos h, beq_iff_eq] at hw
  unfold wholeN
  exact (Nat.div_mul_cancel (Nat.dvd_of_mod_eq_zero hw)).symm

theorem big_abs {r : Nat} (hr : r ≤ infR) (hw : wholeR r = true) : (double.order r C10 == some .gt) = bigR r := by
  rcases Nat.lt_or_eq_of_le hr with h | h
  · have h1 := order_wd false false h C10_lt
    rw [wd_false, wd_false, C10_val, whole_val h hw] at h1
    rw [h1, some_gt]
    unfold bigR
    have ho := one_pos
    rw [decide_eq_true h, Bool.true_and, ← decide_not, decide_eq_decide]
    show (((1024 * one : Nat) : Int) < ((wholeN r * one : Nat) : Int)) ↔ _
    rw [Int.ofNat_lt, Nat.mul_lt_mul_right ho]
    omega
  · rw [h]; decide +kernel

theorem big_pos (neg : Bool) {r : Nat} (hr : r ≤ infR) (hw : wholeR r = true) : (double.order (wd neg r) C10 == some .gt) = (!neg && bigR r) := by
  cases neg
  · rw [wd_false, big_abs hr hw]; simp
  · rcases Nat.lt_or_eq_of_le hr with h | h
    · have h1 := order_wd true false h C10_lt
      rw [wd_false C10] at h1
      rw [h1, some_gt, C10_val]
      simp only [Bool.not_true, Bool.false_and]
      rw [decide_eq_false_iff_not]
      have ho := one_pos
      unfold sgn
      rw [if_neg (by decide), if_pos rfl]
      generalize val r = v
      generalize one = o at *
      omega
    · rw [h]; decide +kernel

theorem big_neg (neg : Bool) {r : Nat} (hr : r ≤ infR) (hw : wholeR r = true) : (double.order (wd neg r) 13875590451928498176 == some .lt) = (neg && bigR r) := by
  rw [← C10_neg]
  rcases Nat.lt_or_eq_of_le hr with h | h
  · have h1 := order_wd neg true h C10_lt
    rw [h1, some_lt, C10_val, whole_val h hw]
    unfold bigR
    have ho := one_pos
    rw [decide_eq_true h, Bool.true_and]
    unfold sgn
    rw [if_pos rfl]
    cases neg
    · rw [if_neg (by decide), Bool.false_and, decide_eq_false_iff_not]
      generalize wholeN r * one = a
      have := Nat.mul_pos (show 0 < 1024 by decide) ho
      generalize 1024 * one = b at *
      omega
    · rw [if_pos rfl, Bool.true_and, ← decide_not, decide_eq_decide]
      have : (1024 * one < wholeN r * one) ↔ 1024 < wholeN r := Nat.mul_lt_mul_right ho
      rw [Nat.not_le, ← this]
      generalize wholeN r * one = a
      generalize 1024 * one = b
      omega
  · rw [h]; cases neg <;> decide +kernel

theorem neg_test (neg : Bool) {r : Nat} (h : r < infR) (hw : wholeR r = true) : (double.order (wd neg r) 0 == some .lt) = (neg && decide (0 < wholeN r)) := by
  have h0 : (0 : Nat) < infR := by decide +kernel
  have h1 := order_wd neg false h h0
  rw [wd_false 0] at h1
  have hv : val 0 = 0 := by decide +kernel
  rw [h1, some_lt, whole_val h hw, hv]
  have ho := one_pos
  unfold sgn
  rw [if_neg (show ¬ (false = true) by decide)]
  cases neg
  · rw [if_neg (by decide), Bool.false_and, decide_eq_false_iff_not]
    generalize wholeN r * one = a
    omega
  · rw [if_pos rfl, Bool.true_and, decide_eq_decide]
    have : (0 * one < wholeN r * one) ↔ 0 < wholeN r := Nat.mul_lt_mul_right ho
    rw [← this, Nat.zero_mul]
    generalize wholeN r * one = a
    omega

/-- a word that is no number -/
def NaNw (b : Nat) : Prop := ∃ s t, double.read b = .nan s t
theorem nan_order {b : Nat} (h : NaNw b) (c : Nat) : double.order b c = none := by
  obtain ⟨s, t, h⟩ := h
  unfold Format.order
  rw [h]; rfl
theorem nan_mul {b : Nat} (h : NaNw b) (c : Nat) : double.mul b c = none := by
  obtain ⟨s, t, h⟩ := h
  unfold Format.mul
  rw [h]; rfl
theorem nan_div {b : Nat} (h : NaNw b) (c : Nat) : double.div c b = none := by
  obtain ⟨s, t, h⟩ := h
  unfold Format.div
  rw [h]
  cases double.read c <;> rfl
theorem nan_drawn (t : Nat) : NaNw ((t % 2) * 2 ^ 63 + 0x7ff0000000000000 + 1 + (t / 2) % (2 ^ 52 - 1)) := by
  have hi : infR = 0x7ff0000000000000 := by decide +kernel
  have hs : S63 = 9223372036854775808 := rfl
  have hq : t / 2 % (2 ^ 52 - 1) < 2 ^ 52 - 1 := Nat.mod_lt _ (by decide)
  generalize t / 2 % (2 ^ 52 - 1) = q at *
  have hw : (t % 2) * 2 ^ 63 + 0x7ff0000000000000 + 1 + q = wd (t % 2 == 1) (infR + 1 + q) := by
    unfold wd
    rw [hi, hs]
    rcases Nat.mod_two_eq_zero_or_one t with h | h
    · rw [h, if_neg (by decide)]; try omega
    · rw [h, if_pos (by decide)]; try omega
  rw [hw]
  have hlt : infR + 1 + q < S63 := by rw [hi, hs]; omega
  have hr := read_wd (t % 2 == 1) hlt
  rw [if_neg (by omega), if_neg (by omega)] at hr
  exact ⟨_, _, hr⟩

/-- what a word stands for: a word, or 'no number' -/
def RepN (o : Option Nat) (b : Nat) : Prop := match o with | some a => b = a | none => NaNw b

/-- the k-th power, step by step -/
def powO (x : Nat) : Nat → Option Nat
  | 0 => some 4607182418800017408
  | k + 1 => (powO x k).bind fun a => double.mul a x
/-- what Power answers -/
def powV (x y : Nat) : Option Nat × Bool :=
  if wholeB y && !bigR (y % S63) then
    (if decide (S63 ≤ y) && decide (0 < wholeN (y % S63)) then (powO x (wholeN (y % S63))).bind fun a => double.div 4607182418800017408 a else powO x (wholeN (y % S63)), true)
  else (some 0, false)

def nbits (b : Nat) : Nat := if double.order b b == some .eq then b else 1
theorem nbits_rep {o : Option Nat} {b c : Nat} (hb : RepN o b) (hc : RepN o c) : nbits b = nbits c := by
  cases o with
  | none =>
    unfold nbits
    rw [nan_order hb, nan_order hc]; rfl
  | some a => rw [show b = a from hb, show c = a from hc]
end Flt

theorem float_run (op : BinOp) (hop : op = .mul ∨ op = .quo) (o : Option Nat) (a x : Nat) (h : ∀ b, o = some b → floatBits op .f64 a x = some b) (h' : o = none → floatBits op .f64 a x = none) (w : World) :
    ∃ b k, (Op.floatArith op .f64 a x).run Tryz.prog w = .ok (.float .f64 b) (w.drewN k) ∧ RepN o b := by
  cases o with
  | some b =>
    have := run_floatArith (P := Tryz.prog) (w := w) (h b rfl)
    exact ⟨b, 0, this, rfl⟩
  | none =>
    have h1 := h' rfl
    have h2 : (Op.floatArith op .f64 a x).run Tryz.prog w = .ok (.float .f64 ((Question.nanBits .f64 a x).cut (w.tape w.drawn (.nanBits .f64 a x)))) w.drew := by
      rcases hop with rfl | rfl
      · unfold floatBits at h1
        simp only at h1
        simp [Op.floatArith, h1, Question.forced]
      · unfold floatBits at h1
        simp only at h1
        simp [Op.floatArith, h1, Question.forced]
    exact ⟨_, 1, h2, nan_drawn _⟩

/-- a product -/
theorem mul_run (o : Option Nat) (r x : Nat) (h : RepN o r) (w : World) : ∃ b k, (binOp .mul 22 (.float .f64 r) (.float .f64 x)).run Tryz.prog w = .ok (.float .f64 b) (w.drewN k) ∧ RepN (o.bind fun a => double.mul a x) b := by
  rw [show binOp .mul 22 (.float .f64 r) (.float .f64 x) = Op.floatArith .mul .f64 r x from rfl]
  refine float_run .mul (.inl rfl) _ r x ?_ ?_ w
  · intro b hb
    cases o with
    | none => cases hb
    | some a => rw [show r = a from h]; exact hb
  · intro hb
    cases o with
    | none => exact nan_mul h x
    | some a => rw [show r = a from h]; exact hb
/-- one by a word -/
theorem div_run (o : Option Nat) (r x : Nat) (h : RepN o r) (w : World) : ∃ b k, (binOp .quo 22 (.float .f64 x) (.float .f64 r)).run Tryz.prog w = .ok (.float .f64 b) (w.drewN k) ∧ RepN (o.bind fun a => double.div x a) b := by
  rw [show binOp .quo 22 (.float .f64 x) (.float .f64 r) = Op.floatArith .quo .f64 x r from rfl]
  refine float_run .quo (.inr rfl) _ x r ?_ ?_ w
  · intro b hb
    cases o with
    | none => cases hb
    | some a => rw [show r = a from h]; exact hb
  · intro hb
    cases o with
    | none => exact nan_div h x
    | some a => rw [show r = a from h]; exact hb
end Go.Proofs.YtpnfkipfjanmkaaGreatDoor

namespace Go.Proofs.YtpnfkipfjanmkaaGreatDoor
open Go.RowKit Flt Ieee

theorem bits_any (b : Nat) (w : World) : Calls Tryz.prog 66 #[.float .f64 b] w fun e w' => e = .returned (.int .u64 (nbits b)) ∧ w' = w := by
  have h1 := f64bits_run
  have hn : (FloatKind.f64.format.order b b == some .eq) = true → nbits b = b := fun h => if_pos h
  have hn' : (FloatKind.f64.format.order b b == some .eq) = false → nbits b = 1 := fun h => if_neg (by intro hh; rw [show double.order b b = FloatKind.f64.format.order b b from rfl, h] at hh; cases hh)
  by_cases hc : FloatKind.f64.format.order b b = some .eq
  · rw [hn (by rw [hc]; rfl)]
    clear hn hn'
    go_enter Tryz.func66, Tryz.ntmps66
    go_wp2
    go_ret
    exact ⟨rfl, rfl⟩
  · have hc' : (FloatKind.f64.format.order b b != some .eq) = true := by rw [bne_iff_ne]; exact hc
    rw [hn' (by rw [beq_eq_false_iff_ne]; exact hc)]
    clear hn hn' hc
    go_enter Tryz.func66, Tryz.ntmps66
    go_wp2
    go_ret
    exact ⟨rfl, rfl⟩

def PowOut (o : Option Nat × Bool) (w : World) (e : Ending) (w' : World) : Prop := ∃ b, e = .returned (.tuple #[.float .f64 b, .bool o.2]) ∧ RepN o.1 b ∧ Below w.heap.size w w'

theorem not_whole (x : Nat) {y : Nat} (h : wholeB y = false) : powV x y = (some 0, false) := by unfold powV; rw [h]; rfl
theorem big_pow (x : Nat) {y : Nat} (h : bigR (y % S63) = true) : powV x y = (some 0, false) := by unfold powV; rw [h, Bool.not_true, Bool.and_false]; rfl

theorem trunc_no {y b : Nat} (hb : (FloatKind.f64.format.order y b == some .eq) = wholeB y) (h : wholeB y = false) : (FloatKind.f64.format.order y b != some .eq) = true := by
  rw [h] at hb
  rw [bne, hb]; rfl
theorem trunc_yes {y b : Nat} (hb : (FloatKind.f64.format.order y b == some .eq) = wholeB y) (h : wholeB y = true) : FloatKind.f64.format.order y b = some .eq := by
  rw [h] at hb
  exact eq_of_beq hb

def conv64 (b : Nat) (n : Int) : Prop := floatToIntVal .f64 b .i64 = some n
theorem conv_run {b : Nat} {n : Int} (h : conv64 b n) (w : World) : (convert 22 3 (.float .f64 b)).run Tryz.prog w = .ok (.int .i64 n) w := 
  run_convert_float_int w 22 3 .f64 .i64 b n (by kernel_rfl) (by kernel_rfl) h

set_option maxHeartbeats 1600000 in
theorem power_no (x y : Nat) (w : World) (hT : ∀ w, Calls Tryz.prog 41 #[.float .f64 y] w (TruncOut y w)) (h : wholeB y = false) : Calls Tryz.prog 64 #[.float .f64 x, .float .f64 y] w (PowOut (powV x y) w) := by
  rw [not_whole x h]
  have HT := Lib.hid hT
  have HW := Lib.hid h
  clear hT h
  go_enter Tryz.func64, Tryz.ntmps64
  go_wp2_with fail
  refine (HT.out _).mono ?_
  rintro e w1 ⟨b, rfl, hb, hb1⟩
  have h := trunc_no hb HW.out
  have HB := Lib.hid hb1
  clear hb hb1
  go_wp2_with fail
  exact bodyPost_ret (v := .tuple #[.float .f64 0, .bool false]) (by simp [results, Tryz.results64, go_sem]) rfl ⟨0, rfl, rfl, HB.out⟩

set_option maxHeartbeats 1600000 in
theorem power_big (x y r : Nat) (w : World) (hT : ∀ w, Calls Tryz.prog 41 #[.float .f64 y] w (TruncOut y w)) (hA : ∀ w, Calls Tryz.prog 42 #[.float .f64 y] w fun e w' => e = .returned (.float .f64 r) ∧ w' = w) (h : wholeB y = true)
    (hg : (FloatKind.f64.format.order r 4652218415073722368 == some .gt) = true) (hv : powV x y = (some 0, false)) : Calls Tryz.prog 64 #[.float .f64 x, .float .f64 y] w (PowOut (powV x y) w) := by
  rw [hv]
  have HT := Lib.hid hT
  have HA := Lib.hid hA
  have HW := Lib.hid h
  clear hT h hA
  go_enter Tryz.func64, Tryz.ntmps64
  go_wp2_with fail
  refine (HT.out _).mono ?_
  rintro e w1 ⟨b, rfl, hb, hb1⟩
  have h := trunc_yes hb HW.out
  have HB := Lib.hid hb1
  clear hb hb1
  go_wp2_with fail
  refine (HA.out _).mono ?_
  rintro e w' ⟨rfl, rfl⟩
  go_wp2_with fail
  exact bodyPost_ret (v := .tuple #[.float .f64 0, .bool false]) (by simp [results, Tryz.results64, go_sem]) rfl ⟨0, rfl, rfl, HB.out⟩

set_option maxHeartbeats 1600000 in
theorem power_yes (x y r N : Nat) (ng : Bool) (w : World) (hT : ∀ w, Calls Tryz.prog 41 #[.float .f64 y] w (TruncOut y w)) (hA : ∀ w, Calls Tryz.prog 42 #[.float .f64 y] w fun e w' => e = .returned (.float .f64 r) ∧ w' = w) (h : wholeB y = true)
    (hg : (FloatKind.f64.format.order r 4652218415073722368 == some .gt) = false) (hc : conv64 r N) (hN : N ≤ 1024) (hn : (FloatKind.f64.format.order y 0 == some .lt) = ng) (hv : powV x y = (if ng then (powO x N).bind fun a => double.div 4607182418800017408 a else powO x N, true)) :
    Calls Tryz.prog 64 #[.float .f64 x, .float .f64 y] w (PowOut (powV x y) w) := by
  rw [hv]
  have HT := Lib.hid hT
  have HA := Lib.hid hA
  have HW := Lib.hid h
  have HN := Lib.hid hn
  have hcv := conv_run hc
  clear hT h hA hv hn hc
  go_enter Tryz.func64, Tryz.ntmps64
  go_wp2_with fail
  refine (HT.out _).mono ?_
  rintro e w1 ⟨b, rfl, hb, hb1⟩
  have h := trunc_yes hb HW.out
  have HB := Lib.hid hb1
  clear hb hb1
  go_wp2_with fail
  refine (HA.out _).mono ?_
  rintro e w' ⟨rfl, rfl⟩
  go_wp2_with fail
  refine (HA.out _).mono ?_
  rintro e w' ⟨rfl, rfl⟩
  go_wp2_with fail
  go_loopw [6, 19] (fun rv iv wr => ∃ (q i : Nat), i ≤ N ∧ rv = .float .f64 q ∧ iv = .int .i64 i ∧ RepN (powO x i) q ∧ Below w.heap.size w wr) (fun _ iv _ => N - (intOf iv).toNat)
  case atStart => exact ⟨_, 0, Nat.zero_le _, rfl, rfl, rfl, HB.out⟩
  case round =>
    obtain ⟨q, i, hi, rfl, rfl, hq, hbw⟩ := hrel
    obtain ⟨q2, w2, hm, hq2, hb2⟩ : ∃ q2 w2, (binOp .mul 22 (.float .f64 q) (.float .f64 x)).run Tryz.prog wr = .ok (.float .f64 q2) w2 ∧ Hid (RepN (powO x (i + 1)) q2) ∧ Hid (Below w.heap.size w w2) := by
      obtain ⟨q2, k, hm, hq2⟩ := mul_run _ q x hq wr
      exact ⟨q2, _, hm, hq2, Below.drewN' hbw k⟩
    have HQ := Lib.hid hq
    have HBW := Lib.hid hbw
    clear hq hbw
    by_cases hlt : i < N
    · go_wp2_with fail
      refine ⟨⟨q2, i + 1, by omega, rfl, int_eq (by omega), hq2.out, hb2.out⟩, by simp [intOf]; omega⟩
    · have hiN : i = N := by omega
      subst hiN
      clear hlt
      cases ng
      · have hn := HN.out
        go_wp2_with fail
        exact bodyPost_ret (v := .tuple #[.float .f64 q, .bool true]) (by simp [results, Tryz.results64, go_sem]) rfl ⟨q, rfl, HQ.out, HBW.out⟩
      · have hn := HN.out
        obtain ⟨q3, w3, hd, hq3, hb3⟩ : ∃ q3 w3, (binOp .quo 22 (.float .f64 4607182418800017408) (.float .f64 q)).run Tryz.prog wr = .ok (.float .f64 q3) w3 ∧ Hid (RepN ((powO x i).bind fun a => double.div 4607182418800017408 a) q3) ∧ Hid (Below w.heap.size w w3) := by
          obtain ⟨q2, k, hm, hq2⟩ := div_run _ q 4607182418800017408 HQ.out wr
          exact ⟨q2, _, hm, hq2, Below.drewN' HBW.out k⟩
        go_wp2_with fail
        exact bodyPost_ret (v := .tuple #[.float .f64 q3, .bool true]) (by simp [results, Tryz.results64, go_sem]) rfl ⟨q3, rfl, hq3.out, hb3.out⟩
end Go.Proofs.YtpnfkipfjanmkaaGreatDoor

namespace Go.Proofs.YtpnfkipfjanmkaaGreatDoor
open Go.RowKit Flt Ieee

set_option maxHeartbeats 1600000 in
theorem rpower_no (x y : Nat) (w : World) (hT : ∀ w, Calls Tryz.prog 41 #[.float .f64 y] w (TruncOut y w)) (h : wholeB y = false) : Calls Tryz.prog 65 #[.float .f64 x, .float .f64 y] w (PowOut (powV x y) w) := by
  rw [not_whole x h]
  have HT := Lib.hid hT
  have HW := Lib.hid h
  clear hT h
  go_enter Tryz.func65, Tryz.ntmps65
  go_wp2_with fail
  refine (HT.out _).mono ?_
  rintro e w1 ⟨b, rfl, hb, hb1⟩
  have h := trunc_no hb HW.out
  have HB := Lib.hid hb1
  clear hb hb1
  go_wp2_with fail
  exact bodyPost_ret (v := .tuple #[.float .f64 0, .bool false]) (by simp [results, Tryz.results65, go_sem]) rfl ⟨0, rfl, rfl, HB.out⟩

set_option maxHeartbeats 1600000 in
theorem rpower_big (x y : Nat) (w : World) (hT : ∀ w, Calls Tryz.prog 41 #[.float .f64 y] w (TruncOut y w)) (h : wholeB y = true)
    (hg : (FloatKind.f64.format.order y 4652218415073722368 == some .gt) = true ∨ ((FloatKind.f64.format.order y 4652218415073722368 == some .gt) = false ∧ (FloatKind.f64.format.order y 13875590451928498176 == some .lt) = true)) (hv : powV x y = (some 0, false)) :
    Calls Tryz.prog 65 #[.float .f64 x, .float .f64 y] w (PowOut (powV x y) w) := by
  rw [hv]
  have HT := Lib.hid hT
  have HW := Lib.hid h
  clear hT h
  rcases hg with hg | ⟨hg, hg2⟩
  · go_enter Tryz.func65, Tryz.ntmps65
    go_wp2_with fail
    refine (HT.out _).mono ?_
    rintro e w1 ⟨b, rfl, hb, hb1⟩
    have h := trunc_yes hb HW.out
    have HB := Lib.hid hb1
    clear hb hb1
    go_wp2_with fail
    exact bodyPost_ret (v := .tuple #[.float .f64 0, .bool false]) (by simp [results, Tryz.results65, go_sem]) rfl ⟨0, rfl, rfl, HB.out⟩
  · go_enter Tryz.func65, Tryz.ntmps65
    go_wp2_with fail
    refine (HT.out _).mono ?_
    rintro e w1 ⟨b, rfl, hb, hb1⟩
    have h := trunc_yes hb HW.out
    have HB := Lib.hid hb1
    clear hb hb1
    go_wp2_with fail
    exact bodyPost_ret (v := .tuple #[.float .f64 0, .bool false]) (by simp [results, Tryz.results65, go_sem]) rfl ⟨0, rfl, rfl, HB.out⟩

set_option maxHeartbeats 1600000 in
theorem rpower_yes (x y N : Nat) (n : Int) (w : World) (hT : ∀ w, Calls Tryz.prog 41 #[.float .f64 y] w (TruncOut y w)) (h : wholeB y = true)
    (hg : (FloatKind.f64.format.order y 4652218415073722368 == some .gt) = false) (hg2 : (FloatKind.f64.format.order y 13875590451928498176 == some .lt) = false) (hc : conv64 y n) (hN : N ≤ 1024) (hn : n = N ∨ n = -N)
    (hv : powV x y = (if n < 0 then (powO x N).bind fun a => double.div 4607182418800017408 a else powO x N, true)) :
    Calls Tryz.prog 65 #[.float .f64 x, .float .f64 y] w (PowOut (powV x y) w) := by
  rw [hv]
  have HT := Lib.hid hT
  have HW := Lib.hid h
  have hcv := conv_run hc
  clear hT h hv hc
  go_enter Tryz.func65, Tryz.ntmps65
  go_wp2_with fail
  refine (HT.out _).mono ?_
  rintro e w1 ⟨b, rfl, hb, hb1⟩
  have h := trunc_yes hb HW.out
  have HB := Lib.hid hb1
  clear hb hb1
  go_wp2_with fail
  go_loopw [7, 8] (fun rv iv wr => ∃ (q i : Nat), i ≤ N ∧ rv = .float .f64 q ∧ iv = .int .i64 i ∧ RepN (powO x i) q ∧ Below w.heap.size w wr) (fun _ iv _ => N - (intOf iv).toNat)
  case atStart => exact ⟨_, 0, Nat.zero_le _, rfl, rfl, rfl, HB.out⟩
  case round =>
    obtain ⟨q, i, hi, rfl, rfl, hq, hbw⟩ := hrel
    obtain ⟨q2, w2, hm, hq2, hb2⟩ : ∃ q2 w2, (binOp .mul 22 (.float .f64 q) (.float .f64 x)).run Tryz.prog wr = .ok (.float .f64 q2) w2 ∧ Hid (RepN (powO x (i + 1)) q2) ∧ Hid (Below w.heap.size w w2) := by
      obtain ⟨q2, k, hm, hq2⟩ := mul_run _ q x hq wr
      exact ⟨q2, _, hm, hq2, Below.drewN' hbw k⟩
    obtain ⟨q3, w3, hd, hq3, hb3⟩ : ∃ q3 w3, (binOp .quo 22 (.float .f64 4607182418800017408) (.float .f64 q)).run Tryz.prog wr = .ok (.float .f64 q3) w3 ∧ Hid (RepN ((powO x i).bind fun a => double.div 4607182418800017408 a) q3) ∧ Hid (Below w.heap.size w w3) := by
      obtain ⟨q2, k, hm, hq2⟩ := div_run _ q 4607182418800017408 hq wr
      exact ⟨q2, _, hm, hq2, Below.drewN' hbw k⟩
    have HQ := Lib.hid hq
    have HBW := Lib.hid hbw
    clear hq hbw
    by_cases hlt : i < N
    · have hmx : (i : Int) < max n (-n) := by omega
      go_wp2_with fail
      refine ⟨⟨q2, i + 1, by omega, rfl, int_eq (by omega), hq2.out, hb2.out⟩, by simp [intOf]; omega⟩
    · have hiN : i = N := by omega
      subst hiN
      have hmx : max n (-n) ≤ (i : Int) := by omega
      clear hlt
      by_cases h0 : n < 0
      · go_wp2_with fail
        exact bodyPost_ret (v := .tuple #[.float .f64 q3, .bool true]) (by simp [results, Tryz.results65, go_sem]) rfl ⟨q3, rfl, hq3.out, hb3.out⟩
      · go_wp2_with fail
        exact bodyPost_ret (v := .tuple #[.float .f64 q, .bool true]) (by simp [results, Tryz.results65, go_sem]) rfl ⟨q, rfl, HQ.out, HBW.out⟩

/-! ### both, at any argument -/
theorem powV_yes (x : Nat) (neg : Bool) {r : Nat} (hr : r < S63) (hw : wholeR r = true) (hb : bigR r = false) :
    powV x (wd neg r) = (if neg && decide (0 < wholeN r) then (powO x (wholeN r)).bind fun a => double.div 4607182418800017408 a else powO x (wholeN r), true) := by
  unfold powV
  rw [show wholeB (wd neg r) = wholeR r from by unfold wholeB; rw [wd_mod neg hr], wd_mod neg hr, hw, hb]
  have hs : decide (S63 ≤ wd neg r) = neg := by
    unfold wd
    cases neg
    · rw [if_neg (by decide), decide_eq_false_iff_not]; omega
    · rw [if_pos rfl, decide_eq_true_eq]; omega
  rw [hs]; rfl

theorem small_facts {r : Nat} (hb : bigR r = false) : r < infR ∧ wholeN r ≤ 1024 := by
  unfold bigR at hb
  simp only [Bool.not_eq_false', Bool.and_eq_true, decide_eq_true_eq] at hb
  exact hb

theorem whole_le {r : Nat} (hw : wholeR r = true) : r ≤ infR := by
  unfold wholeR at hw
  split at hw
  · omega
  · rw [beq_iff_eq] at hw; omega

theorem power_any (x y : Nat) (hy : y < 2 ^ 64) (w : World) : Calls Tryz.prog 64 #[.float .f64 x, .float .f64 y] w (PowOut (powV x y) w) := by
  have hT := fun w => trunc_any y hy w
  obtain ⟨neg, r, hr, rfl⟩ := word_split hy
  have hm := wd_mod neg hr
  have hA := fun w => abs_any neg r hr w
  by_cases hw : wholeR r = true
  · have hle := whole_le hw
    have hwB : wholeB (wd neg r) = true := by unfold wholeB; rw [hm]; exact hw
    have h1 := big_abs hle hw
    by_cases hb : bigR r = true
    · exact power_big x _ r w hT hA hwB (h1.trans hb) (big_pow x (by rw [hm]; exact hb))
    · rw [Bool.not_eq_true] at hb
      obtain ⟨hlt, hN⟩ := small_facts hb
      have hc : conv64 r (wholeN r) := by
        have := toInt_wd false hlt (by omega)
        rw [wd_false] at this
        exact this
      exact power_yes x _ r (wholeN r) (neg && decide (0 < wholeN r)) w hT hA hwB (h1.trans hb) hc hN (neg_test neg hlt hw) (powV_yes x neg hr hw hb)
  · rw [Bool.not_eq_true] at hw
    exact power_no x _ w hT (by unfold wholeB; rw [hm]; exact hw)

theorem rpower_any (x y : Nat) (hy : y < 2 ^ 64) (w : World) : Calls Tryz.prog 65 #[.float .f64 x, .float .f64 y] w (PowOut (powV x y) w) := by
  have hT := fun w => trunc_any y hy w
  obtain ⟨neg, r, hr, rfl⟩ := word_split hy
  have hm := wd_mod neg hr
  by_cases hw : wholeR r = true
  · have hle := whole_le hw
    have hwB : wholeB (wd neg r) = true := by unfold wholeB; rw [hm]; exact hw
    have h1 := big_pos neg hle hw
    have h2 := big_neg neg hle hw
    by_cases hb : bigR r = true
    · rw [hb, Bool.and_true] at h1 h2
      refine rpower_big x _ w hT hwB ?_ (big_pow x (by rw [hm]; exact hb))
      cases neg
      · exact .inl h1
      · exact .inr ⟨h1, h2⟩
    · rw [Bool.not_eq_true] at hb
      rw [hb, Bool.and_false] at h1 h2
      obtain ⟨hlt, hN⟩ := small_facts hb
      have hc : conv64 (wd neg r) (sgn neg (wholeN r)) := toInt_wd neg hlt (by omega)
      refine rpower_yes x _ (wholeN r) (sgn neg (wholeN r)) w hT hwB h1 h2 hc hN (by cases neg; exact .inl rfl; exact .inr rfl) ?_
      rw [powV_yes x neg hr hw hb]
      congr 1
      have : (neg && decide (0 < wholeN r)) = true ↔ sgn neg (wholeN r) < 0 := by
        unfold sgn
        cases neg
        · simp
        · simp
      by_cases h3 : sgn neg (wholeN r) < 0
      · rw [if_pos h3, if_pos (this.mpr h3)]
      · rw [if_neg h3, if_neg (fun h => h3 (this.mp h))]
  · rw [Bool.not_eq_true] at hw
    exact rpower_no x _ w hT (by unfold wholeB; rw [hm]; exact hw)
end Go.Proofs.YtpnfkipfjanmkaaGreatDoor
