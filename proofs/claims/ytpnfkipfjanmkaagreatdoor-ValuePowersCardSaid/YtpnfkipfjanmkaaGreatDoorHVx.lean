/- DERIVED. WALKS: math.Float64bits, Float64frombits, Abs, Trunc; tedderlaw08.bits; a product or a quotient that is no number. -/
import Derived.Test.YtpnfkipfjanmkaaGreatDoorHWq
import Derived.Test.YtpnfkipfjanmkaaGreatDoorHVw
import Derived.Test.YtpnfkipfjanmkaaGreatDoorHA1
set_option linter.unusedVariables false
set_option linter.unusedSimpArgs false
namespace Go.Proofs.YtpnfkipfjanmkaaGreatDoor
open Go.RowKit Flt

theorem frombits_run (n : Int) (w : World) : (callFunc 54 #[.int .u64 n]).run Tryz.prog w = .ok (.value (.float .f64 n.toNat)) w := by
  rw [run_callFunc_extern (e := Extern.MathFloatBits.float64frombits) Tryz.func54 (by kernel_rfl) (by kernel_rfl) (by kernel_rfl) (by kernel_rfl)]
  rfl
theorem f64bits_run (b : Nat) (w : World) : (callFunc 59 #[.float .f64 b]).run Tryz.prog w = .ok (.value (.int .u64 b)) w := by
  rw [run_callFunc_extern (e := Extern.MathFloatBits.float64bits) Tryz.func59 (by kernel_rfl) (by kernel_rfl) (by kernel_rfl) (by kernel_rfl)]
  rfl

theorem abs_bits (neg : Bool) {r : Nat} (h : r < S63) : bits .andNot .u64 ((wd neg r : Nat) : Int) 9223372036854775808 = (r : Int) := by
  have hs : S63 = 9223372036854775808 := rfl
  have hw : wd neg r < 18446744073709551616 := by unfold wd; split <;> omega
  rw [show (9223372036854775808 : Int) = ((9223372036854775808 : Nat) : Int) from rfl, u64_andNot_nat _ _ hw (by omega)]
  have h1 : 18446744073709551615 - 9223372036854775808 = 2 ^ 63 - 1 := by decide
  rw [h1, Nat.and_two_pow_sub_one_eq_mod]
  congr 1
  unfold wd
  split
  · rw [hs, show (2 : Nat) ^ 63 = 9223372036854775808 from by decide]; omega
  · rw [show (2 : Nat) ^ 63 = 9223372036854775808 from by decide]; omega

set_option maxHeartbeats 800000 in
theorem abs_any (neg : Bool) (r : Nat) (h : r < S63) (w : World) : Calls Tryz.prog 42 #[.float .f64 (wd neg r)] w fun e w' => e = .returned (.float .f64 r) ∧ w' = w := by
  have ha := abs_bits neg h
  generalize wd neg r = y at *
  have h1 := f64bits_run
  have h2 := frombits_run
  clear h
  go_enter Tryz.func42, Tryz.ntmps42
  go_wp2
  go_ret
  exact ⟨rfl, rfl⟩

/-- is the number whole? -/
def wholeB (y : Nat) : Bool := wholeR (y % S63)
theorem wd_mod (neg : Bool) {r : Nat} (h : r < S63) : wd neg r % S63 = r := by
  have hs : S63 = 9223372036854775808 := rfl
  unfold wd
  split
  · rw [Nat.add_mod_left, Nat.mod_eq_of_lt h]
  · exact Nat.mod_eq_of_lt h

/-- what archTrunc answers, by the class of its argument -/
def truncD (x : Nat) (d : Ieee.Datum) : Sem Value :=
  match d with
  | .nan s t =>
    if FloatKind.f64.format.quiet t = t then pure (.float .f64 x) else do
      let kept ← choose (.extern "math.Floor,Ceil,Trunc,RoundToEven.signallingNaN kept" 2)
      pure (.float .f64 (if kept == 1 then x else FloatKind.f64.encode (.nan s (FloatKind.f64.format.quiet t))))
  | d => pure (.float .f64 (FloatKind.f64.encode (d.integral .zero)))
theorem truncD_eq (x : Nat) : Extern.MathFloor.toIntegral "math.archTrunc" .zero #[.float .f64 x] = truncD x (FloatKind.f64.decode x) := rfl
theorem truncD_nan (x : Nat) (s : Bool) (t : Nat) (w : World) : ∃ b k, (truncD x (.nan s t)).run Tryz.prog w = .ok (.float .f64 b) (w.drewN k) := by
  have h0 : truncD x (.nan s t) = if FloatKind.f64.format.quiet t = t then pure (.float .f64 x) else (choose (.extern "math.Floor,Ceil,Trunc,RoundToEven.signallingNaN kept" 2) >>= fun kept => pure (.float .f64 (if kept == 1 then x else FloatKind.f64.encode (.nan s (FloatKind.f64.format.quiet t))))) := rfl
  rw [h0]
  by_cases h : FloatKind.f64.format.quiet t = t
  · rw [if_pos h]; exact ⟨x, 0, rfl⟩
  · rw [if_neg h, Sem.run_bind, run_choose_drew]
    split
    · exact ⟨_, 0, rfl⟩
    · exact ⟨_, 1, rfl⟩
theorem truncD_num (x : Nat) (d : Ieee.Datum) (h : ∀ s t, d ≠ .nan s t) (w : World) : (truncD x d).run Tryz.prog w = .ok (.float .f64 (FloatKind.f64.encode (d.integral .zero))) w := by
  cases d with
  | nan s t => exact absurd rfl (h s t)
  | infinity s => rfl
  | number s m i => rfl

/-- math.archTrunc: what the comparison with the argument says is fixed; the world moves on by a draw at most. -/
theorem trunc_run (y : Nat) (hy : y < 2 ^ 64) (w : World) : ∃ b k, (callFunc 87 #[.float .f64 y]).run Tryz.prog w = .ok (.value (.float .f64 b)) (w.drewN k) ∧ (FloatKind.f64.format.order y b == some .eq) = wholeB y := by
  rw [run_callFunc_extern (e := Extern.MathFloor.toIntegral "math.archTrunc" .zero) Tryz.func87 (by kernel_rfl) (by kernel_rfl) (by kernel_rfl) (by kernel_rfl)]
  rw [truncD_eq]
  obtain ⟨neg, r, hr, rfl⟩ := word_split hy
  rcases Nat.lt_or_ge infR r with h1 | h1
  · have h2 : wholeB (wd neg r) = false := by
      unfold wholeB wholeR
      rw [wd_mod neg hr, if_neg (by omega)]
      rw [beq_eq_false_iff_ne]; omega
    have h3 : FloatKind.f64.decode (wd neg r) = .nan neg (r - infR) := by
      show Ieee.double.read _ = _
      rw [read_wd neg hr, if_neg (by omega), if_neg (by omega)]
    rw [h2, h3]
    have hn : ∀ b, (FloatKind.f64.format.order (wd neg r) b == some .eq) = false := fun b => by
      have := (order_nan neg h1 hr b).1
      show (Ieee.double.order _ _ == _) = _
      rw [this]; rfl
    obtain ⟨b, k, h⟩ := truncD_nan (wd neg r) neg (r - infR) w
    refine ⟨b, k, ?_, hn b⟩
    simp [h]
  · have h2 : wholeB (wd neg r) = wholeR r := by unfold wholeB; rw [wd_mod neg hr]
    have h3 := order_trunc neg h1
    refine ⟨truncW (wd neg r), 0, ?_, ?_⟩
    · have h4 : ∀ s t, FloatKind.f64.decode (wd neg r) ≠ .nan s t := by
        intro s t
        show Ieee.double.read _ ≠ _
        rw [read_wd neg hr]
        split
        · intro h; cases h
        · rw [if_pos (by omega)]; intro h; cases h
      have h5 := truncD_num (wd neg r) _ h4 w
      simp [h5]
      exact ⟨rfl, rfl⟩
    · rw [h2, ← h3]; rfl

def TruncB (y b : Nat) (w w1 : World) : Prop := (FloatKind.f64.format.order y b == some .eq) = wholeB y ∧ Below w.heap.size w w1
def TruncOut (y : Nat) (w : World) (e : Ending) (w' : World) : Prop := ∃ b, e = .returned (.float .f64 b) ∧ TruncB y b w w'
set_option maxHeartbeats 800000 in
theorem trunc_walk (y b : Nat) (w w1 : World) (Q : Ending → World → Prop) (h : (callFunc 87 #[.float .f64 y]).run Tryz.prog w = .ok (.value (.float .f64 b)) w1) (HQ : Hid (Q (.returned (.float .f64 b)) w1)) : Calls Tryz.prog 41 #[.float .f64 y] w Q := by
  go_enter Tryz.func41, Tryz.ntmps41
  iterate 9 go_step
  refine wp_cond_true rfl ?_
  go_wp2
  exact HQ.out
theorem trunc_any (y : Nat) (hy : y < 2 ^ 64) (w : World) : Calls Tryz.prog 41 #[.float .f64 y] w (TruncOut y w) := by
  obtain ⟨b, k, h, hb⟩ := trunc_run y hy w
  exact trunc_walk y b w _ _ h (Lib.hid ⟨b, rfl, hb, Below.drewN' (Below.refl _ _) k⟩)
end Go.Proofs.YtpnfkipfjanmkaaGreatDoor
