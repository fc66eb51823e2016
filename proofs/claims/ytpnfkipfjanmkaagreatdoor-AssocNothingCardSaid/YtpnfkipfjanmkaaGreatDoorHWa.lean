/- DERIVED. WALKS: atof64. -/
import Derived.Test.YtpnfkipfjanmkaaGreatDoorHWq
import Derived.Test.YtpnfkipfjanmkaaGreatDoorHWr
import Derived.Test.YtpnfkipfjanmkaaGreatDoorHWs
import Derived.Test.YtpnfkipfjanmkaaGreatDoorHA1
set_option linter.unusedVariables false
set_option linter.unusedSimpArgs false
namespace Go.Proofs.YtpnfkipfjanmkaaGreatDoor
open Go.RowKit Flt

/-- ParseFloat's own errors: none, or 'out of range'. -/
def FErr (v : Value) : Prop := v = .nilIface ∨ v = .iface 283 (.int .i64 1)
theorem FErr.ofInf (r : Nat) : FErr (errInf r) := by
  unfold errInf; split
  · exact .inr rfl
  · exact .inl rfl

theorem read_infR : Ieee.double.read infR = .infinity false := by
  have := read_wd false infR_lt_S63
  rw [wd_false, if_neg (Nat.lt_irrefl _), if_pos rfl] at this
  exact this

/-- '==' on two rungs up to infinity -/
theorem order_rungs {r q : Nat} (hr : r ≤ infR) (hq : q ≤ infR) : ∃ o, FloatKind.f64.format.order r q = some o ∧ (o = .eq ↔ r = q) := by
  rcases Nat.lt_or_ge r infR with h1 | h1
  · rcases Nat.lt_or_ge q infR with h2 | h2
    · have := order_wd false false h1 h2
      rw [wd_false, wd_false] at this
      refine ⟨_, this, ?_⟩
      simp only [sgn, Bool.false_eq_true, if_false, compare, compareOfLessAndEq]
      rcases Nat.lt_trichotomy r q with h | h | h
      · have := val_lt h
        rw [if_pos (by omega)]
        exact ⟨fun e => by (cases e), fun e => by omega⟩
      · subst h
        rw [if_neg (by omega), if_pos rfl]
        exact ⟨fun _ => rfl, fun _ => rfl⟩
      · have := val_lt h
        rw [if_neg (by omega), if_neg (by omega)]
        exact ⟨fun e => by (cases e), fun e => by omega⟩
    · have hqe : q = infR := by omega
      subst hqe
      refine ⟨.lt, ?_, fun e => by (cases e), fun e => by omega⟩
      have hi := infR_lt_S63
      have := read_wd false (r := r) (by omega)
      rw [wd_false, if_pos h1] at this
      show (Ieee.double.read r).order (Ieee.double.read infR) = _
      rw [this, read_infR]; rfl
  · have hre : r = infR := by omega
    subst hre
    rcases Nat.lt_or_ge q infR with h2 | h2
    · refine ⟨.gt, ?_, fun e => by (cases e), fun e => by omega⟩
      have hi := infR_lt_S63
      have := read_wd false (r := q) (by omega)
      rw [wd_false, if_pos h2] at this
      show (Ieee.double.read infR).order (Ieee.double.read q) = _
      rw [this, read_infR]; rfl
    · have hqe : q = infR := by omega
      subst hqe
      refine ⟨.eq, ?_, fun _ => rfl, fun _ => rfl⟩
      show (Ieee.double.read infR).order (Ieee.double.read infR) = _
      rw [read_infR]; rfl

theorem p64_any {N : Nat} (d : Nat) (p : Int) (w : World) (hd0 : 0 < d) (hd : d < 18446744073709551616) (h1 : -345 ≤ p) (h2 : p ≤ 310) (hT : Tabs N w) :
    Calls Tryz.prog 339 #[.int .u64 d, .int .i64 p, .int .u64 0] w fun e w' => e = .returned (.tuple #[.float .f64 (rn (UN d p) (UD p)), errInf (rn (UN d p) (UD p))]) ∧ Below w.heap.size w w' := by
  have h := parseFloat64_any d 0 p w hd0 hd h1 h2 (by omega) hT
  rw [← (parse64_isRn hd0 hd h1 h2).eq_rn (UD_pos p), Nat.zero_mul, Nat.zero_add] at *
  exact h

section
variable (s : ByteArray) (w : World) (M : Nat) (P : Int) (TR : Bool)
  (h1 : ∀ w, Calls Tryz.prog 327 #[.string s] w fun e w' => e = .returned (.tuple #[.float .f64 0, .int .i64 0, .bool false]) ∧ w' = w)
  (h2 : ∀ w, Calls Tryz.prog 328 #[.string s] w fun e w' => e = .returned (.tuple #[.int .u64 M, .int .i64 P, .bool false, .bool TR, .bool false, .int .i64 s.size, .bool true]) ∧ w' = w)
  (hopt : w.cell? ⟨3, 0, none⟩ = some (.bool true))
include h1 h2 hopt

set_option maxHeartbeats 800000 in
theorem atof_zero (hM : M = 0) : Calls Tryz.prog 295 #[.string s] w fun e w' => e = .returned (.tuple #[.float .f64 0, .int .i64 s.size, .nilIface]) ∧ w' = w := by
  subst hM
  have hb : bits .or .u64 0 0 = 0 := by decide +kernel
  have H1 := Lib.hid h1
  have H2 := Lib.hid h2
  clear h1 h2
  have hf := bits64_run
  go_enter Tryz.func295, Tryz.ntmps295
  go_wp2_with fail
  refine (H1.out _).mono ?_
  rintro e w1 ⟨rfl, rfl⟩
  go_wp2_with fail
  refine (H2.out _).mono ?_
  rintro e w1 ⟨rfl, rfl⟩
  go_wp2_with fail
  refine (bool2u _ _).mono ?_
  rintro e w1 ⟨rfl, rfl⟩
  go_wp2_with fail
  go_ret3
  exact ⟨rfl, rfl⟩

set_option maxHeartbeats 800000 in
theorem atof_inf (hM : ((M : Int) == 0) = false) (hP : 310 < P) : Calls Tryz.prog 295 #[.string s] w fun e w' => e = .returned (.tuple #[.float .f64 infR, .int .i64 s.size, .iface 283 (.int .i64 1)]) ∧ w' = w := by
  have hb : bits .or .u64 0 9218868437227405312 = 9218868437227405312 := by decide +kernel
  have H1 := Lib.hid h1
  have H2 := Lib.hid h2
  clear h1 h2
  have hf := bits64_run
  go_enter Tryz.func295, Tryz.ntmps295
  go_wp2_with fail
  refine (H1.out _).mono ?_
  rintro e w1 ⟨rfl, rfl⟩
  go_wp2_with fail
  refine (H2.out _).mono ?_
  rintro e w1 ⟨rfl, rfl⟩
  go_wp2_with fail
  refine (bool2u _ _).mono ?_
  rintro e w1 ⟨rfl, rfl⟩
  go_wp2_with fail
  go_ret3
  exact ⟨rfl, rfl⟩

set_option maxHeartbeats 800000 in
theorem atof_small (hM : ((M : Int) == 0) = false) (hP : P < -345) : Calls Tryz.prog 295 #[.string s] w fun e w' => e = .returned (.tuple #[.float .f64 0, .int .i64 s.size, .nilIface]) ∧ w' = w := by
  have hb : bits .or .u64 0 0 = 0 := by decide +kernel
  have H1 := Lib.hid h1
  have H2 := Lib.hid h2
  clear h1 h2
  have hf := bits64_run
  go_enter Tryz.func295, Tryz.ntmps295
  go_wp2_with fail
  refine (H1.out _).mono ?_
  rintro e w1 ⟨rfl, rfl⟩
  go_wp2_with fail
  refine (H2.out _).mono ?_
  rintro e w1 ⟨rfl, rfl⟩
  go_wp2_with fail
  refine (bool2u _ _).mono ?_
  rintro e w1 ⟨rfl, rfl⟩
  go_wp2_with fail
  go_ret3
  exact ⟨rfl, rfl⟩

set_option maxHeartbeats 1600000 in
theorem atof_plain {N : Nat} (hT : Tabs N w) (hM : 0 < M) (hMb : M < 18446744073709551616) (hP1 : P ≤ 310) (hP2 : -345 ≤ P) (hTR : TR = false) :
    Calls Tryz.prog 295 #[.string s] w fun e w' => ∃ err, FErr err ∧ e = .returned (.tuple #[.float .f64 (rn (UN M P) (UD P)), .int .i64 s.size, err]) ∧ Below w.heap.size w w' := by
  subst hTR
  have hM0 : ((M : Int) == 0) = false := by rw [beq_eq_false_iff_ne]; omega
  have hT' := Lib.hid hT
  obtain ⟨R, hR⟩ : ∃ R, rn (UN M P) (UD P) = R := ⟨_, rfl⟩
  have h3 := fun w (hT : Tabs N w) => exact_any M P w hT hM hMb
  have h4 := fun w (hT : Tabs N w) => p64_any M P w hM hMb hP2 hP1 hT
  rw [hR] at h3 h4 ⊢
  have H3 := Lib.hid h3
  have H4 := Lib.hid h4
  clear hR h3 h4
  have H1 := Lib.hid h1
  have H2 := Lib.hid h2
  clear h1 h2
  have hf := bits64_run
  go_enter Tryz.func295, Tryz.ntmps295
  go_wp2_with fail
  refine (H1.out _).mono ?_
  rintro e w1 ⟨rfl, rfl⟩
  go_wp2_with fail
  refine (H2.out _).mono ?_
  rintro e w1 ⟨rfl, rfl⟩
  go_wp2_with fail
  refine (bool2u _ _).mono ?_
  rintro e w1 ⟨rfl, rfl⟩
  go_wp2_with fail
  refine (H3.out _ hT).mono ?_
  rintro e w2 ⟨f, ok, rfl, rfl, hok⟩
  cases ok
  · clear hok
    go_wp2_with fail
    refine (H4.out _ hT).mono ?_
    rintro e w3 ⟨rfl, hb⟩
    go_wp2_with fail
    go_ret3
    exact ⟨_, FErr.ofInf R, rfl, hb⟩
  · have hfr := hok rfl
    clear hok
    subst hfr
    go_wp2_with fail
    go_ret3
    exact ⟨_, .inl rfl, rfl, Below.refl _ _⟩

set_option maxHeartbeats 1600000 in
theorem atof_same {N : Nat} (hT : Tabs N w) (hM : 0 < M) (hMb : M < 18446744073709551615) (hP1 : P ≤ 310) (hP2 : -345 ≤ P) (hTR : TR = true) (R : Nat) (hR1 : rn (UN M P) (UD P) = R) (hR2 : rn (UN (M + 1) P) (UD P) = R) :
    Calls Tryz.prog 295 #[.string s] w fun e w' => ∃ err, FErr err ∧ e = .returned (.tuple #[.float .f64 R, .int .i64 s.size, err]) ∧ Below w.heap.size w w' := by
  subst hTR
  have hM0 : ((M : Int) == 0) = false := by rw [beq_eq_false_iff_ne]; omega
  have h4 := fun w (hT : Tabs N w) => p64_any M P w hM (by omega) hP2 hP1 hT
  have h5 := fun w (hT : Tabs N w) => p64_any (M + 1) P w (by omega) (by omega) hP2 hP1 hT
  rw [hR1] at h4
  rw [hR2] at h5
  simp only [Int.natCast_add, Int.natCast_one] at h5
  obtain ⟨o, ho, ho'⟩ := order_rungs (r := R) (q := R) (by rw [← hR1]; exact rn_le_infR (UD_pos _)) (by rw [← hR1]; exact rn_le_infR (UD_pos _))
  rw [ho'.2 rfl] at ho
  clear hR1 hR2 ho'
  have H4 := Lib.hid h4
  have H5 := Lib.hid h5
  have HT := Lib.hid hT
  clear h4 h5
  have H1 := Lib.hid h1
  have H2 := Lib.hid h2
  clear h1 h2
  have hf := bits64_run
  go_enter Tryz.func295, Tryz.ntmps295
  go_wp2_with fail
  refine (H1.out _).mono ?_
  rintro e w1 ⟨rfl, rfl⟩
  go_wp2_with fail
  refine (H2.out _).mono ?_
  rintro e w1 ⟨rfl, rfl⟩
  go_wp2_with fail
  refine (bool2u _ _).mono ?_
  rintro e w1 ⟨rfl, rfl⟩
  go_wp2_with fail
  refine (H4.out _ hT).mono ?_
  rintro e w2 ⟨rfl, hb⟩
  go_wp2_with fail
  refine (H5.out _ (hT.below hb hT.size)).mono ?_
  rintro e w3 ⟨rfl, hb2⟩
  go_wp2_with fail
  go_ret3
  exact ⟨_, FErr.ofInf R, rfl, hb.trans (hb2.mono hb.size)⟩
end
end Go.Proofs.YtpnfkipfjanmkaaGreatDoor
