/- DERIVED. WALKS: uscale. -/
import Derived.Test.YtpnfkipfjanmkaaGreatDoorHWd
import Derived.Test.YtpnfkipfjanmkaaGreatDoorHSm
import Derived.Deep.QuietTactic
import Derived.BigQuiet
set_option linter.unusedVariables false
set_option linter.unusedSimpArgs false
namespace Go.Proofs.YtpnfkipfjanmkaaGreatDoor
open Go.RowKit Flt

set_option maxHeartbeats 400000 in
theorem bool2u (b : Bool) (w : World) : Calls Tryz.prog 336 #[.bool b] w fun e w' => e = .returned (.int .u64 (if b then 1 else 0)) ∧ w' = w := by
  cases b
  all_goals
    go_enter Tryz.func336, Tryz.ntmps336
    go_wp2
    go_ret
    exact ⟨rfl, rfl⟩

set_option maxHeartbeats 400000 in
theorem uscale_a (x hi H M s : Nat) (lo : Int) (b : Nat) (w : World) (hx : x < 18446744073709551616) (hhi : hi < 18446744073709551616) (hs : s < 64) (hH : x * hi / 18446744073709551616 = H) (hM : x * hi % 18446744073709551616 = M)
    (c0 : w.cell? ⟨b, 0, none⟩ = some (.int .u64 hi)) (c1 : w.cell? ⟨b, 1, none⟩ = some (.int .u64 lo)) (c2 : w.cell? ⟨b, 2, none⟩ = some (.int .i64 s)) (hsm : bits .and .i64 (s : Int) 63 = s)
    (ht : (IntKind.u64.wrap ((H : Int) / 2 ^ s * 2 ^ s) != (H : Int)) = true) :
    Calls Tryz.prog 304 #[.int .u64 x, .pointer (some ⟨b, 0, none⟩)] w fun e w' => e = .returned (.int .u64 (bits .or .u64 ((H : Int) / 2 ^ s) 1)) ∧ ∃ n, w' = w.drewN n := by
  have h1 := fun w => Tryz.bits_Mul64 x hi hx hhi w
  rw [hH, hM] at h1
  clear hH hM hx hhi
  have H1 := Lib.hid h1
  clear h1
  go_enter Tryz.func304, Tryz.ntmps304
  go_wp2_with fail
  refine (H1.out _).mono ?_
  rintro e w' ⟨rfl, rfl⟩
  go_wp2_with fail
  go_ret
  exact ⟨rfl, 0, rfl⟩

set_option maxHeartbeats 400000 in
theorem uscale_b (x hi lo H M M2 L2 s : Nat) (D : Int) (b : Nat) (w : World) (hx : x < 18446744073709551616) (hhi : hi < 18446744073709551616) (hlo : lo < 18446744073709551616) (hs : s < 64) (hH : x * hi / 18446744073709551616 = H) (hM : x * hi % 18446744073709551616 = M)
    (hH2 : x * lo / 18446744073709551616 = M2) (hM2 : x * lo % 18446744073709551616 = L2)
    (c0 : w.cell? ⟨b, 0, none⟩ = some (.int .u64 hi)) (c1 : w.cell? ⟨b, 1, none⟩ = some (.int .u64 lo)) (c2 : w.cell? ⟨b, 2, none⟩ = some (.int .i64 s)) (hsm : bits .and .i64 (s : Int) 63 = s)
    (ht : (IntKind.u64.wrap ((H : Int) / 2 ^ s * 2 ^ s) != (H : Int)) = false) (hD : IntKind.u64.wrap ((M : Int) - M2) = D) (G : Int) (hG : IntKind.u64.wrap ((H : Int) - if M < M2 then 1 else 0) = G) :
    Calls Tryz.prog 304 #[.int .u64 x, .pointer (some ⟨b, 0, none⟩)] w fun e w' => e = .returned (.int .u64 (bits .or .u64 (G / 2 ^ s) (if 1 < D then 1 else 0))) ∧ ∃ n, w' = w.drewN n := by
  have h1 := fun w => Tryz.bits_Mul64 x hi hx hhi w
  rw [hH, hM] at h1
  have h2 := fun w => Tryz.bits_Mul64 x lo hx hlo w
  rw [hH2, hM2] at h2
  clear hH hM hx hhi hlo hH2 hM2
  have H1 := Lib.hid h1
  have H2 := Lib.hid h2
  clear h1 h2
  have HG := Lib.hid hG
  have HD := Lib.hid hD
  clear hG hD
  by_cases hm : M < M2
  all_goals
    have hG := HG.out
    simp only [hm, if_true, if_false, Int.sub_zero] at hG
    go_enter Tryz.func304, Tryz.ntmps304
    go_wp2_with fail
    refine (H1.out _).mono ?_
    rintro e w' ⟨rfl, rfl⟩
    go_wp2_with fail
    refine (H2.out _).mono ?_
    rintro e w1 ⟨rfl, rfl⟩
    go_wp2_with fail
    refine (bool2u _ _).mono ?_
    rintro e w1 ⟨rfl, rfl⟩
    go_wp2_with fail
    have hD := HD.out
    by_cases hd : 1 < D
    all_goals
      go_quiet ((go_at_call 336; exact Calls.quiet_of_same (bool2u _ _)))
      go_wp2_with fail
      go_ret
      exact ⟨rfl, _, rfl⟩

theorem wrap_u64_nat {a : Nat} (h : a < 18446744073709551616) : IntKind.u64.wrap (a : Int) = (a : Int) := by
  rw [IntKind.wrap_u64]; omega

theorem smask (s : Nat) (hs : s < 64) : bits .and .i64 (s : Int) 63 = s := by
  have : ∀ s : Nat, s < 64 → bits .and .i64 (s : Int) 63 = s := by decide +kernel
  exact this s hs

/-- 'uscale' by the plain function. -/
theorem uscale_any (x hi lo s : Nat) (b : Nat) (w : World) (hx : x < 18446744073709551616) (hhi : hi < 18446744073709551616) (hhi0 : 0 < x * hi / 18446744073709551616) (hlo : lo < 18446744073709551616) (hs : s < 64)
    (c0 : w.cell? ⟨b, 0, none⟩ = some (.int .u64 hi)) (c1 : w.cell? ⟨b, 1, none⟩ = some (.int .u64 lo)) (c2 : w.cell? ⟨b, 2, none⟩ = some (.int .i64 s)) :
    Calls Tryz.prog 304 #[.int .u64 x, .pointer (some ⟨b, 0, none⟩)] w fun e w' => e = .returned (.int .u64 (uscale x hi lo s : Nat)) ∧ ∃ n, w' = w.drewN n := by
  have p64 : (2 : Nat) ^ 64 = 18446744073709551616 := rfl
  have hmul : ∀ {a b : Nat}, a < 18446744073709551616 → b < 18446744073709551616 → a * b / 18446744073709551616 < 18446744073709551616 := by
    intro a b ha hb
    refine (Nat.div_lt_iff_lt_mul (by decide)).2 ?_
    exact Nat.mul_lt_mul'' ha hb
  unfold uscale
  simp only [p64]
  obtain ⟨H, hH⟩ : ∃ H, x * hi / 18446744073709551616 = H := ⟨_, rfl⟩
  obtain ⟨M, hM⟩ : ∃ M, x * hi % 18446744073709551616 = M := ⟨_, rfl⟩
  obtain ⟨M2, hM2⟩ : ∃ M, x * lo / 18446744073709551616 = M := ⟨_, rfl⟩
  have hHb : H < 18446744073709551616 := by rw [← hH]; exact hmul hx hhi
  have hM2b : M2 < 18446744073709551616 := by rw [← hM2]; exact hmul hx hlo
  have hMb : M < 18446744073709551616 := by rw [← hM]; exact Nat.mod_lt _ (by decide)
  rw [hH] at hhi0
  simp only [hH, hM, hM2]
  have hq : H / 2 ^ s ≤ H := Nat.div_le_self _ _
  have hq2 : H / 2 ^ s * 2 ^ s ≤ H := Nat.div_mul_le_self _ _
  have e1 : IntKind.u64.wrap ((H : Int) / 2 ^ s * 2 ^ s) = ((H / 2 ^ s * 2 ^ s : Nat) : Int) := by
    rw [← wrap_u64_nat (a := H / 2 ^ s * 2 ^ s) (by omega)]
    congr 1
  have e2 : ∀ (a b : Nat), a < 18446744073709551616 → b < 18446744073709551616 → Value.int .u64 (bits .or .u64 ((a : Int)) ((b : Int))) = .int .u64 ((a ||| b : Nat) : Int) := by
    intro a b ha hb; rw [bits_or_u64_nat a b ha hb]
  by_cases hne : H / 2 ^ s * 2 ^ s ≠ H
  · rw [if_pos hne]
    refine (uscale_a x hi H M s lo b w hx hhi hs hH hM c0 c1 c2 (smask s hs) ?_).mono ?_
    · rw [e1, bne_iff_ne]; intro h; exact hne (by omega)
    · rintro e w' ⟨rfl, hw⟩
      refine ⟨?_, hw⟩
      rw [← e2 _ 1 (by omega) (by omega)]
      simp
  · rw [if_neg hne]
    have hD : IntKind.u64.wrap ((M : Int) - M2) = (((M + 18446744073709551616 - M2) % 18446744073709551616 : Nat) : Int) := by
      rw [IntKind.wrap_u64]; omega
    have hG : IntKind.u64.wrap ((H : Int) - if M < M2 then 1 else 0) = ((if M < M2 then H - 1 else H : Nat) : Int) := by
      rw [IntKind.wrap_u64]; split <;> omega
    refine (uscale_b x hi lo H M M2 _ s _ b w hx hhi hlo hs hH hM hM2 rfl c0 c1 c2 (smask s hs) ?_ hD _ hG).mono ?_
    · rw [e1, bne_eq_false_iff_eq]; omega
    · rintro e w' ⟨rfl, hw⟩
      refine ⟨?_, hw⟩
      generalize (M + 18446744073709551616 - M2) % 18446744073709551616 = D
      have hG2 : (if M < M2 then H - 1 else H) < 18446744073709551616 := by split <;> omega
      generalize (if M < M2 then H - 1 else H) = G at *
      have hGq : G / 2 ^ s ≤ G := Nat.div_le_self _ _
      have e3 : (if (1 : Int) < (D : Int) then (1 : Int) else 0) = ((if 1 < D then 1 else 0 : Nat) : Int) := by split <;> split <;> omega
      rw [e3, ← e2 _ _ (by omega) (by split <;> omega)]
      simp

end Go.Proofs.YtpnfkipfjanmkaaGreatDoor
