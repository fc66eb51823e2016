/- DERIVED. PLAIN: the order of floats and of texts goes on. -/
import Derived.Test.YtpnfkipfjanmkaaGreatDoorHA9
import Derived.Sort.Walk0
set_option linter.unusedVariables false
set_option linter.unusedSimpArgs false
namespace Go.Proofs.YtpnfkipfjanmkaaGreatDoor
open Go.RowKit Flt Ieee

theorem signed_up (s : Bool) (m a b : Nat) : signed s m (a + b) = signed s m a * ((2 ^ b : Nat) : Int) := by
  unfold signed
  rw [Nat.shiftLeft_add, Nat.shiftLeft_eq, Nat.shiftLeft_eq m a]
  split
  · rw [Int.natCast_mul, Int.neg_mul]
  · rw [Int.natCast_mul]

theorem order_at (b : Int) (s t : Bool) (m n : Nat) (i j : Int) (h1 : b ≤ i) (h2 : b ≤ j) : Datum.order (.number s m i) (.number t n j) = some (compare (signed s m (i - b).toNat) (signed t n (j - b).toNat)) := by
  obtain ⟨k, hk⟩ : ∃ k : Nat, min i j = b + k := ⟨(min i j - b).toNat, by omega⟩
  have e1 : (i - b).toNat = (i - min i j).toNat + k := by omega
  have e2 : (j - b).toNat = (j - min i j).toNat + k := by omega
  rw [e1, e2, signed_up, signed_up, compare_mul _ _ _ (by have := Nat.two_pow_pos k; omega)]
  rfl

theorem cmp_gt_iff {a b : Int} : compare a b = .gt ↔ b < a := by
  simp only [compare, compareOfLessAndEq]
  split
  · constructor
    · intro h; cases h
    · intro h; omega
  · split
    · constructor
      · intro h; cases h
      · intro h; omega
    · constructor
      · intro _; omega
      · intro _; rfl

theorem datum_trans (a b c : Datum) (hb : Datum.order b b = some .eq) (h1 : Datum.order a b ≠ some .gt) (h2 : Datum.order b c ≠ some .gt) : Datum.order a c ≠ some .gt := by
  cases b with
  | nan s t => cases hb
  | infinity s =>
    cases a with
    | nan s t => intro h; cases h
    | infinity u =>
      cases c with
      | nan s t => intro h; cases h
      | infinity v => revert h1 h2; cases s <;> cases u <;> cases v <;> decide
      | number t n j => revert h1 h2; cases s <;> cases u <;> simp [Datum.order] <;> decide
    | number t n j =>
      cases c with
      | nan s t => intro h; cases h
      | infinity v => revert h1 h2; cases s <;> cases v <;> simp [Datum.order] <;> decide
      | number t' n' j' => revert h1 h2; cases s <;> simp [Datum.order]
  | number s m i =>
    cases a with
    | nan s t => intro h; cases h
    | infinity u =>
      cases c with
      | nan s t => intro h; cases h
      | infinity v => revert h1 h2; cases u <;> cases v <;> simp [Datum.order] <;> decide
      | number t n j => revert h1 h2; cases u <;> simp [Datum.order]
    | number t n j =>
      cases c with
      | nan s t => intro h; cases h
      | infinity v => revert h1 h2; cases v <;> simp [Datum.order]
      | number t' n' j' =>
        obtain ⟨z, hz1, hz2, hz3⟩ : ∃ z : Int, z ≤ i ∧ z ≤ j ∧ z ≤ j' := ⟨min i (min j j'), by omega, by omega, by omega⟩
        rw [order_at z _ _ _ _ _ _ hz2 hz1] at h1
        rw [order_at z _ _ _ _ _ _ hz1 hz3] at h2
        rw [order_at z _ _ _ _ _ _ hz2 hz3]
        intro h
        rw [ne_eq, Option.some.injEq, cmp_gt_iff] at h1 h2
        rw [Option.some.injEq, cmp_gt_iff] at h
        omega

theorem cmpF_le (x y : Nat) : cmpF x y ≤ 0 ↔ double.order x y ≠ some .gt := by
  unfold cmpF
  show (if double.order x y = some .lt then (-1 : Int) else if double.order x y = some .gt then 1 else 0) ≤ 0 ↔ _
  split
  · rename_i h; rw [h]; simp
  · split
    · rename_i h; rw [h]; simp
    · rename_i h; simp [h]

theorem cmpF_trans {x y z : Nat} (hy : double.order y y = some .eq) (h1 : cmpF x y ≤ 0) (h2 : cmpF y z ≤ 0) : cmpF x z ≤ 0 := by
  rw [cmpF_le] at *
  exact datum_trans _ _ _ hy h1 h2

theorem cmpI_le (a b : List UInt8) : cmpI a b ≤ 0 ↔ ¬ b < a := by
  unfold cmpI
  rw [Go.Proofs.bytesLess_eq]
  by_cases h : a < b
  · rw [if_pos (decide_eq_true h)]
    constructor
    · intro _ h2; exact List.lt_irrefl _ (List.lt_trans h h2)
    · intro _; omega
  · rw [if_neg (by rw [decide_eq_true_eq]; exact h)]
    by_cases e : a = b
    · subst e; simp [h]
    · rw [if_pos (by simp [e])]
      constructor
      · intro h2; omega
      · intro h2
        exact absurd (List.le_antisymm h2 h) e

theorem cmpI_trans {a b c : List UInt8} (h1 : cmpI a b ≤ 0) (h2 : cmpI b c ≤ 0) : cmpI a c ≤ 0 := by
  rw [cmpI_le] at *
  exact List.le_trans (l₁ := a) h1 h2
end Go.Proofs.YtpnfkipfjanmkaaGreatDoor
