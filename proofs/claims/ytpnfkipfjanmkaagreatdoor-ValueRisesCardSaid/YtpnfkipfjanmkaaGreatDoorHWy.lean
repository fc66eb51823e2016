/- DERIVED. WALK: tedderlaw08.fit at three values. -/
import Derived.Test.YtpnfkipfjanmkaaGreatDoorHWx
import Derived.Test.YtpnfkipfjanmkaaGreatDoorHA9
set_option linter.unusedVariables false
set_option linter.unusedSimpArgs false
namespace Go.Proofs.YtpnfkipfjanmkaaGreatDoor
open Go.RowKit Flt

/-- the three values, as cells -/
def VCells (K S : Nat → ByteArray) (X : Nat → Nat) (p : Nat) (w : World) : Prop :=
  ∀ i, i < 3 → w.cell? ⟨p, i * 3, none⟩ = some (.string (K i)) ∧ w.cell? ⟨p, i * 3 + 1, none⟩ = some (.float .f64 (X i)) ∧ w.cell? ⟨p, i * 3 + 2, none⟩ = some (.string (S i))
theorem VCells.below {K S : Nat → ByteArray} {X : Nat → Nat} {p : Nat} {w w' : World} (h : VCells K S X p w) (hb : Below w.heap.size w w') (hp : p < w.heap.size) : VCells K S X p w' := fun i hi =>
  let ⟨a, b, c⟩ := h i hi
  ⟨(hb.cell hp).trans a, (hb.cell hp).trans b, (hb.cell hp).trans c⟩
def fit1 (K S : Nat → ByteArray) (i : Nat) : Bool := decide ((S i).size ≤ 600) && decide ((K i).size ≤ 20)
def fitU (K S : Nat → ByteArray) (i : Nat) : Prop := ∀ j, j < i → fit1 K S j = true
def fit3 (K S : Nat → ByteArray) : Bool := fit1 K S 0 && fit1 K S 1 && fit1 K S 2

set_option maxHeartbeats 1600000 in
theorem fit_any (K S : Nat → ByteArray) (X : Nat → Nat) (p : Nat) (w : World) (hp : p < w.heap.size) (h : VCells K S X p w) :
    Calls Tryz.prog 61 #[.slice (some ⟨p, 0, none⟩) 3 3] w (BoolOut (fit3 K S) w) := by
  have HR := Lib.hid h
  clear h
  go_enter Tryz.func61, Tryz.ntmps61
  go_wp2_with fail
  go_loopw [7] (fun iv wr => ∃ i : Nat, i ≤ 3 ∧ iv = .int .i64 i ∧ fitU K S i ∧ Below w.heap.size w wr) (fun iv _ => 3 - (intOf iv).toNat)
  case atStart => exact ⟨0, by omega, rfl, fun j hj => by omega, Below.refl _ _⟩
  case round =>
    obtain ⟨i, hi, rfl, hf, hbw⟩ := hrel
    have HF := Lib.hid hf
    have HBW := Lib.hid hbw
    clear hf hbw
    by_cases hlt : i < 3
    · obtain ⟨c0, c1, c2⟩ := HR.out.below HBW.out hp i hlt
      have hba := Lib.hid (HBW.out.alloc HBW.out.size (Obj.cells #[Value.string (K i), Value.float FloatKind.f64 (X i), Value.string (S i)] 24))
      have hno : fit1 K S i = false → fit3 K S = false := fun hh => by
        unfold fit3
        rcases (show i = 0 ∨ i = 1 ∨ i = 2 by omega) with rfl | rfl | rfl <;> rw [hh] <;> simp
      have HNO := Lib.hid hno
      clear hno
      by_cases h6 : (S i).size ≤ 600
      · by_cases h2 : (K i).size ≤ 20
        · go_wp2_with fail
          refine ⟨⟨i + 1, by omega, int_eq (by omega), fun j hj => ?_, hba.out⟩, by simp [intOf]; omega⟩
          rcases Nat.lt_or_eq_of_le (Nat.le_of_lt_succ hj) with h | h
          · exact HF.out j h
          · rw [h]; unfold fit1; simp [h6, h2]
        · have hn := Lib.hid (HNO.out (by unfold fit1; simp [h2]))
          go_wp2_with fail
          go_ret
          exact ⟨by rw [hn.out]; rfl, hba.out⟩
      · have hn := Lib.hid (HNO.out (by unfold fit1; simp [h6]))
        go_wp2_with fail
        go_ret
        exact ⟨by rw [hn.out]; rfl, hba.out⟩
    · have hi3 : i = 3 := by omega
      subst hi3
      have hn : Hid (fit3 K S = true) := by
        show fit3 K S = true
        unfold fit3
        rw [HF.out 0 (by omega), HF.out 1 (by omega), HF.out 2 (by omega)]; rfl
      go_wp2_with fail
      go_ret
      exact ⟨by rw [hn.out]; rfl, HBW.out⟩
end Go.Proofs.YtpnfkipfjanmkaaGreatDoor
