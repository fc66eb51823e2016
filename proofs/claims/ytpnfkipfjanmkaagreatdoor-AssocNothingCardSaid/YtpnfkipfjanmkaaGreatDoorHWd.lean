/- DERIVED. THE WORDS OF THIS SEAT's WALKS: what the library's tables hold, kept over new blocks and draws. -/
import Derived.Test.YtpnfkipfjanmkaaGreatDoorProg
import Derived.Test.YtpnfkipfjanmkaaGreatDoorHA0
import Derived.WalkKit
import Derived.WalkSpells
import Derived.WalkLawsBesides
import Derived.Lib.Hide
set_option linter.unusedVariables false
set_option linter.unusedSimpArgs false
namespace Go.Proofs.YtpnfkipfjanmkaaGreatDoor
open Go.RowKit Flt

theorem int_eq {k : IntKind} {a b : Int} (h : a = b) : Value.int k a = .int k b := by rw [h]
theorem bool_eq {a b : Bool} (h : a = b) : Value.bool a = .bool b := by rw [h]
theorem Below.drewN' {B : Nat} {a w : World} (h : Below B a w) (n : Nat) : Below B a (w.drewN n) := ⟨h.os, h.tape, h.output, h.size, h.block⟩

/-- The powers of two that bring a number with so many figures below a half. -/
def powtab : List Nat := [1, 3, 6, 9, 13, 16, 19, 23, 26]

/-- A slice in the blocks below N that holds these cells. -/
def TabSl (N : Nat) (w : World) (g : Nat) (n : Nat) (cell : Nat → Value) : Prop :=
  ∃ b off, w.cell? ⟨g, 0, none⟩ = some (.slice (some ⟨b, off, none⟩) n n) ∧ b < N ∧ ∀ i, i < n → w.cell? ⟨b, off + i, none⟩ = some (cell i)

theorem TabSl.below {N B g n : Nat} {cell : Nat → Value} {w w' : World} (h : TabSl N w g n cell) (hb : Below B w w') (hB : N ≤ B) (hg : g < N) : TabSl N w' g n cell := by
  obtain ⟨b, off, h1, h2, h3⟩ := h
  exact ⟨b, off, by rw [hb.cell (by show g < B; omega)]; exact h1, h2, fun i hi => by rw [hb.cell (by show b < B; omega)]; exact h3 i hi⟩

/-- What the package-level variables hold that the walks read; all of it below block N. -/
structure Tabs (N : Nat) (w : World) : Prop where
  n18 : 18 ≤ N
  size : N ≤ w.heap.size
  opt : w.cell? ⟨3, 0, none⟩ = some (.bool true)
  mant : w.cell? ⟨10, 0, none⟩ = some (.int .u64 52)
  expb : w.cell? ⟨10, 1, none⟩ = some (.int .u64 11)
  bias : w.cell? ⟨10, 2, none⟩ = some (.int .i64 (-1023))
  hi : ∀ i, i < 696 → w.cell? ⟨13, 2 * i, none⟩ = some (.int .u64 (phi ((i : Int) - 348)))
  lo : ∀ i, i < 696 → w.cell? ⟨13, 2 * i + 1, none⟩ = some (.int .u64 (plo ((i : Int) - 348)))
  ten : ∀ i, i < 20 → w.cell? ⟨2, i, none⟩ = some (.int .u64 ((10 ^ i : Nat) : Int))
  ften : TabSl N w 17 23 fun i => .float .f64 (rn (10 ^ i * one) 1)
  ptab : TabSl N w 16 9 fun i => .int .i64 (powtab.getD i 0 : Nat)

theorem Tabs.below {N B : Nat} {w w' : World} (h : Tabs N w) (hb : Below B w w') (hB : N ≤ B) : Tabs N w' := by
  have h18 := h.n18
  exact {
    n18 := h18
    size := Nat.le_trans h.size hb.size
    opt := by rw [hb.cell (by show 3 < B; omega)]; exact h.opt
    mant := by rw [hb.cell (by show 10 < B; omega)]; exact h.mant
    expb := by rw [hb.cell (by show 10 < B; omega)]; exact h.expb
    bias := by rw [hb.cell (by show 10 < B; omega)]; exact h.bias
    hi := fun i hi => by rw [hb.cell (by show 13 < B; omega)]; exact h.hi i hi
    lo := fun i hi => by rw [hb.cell (by show 13 < B; omega)]; exact h.lo i hi
    ten := fun i hi => by rw [hb.cell (by show 2 < B; omega)]; exact h.ten i hi
    ften := h.ften.below hb hB (by omega)
    ptab := h.ptab.below hb hB (by omega) }

end Go.Proofs.YtpnfkipfjanmkaaGreatDoor
