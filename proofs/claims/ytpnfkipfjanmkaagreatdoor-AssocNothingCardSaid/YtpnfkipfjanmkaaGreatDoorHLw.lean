/- DERIVED. A law of the walk: a scope whose labels are jumped to forward. -/
import Derived.ScopeJumps
import Derived.WalkKit
import Derived.Lib.Hide
set_option linter.unusedVariables false
set_option linter.unusedSimpArgs false
namespace Go.Proofs.YtpnfkipfjanmkaaGreatDoor
open Go

/-- As Q; by a goto: J at its label. -/
def fwd (J : Nat → Act → World → Prop) (Q : Exit → Act → World → Prop) : Exit → Act → World → Prop
  | .goto l, a, w => J l a w
  | e, a, w => Q e a w

theorem wp_scope_fwd {P : Program} {a : Act} {w : World} {Q : Exit → Act → World → Prop} {c : Code} (rest : Nat → Code) (J : Nat → Act → World → Prop) (rank : Nat → Nat)
    (hf : ∀ l a w, J l a w → findLabel c l = some (rest l))
    (first : c.wp P (fwd J Q) a w)
    (pass : ∀ l a w, J l a w → (rest l).wp P (fwd (fun l' a' w' => J l' a' w' ∧ rank l' < rank l) Q) a w) : (Code.scope c).wp P Q a w := by
  intro b k cs
  have key : ∀ n l a w, rank l = n → J l a w → ∃ e a' w', Q e a' w' ∧ Arrives P (lone (b.at a (.code (rest l) :: .inScope c :: k)) cs w) b k cs e a' w' := by
    intro n
    induction n using Nat.strongRecOn with
    | _ n ih =>
      intro l a w hn hJ
      obtain ⟨e, a₁, w₁, hq, harr⟩ := pass l a w hJ b (.inScope c :: k) cs
      cases e with
      | normal => exact ⟨.normal, a₁, w₁, hq, Steps.trans harr (.one step_inScope)⟩
      | exit id => exact ⟨.exit id, a₁, w₁, hq, fun k' hk => harr k' (by simp [exitTo, hk])⟩
      | goto l' =>
        obtain ⟨hJ', hlt⟩ := hq
        obtain ⟨e₂, a₂, w₂, hq₂, harr₂⟩ := ih _ (by omega) l' a₁ w₁ rfl hJ'
        exact ⟨e₂, a₂, w₂, hq₂, .of_steps (harr _ (by simp [gotoIn, hf _ _ _ hJ'])) harr₂⟩
      | ret => exact ⟨_, a₁, w₁, hq, harr⟩
      | panic ch => exact ⟨_, a₁, w₁, hq, harr⟩
      | outgrown => exact ⟨_, a₁, w₁, hq, harr⟩
  obtain ⟨e, a₁, w₁, hq, harr⟩ := first b (.inScope c :: k) cs
  cases e with
  | normal => exact ⟨.normal, a₁, w₁, hq, .head step_scope (Steps.trans harr (.one step_inScope))⟩
  | exit id => exact ⟨.exit id, a₁, w₁, hq, fun k' hk => .head step_scope (harr k' (by simp [exitTo, hk]))⟩
  | goto l' =>
    obtain ⟨e₂, a₂, w₂, hq₂, harr₂⟩ := key _ l' a₁ w₁ rfl hq
    exact ⟨e₂, a₂, w₂, hq₂, .of_steps (.head step_scope (harr _ (by simp [gotoIn, hf _ _ _ hq]))) harr₂⟩
  | ret => exact ⟨_, a₁, w₁, hq, .of_steps (.one step_scope) harr⟩
  | panic ch => exact ⟨_, a₁, w₁, hq, .of_steps (.one step_scope) harr⟩
  | outgrown => exact ⟨_, a₁, w₁, hq, .of_steps (.one step_scope) harr⟩

theorem noGoto_fwd {J : Nat → Act → World → Prop} {Q : Exit → Act → World → Prop} {e : Exit} {a : Act} {w : World} (h : Exit.noGoto Q e a w) : fwd J Q e a w := by
  cases e <;> first | exact h | exact h.elim

@[simp, go_sem] theorem fwd_ret {J : Nat → Act → World → Prop} {Q : Exit → Act → World → Prop} {a : Act} {w : World} : fwd J Q .ret a w = Q .ret a w := rfl

/-- Two labels: from l1's rest one jumps to l0 alone, from l0's nowhere. At a jump the walk goes on with the label's rest. -/
theorem wp_scope_two {P : Program} {a : Act} {w : World} {Q : Exit → Act → World → Prop} {c r0 r1 : Code} (l0 l1 : Nat) (hne : l0 ≠ l1) (h0 : findLabel c l0 = some r0) (h1 : findLabel c l1 = some r1)
    (first : ∀ J : Nat → Act → World → Prop, RowKit.Hid (∀ a w, r0.wp P (Exit.noGoto Q) a w → J l0 a w) →
      RowKit.Hid (∀ a w, (∀ J' : Nat → Act → World → Prop, RowKit.Hid (∀ a w, r0.wp P (Exit.noGoto Q) a w → J' l0 a w) → r1.wp P (fwd J' Q) a w) → J l1 a w) → c.wp P (fwd J Q) a w) : (Code.scope c).wp P Q a w := by
  refine wp_scope_fwd (fun l => if l = l0 then r0 else r1) (fun l a w => (l = l0 ∧ r0.wp P (Exit.noGoto Q) a w) ∨ (l = l1 ∧ r1.wp P (fwd (fun l a w => l = l0 ∧ r0.wp P (Exit.noGoto Q) a w) Q) a w)) (fun l => if l = l0 then 0 else 1) ?_ (first _ (Lib.hid fun a w h => .inl ⟨rfl, h⟩) (Lib.hid fun a w h => .inr ⟨rfl, h _ (Lib.hid fun a w h => ⟨rfl, h⟩)⟩)) ?_
  · rintro l a w (⟨rfl, _⟩ | ⟨rfl, _⟩)
    · rw [if_pos rfl]; exact h0
    · rw [if_neg (Ne.symm hne)]; exact h1
  · rintro l a w (⟨rfl, h⟩ | ⟨rfl, h⟩)
    · rw [if_pos rfl]
      exact wp_mono h fun e a' w' hq => noGoto_fwd hq
    · rw [if_neg (Ne.symm hne)]
      refine wp_mono h ?_
      intro e a' w' hq
      cases e with
      | goto l' =>
        obtain ⟨rfl, hq⟩ := hq
        exact ⟨.inl ⟨rfl, hq⟩, by rw [if_pos rfl, if_neg (Ne.symm hne)]; omega⟩
      | _ => exact hq
end Go.Proofs.YtpnfkipfjanmkaaGreatDoor
