/- That order goes on: tedderlaw08.ValueRises answers true at every input, if the library's listed variables hold what its text says. -/
import Derived.Test.YtpnfkipfjanmkaaGreatDoorHRv
import Derived.Test.YtpnfkipfjanmkaaGreatDoorHJr
import Derived.Test.YtpnfkipfjanmkaaGreatDoorTie
import Derived.Test.YtpnfkipfjanmkaaGreatDoorCards
import Derived.SevenTiedAt
set_option linter.unusedVariables false
set_option linter.unusedSimpArgs false
namespace Go.Proofs.YtpnfkipfjanmkaaGreatDoor.Rises
open Go.RowKit Flt Go.Lib Go.ChangeShapes Go.WideShapes Go.ChangeAt

set_option maxRecDepth 100000 in
theorem lifted (os : Os) (started : os.Started) (H : Type) (enc : TypeId × Value → H) :
    ReturnsInHanded {} Tryz.checked os 15 .any (fun w args => (Rows.valueRisesSpec.pre enc Tryz.prog Tryz.f15 [] false w args ∧ laidMetH Tryz.prog laidB w) ∧ sizedMet enc Tryz.prog Tryz.f15 (OpenSpec.ofChange Rows.valueRisesSpec) false w args)
      (Rows.valueRisesSpec.post enc Tryz.prog Tryz.f15 false true false false) := by
  refine lift_law (s := Rows.valueRisesSpec) (l := laidB) started (by kernel_rfl) Tryz.func15
    (ChangeSpec.witness_shaped (enc := enc) (C := Tryz.checked) (os := os) (X := fun w _ => laidMetH Tryz.prog laidB w) false (World.laidAll Tryz.prog os laidB) #[.agg #[.string ⟨#[]⟩, .float .f64 0, .string ⟨#[]⟩, .string ⟨#[]⟩, .float .f64 0, .string ⟨#[]⟩, .string ⟨#[]⟩, .float .f64 0, .string ⟨#[]⟩]] 8 (World.laidAll_os _ _ _)
      (World.shaped_of_ZipB (by kernel_rfl) (by kernel_rfl)) (by kernel_rfl) (by kernel_rfl) (by kernel_rfl)
      (by rw [MakeChecks.laidMetH_plain _ _ _ (by kernel_rfl)]; exact laidMet_laidAll _ (by kernel_rfl) (by kernel_rfl))) ?_
  intro W base args ds gs before hval0 hW _ hL hsh
  have hval : ∀ (j : Nat) t v, Tryz.f15.params[j]? = some t → args[j]? = some v → Value.okWide Tryz.prog W .any base t v := hval0
  have hW' := hW
  obtain ⟨p, q, hA0, hV, rfl, _, _⟩ := hW
  have hA : DataW.TrodAll enc Tryz.prog W 0 (fun _ => true) true Tryz.f15.params.toList args.toList ds p := hA0
  rw [Tryz.params15] at hA hval
  obtain ⟨v0, d0, rfl, rfl, h0⟩ := trodAll_one hA
  obtain ⟨rfl, rfl⟩ := trodVars_none hV
  obtain ⟨K, S, X, rfl, rfl, hshut⟩ := open92 (hval 0 92 v0 rfl rfl) h0
  clear hA0 hval0
  simp only [List.append_nil] at hW'
  rw [MakeChecks.laidMetH_plain _ _ _ (by kernel_rfl)] at hL
  refine (rises_law K S X W (vars_B hL hsh)).mono fun e W' ⟨he, hb⟩ => ?_
  subst he
  exact ⟨_, rfl, _, _, _, [], [], [], hW', trodAll_mk1 (shut_bool Tryz.underlying4 _), trodAll_mk1 (hshut _ _ _ _), rfl, hb.frame _, fun h => by cases h⟩

theorem holds : Rows.valueRisesRow.holds Tryz.pinned (OpenSpec.ofChange Rows.valueRisesSpec) :=
  OpenClaim.holds_of_wide 15 Tryz.f15 rfl rfl rfl rfl rfl rfl rfl ⟨rfl, rfl, rfl, rfl, rfl⟩ rfl rfl rfl rfl rfl (by kernel_rfl) Tryz.func15 facts
    (of_decide_eq_true (by kernel_rfl)) (by unfold Func.isWrapper; first | (rw [if_pos (by decide +kernel)]; kernel_rfl) | (rw [if_neg (by decide +kernel)]; exact ⟨rfl, rfl⟩))
    (fun os started H enc _ => lifted os started H enc)

theorem rises_card : Rows.ValueRisesCardSaid :=
  Claim7.holds_tied_plain_at .later [] [.data, .data, .widerDeep, .widerDeep, .data, .data, .data, .data, .data, .data, .sentinel, .sentinel, .pinned, .pinned, .pinned, .pinned] true (true, "7d82dbb534877a6b534a49d817f849667c10679bb841459cc45423545d3355f5") true holds (fun _ h => by cases h) jWf (fun _ h => by cases h) valueRises_row_tie rfl ⟨rfl, rfl⟩ jMain rfl jStand jGoes
#print axioms rises_card
end Go.Proofs.YtpnfkipfjanmkaaGreatDoor.Rises
