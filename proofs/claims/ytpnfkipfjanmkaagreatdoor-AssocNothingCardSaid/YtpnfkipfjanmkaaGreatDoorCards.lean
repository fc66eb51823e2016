/-
  DERIVED. GIVEN WITH THE SEED: THE CARDS: each row of YtpnfkipfjanmkaaGreatDoorRows.lean that lists a variable, with what it lists TIED to the program's text (the seventh form; the later family's looks); each row that meets fmt, with fmt's text TOLD by the authors' own Lean function (tested against real Go, not proved from fmt's source: count such statements apart). THE CARD IS WHAT COUNTS. Prove the row's statement (the work); the ties are given (YtpnfkipfjanmkaaGreatDoorTie.lean); close each card by the builder's one call (the guide's Derived/Test/ToyasCard.lean, 'card_holds'). Laid BY PROGRAM, IN A SANDBOX (cutbox-door.mjs). By AI agents, Wed Nov 11 2026. No macro, syntax, notation, axiom, sorry.
-/
import Derived.Test.YtpnfkipfjanmkaaGreatDoorRows
import GoSem.ClaimSeven
namespace Go.Proofs.YtpnfkipfjanmkaaGreatDoor
namespace Rows

/-- THE TIED CARD OF 'tedderlaw09.AssocNothing'. -/
def assocNothingCard : Claim7 := { stood := { row := assocNothingRow, standIns := [], harness := (true, "7d82dbb534877a6b534a49d817f849667c10679bb841459cc45423545d3355f5"), looks := true }, kinds := [], alts := [], laidByText := true, laidKinds := [.data, .data, .widerDeep, .widerDeep, .data, .data, .data, .data, .data, .data, .sentinel, .sentinel, .pinned, .pinned, .pinned], laidTests := true, laidLooks := .later }
def AssocNothingCardSaid : Prop := Claim7.holds Tryz.pinned (.plain (OpenSpec.ofChange assocNothingSpec)) assocNothingCard

/-- THE TIED CARD OF 'tedderlaw09.AssocRuns'. -/
def assocRunsCard : Claim7 := { stood := { row := assocRunsRow, standIns := [], harness := (true, "7d82dbb534877a6b534a49d817f849667c10679bb841459cc45423545d3355f5"), looks := true }, kinds := [], alts := [], laidByText := true, laidKinds := [.data, .data, .widerDeep, .widerDeep, .data, .data, .data, .data, .data, .data, .sentinel, .sentinel, .pinned, .pinned, .pinned], laidTests := true, laidLooks := .later }
def AssocRunsCardSaid : Prop := Claim7.holds Tryz.pinned (.plain (OpenSpec.ofChange assocRunsSpec)) assocRunsCard

/-- THE TIED CARD OF 'tedderlaw20.MergeEmpty'. -/
def mergeEmptyCard : Claim7 := { stood := { row := mergeEmptyRow, standIns := [], harness := (true, "7d82dbb534877a6b534a49d817f849667c10679bb841459cc45423545d3355f5"), looks := true }, kinds := [], alts := [], laidByText := true, laidKinds := [.data, .data, .widerDeep, .widerDeep, .data, .data, .data, .data, .data, .data, .sentinel, .sentinel, .pinned, .pinned, .pinned], laidTests := true, laidLooks := .later }
def MergeEmptyCardSaid : Prop := Claim7.holds Tryz.pinned (.plain (OpenSpec.ofChange mergeEmptySpec)) mergeEmptyCard

/-- THE TIED CARD OF 'tedderlaw20.MergeTurned'. -/
def mergeTurnedCard : Claim7 := { stood := { row := mergeTurnedRow, standIns := [], harness := (true, "7d82dbb534877a6b534a49d817f849667c10679bb841459cc45423545d3355f5"), looks := true }, kinds := [], alts := [], laidByText := true, laidKinds := [.data, .data, .widerDeep, .widerDeep, .data, .data, .data, .data, .data, .data, .sentinel, .sentinel, .pinned, .pinned, .pinned], laidTests := true, laidLooks := .later }
def MergeTurnedCardSaid : Prop := Claim7.holds Tryz.pinned (.plain (OpenSpec.ofChange mergeTurnedSpec)) mergeTurnedCard

/-- THE TIED CARD OF 'tedderlaw12.SpellPlain'. -/
def spellPlainCard : Claim7 := { stood := { row := spellPlainRow, standIns := [], harness := (true, "7d82dbb534877a6b534a49d817f849667c10679bb841459cc45423545d3355f5"), looks := true }, kinds := [], alts := [], laidByText := true, laidKinds := [.data, .data, .widerDeep, .widerDeep, .data, .data, .data, .data, .data, .data, .sentinel, .sentinel, .pinned, .pinned, .pinned, .pinned], laidTests := true, laidLooks := .later }
def SpellPlainCardSaid : Prop := Claim7.holds Tryz.pinned (.plain (OpenSpec.ofChange spellPlainSpec)) spellPlainCard

/-- THE TIED CARD OF 'tedderlaw20.MergeMost'. -/
def mergeMostCard : Claim7 := { stood := { row := mergeMostRow, standIns := [], harness := (true, "7d82dbb534877a6b534a49d817f849667c10679bb841459cc45423545d3355f5"), looks := true }, kinds := [], alts := [], laidByText := true, laidKinds := [.data, .data, .widerDeep, .widerDeep, .data, .data, .data, .data, .data, .data, .sentinel, .sentinel, .pinned, .pinned, .pinned], laidTests := true, laidLooks := .later }
def MergeMostCardSaid : Prop := Claim7.holds Tryz.pinned (.plain (OpenSpec.ofChange mergeMostSpec)) mergeMostCard

/-- THE TIED CARD OF 'tedderlaw12.SpellJoins'. -/
def spellJoinsCard : Claim7 := { stood := { row := spellJoinsRow, standIns := [], harness := (true, "7d82dbb534877a6b534a49d817f849667c10679bb841459cc45423545d3355f5"), looks := true }, kinds := [], alts := [], laidByText := true, laidKinds := [.data, .data, .widerDeep, .widerDeep, .data, .data, .data, .data, .data, .data, .sentinel, .sentinel, .pinned, .pinned, .pinned, .pinned], laidTests := true, laidLooks := .later }
def SpellJoinsCardSaid : Prop := Claim7.holds Tryz.pinned (.plain (OpenSpec.ofChange spellJoinsSpec)) spellJoinsCard

/-- THE TIED CARD OF 'tedderlaw02.DecReads'. -/
def decReadsCard : Claim7 := { stood := { row := decReadsRow, standIns := [], harness := (true, "7d82dbb534877a6b534a49d817f849667c10679bb841459cc45423545d3355f5"), looks := true }, kinds := [], alts := [], laidByText := true, laidKinds := [.data, .data, .widerDeep, .widerDeep, .data, .data, .data, .data, .data, .data, .sentinel, .sentinel, .pinned, .pinned, .pinned, .pinned], laidTests := true, laidLooks := .later }
def DecReadsCardSaid : Prop := Claim7.holds Tryz.pinned (.plain (OpenSpec.ofChange decReadsSpec)) decReadsCard

/-- THE TIED CARD OF 'tedderlaw02.DecLooks'. -/
def decLooksCard : Claim7 := { stood := { row := decLooksRow, standIns := [], harness := (true, "7d82dbb534877a6b534a49d817f849667c10679bb841459cc45423545d3355f5"), looks := true }, kinds := [], alts := [], laidByText := true, laidKinds := [.data, .data, .widerDeep, .widerDeep, .data, .data, .data, .data, .data, .data, .sentinel, .sentinel, .pinned, .pinned, .pinned, .pinned], laidTests := true, laidLooks := .later }
def DecLooksCardSaid : Prop := Claim7.holds Tryz.pinned (.plain (OpenSpec.ofChange decLooksSpec)) decLooksCard

/-- THE TIED CARD OF 'tedderlaw02.DecWholes'. -/
def decWholesCard : Claim7 := { stood := { row := decWholesRow, standIns := [], harness := (true, "7d82dbb534877a6b534a49d817f849667c10679bb841459cc45423545d3355f5"), looks := true }, kinds := [], alts := [], laidByText := true, laidKinds := [.data, .data, .widerDeep, .widerDeep, .data, .data, .data, .data, .data, .data, .sentinel, .sentinel, .pinned, .pinned, .pinned, .pinned], laidTests := true, laidLooks := .later }
def DecWholesCardSaid : Prop := Claim7.holds Tryz.pinned (.plain (OpenSpec.ofChange decWholesSpec)) decWholesCard

/-- THE TIED CARD OF 'tedderlaw02.DecBack'. -/
def decBackCard : Claim7 := { stood := { row := decBackRow, standIns := [], harness := (true, "7d82dbb534877a6b534a49d817f849667c10679bb841459cc45423545d3355f5"), looks := true }, kinds := [], alts := [], laidByText := true, laidKinds := [.data, .data, .widerDeep, .widerDeep, .data, .data, .data, .data, .data, .data, .sentinel, .sentinel, .pinned, .pinned, .pinned, .pinned], laidTests := true, laidLooks := .later }
def DecBackCardSaid : Prop := Claim7.holds Tryz.pinned (.plain (OpenSpec.ofChange decBackSpec)) decBackCard

/-- THE TIED CARD OF 'tedderlaw08.ValueOrders'. -/
def valueOrdersCard : Claim7 := { stood := { row := valueOrdersRow, standIns := [], harness := (true, "7d82dbb534877a6b534a49d817f849667c10679bb841459cc45423545d3355f5"), looks := true }, kinds := [], alts := [], laidByText := true, laidKinds := [.data, .data, .widerDeep, .widerDeep, .data, .data, .data, .data, .data, .data, .sentinel, .sentinel, .pinned, .pinned, .pinned, .pinned], laidTests := true, laidLooks := .later }
def ValueOrdersCardSaid : Prop := Claim7.holds Tryz.pinned (.plain (OpenSpec.ofChange valueOrdersSpec)) valueOrdersCard

/-- THE TIED CARD OF 'tedderlaw08.ValueRises'. -/
def valueRisesCard : Claim7 := { stood := { row := valueRisesRow, standIns := [], harness := (true, "7d82dbb534877a6b534a49d817f849667c10679bb841459cc45423545d3355f5"), looks := true }, kinds := [], alts := [], laidByText := true, laidKinds := [.data, .data, .widerDeep, .widerDeep, .data, .data, .data, .data, .data, .data, .sentinel, .sentinel, .pinned, .pinned, .pinned, .pinned], laidTests := true, laidLooks := .later }
def ValueRisesCardSaid : Prop := Claim7.holds Tryz.pinned (.plain (OpenSpec.ofChange valueRisesSpec)) valueRisesCard

/-- THE TIED CARD OF 'tedderlaw08.ValuePowers'. -/
def valuePowersCard : Claim7 := { stood := { row := valuePowersRow, standIns := [], harness := (true, "7d82dbb534877a6b534a49d817f849667c10679bb841459cc45423545d3355f5"), looks := true }, kinds := [], alts := [], laidByText := true, laidKinds := [.data, .data, .widerDeep, .widerDeep, .data, .data, .data, .data, .data, .data, .sentinel, .sentinel, .pinned, .pinned, .pinned, .pinned], laidTests := true, laidLooks := .later }
def ValuePowersCardSaid : Prop := Claim7.holds Tryz.pinned (.plain (OpenSpec.ofChange valuePowersSpec)) valuePowersCard

/-- THE TIED CARD OF 'tedderlaw08.ValuePlain'. -/
def valuePlainCard : Claim7 := { stood := { row := valuePlainRow, standIns := [], harness := (true, "7d82dbb534877a6b534a49d817f849667c10679bb841459cc45423545d3355f5"), looks := true }, kinds := [], alts := [], laidByText := true, laidKinds := [.data, .data, .widerDeep, .widerDeep, .data, .data, .data, .data, .data, .data, .sentinel, .sentinel, .pinned, .pinned, .pinned, .pinned], laidTests := true, laidLooks := .later }
def ValuePlainCardSaid : Prop := Claim7.holds Tryz.pinned (.plain (OpenSpec.ofChange valuePlainSpec)) valuePlainCard

/-- THE TIED CARD OF 'tedderlaw08.ValueMixes'. -/
def valueMixesCard : Claim7 := { stood := { row := valueMixesRow, standIns := [], harness := (true, "7d82dbb534877a6b534a49d817f849667c10679bb841459cc45423545d3355f5"), looks := true }, kinds := [], alts := [], laidByText := true, laidKinds := [.data, .data, .widerDeep, .widerDeep, .data, .data, .data, .data, .data, .data, .sentinel, .sentinel, .pinned, .pinned, .pinned, .pinned], laidTests := true, laidLooks := .later }
def ValueMixesCardSaid : Prop := Claim7.holds Tryz.pinned (.plain (OpenSpec.ofChange valueMixesSpec)) valueMixesCard

/-- THE SECOND FORM's CARD OF 'tedderlaw09.AssocNothing'. -/
def assocNothingUptoCard : Claim7 := { stood := { row := assocNothingUptoRow, standIns := [], harness := (true, "7d82dbb534877a6b534a49d817f849667c10679bb841459cc45423545d3355f5"), looks := true }, kinds := [], alts := [], laidByText := true, laidKinds := [.data, .data, .widerDeep, .widerDeep, .data, .data, .data, .data, .data, .data, .sentinel, .sentinel, .pinned, .pinned, .pinned], laidTests := true, laidLooks := .later }
def AssocNothingUptoCardSaid : Prop := Claim7.holds Tryz.pinned (.plain (OpenSpec.upto assocNothingSpec)) assocNothingUptoCard

/-- THE SECOND FORM's CARD OF 'tedderlaw09.AssocRuns'. -/
def assocRunsUptoCard : Claim7 := { stood := { row := assocRunsUptoRow, standIns := [], harness := (true, "7d82dbb534877a6b534a49d817f849667c10679bb841459cc45423545d3355f5"), looks := true }, kinds := [], alts := [], laidByText := true, laidKinds := [.data, .data, .widerDeep, .widerDeep, .data, .data, .data, .data, .data, .data, .sentinel, .sentinel, .pinned, .pinned, .pinned], laidTests := true, laidLooks := .later }
def AssocRunsUptoCardSaid : Prop := Claim7.holds Tryz.pinned (.plain (OpenSpec.upto assocRunsSpec)) assocRunsUptoCard

/-- THE SECOND FORM's CARD OF 'tedderlaw20.MergeEmpty'. -/
def mergeEmptyUptoCard : Claim7 := { stood := { row := mergeEmptyUptoRow, standIns := [], harness := (true, "7d82dbb534877a6b534a49d817f849667c10679bb841459cc45423545d3355f5"), looks := true }, kinds := [], alts := [], laidByText := true, laidKinds := [.data, .data, .widerDeep, .widerDeep, .data, .data, .data, .data, .data, .data, .sentinel, .sentinel, .pinned, .pinned, .pinned], laidTests := true, laidLooks := .later }
def MergeEmptyUptoCardSaid : Prop := Claim7.holds Tryz.pinned (.plain (OpenSpec.upto mergeEmptySpec)) mergeEmptyUptoCard

/-- THE SECOND FORM's CARD OF 'tedderlaw20.MergeTurned'. -/
def mergeTurnedUptoCard : Claim7 := { stood := { row := mergeTurnedUptoRow, standIns := [], harness := (true, "7d82dbb534877a6b534a49d817f849667c10679bb841459cc45423545d3355f5"), looks := true }, kinds := [], alts := [], laidByText := true, laidKinds := [.data, .data, .widerDeep, .widerDeep, .data, .data, .data, .data, .data, .data, .sentinel, .sentinel, .pinned, .pinned, .pinned], laidTests := true, laidLooks := .later }
def MergeTurnedUptoCardSaid : Prop := Claim7.holds Tryz.pinned (.plain (OpenSpec.upto mergeTurnedSpec)) mergeTurnedUptoCard

/-- THE SECOND FORM's CARD OF 'tedderlaw12.SpellPlain'. -/
def spellPlainUptoCard : Claim7 := { stood := { row := spellPlainUptoRow, standIns := [], harness := (true, "7d82dbb534877a6b534a49d817f849667c10679bb841459cc45423545d3355f5"), looks := true }, kinds := [], alts := [], laidByText := true, laidKinds := [.data, .data, .widerDeep, .widerDeep, .data, .data, .data, .data, .data, .data, .sentinel, .sentinel, .pinned, .pinned, .pinned, .pinned], laidTests := true, laidLooks := .later }
def SpellPlainUptoCardSaid : Prop := Claim7.holds Tryz.pinned (.plain (OpenSpec.upto spellPlainSpec)) spellPlainUptoCard

/-- THE SECOND FORM's CARD OF 'tedderlaw20.MergeMost'. -/
def mergeMostUptoCard : Claim7 := { stood := { row := mergeMostUptoRow, standIns := [], harness := (true, "7d82dbb534877a6b534a49d817f849667c10679bb841459cc45423545d3355f5"), looks := true }, kinds := [], alts := [], laidByText := true, laidKinds := [.data, .data, .widerDeep, .widerDeep, .data, .data, .data, .data, .data, .data, .sentinel, .sentinel, .pinned, .pinned, .pinned], laidTests := true, laidLooks := .later }
def MergeMostUptoCardSaid : Prop := Claim7.holds Tryz.pinned (.plain (OpenSpec.upto mergeMostSpec)) mergeMostUptoCard

/-- THE SECOND FORM's CARD OF 'tedderlaw12.SpellJoins'. -/
def spellJoinsUptoCard : Claim7 := { stood := { row := spellJoinsUptoRow, standIns := [], harness := (true, "7d82dbb534877a6b534a49d817f849667c10679bb841459cc45423545d3355f5"), looks := true }, kinds := [], alts := [], laidByText := true, laidKinds := [.data, .data, .widerDeep, .widerDeep, .data, .data, .data, .data, .data, .data, .sentinel, .sentinel, .pinned, .pinned, .pinned, .pinned], laidTests := true, laidLooks := .later }
def SpellJoinsUptoCardSaid : Prop := Claim7.holds Tryz.pinned (.plain (OpenSpec.upto spellJoinsSpec)) spellJoinsUptoCard

/-- THE SECOND FORM's CARD OF 'tedderlaw02.DecReads'. -/
def decReadsUptoCard : Claim7 := { stood := { row := decReadsUptoRow, standIns := [], harness := (true, "7d82dbb534877a6b534a49d817f849667c10679bb841459cc45423545d3355f5"), looks := true }, kinds := [], alts := [], laidByText := true, laidKinds := [.data, .data, .widerDeep, .widerDeep, .data, .data, .data, .data, .data, .data, .sentinel, .sentinel, .pinned, .pinned, .pinned, .pinned], laidTests := true, laidLooks := .later }
def DecReadsUptoCardSaid : Prop := Claim7.holds Tryz.pinned (.plain (OpenSpec.upto decReadsSpec)) decReadsUptoCard

/-- THE SECOND FORM's CARD OF 'tedderlaw02.DecLooks'. -/
def decLooksUptoCard : Claim7 := { stood := { row := decLooksUptoRow, standIns := [], harness := (true, "7d82dbb534877a6b534a49d817f849667c10679bb841459cc45423545d3355f5"), looks := true }, kinds := [], alts := [], laidByText := true, laidKinds := [.data, .data, .widerDeep, .widerDeep, .data, .data, .data, .data, .data, .data, .sentinel, .sentinel, .pinned, .pinned, .pinned, .pinned], laidTests := true, laidLooks := .later }
def DecLooksUptoCardSaid : Prop := Claim7.holds Tryz.pinned (.plain (OpenSpec.upto decLooksSpec)) decLooksUptoCard

/-- THE SECOND FORM's CARD OF 'tedderlaw02.DecWholes'. -/
def decWholesUptoCard : Claim7 := { stood := { row := decWholesUptoRow, standIns := [], harness := (true, "7d82dbb534877a6b534a49d817f849667c10679bb841459cc45423545d3355f5"), looks := true }, kinds := [], alts := [], laidByText := true, laidKinds := [.data, .data, .widerDeep, .widerDeep, .data, .data, .data, .data, .data, .data, .sentinel, .sentinel, .pinned, .pinned, .pinned, .pinned], laidTests := true, laidLooks := .later }
def DecWholesUptoCardSaid : Prop := Claim7.holds Tryz.pinned (.plain (OpenSpec.upto decWholesSpec)) decWholesUptoCard

/-- THE SECOND FORM's CARD OF 'tedderlaw02.DecBack'. -/
def decBackUptoCard : Claim7 := { stood := { row := decBackUptoRow, standIns := [], harness := (true, "7d82dbb534877a6b534a49d817f849667c10679bb841459cc45423545d3355f5"), looks := true }, kinds := [], alts := [], laidByText := true, laidKinds := [.data, .data, .widerDeep, .widerDeep, .data, .data, .data, .data, .data, .data, .sentinel, .sentinel, .pinned, .pinned, .pinned, .pinned], laidTests := true, laidLooks := .later }
def DecBackUptoCardSaid : Prop := Claim7.holds Tryz.pinned (.plain (OpenSpec.upto decBackSpec)) decBackUptoCard

/-- THE SECOND FORM's CARD OF 'tedderlaw08.ValueOrders'. -/
def valueOrdersUptoCard : Claim7 := { stood := { row := valueOrdersUptoRow, standIns := [], harness := (true, "7d82dbb534877a6b534a49d817f849667c10679bb841459cc45423545d3355f5"), looks := true }, kinds := [], alts := [], laidByText := true, laidKinds := [.data, .data, .widerDeep, .widerDeep, .data, .data, .data, .data, .data, .data, .sentinel, .sentinel, .pinned, .pinned, .pinned, .pinned], laidTests := true, laidLooks := .later }
def ValueOrdersUptoCardSaid : Prop := Claim7.holds Tryz.pinned (.plain (OpenSpec.upto valueOrdersSpec)) valueOrdersUptoCard

/-- THE SECOND FORM's CARD OF 'tedderlaw08.ValueRises'. -/
def valueRisesUptoCard : Claim7 := { stood := { row := valueRisesUptoRow, standIns := [], harness := (true, "7d82dbb534877a6b534a49d817f849667c10679bb841459cc45423545d3355f5"), looks := true }, kinds := [], alts := [], laidByText := true, laidKinds := [.data, .data, .widerDeep, .widerDeep, .data, .data, .data, .data, .data, .data, .sentinel, .sentinel, .pinned, .pinned, .pinned, .pinned], laidTests := true, laidLooks := .later }
def ValueRisesUptoCardSaid : Prop := Claim7.holds Tryz.pinned (.plain (OpenSpec.upto valueRisesSpec)) valueRisesUptoCard

/-- THE SECOND FORM's CARD OF 'tedderlaw08.ValuePowers'. -/
def valuePowersUptoCard : Claim7 := { stood := { row := valuePowersUptoRow, standIns := [], harness := (true, "7d82dbb534877a6b534a49d817f849667c10679bb841459cc45423545d3355f5"), looks := true }, kinds := [], alts := [], laidByText := true, laidKinds := [.data, .data, .widerDeep, .widerDeep, .data, .data, .data, .data, .data, .data, .sentinel, .sentinel, .pinned, .pinned, .pinned, .pinned], laidTests := true, laidLooks := .later }
def ValuePowersUptoCardSaid : Prop := Claim7.holds Tryz.pinned (.plain (OpenSpec.upto valuePowersSpec)) valuePowersUptoCard

/-- THE SECOND FORM's CARD OF 'tedderlaw08.ValuePlain'. -/
def valuePlainUptoCard : Claim7 := { stood := { row := valuePlainUptoRow, standIns := [], harness := (true, "7d82dbb534877a6b534a49d817f849667c10679bb841459cc45423545d3355f5"), looks := true }, kinds := [], alts := [], laidByText := true, laidKinds := [.data, .data, .widerDeep, .widerDeep, .data, .data, .data, .data, .data, .data, .sentinel, .sentinel, .pinned, .pinned, .pinned, .pinned], laidTests := true, laidLooks := .later }
def ValuePlainUptoCardSaid : Prop := Claim7.holds Tryz.pinned (.plain (OpenSpec.upto valuePlainSpec)) valuePlainUptoCard

/-- THE SECOND FORM's CARD OF 'tedderlaw08.ValueMixes'. -/
def valueMixesUptoCard : Claim7 := { stood := { row := valueMixesUptoRow, standIns := [], harness := (true, "7d82dbb534877a6b534a49d817f849667c10679bb841459cc45423545d3355f5"), looks := true }, kinds := [], alts := [], laidByText := true, laidKinds := [.data, .data, .widerDeep, .widerDeep, .data, .data, .data, .data, .data, .data, .sentinel, .sentinel, .pinned, .pinned, .pinned, .pinned], laidTests := true, laidLooks := .later }
def ValueMixesUptoCardSaid : Prop := Claim7.holds Tryz.pinned (.plain (OpenSpec.upto valueMixesSpec)) valueMixesUptoCard
end Rows
end Go.Proofs.YtpnfkipfjanmkaaGreatDoor
