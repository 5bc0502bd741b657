/-
  DERIVED. GIVEN WITH THE SEED: THE CARDS: each row of YtomdjkcoodaheaaGreatDoorRows.lean that lists a variable, with what it lists TIED to the program's text (the seventh form; the later family's looks); each row that meets fmt, with fmt's text TOLD by the authors' own Lean function (tested against real Go, not proved from fmt's source: count such statements apart). THE CARD IS WHAT COUNTS. Prove the row's statement (the work); the ties are given (YtomdjkcoodaheaaGreatDoorTie.lean); close each card by the builder's one call (the guide's Derived/Test/ToyasCard.lean, 'card_holds'). Laid BY PROGRAM, IN A SANDBOX (cutbox-door.mjs). By AI agents, Wed Nov 11 2026. No macro, syntax, notation, axiom, sorry.
-/
import Derived.Test.YtomdjkcoodaheaaGreatDoorRows
import GoSem.ClaimSeven
namespace Go.Proofs.YtomdjkcoodaheaaGreatDoor
namespace Rows

/-- THE TIED CARD OF 'lineagelaw06.SemiringOperations'. -/
def semiringOperationsCard : Claim7 := { stood := { row := semiringOperationsRow, standIns := [], harness := (true, "4a201bc18f20b68086e98d69debf78f1b3c7b81c007cb531e0e9777ef5326780"), looks := true }, kinds := [], alts := [], laidByText := true, laidKinds := [.data, .data, .data, .data, .sentinel, .sentinel, .widerDeep, .pinned], laidTests := true, laidLooks := .later }
def SemiringOperationsCardSaid : Prop := Claim7.holds Tryz.pinned (.plain (OpenSpec.ofChange semiringOperationsSpec)) semiringOperationsCard

/-- THE TIED CARD OF 'lineagelaw06.SemiringLimits'. -/
def semiringLimitsCard : Claim7 := { stood := { row := semiringLimitsRow, standIns := [], harness := (true, "4a201bc18f20b68086e98d69debf78f1b3c7b81c007cb531e0e9777ef5326780"), looks := true }, kinds := [], alts := [], laidByText := true, laidKinds := [.data, .data, .data, .data, .sentinel, .sentinel, .widerDeep, .pinned], laidTests := true, laidLooks := .later }
def SemiringLimitsCardSaid : Prop := Claim7.holds Tryz.pinned (.plain (OpenSpec.ofChange semiringLimitsSpec)) semiringLimitsCard

/-- THE TIED CARD OF 'lineagelaw06.SemiringMonusLaws'. -/
def semiringMonusLawsCard : Claim7 := { stood := { row := semiringMonusLawsRow, standIns := [], harness := (true, "4a201bc18f20b68086e98d69debf78f1b3c7b81c007cb531e0e9777ef5326780"), looks := true }, kinds := [], alts := [], laidByText := true, laidKinds := [.data, .data, .data, .data, .sentinel, .sentinel, .widerDeep, .pinned], laidTests := true, laidLooks := .later }
def SemiringMonusLawsCardSaid : Prop := Claim7.holds Tryz.pinned (.plain (OpenSpec.ofChange semiringMonusLawsSpec)) semiringMonusLawsCard

/-- THE TIED CARD OF 'lineagelaw06.SemiringRing'. -/
def semiringRingCard : Claim7 := { stood := { row := semiringRingRow, standIns := [], harness := (true, "4a201bc18f20b68086e98d69debf78f1b3c7b81c007cb531e0e9777ef5326780"), looks := true }, kinds := [], alts := [], laidByText := true, laidKinds := [.data, .data, .data, .data, .sentinel, .sentinel, .widerDeep, .pinned], laidTests := true, laidLooks := .later }
def SemiringRingCardSaid : Prop := Claim7.holds Tryz.pinned (.plain (OpenSpec.ofChange semiringRingSpec)) semiringRingCard

/-- THE TIED CARD OF 'lineagelaw06.SemiringAbsorption'. -/
def semiringAbsorptionCard : Claim7 := { stood := { row := semiringAbsorptionRow, standIns := [], harness := (true, "4a201bc18f20b68086e98d69debf78f1b3c7b81c007cb531e0e9777ef5326780"), looks := true }, kinds := [], alts := [], laidByText := true, laidKinds := [.data, .data, .data, .data, .sentinel, .sentinel, .widerDeep, .pinned], laidTests := true, laidLooks := .later }
def SemiringAbsorptionCardSaid : Prop := Claim7.holds Tryz.pinned (.plain (OpenSpec.ofChange semiringAbsorptionSpec)) semiringAbsorptionCard

/-- THE TIED CARD OF 'lineagelaw06.SemiringMonus'. -/
def semiringMonusCard : Claim7 := { stood := { row := semiringMonusRow, standIns := [], harness := (true, "4a201bc18f20b68086e98d69debf78f1b3c7b81c007cb531e0e9777ef5326780"), looks := true }, kinds := [], alts := [], laidByText := true, laidKinds := [.data, .data, .data, .data, .sentinel, .sentinel, .widerDeep, .pinned], laidTests := true, laidLooks := .later }
def SemiringMonusCardSaid : Prop := Claim7.holds Tryz.pinned (.plain (OpenSpec.ofChange semiringMonusSpec)) semiringMonusCard

/-- THE TIED CARD OF 'lineagelaw06.SemiringOrder'. -/
def semiringOrderCard : Claim7 := { stood := { row := semiringOrderRow, standIns := [], harness := (true, "4a201bc18f20b68086e98d69debf78f1b3c7b81c007cb531e0e9777ef5326780"), looks := true }, kinds := [], alts := [], laidByText := true, laidKinds := [.data, .data, .data, .data, .sentinel, .sentinel, .widerDeep, .pinned], laidTests := true, laidLooks := .later }
def SemiringOrderCardSaid : Prop := Claim7.holds Tryz.pinned (.plain (OpenSpec.ofChange semiringOrderSpec)) semiringOrderCard

/-- THE TIED CARD OF 'lineagelaw06.SemiringText'. -/
def semiringTextCard : Claim7 := { stood := { row := semiringTextRow, standIns := [], harness := (true, "4a201bc18f20b68086e98d69debf78f1b3c7b81c007cb531e0e9777ef5326780"), looks := true }, kinds := [], alts := [], laidByText := true, laidKinds := [.data, .data, .data, .data, .sentinel, .sentinel, .widerDeep, .pinned], laidTests := true, laidLooks := .later }
def SemiringTextCardSaid : Prop := Claim7.holds Tryz.pinned (.plain (OpenSpec.ofChange semiringTextSpec)) semiringTextCard

/-- THE TIED CARD OF 'lineagelaw06.SemiringElements'. -/
def semiringElementsCard : Claim7 := { stood := { row := semiringElementsRow, standIns := [], harness := (true, "4a201bc18f20b68086e98d69debf78f1b3c7b81c007cb531e0e9777ef5326780"), looks := true }, kinds := [], alts := [], laidByText := true, laidKinds := [.data, .data, .data, .data, .sentinel, .sentinel, .widerDeep, .pinned], laidTests := true, laidLooks := .later }
def SemiringElementsCardSaid : Prop := Claim7.holds Tryz.pinned (.plain (OpenSpec.ofChange semiringElementsSpec)) semiringElementsCard

/-- THE TIED CARD OF 'lineagelaw06.SemiringScaling'. -/
def semiringScalingCard : Claim7 := { stood := { row := semiringScalingRow, standIns := [], harness := (true, "4a201bc18f20b68086e98d69debf78f1b3c7b81c007cb531e0e9777ef5326780"), looks := true }, kinds := [], alts := [], laidByText := true, laidKinds := [.data, .data, .data, .data, .sentinel, .sentinel, .widerDeep, .pinned], laidTests := true, laidLooks := .later }
def SemiringScalingCardSaid : Prop := Claim7.holds Tryz.pinned (.plain (OpenSpec.ofChange semiringScalingSpec)) semiringScalingCard

/-- THE SECOND FORM's CARD OF 'lineagelaw06.SemiringOperations'. -/
def semiringOperationsUptoCard : Claim7 := { stood := { row := semiringOperationsUptoRow, standIns := [], harness := (true, "4a201bc18f20b68086e98d69debf78f1b3c7b81c007cb531e0e9777ef5326780"), looks := true }, kinds := [], alts := [], laidByText := true, laidKinds := [.data, .data, .data, .data, .sentinel, .sentinel, .widerDeep, .pinned], laidTests := true, laidLooks := .later }
def SemiringOperationsUptoCardSaid : Prop := Claim7.holds Tryz.pinned (.plain (OpenSpec.upto semiringOperationsSpec)) semiringOperationsUptoCard

/-- THE SECOND FORM's CARD OF 'lineagelaw06.SemiringLimits'. -/
def semiringLimitsUptoCard : Claim7 := { stood := { row := semiringLimitsUptoRow, standIns := [], harness := (true, "4a201bc18f20b68086e98d69debf78f1b3c7b81c007cb531e0e9777ef5326780"), looks := true }, kinds := [], alts := [], laidByText := true, laidKinds := [.data, .data, .data, .data, .sentinel, .sentinel, .widerDeep, .pinned], laidTests := true, laidLooks := .later }
def SemiringLimitsUptoCardSaid : Prop := Claim7.holds Tryz.pinned (.plain (OpenSpec.upto semiringLimitsSpec)) semiringLimitsUptoCard

/-- THE SECOND FORM's CARD OF 'lineagelaw06.SemiringMonusLaws'. -/
def semiringMonusLawsUptoCard : Claim7 := { stood := { row := semiringMonusLawsUptoRow, standIns := [], harness := (true, "4a201bc18f20b68086e98d69debf78f1b3c7b81c007cb531e0e9777ef5326780"), looks := true }, kinds := [], alts := [], laidByText := true, laidKinds := [.data, .data, .data, .data, .sentinel, .sentinel, .widerDeep, .pinned], laidTests := true, laidLooks := .later }
def SemiringMonusLawsUptoCardSaid : Prop := Claim7.holds Tryz.pinned (.plain (OpenSpec.upto semiringMonusLawsSpec)) semiringMonusLawsUptoCard

/-- THE SECOND FORM's CARD OF 'lineagelaw06.SemiringRing'. -/
def semiringRingUptoCard : Claim7 := { stood := { row := semiringRingUptoRow, standIns := [], harness := (true, "4a201bc18f20b68086e98d69debf78f1b3c7b81c007cb531e0e9777ef5326780"), looks := true }, kinds := [], alts := [], laidByText := true, laidKinds := [.data, .data, .data, .data, .sentinel, .sentinel, .widerDeep, .pinned], laidTests := true, laidLooks := .later }
def SemiringRingUptoCardSaid : Prop := Claim7.holds Tryz.pinned (.plain (OpenSpec.upto semiringRingSpec)) semiringRingUptoCard

/-- THE SECOND FORM's CARD OF 'lineagelaw06.SemiringAbsorption'. -/
def semiringAbsorptionUptoCard : Claim7 := { stood := { row := semiringAbsorptionUptoRow, standIns := [], harness := (true, "4a201bc18f20b68086e98d69debf78f1b3c7b81c007cb531e0e9777ef5326780"), looks := true }, kinds := [], alts := [], laidByText := true, laidKinds := [.data, .data, .data, .data, .sentinel, .sentinel, .widerDeep, .pinned], laidTests := true, laidLooks := .later }
def SemiringAbsorptionUptoCardSaid : Prop := Claim7.holds Tryz.pinned (.plain (OpenSpec.upto semiringAbsorptionSpec)) semiringAbsorptionUptoCard

/-- THE SECOND FORM's CARD OF 'lineagelaw06.SemiringMonus'. -/
def semiringMonusUptoCard : Claim7 := { stood := { row := semiringMonusUptoRow, standIns := [], harness := (true, "4a201bc18f20b68086e98d69debf78f1b3c7b81c007cb531e0e9777ef5326780"), looks := true }, kinds := [], alts := [], laidByText := true, laidKinds := [.data, .data, .data, .data, .sentinel, .sentinel, .widerDeep, .pinned], laidTests := true, laidLooks := .later }
def SemiringMonusUptoCardSaid : Prop := Claim7.holds Tryz.pinned (.plain (OpenSpec.upto semiringMonusSpec)) semiringMonusUptoCard

/-- THE SECOND FORM's CARD OF 'lineagelaw06.SemiringOrder'. -/
def semiringOrderUptoCard : Claim7 := { stood := { row := semiringOrderUptoRow, standIns := [], harness := (true, "4a201bc18f20b68086e98d69debf78f1b3c7b81c007cb531e0e9777ef5326780"), looks := true }, kinds := [], alts := [], laidByText := true, laidKinds := [.data, .data, .data, .data, .sentinel, .sentinel, .widerDeep, .pinned], laidTests := true, laidLooks := .later }
def SemiringOrderUptoCardSaid : Prop := Claim7.holds Tryz.pinned (.plain (OpenSpec.upto semiringOrderSpec)) semiringOrderUptoCard

/-- THE SECOND FORM's CARD OF 'lineagelaw06.SemiringText'. -/
def semiringTextUptoCard : Claim7 := { stood := { row := semiringTextUptoRow, standIns := [], harness := (true, "4a201bc18f20b68086e98d69debf78f1b3c7b81c007cb531e0e9777ef5326780"), looks := true }, kinds := [], alts := [], laidByText := true, laidKinds := [.data, .data, .data, .data, .sentinel, .sentinel, .widerDeep, .pinned], laidTests := true, laidLooks := .later }
def SemiringTextUptoCardSaid : Prop := Claim7.holds Tryz.pinned (.plain (OpenSpec.upto semiringTextSpec)) semiringTextUptoCard

/-- THE SECOND FORM's CARD OF 'lineagelaw06.SemiringElements'. -/
def semiringElementsUptoCard : Claim7 := { stood := { row := semiringElementsUptoRow, standIns := [], harness := (true, "4a201bc18f20b68086e98d69debf78f1b3c7b81c007cb531e0e9777ef5326780"), looks := true }, kinds := [], alts := [], laidByText := true, laidKinds := [.data, .data, .data, .data, .sentinel, .sentinel, .widerDeep, .pinned], laidTests := true, laidLooks := .later }
def SemiringElementsUptoCardSaid : Prop := Claim7.holds Tryz.pinned (.plain (OpenSpec.upto semiringElementsSpec)) semiringElementsUptoCard

/-- THE SECOND FORM's CARD OF 'lineagelaw06.SemiringScaling'. -/
def semiringScalingUptoCard : Claim7 := { stood := { row := semiringScalingUptoRow, standIns := [], harness := (true, "4a201bc18f20b68086e98d69debf78f1b3c7b81c007cb531e0e9777ef5326780"), looks := true }, kinds := [], alts := [], laidByText := true, laidKinds := [.data, .data, .data, .data, .sentinel, .sentinel, .widerDeep, .pinned], laidTests := true, laidLooks := .later }
def SemiringScalingUptoCardSaid : Prop := Claim7.holds Tryz.pinned (.plain (OpenSpec.upto semiringScalingSpec)) semiringScalingUptoCard
end Rows
end Go.Proofs.YtomdjkcoodaheaaGreatDoor
