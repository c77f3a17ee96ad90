/-
  DERIVED. GIVEN WITH THE SEED: THE CARDS: each row of YtfbdkjonjpanfaaGreatDoorRows.lean that lists a variable, with what it lists TIED to the program's text (the seventh form; the later family's looks); each row that meets fmt, with fmt's text TOLD by the authors' own Lean function (tested against real Go, not proved from fmt's source: count such statements apart). THE CARD IS WHAT COUNTS. Prove the row's statement (the work); the ties are given (YtfbdkjonjpanfaaGreatDoorTie.lean); close each card by the builder's one call (the guide's Derived/Test/ToyasCard.lean, 'card_holds'). Laid BY PROGRAM, IN A SANDBOX (cutbox-door.mjs). By AI agents, Wed Nov 11 2026. No macro, syntax, notation, axiom, sorry.
-/
import Derived.Test.YtfbdkjonjpanfaaGreatDoorRows
import GoSem.ClaimSeven
namespace Go.Proofs.YtfbdkjonjpanfaaGreatDoor
namespace Rows

/-- THE TIED CARD OF 'gromalaw13.FeatureFrom'. -/
def featureFromCard : Claim7 := { stood := { row := featureFromRow, standIns := [], harness := (true, "761608a5378f288768d50751b6c1b9c31ee9f4433d4ad931043e3538931a5413"), looks := false }, kinds := [], alts := [], laidByText := true, laidKinds := [.data, .pinned], laidTests := true, laidLooks := .later }
def FeatureFromCardSaid : Prop := Claim7.holds Tryz.pinned (.plain (OpenSpec.ofChange featureFromSpec)) featureFromCard

/-- THE TIED CARD OF 'gromalaw13.FeatureSegments'. -/
def featureSegmentsCard : Claim7 := { stood := { row := featureSegmentsRow, standIns := [], harness := (true, "761608a5378f288768d50751b6c1b9c31ee9f4433d4ad931043e3538931a5413"), looks := false }, kinds := [], alts := [], laidByText := true, laidKinds := [.data, .pinned], laidTests := true, laidLooks := .later }
def FeatureSegmentsCardSaid : Prop := Claim7.holds Tryz.pinned (.plain (OpenSpec.ofChange featureSegmentsSpec)) featureSegmentsCard

/-- THE TIED CARD OF 'gromalaw13.FeatureSame'. -/
def featureSameCard : Claim7 := { stood := { row := featureSameRow, standIns := [], harness := (true, "761608a5378f288768d50751b6c1b9c31ee9f4433d4ad931043e3538931a5413"), looks := false }, kinds := [], alts := [], laidByText := true, laidKinds := [.data, .pinned], laidTests := true, laidLooks := .later }
def FeatureSameCardSaid : Prop := Claim7.holds Tryz.pinned (.plain (OpenSpec.ofChange featureSameSpec)) featureSameCard

/-- THE TIED CARD OF 'gromalaw13.FeatureBack'. -/
def featureBackCard : Claim7 := { stood := { row := featureBackRow, standIns := [], harness := (true, "761608a5378f288768d50751b6c1b9c31ee9f4433d4ad931043e3538931a5413"), looks := false }, kinds := [], alts := [], laidByText := true, laidKinds := [.data, .data, .data, .data, .pinned], laidTests := true, laidLooks := .later }
def FeatureBackCardSaid : Prop := Claim7.holds Tryz.pinned (.plain (OpenSpec.ofChange featureBackSpec)) featureBackCard

/-- THE SECOND FORM's CARD OF 'gromalaw13.FeatureFrom'. -/
def featureFromUptoCard : Claim7 := { stood := { row := featureFromUptoRow, standIns := [], harness := (true, "761608a5378f288768d50751b6c1b9c31ee9f4433d4ad931043e3538931a5413"), looks := false }, kinds := [], alts := [], laidByText := true, laidKinds := [.data, .pinned], laidTests := true, laidLooks := .later }
def FeatureFromUptoCardSaid : Prop := Claim7.holds Tryz.pinned (.plain (OpenSpec.upto featureFromSpec)) featureFromUptoCard

/-- THE SECOND FORM's CARD OF 'gromalaw13.FeatureSegments'. -/
def featureSegmentsUptoCard : Claim7 := { stood := { row := featureSegmentsUptoRow, standIns := [], harness := (true, "761608a5378f288768d50751b6c1b9c31ee9f4433d4ad931043e3538931a5413"), looks := false }, kinds := [], alts := [], laidByText := true, laidKinds := [.data, .pinned], laidTests := true, laidLooks := .later }
def FeatureSegmentsUptoCardSaid : Prop := Claim7.holds Tryz.pinned (.plain (OpenSpec.upto featureSegmentsSpec)) featureSegmentsUptoCard

/-- THE SECOND FORM's CARD OF 'gromalaw13.FeatureSame'. -/
def featureSameUptoCard : Claim7 := { stood := { row := featureSameUptoRow, standIns := [], harness := (true, "761608a5378f288768d50751b6c1b9c31ee9f4433d4ad931043e3538931a5413"), looks := false }, kinds := [], alts := [], laidByText := true, laidKinds := [.data, .pinned], laidTests := true, laidLooks := .later }
def FeatureSameUptoCardSaid : Prop := Claim7.holds Tryz.pinned (.plain (OpenSpec.upto featureSameSpec)) featureSameUptoCard

/-- THE SECOND FORM's CARD OF 'gromalaw13.FeatureBack'. -/
def featureBackUptoCard : Claim7 := { stood := { row := featureBackUptoRow, standIns := [], harness := (true, "761608a5378f288768d50751b6c1b9c31ee9f4433d4ad931043e3538931a5413"), looks := false }, kinds := [], alts := [], laidByText := true, laidKinds := [.data, .data, .data, .data, .pinned], laidTests := true, laidLooks := .later }
def FeatureBackUptoCardSaid : Prop := Claim7.holds Tryz.pinned (.plain (OpenSpec.upto featureBackSpec)) featureBackUptoCard
end Rows
end Go.Proofs.YtfbdkjonjpanfaaGreatDoor
