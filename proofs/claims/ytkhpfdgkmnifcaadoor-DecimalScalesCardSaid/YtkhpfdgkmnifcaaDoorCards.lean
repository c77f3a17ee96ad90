/-
  DERIVED. GIVEN WITH THE SEED: THE CARDS: each row of YtkhpfdgkmnifcaaDoorRows.lean that lists a variable, with what it lists TIED to the program's text (the seventh form; the later family's looks); each row that meets fmt, with fmt's text TOLD by the authors' own Lean function (tested against real Go, not proved from fmt's source: count such statements apart). THE CARD IS WHAT COUNTS. Prove the row's statement (the work); the ties are given (YtkhpfdgkmnifcaaDoorTie.lean); close each card by the builder's one call (the guide's Derived/Test/ToyasCard.lean, 'card_holds'). Laid BY PROGRAM, IN A SANDBOX (cutbox-door.mjs). By AI agents, Wed Nov 11 2026. No macro, syntax, notation, axiom, sorry.
-/
import Derived.Test.YtkhpfdgkmnifcaaDoorRows
import GoSem.ClaimSeven
namespace Go.Proofs.YtkhpfdgkmnifcaaDoor
namespace Rows

/-- THE TIED CARD OF 'gromalaw10.DecimalScales'. -/
def decimalScalesCard : Claim7 := { stood := { row := decimalScalesRow, standIns := [], harness := (true, "a191b045243df0677801c5162610bc5e405e058b62470dc6ed0c46b106820796"), looks := false }, kinds := [], alts := [], laidByText := true, laidKinds := [.data, .data, .data, .data, .pinned], laidTests := true, laidLooks := .later }
def DecimalScalesCardSaid : Prop := Claim7.holds Tryd.pinned (.plain (OpenSpec.ofChange decimalScalesSpec)) decimalScalesCard

/-- THE TIED CARD OF 'gromalaw10.DecimalTexts'. -/
def decimalTextsCard : Claim7 := { stood := { row := decimalTextsRow, standIns := [], harness := (true, "a191b045243df0677801c5162610bc5e405e058b62470dc6ed0c46b106820796"), looks := false }, kinds := [], alts := [], laidByText := true, laidKinds := [.data, .data, .data, .data, .pinned], laidTests := true, laidLooks := .later }
def DecimalTextsCardSaid : Prop := Claim7.holds Tryd.pinned (.plain (OpenSpec.ofChange decimalTextsSpec)) decimalTextsCard

/-- THE TIED CARD OF 'gromalaw10.DecimalDigits'. -/
def decimalDigitsCard : Claim7 := { stood := { row := decimalDigitsRow, standIns := [], harness := (true, "a191b045243df0677801c5162610bc5e405e058b62470dc6ed0c46b106820796"), looks := false }, kinds := [], alts := [], laidByText := true, laidKinds := [.data, .data, .data, .data, .pinned], laidTests := true, laidLooks := .later }
def DecimalDigitsCardSaid : Prop := Claim7.holds Tryd.pinned (.plain (OpenSpec.ofChange decimalDigitsSpec)) decimalDigitsCard

/-- THE TIED CARD OF 'gromalaw10.DecimalLong'. -/
def decimalLongCard : Claim7 := { stood := { row := decimalLongRow, standIns := [], harness := (true, "a191b045243df0677801c5162610bc5e405e058b62470dc6ed0c46b106820796"), looks := false }, kinds := [], alts := [], laidByText := true, laidKinds := [.data, .data, .data, .data, .pinned], laidTests := true, laidLooks := .later }
def DecimalLongCardSaid : Prop := Claim7.holds Tryd.pinned (.plain (OpenSpec.ofChange decimalLongSpec)) decimalLongCard

/-- THE SECOND FORM's CARD OF 'gromalaw10.DecimalScales'. -/
def decimalScalesUptoCard : Claim7 := { stood := { row := decimalScalesUptoRow, standIns := [], harness := (true, "a191b045243df0677801c5162610bc5e405e058b62470dc6ed0c46b106820796"), looks := false }, kinds := [], alts := [], laidByText := true, laidKinds := [.data, .data, .data, .data, .pinned], laidTests := true, laidLooks := .later }
def DecimalScalesUptoCardSaid : Prop := Claim7.holds Tryd.pinned (.plain (OpenSpec.upto decimalScalesSpec)) decimalScalesUptoCard

/-- THE SECOND FORM's CARD OF 'gromalaw10.DecimalTexts'. -/
def decimalTextsUptoCard : Claim7 := { stood := { row := decimalTextsUptoRow, standIns := [], harness := (true, "a191b045243df0677801c5162610bc5e405e058b62470dc6ed0c46b106820796"), looks := false }, kinds := [], alts := [], laidByText := true, laidKinds := [.data, .data, .data, .data, .pinned], laidTests := true, laidLooks := .later }
def DecimalTextsUptoCardSaid : Prop := Claim7.holds Tryd.pinned (.plain (OpenSpec.upto decimalTextsSpec)) decimalTextsUptoCard

/-- THE SECOND FORM's CARD OF 'gromalaw10.DecimalDigits'. -/
def decimalDigitsUptoCard : Claim7 := { stood := { row := decimalDigitsUptoRow, standIns := [], harness := (true, "a191b045243df0677801c5162610bc5e405e058b62470dc6ed0c46b106820796"), looks := false }, kinds := [], alts := [], laidByText := true, laidKinds := [.data, .data, .data, .data, .pinned], laidTests := true, laidLooks := .later }
def DecimalDigitsUptoCardSaid : Prop := Claim7.holds Tryd.pinned (.plain (OpenSpec.upto decimalDigitsSpec)) decimalDigitsUptoCard

/-- THE SECOND FORM's CARD OF 'gromalaw10.DecimalLong'. -/
def decimalLongUptoCard : Claim7 := { stood := { row := decimalLongUptoRow, standIns := [], harness := (true, "a191b045243df0677801c5162610bc5e405e058b62470dc6ed0c46b106820796"), looks := false }, kinds := [], alts := [], laidByText := true, laidKinds := [.data, .data, .data, .data, .pinned], laidTests := true, laidLooks := .later }
def DecimalLongUptoCardSaid : Prop := Claim7.holds Tryd.pinned (.plain (OpenSpec.upto decimalLongSpec)) decimalLongUptoCard
end Rows
end Go.Proofs.YtkhpfdgkmnifcaaDoor
