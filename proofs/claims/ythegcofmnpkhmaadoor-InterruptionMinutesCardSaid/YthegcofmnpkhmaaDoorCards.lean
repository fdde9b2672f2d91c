/-
  DERIVED. GIVEN WITH THE SEED: THE CARDS: each row of YthegcofmnpkhmaaDoorRows.lean that lists a variable, with what it lists TIED to the program's text (the seventh form; the later family's looks); each row that meets fmt, with fmt's text TOLD by the authors' own Lean function (tested against real Go, not proved from fmt's source: count such statements apart). THE CARD IS WHAT COUNTS. Prove the row's statement (the work); the ties are given (YthegcofmnpkhmaaDoorTie.lean); close each card by the builder's one call (the guide's Derived/Test/ToyasCard.lean, 'card_holds'). Laid BY PROGRAM, IN A SANDBOX (cutbox-door.mjs). By AI agents, Wed Nov 11 2026. No macro, syntax, notation, axiom, sorry.
-/
import Derived.Test.YthegcofmnpkhmaaDoorRows
import GoSem.ClaimSeven
namespace Go.Proofs.YthegcofmnpkhmaaDoor
namespace Rows

/-- THE TIED CARD OF 'permitofficelaw03.NetworkAnswers'. -/
def networkAnswersCard : Claim7 := { stood := { row := networkAnswersRow, standIns := [], harness := (true, "22fb12794b70fdcb7213f6678b802f586df0824144831744f60c649a85be67a9"), looks := false }, kinds := [], alts := [], laidByText := true, laidKinds := [.data], laidTests := true, laidLooks := .later }
def NetworkAnswersCardSaid : Prop := Claim7.holds Tryd.pinned (.plain (OpenSpec.ofChange networkAnswersSpec)) networkAnswersCard

/-- THE TIED CARD OF 'permitofficelaw06.MaskAnswers'. -/
def maskAnswersCard : Claim7 := { stood := { row := maskAnswersRow, standIns := [], harness := (true, "22fb12794b70fdcb7213f6678b802f586df0824144831744f60c649a85be67a9"), looks := false }, kinds := [], alts := [], laidByText := true, laidKinds := [.data, .data], laidTests := true, laidLooks := .later }
def MaskAnswersCardSaid : Prop := Claim7.holds Tryd.pinned (.plain (OpenSpec.ofChange maskAnswersSpec)) maskAnswersCard

/-- THE TIED CARD OF 'permitofficelaw07.ColourAnswers'. -/
def colourAnswersCard : Claim7 := { stood := { row := colourAnswersRow, standIns := [], harness := (true, "22fb12794b70fdcb7213f6678b802f586df0824144831744f60c649a85be67a9"), looks := false }, kinds := [], alts := [], laidByText := true, laidKinds := [.data, .data], laidTests := true, laidLooks := .later }
def ColourAnswersCardSaid : Prop := Claim7.holds Tryd.pinned (.plain (OpenSpec.ofChange colourAnswersSpec)) colourAnswersCard

/-- THE TIED CARD OF 'permitofficelaw22.InterruptionMinutes'. -/
def interruptionMinutesCard : Claim7 := { stood := { row := interruptionMinutesRow, standIns := [], harness := (true, "22fb12794b70fdcb7213f6678b802f586df0824144831744f60c649a85be67a9"), looks := false }, kinds := [], alts := [], laidByText := true, laidKinds := [.data, .data], laidTests := true, laidLooks := .later }
def InterruptionMinutesCardSaid : Prop := Claim7.holds Tryd.pinned (.plain (OpenSpec.ofChange interruptionMinutesSpec)) interruptionMinutesCard

/-- THE TIED CARD OF 'permitofficelaw22.InterruptionSame'. -/
def interruptionSameCard : Claim7 := { stood := { row := interruptionSameRow, standIns := [], harness := (true, "22fb12794b70fdcb7213f6678b802f586df0824144831744f60c649a85be67a9"), looks := false }, kinds := [], alts := [], laidByText := true, laidKinds := [.data, .data], laidTests := true, laidLooks := .later }
def InterruptionSameCardSaid : Prop := Claim7.holds Tryd.pinned (.plain (OpenSpec.ofChange interruptionSameSpec)) interruptionSameCard

/-- THE TIED CARD OF 'permitofficelaw22.InterruptionParts'. -/
def interruptionPartsCard : Claim7 := { stood := { row := interruptionPartsRow, standIns := [], harness := (true, "22fb12794b70fdcb7213f6678b802f586df0824144831744f60c649a85be67a9"), looks := false }, kinds := [], alts := [], laidByText := true, laidKinds := [.data, .data], laidTests := true, laidLooks := .later }
def InterruptionPartsCardSaid : Prop := Claim7.holds Tryd.pinned (.plain (OpenSpec.ofChange interruptionPartsSpec)) interruptionPartsCard

/-- THE TIED CARD OF 'permitofficelaw22.InterruptionLong'. -/
def interruptionLongCard : Claim7 := { stood := { row := interruptionLongRow, standIns := [], harness := (true, "22fb12794b70fdcb7213f6678b802f586df0824144831744f60c649a85be67a9"), looks := false }, kinds := [], alts := [], laidByText := true, laidKinds := [.data, .data], laidTests := true, laidLooks := .later }
def InterruptionLongCardSaid : Prop := Claim7.holds Tryd.pinned (.plain (OpenSpec.ofChange interruptionLongSpec)) interruptionLongCard

/-- THE TIED CARD OF 'permitofficelaw11.SupplyWays'. -/
def supplyWaysCard : Claim7 := { stood := { row := supplyWaysRow, standIns := [], harness := (true, "22fb12794b70fdcb7213f6678b802f586df0824144831744f60c649a85be67a9"), looks := false }, kinds := [], alts := [], laidByText := true, laidKinds := [.data, .data], laidTests := true, laidLooks := .later }
def SupplyWaysCardSaid : Prop := Claim7.holds Tryd.pinned (.plain (OpenSpec.ofChange supplyWaysSpec)) supplyWaysCard

/-- THE TIED CARD OF 'permitofficelaw22.InterruptionAnswers'. -/
def interruptionAnswersCard : Claim7 := { stood := { row := interruptionAnswersRow, standIns := [], harness := (true, "22fb12794b70fdcb7213f6678b802f586df0824144831744f60c649a85be67a9"), looks := false }, kinds := [], alts := [], laidByText := true, laidKinds := [.data, .data], laidTests := true, laidLooks := .later }
def InterruptionAnswersCardSaid : Prop := Claim7.holds Tryd.pinned (.plain (OpenSpec.ofChange interruptionAnswersSpec)) interruptionAnswersCard

/-- THE TIED CARD OF 'permitofficelaw11.SupplyAnswers'. -/
def supplyAnswersCard : Claim7 := { stood := { row := supplyAnswersRow, standIns := [], harness := (true, "22fb12794b70fdcb7213f6678b802f586df0824144831744f60c649a85be67a9"), looks := false }, kinds := [], alts := [], laidByText := true, laidKinds := [.data, .data], laidTests := true, laidLooks := .later }
def SupplyAnswersCardSaid : Prop := Claim7.holds Tryd.pinned (.plain (OpenSpec.ofChange supplyAnswersSpec)) supplyAnswersCard

/-- THE SECOND FORM's CARD OF 'permitofficelaw03.NetworkAnswers'. -/
def networkAnswersUptoCard : Claim7 := { stood := { row := networkAnswersUptoRow, standIns := [], harness := (true, "22fb12794b70fdcb7213f6678b802f586df0824144831744f60c649a85be67a9"), looks := false }, kinds := [], alts := [], laidByText := true, laidKinds := [.data], laidTests := true, laidLooks := .later }
def NetworkAnswersUptoCardSaid : Prop := Claim7.holds Tryd.pinned (.plain (OpenSpec.upto networkAnswersSpec)) networkAnswersUptoCard

/-- THE SECOND FORM's CARD OF 'permitofficelaw06.MaskAnswers'. -/
def maskAnswersUptoCard : Claim7 := { stood := { row := maskAnswersUptoRow, standIns := [], harness := (true, "22fb12794b70fdcb7213f6678b802f586df0824144831744f60c649a85be67a9"), looks := false }, kinds := [], alts := [], laidByText := true, laidKinds := [.data, .data], laidTests := true, laidLooks := .later }
def MaskAnswersUptoCardSaid : Prop := Claim7.holds Tryd.pinned (.plain (OpenSpec.upto maskAnswersSpec)) maskAnswersUptoCard

/-- THE SECOND FORM's CARD OF 'permitofficelaw07.ColourAnswers'. -/
def colourAnswersUptoCard : Claim7 := { stood := { row := colourAnswersUptoRow, standIns := [], harness := (true, "22fb12794b70fdcb7213f6678b802f586df0824144831744f60c649a85be67a9"), looks := false }, kinds := [], alts := [], laidByText := true, laidKinds := [.data, .data], laidTests := true, laidLooks := .later }
def ColourAnswersUptoCardSaid : Prop := Claim7.holds Tryd.pinned (.plain (OpenSpec.upto colourAnswersSpec)) colourAnswersUptoCard

/-- THE SECOND FORM's CARD OF 'permitofficelaw22.InterruptionMinutes'. -/
def interruptionMinutesUptoCard : Claim7 := { stood := { row := interruptionMinutesUptoRow, standIns := [], harness := (true, "22fb12794b70fdcb7213f6678b802f586df0824144831744f60c649a85be67a9"), looks := false }, kinds := [], alts := [], laidByText := true, laidKinds := [.data, .data], laidTests := true, laidLooks := .later }
def InterruptionMinutesUptoCardSaid : Prop := Claim7.holds Tryd.pinned (.plain (OpenSpec.upto interruptionMinutesSpec)) interruptionMinutesUptoCard

/-- THE SECOND FORM's CARD OF 'permitofficelaw22.InterruptionSame'. -/
def interruptionSameUptoCard : Claim7 := { stood := { row := interruptionSameUptoRow, standIns := [], harness := (true, "22fb12794b70fdcb7213f6678b802f586df0824144831744f60c649a85be67a9"), looks := false }, kinds := [], alts := [], laidByText := true, laidKinds := [.data, .data], laidTests := true, laidLooks := .later }
def InterruptionSameUptoCardSaid : Prop := Claim7.holds Tryd.pinned (.plain (OpenSpec.upto interruptionSameSpec)) interruptionSameUptoCard

/-- THE SECOND FORM's CARD OF 'permitofficelaw22.InterruptionParts'. -/
def interruptionPartsUptoCard : Claim7 := { stood := { row := interruptionPartsUptoRow, standIns := [], harness := (true, "22fb12794b70fdcb7213f6678b802f586df0824144831744f60c649a85be67a9"), looks := false }, kinds := [], alts := [], laidByText := true, laidKinds := [.data, .data], laidTests := true, laidLooks := .later }
def InterruptionPartsUptoCardSaid : Prop := Claim7.holds Tryd.pinned (.plain (OpenSpec.upto interruptionPartsSpec)) interruptionPartsUptoCard

/-- THE SECOND FORM's CARD OF 'permitofficelaw22.InterruptionLong'. -/
def interruptionLongUptoCard : Claim7 := { stood := { row := interruptionLongUptoRow, standIns := [], harness := (true, "22fb12794b70fdcb7213f6678b802f586df0824144831744f60c649a85be67a9"), looks := false }, kinds := [], alts := [], laidByText := true, laidKinds := [.data, .data], laidTests := true, laidLooks := .later }
def InterruptionLongUptoCardSaid : Prop := Claim7.holds Tryd.pinned (.plain (OpenSpec.upto interruptionLongSpec)) interruptionLongUptoCard

/-- THE SECOND FORM's CARD OF 'permitofficelaw11.SupplyWays'. -/
def supplyWaysUptoCard : Claim7 := { stood := { row := supplyWaysUptoRow, standIns := [], harness := (true, "22fb12794b70fdcb7213f6678b802f586df0824144831744f60c649a85be67a9"), looks := false }, kinds := [], alts := [], laidByText := true, laidKinds := [.data, .data], laidTests := true, laidLooks := .later }
def SupplyWaysUptoCardSaid : Prop := Claim7.holds Tryd.pinned (.plain (OpenSpec.upto supplyWaysSpec)) supplyWaysUptoCard

/-- THE SECOND FORM's CARD OF 'permitofficelaw22.InterruptionAnswers'. -/
def interruptionAnswersUptoCard : Claim7 := { stood := { row := interruptionAnswersUptoRow, standIns := [], harness := (true, "22fb12794b70fdcb7213f6678b802f586df0824144831744f60c649a85be67a9"), looks := false }, kinds := [], alts := [], laidByText := true, laidKinds := [.data, .data], laidTests := true, laidLooks := .later }
def InterruptionAnswersUptoCardSaid : Prop := Claim7.holds Tryd.pinned (.plain (OpenSpec.upto interruptionAnswersSpec)) interruptionAnswersUptoCard

/-- THE SECOND FORM's CARD OF 'permitofficelaw11.SupplyAnswers'. -/
def supplyAnswersUptoCard : Claim7 := { stood := { row := supplyAnswersUptoRow, standIns := [], harness := (true, "22fb12794b70fdcb7213f6678b802f586df0824144831744f60c649a85be67a9"), looks := false }, kinds := [], alts := [], laidByText := true, laidKinds := [.data, .data], laidTests := true, laidLooks := .later }
def SupplyAnswersUptoCardSaid : Prop := Claim7.holds Tryd.pinned (.plain (OpenSpec.upto supplyAnswersSpec)) supplyAnswersUptoCard
end Rows
end Go.Proofs.YthegcofmnpkhmaaDoor
