/-
  DERIVED. GIVEN WITH THE SEED: THE CARDS: each row of YtgpcojmdfmngeaaDoorRows.lean that lists a variable, with what it lists TIED to the program's text (the seventh form; the later family's looks); each row that meets fmt, with fmt's text TOLD by the authors' own Lean function (tested against real Go, not proved from fmt's source: count such statements apart). THE CARD IS WHAT COUNTS. Prove the row's statement (the work); the ties are given (YtgpcojmdfmngeaaDoorTie.lean); close each card by the builder's one call (the guide's Derived/Test/ToyasCard.lean, 'card_holds'). Laid BY PROGRAM, IN A SANDBOX (cutbox-door.mjs). By AI agents, Wed Nov 11 2026. No macro, syntax, notation, axiom, sorry.
-/
import Derived.Test.YtgpcojmdfmngeaaDoorRows
import GoSem.ClaimSeven
namespace Go.Proofs.YtgpcojmdfmngeaaDoor
namespace Rows

/-- THE TIED CARD OF 'permitofficelaw03.NetworkAnswers'. -/
def networkAnswersCard : Claim7 := { stood := { row := networkAnswersRow, standIns := [], harness := (true, "16510f21a0236cae5b09f4b08f1e0ad70c59055e471ccae60b3493f2577a57c9"), looks := false }, kinds := [], alts := [], laidByText := true, laidKinds := [.data], laidTests := true, laidLooks := .later }
def NetworkAnswersCardSaid : Prop := Claim7.holds Tryd.pinned (.plain (OpenSpec.ofChange networkAnswersSpec)) networkAnswersCard

/-- THE TIED CARD OF 'permitofficelaw06.MaskAnswers'. -/
def maskAnswersCard : Claim7 := { stood := { row := maskAnswersRow, standIns := [], harness := (true, "16510f21a0236cae5b09f4b08f1e0ad70c59055e471ccae60b3493f2577a57c9"), looks := false }, kinds := [], alts := [], laidByText := true, laidKinds := [.data, .data], laidTests := true, laidLooks := .later }
def MaskAnswersCardSaid : Prop := Claim7.holds Tryd.pinned (.plain (OpenSpec.ofChange maskAnswersSpec)) maskAnswersCard

/-- THE TIED CARD OF 'permitofficelaw07.ColourAnswers'. -/
def colourAnswersCard : Claim7 := { stood := { row := colourAnswersRow, standIns := [], harness := (true, "16510f21a0236cae5b09f4b08f1e0ad70c59055e471ccae60b3493f2577a57c9"), looks := false }, kinds := [], alts := [], laidByText := true, laidKinds := [.data, .data], laidTests := true, laidLooks := .later }
def ColourAnswersCardSaid : Prop := Claim7.holds Tryd.pinned (.plain (OpenSpec.ofChange colourAnswersSpec)) colourAnswersCard

/-- THE TIED CARD OF 'permitofficelaw11.SupplyWays'. -/
def supplyWaysCard : Claim7 := { stood := { row := supplyWaysRow, standIns := [], harness := (true, "16510f21a0236cae5b09f4b08f1e0ad70c59055e471ccae60b3493f2577a57c9"), looks := false }, kinds := [], alts := [], laidByText := true, laidKinds := [.data, .data], laidTests := true, laidLooks := .later }
def SupplyWaysCardSaid : Prop := Claim7.holds Tryd.pinned (.plain (OpenSpec.ofChange supplyWaysSpec)) supplyWaysCard

/-- THE TIED CARD OF 'permitofficelaw22.InterruptionAnswers'. -/
def interruptionAnswersCard : Claim7 := { stood := { row := interruptionAnswersRow, standIns := [], harness := (true, "16510f21a0236cae5b09f4b08f1e0ad70c59055e471ccae60b3493f2577a57c9"), looks := false }, kinds := [], alts := [], laidByText := true, laidKinds := [.data, .data], laidTests := true, laidLooks := .later }
def InterruptionAnswersCardSaid : Prop := Claim7.holds Tryd.pinned (.plain (OpenSpec.ofChange interruptionAnswersSpec)) interruptionAnswersCard

/-- THE TIED CARD OF 'permitofficelaw11.SupplyAnswers'. -/
def supplyAnswersCard : Claim7 := { stood := { row := supplyAnswersRow, standIns := [], harness := (true, "16510f21a0236cae5b09f4b08f1e0ad70c59055e471ccae60b3493f2577a57c9"), looks := false }, kinds := [], alts := [], laidByText := true, laidKinds := [.data, .data], laidTests := true, laidLooks := .later }
def SupplyAnswersCardSaid : Prop := Claim7.holds Tryd.pinned (.plain (OpenSpec.ofChange supplyAnswersSpec)) supplyAnswersCard

/-- THE SECOND FORM's CARD OF 'permitofficelaw03.NetworkAnswers'. -/
def networkAnswersUptoCard : Claim7 := { stood := { row := networkAnswersUptoRow, standIns := [], harness := (true, "16510f21a0236cae5b09f4b08f1e0ad70c59055e471ccae60b3493f2577a57c9"), looks := false }, kinds := [], alts := [], laidByText := true, laidKinds := [.data], laidTests := true, laidLooks := .later }
def NetworkAnswersUptoCardSaid : Prop := Claim7.holds Tryd.pinned (.plain (OpenSpec.upto networkAnswersSpec)) networkAnswersUptoCard

/-- THE SECOND FORM's CARD OF 'permitofficelaw06.MaskAnswers'. -/
def maskAnswersUptoCard : Claim7 := { stood := { row := maskAnswersUptoRow, standIns := [], harness := (true, "16510f21a0236cae5b09f4b08f1e0ad70c59055e471ccae60b3493f2577a57c9"), looks := false }, kinds := [], alts := [], laidByText := true, laidKinds := [.data, .data], laidTests := true, laidLooks := .later }
def MaskAnswersUptoCardSaid : Prop := Claim7.holds Tryd.pinned (.plain (OpenSpec.upto maskAnswersSpec)) maskAnswersUptoCard

/-- THE SECOND FORM's CARD OF 'permitofficelaw07.ColourAnswers'. -/
def colourAnswersUptoCard : Claim7 := { stood := { row := colourAnswersUptoRow, standIns := [], harness := (true, "16510f21a0236cae5b09f4b08f1e0ad70c59055e471ccae60b3493f2577a57c9"), looks := false }, kinds := [], alts := [], laidByText := true, laidKinds := [.data, .data], laidTests := true, laidLooks := .later }
def ColourAnswersUptoCardSaid : Prop := Claim7.holds Tryd.pinned (.plain (OpenSpec.upto colourAnswersSpec)) colourAnswersUptoCard

/-- THE SECOND FORM's CARD OF 'permitofficelaw11.SupplyWays'. -/
def supplyWaysUptoCard : Claim7 := { stood := { row := supplyWaysUptoRow, standIns := [], harness := (true, "16510f21a0236cae5b09f4b08f1e0ad70c59055e471ccae60b3493f2577a57c9"), looks := false }, kinds := [], alts := [], laidByText := true, laidKinds := [.data, .data], laidTests := true, laidLooks := .later }
def SupplyWaysUptoCardSaid : Prop := Claim7.holds Tryd.pinned (.plain (OpenSpec.upto supplyWaysSpec)) supplyWaysUptoCard

/-- THE SECOND FORM's CARD OF 'permitofficelaw22.InterruptionAnswers'. -/
def interruptionAnswersUptoCard : Claim7 := { stood := { row := interruptionAnswersUptoRow, standIns := [], harness := (true, "16510f21a0236cae5b09f4b08f1e0ad70c59055e471ccae60b3493f2577a57c9"), looks := false }, kinds := [], alts := [], laidByText := true, laidKinds := [.data, .data], laidTests := true, laidLooks := .later }
def InterruptionAnswersUptoCardSaid : Prop := Claim7.holds Tryd.pinned (.plain (OpenSpec.upto interruptionAnswersSpec)) interruptionAnswersUptoCard

/-- THE SECOND FORM's CARD OF 'permitofficelaw11.SupplyAnswers'. -/
def supplyAnswersUptoCard : Claim7 := { stood := { row := supplyAnswersUptoRow, standIns := [], harness := (true, "16510f21a0236cae5b09f4b08f1e0ad70c59055e471ccae60b3493f2577a57c9"), looks := false }, kinds := [], alts := [], laidByText := true, laidKinds := [.data, .data], laidTests := true, laidLooks := .later }
def SupplyAnswersUptoCardSaid : Prop := Claim7.holds Tryd.pinned (.plain (OpenSpec.upto supplyAnswersSpec)) supplyAnswersUptoCard
end Rows
end Go.Proofs.YtgpcojmdfmngeaaDoor
