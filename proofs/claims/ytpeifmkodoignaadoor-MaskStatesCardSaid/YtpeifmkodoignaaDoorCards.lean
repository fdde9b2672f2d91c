/-
  DERIVED. GIVEN WITH THE SEED: THE CARDS: each row of YtpeifmkodoignaaDoorRows.lean that lists a variable, with what it lists TIED to the program's text (the seventh form; the later family's looks); each row that meets fmt, with fmt's text TOLD by the authors' own Lean function (tested against real Go, not proved from fmt's source: count such statements apart). THE CARD IS WHAT COUNTS. Prove the row's statement (the work); the ties are given (YtpeifmkodoignaaDoorTie.lean); close each card by the builder's one call (the guide's Derived/Test/ToyasCard.lean, 'card_holds'). Laid BY PROGRAM, IN A SANDBOX (cutbox-door.mjs). By AI agents, Wed Nov 11 2026. No macro, syntax, notation, axiom, sorry.
-/
import Derived.Test.YtpeifmkodoignaaDoorRows
import GoSem.ClaimSeven
namespace Go.Proofs.YtpeifmkodoignaaDoor
namespace Rows

/-- THE TIED CARD OF 'permitofficelaw03.NetworkWays'. -/
def networkWaysCard : Claim7 := { stood := { row := networkWaysRow, standIns := [], harness := (true, "29e903abe16d33a56eb02fdcdd11eadd9ec3fdbf4585a9234fda3dac1e661a81"), looks := false }, kinds := [], alts := [], laidByText := true, laidKinds := [.data], laidTests := true, laidLooks := .later }
def NetworkWaysCardSaid : Prop := Claim7.holds Tryd.pinned (.plain (OpenSpec.ofChange networkWaysSpec)) networkWaysCard

/-- THE TIED CARD OF 'permitofficelaw03.NetworkLess'. -/
def networkLessCard : Claim7 := { stood := { row := networkLessRow, standIns := [], harness := (true, "29e903abe16d33a56eb02fdcdd11eadd9ec3fdbf4585a9234fda3dac1e661a81"), looks := false }, kinds := [], alts := [], laidByText := true, laidKinds := [.data], laidTests := true, laidLooks := .later }
def NetworkLessCardSaid : Prop := Claim7.holds Tryd.pinned (.plain (OpenSpec.ofChange networkLessSpec)) networkLessCard

/-- THE TIED CARD OF 'permitofficelaw03.NetworkLimits'. -/
def networkLimitsCard : Claim7 := { stood := { row := networkLimitsRow, standIns := [], harness := (true, "29e903abe16d33a56eb02fdcdd11eadd9ec3fdbf4585a9234fda3dac1e661a81"), looks := false }, kinds := [], alts := [], laidByText := true, laidKinds := [.data], laidTests := true, laidLooks := .later }
def NetworkLimitsCardSaid : Prop := Claim7.holds Tryd.pinned (.plain (OpenSpec.ofChange networkLimitsSpec)) networkLimitsCard

/-- THE TIED CARD OF 'permitofficelaw03.NetworkAt'. -/
def networkAtCard : Claim7 := { stood := { row := networkAtRow, standIns := [], harness := (true, "29e903abe16d33a56eb02fdcdd11eadd9ec3fdbf4585a9234fda3dac1e661a81"), looks := false }, kinds := [], alts := [], laidByText := true, laidKinds := [.data], laidTests := true, laidLooks := .later }
def NetworkAtCardSaid : Prop := Claim7.holds Tryd.pinned (.plain (OpenSpec.ofChange networkAtSpec)) networkAtCard

/-- THE TIED CARD OF 'permitofficelaw03.NetworkErrors'. -/
def networkErrorsCard : Claim7 := { stood := { row := networkErrorsRow, standIns := [], harness := (true, "29e903abe16d33a56eb02fdcdd11eadd9ec3fdbf4585a9234fda3dac1e661a81"), looks := false }, kinds := [], alts := [], laidByText := true, laidKinds := [.data], laidTests := true, laidLooks := .later }
def NetworkErrorsCardSaid : Prop := Claim7.holds Tryd.pinned (.plain (OpenSpec.ofChange networkErrorsSpec)) networkErrorsCard

/-- THE TIED CARD OF 'permitofficelaw07.ColourGrows'. -/
def colourGrowsCard : Claim7 := { stood := { row := colourGrowsRow, standIns := [], harness := (true, "29e903abe16d33a56eb02fdcdd11eadd9ec3fdbf4585a9234fda3dac1e661a81"), looks := false }, kinds := [], alts := [], laidByText := true, laidKinds := [.data, .data], laidTests := true, laidLooks := .later }
def ColourGrowsCardSaid : Prop := Claim7.holds Tryd.pinned (.plain (OpenSpec.ofChange colourGrowsSpec)) colourGrowsCard

/-- THE TIED CARD OF 'permitofficelaw07.ColourSources'. -/
def colourSourcesCard : Claim7 := { stood := { row := colourSourcesRow, standIns := [], harness := (true, "29e903abe16d33a56eb02fdcdd11eadd9ec3fdbf4585a9234fda3dac1e661a81"), looks := false }, kinds := [], alts := [], laidByText := true, laidKinds := [.data, .data], laidTests := true, laidLooks := .later }
def ColourSourcesCardSaid : Prop := Claim7.holds Tryd.pinned (.plain (OpenSpec.ofChange colourSourcesSpec)) colourSourcesCard

/-- THE TIED CARD OF 'permitofficelaw03.NetworkAnswers'. -/
def networkAnswersCard : Claim7 := { stood := { row := networkAnswersRow, standIns := [], harness := (true, "29e903abe16d33a56eb02fdcdd11eadd9ec3fdbf4585a9234fda3dac1e661a81"), looks := false }, kinds := [], alts := [], laidByText := true, laidKinds := [.data], laidTests := true, laidLooks := .later }
def NetworkAnswersCardSaid : Prop := Claim7.holds Tryd.pinned (.plain (OpenSpec.ofChange networkAnswersSpec)) networkAnswersCard

/-- THE TIED CARD OF 'permitofficelaw06.MaskStates'. -/
def maskStatesCard : Claim7 := { stood := { row := maskStatesRow, standIns := [], harness := (true, "29e903abe16d33a56eb02fdcdd11eadd9ec3fdbf4585a9234fda3dac1e661a81"), looks := false }, kinds := [], alts := [], laidByText := true, laidKinds := [.data, .data], laidTests := true, laidLooks := .later }
def MaskStatesCardSaid : Prop := Claim7.holds Tryd.pinned (.plain (OpenSpec.ofChange maskStatesSpec)) maskStatesCard

/-- THE TIED CARD OF 'permitofficelaw07.ColourParts'. -/
def colourPartsCard : Claim7 := { stood := { row := colourPartsRow, standIns := [], harness := (true, "29e903abe16d33a56eb02fdcdd11eadd9ec3fdbf4585a9234fda3dac1e661a81"), looks := false }, kinds := [], alts := [], laidByText := true, laidKinds := [.data, .data], laidTests := true, laidLooks := .later }
def ColourPartsCardSaid : Prop := Claim7.holds Tryd.pinned (.plain (OpenSpec.ofChange colourPartsSpec)) colourPartsCard

/-- THE TIED CARD OF 'permitofficelaw06.MaskAnswers'. -/
def maskAnswersCard : Claim7 := { stood := { row := maskAnswersRow, standIns := [], harness := (true, "29e903abe16d33a56eb02fdcdd11eadd9ec3fdbf4585a9234fda3dac1e661a81"), looks := false }, kinds := [], alts := [], laidByText := true, laidKinds := [.data, .data], laidTests := true, laidLooks := .later }
def MaskAnswersCardSaid : Prop := Claim7.holds Tryd.pinned (.plain (OpenSpec.ofChange maskAnswersSpec)) maskAnswersCard

/-- THE TIED CARD OF 'permitofficelaw07.ColourAnswers'. -/
def colourAnswersCard : Claim7 := { stood := { row := colourAnswersRow, standIns := [], harness := (true, "29e903abe16d33a56eb02fdcdd11eadd9ec3fdbf4585a9234fda3dac1e661a81"), looks := false }, kinds := [], alts := [], laidByText := true, laidKinds := [.data, .data], laidTests := true, laidLooks := .later }
def ColourAnswersCardSaid : Prop := Claim7.holds Tryd.pinned (.plain (OpenSpec.ofChange colourAnswersSpec)) colourAnswersCard

/-- THE SECOND FORM's CARD OF 'permitofficelaw03.NetworkWays'. -/
def networkWaysUptoCard : Claim7 := { stood := { row := networkWaysUptoRow, standIns := [], harness := (true, "29e903abe16d33a56eb02fdcdd11eadd9ec3fdbf4585a9234fda3dac1e661a81"), looks := false }, kinds := [], alts := [], laidByText := true, laidKinds := [.data], laidTests := true, laidLooks := .later }
def NetworkWaysUptoCardSaid : Prop := Claim7.holds Tryd.pinned (.plain (OpenSpec.upto networkWaysSpec)) networkWaysUptoCard

/-- THE SECOND FORM's CARD OF 'permitofficelaw03.NetworkLess'. -/
def networkLessUptoCard : Claim7 := { stood := { row := networkLessUptoRow, standIns := [], harness := (true, "29e903abe16d33a56eb02fdcdd11eadd9ec3fdbf4585a9234fda3dac1e661a81"), looks := false }, kinds := [], alts := [], laidByText := true, laidKinds := [.data], laidTests := true, laidLooks := .later }
def NetworkLessUptoCardSaid : Prop := Claim7.holds Tryd.pinned (.plain (OpenSpec.upto networkLessSpec)) networkLessUptoCard

/-- THE SECOND FORM's CARD OF 'permitofficelaw03.NetworkLimits'. -/
def networkLimitsUptoCard : Claim7 := { stood := { row := networkLimitsUptoRow, standIns := [], harness := (true, "29e903abe16d33a56eb02fdcdd11eadd9ec3fdbf4585a9234fda3dac1e661a81"), looks := false }, kinds := [], alts := [], laidByText := true, laidKinds := [.data], laidTests := true, laidLooks := .later }
def NetworkLimitsUptoCardSaid : Prop := Claim7.holds Tryd.pinned (.plain (OpenSpec.upto networkLimitsSpec)) networkLimitsUptoCard

/-- THE SECOND FORM's CARD OF 'permitofficelaw03.NetworkAt'. -/
def networkAtUptoCard : Claim7 := { stood := { row := networkAtUptoRow, standIns := [], harness := (true, "29e903abe16d33a56eb02fdcdd11eadd9ec3fdbf4585a9234fda3dac1e661a81"), looks := false }, kinds := [], alts := [], laidByText := true, laidKinds := [.data], laidTests := true, laidLooks := .later }
def NetworkAtUptoCardSaid : Prop := Claim7.holds Tryd.pinned (.plain (OpenSpec.upto networkAtSpec)) networkAtUptoCard

/-- THE SECOND FORM's CARD OF 'permitofficelaw03.NetworkErrors'. -/
def networkErrorsUptoCard : Claim7 := { stood := { row := networkErrorsUptoRow, standIns := [], harness := (true, "29e903abe16d33a56eb02fdcdd11eadd9ec3fdbf4585a9234fda3dac1e661a81"), looks := false }, kinds := [], alts := [], laidByText := true, laidKinds := [.data], laidTests := true, laidLooks := .later }
def NetworkErrorsUptoCardSaid : Prop := Claim7.holds Tryd.pinned (.plain (OpenSpec.upto networkErrorsSpec)) networkErrorsUptoCard

/-- THE SECOND FORM's CARD OF 'permitofficelaw07.ColourGrows'. -/
def colourGrowsUptoCard : Claim7 := { stood := { row := colourGrowsUptoRow, standIns := [], harness := (true, "29e903abe16d33a56eb02fdcdd11eadd9ec3fdbf4585a9234fda3dac1e661a81"), looks := false }, kinds := [], alts := [], laidByText := true, laidKinds := [.data, .data], laidTests := true, laidLooks := .later }
def ColourGrowsUptoCardSaid : Prop := Claim7.holds Tryd.pinned (.plain (OpenSpec.upto colourGrowsSpec)) colourGrowsUptoCard

/-- THE SECOND FORM's CARD OF 'permitofficelaw07.ColourSources'. -/
def colourSourcesUptoCard : Claim7 := { stood := { row := colourSourcesUptoRow, standIns := [], harness := (true, "29e903abe16d33a56eb02fdcdd11eadd9ec3fdbf4585a9234fda3dac1e661a81"), looks := false }, kinds := [], alts := [], laidByText := true, laidKinds := [.data, .data], laidTests := true, laidLooks := .later }
def ColourSourcesUptoCardSaid : Prop := Claim7.holds Tryd.pinned (.plain (OpenSpec.upto colourSourcesSpec)) colourSourcesUptoCard

/-- THE SECOND FORM's CARD OF 'permitofficelaw03.NetworkAnswers'. -/
def networkAnswersUptoCard : Claim7 := { stood := { row := networkAnswersUptoRow, standIns := [], harness := (true, "29e903abe16d33a56eb02fdcdd11eadd9ec3fdbf4585a9234fda3dac1e661a81"), looks := false }, kinds := [], alts := [], laidByText := true, laidKinds := [.data], laidTests := true, laidLooks := .later }
def NetworkAnswersUptoCardSaid : Prop := Claim7.holds Tryd.pinned (.plain (OpenSpec.upto networkAnswersSpec)) networkAnswersUptoCard

/-- THE SECOND FORM's CARD OF 'permitofficelaw06.MaskStates'. -/
def maskStatesUptoCard : Claim7 := { stood := { row := maskStatesUptoRow, standIns := [], harness := (true, "29e903abe16d33a56eb02fdcdd11eadd9ec3fdbf4585a9234fda3dac1e661a81"), looks := false }, kinds := [], alts := [], laidByText := true, laidKinds := [.data, .data], laidTests := true, laidLooks := .later }
def MaskStatesUptoCardSaid : Prop := Claim7.holds Tryd.pinned (.plain (OpenSpec.upto maskStatesSpec)) maskStatesUptoCard

/-- THE SECOND FORM's CARD OF 'permitofficelaw07.ColourParts'. -/
def colourPartsUptoCard : Claim7 := { stood := { row := colourPartsUptoRow, standIns := [], harness := (true, "29e903abe16d33a56eb02fdcdd11eadd9ec3fdbf4585a9234fda3dac1e661a81"), looks := false }, kinds := [], alts := [], laidByText := true, laidKinds := [.data, .data], laidTests := true, laidLooks := .later }
def ColourPartsUptoCardSaid : Prop := Claim7.holds Tryd.pinned (.plain (OpenSpec.upto colourPartsSpec)) colourPartsUptoCard

/-- THE SECOND FORM's CARD OF 'permitofficelaw06.MaskAnswers'. -/
def maskAnswersUptoCard : Claim7 := { stood := { row := maskAnswersUptoRow, standIns := [], harness := (true, "29e903abe16d33a56eb02fdcdd11eadd9ec3fdbf4585a9234fda3dac1e661a81"), looks := false }, kinds := [], alts := [], laidByText := true, laidKinds := [.data, .data], laidTests := true, laidLooks := .later }
def MaskAnswersUptoCardSaid : Prop := Claim7.holds Tryd.pinned (.plain (OpenSpec.upto maskAnswersSpec)) maskAnswersUptoCard

/-- THE SECOND FORM's CARD OF 'permitofficelaw07.ColourAnswers'. -/
def colourAnswersUptoCard : Claim7 := { stood := { row := colourAnswersUptoRow, standIns := [], harness := (true, "29e903abe16d33a56eb02fdcdd11eadd9ec3fdbf4585a9234fda3dac1e661a81"), looks := false }, kinds := [], alts := [], laidByText := true, laidKinds := [.data, .data], laidTests := true, laidLooks := .later }
def ColourAnswersUptoCardSaid : Prop := Claim7.holds Tryd.pinned (.plain (OpenSpec.upto colourAnswersSpec)) colourAnswersUptoCard
end Rows
end Go.Proofs.YtpeifmkodoignaaDoor
