/-
  DERIVED. GIVEN WITH THE SEED: THE CARDS: each row of YtglhplddjjoggaaDoorRows.lean that lists a variable, with what it lists TIED to the program's text (the seventh form; the later family's looks); each row that meets fmt, with fmt's text TOLD by the authors' own Lean function (tested against real Go, not proved from fmt's source: count such statements apart). THE CARD IS WHAT COUNTS. Prove the row's statement (the work); the ties are given (YtglhplddjjoggaaDoorTie.lean); close each card by the builder's one call (the guide's Derived/Test/ToyasCard.lean, 'card_holds'). Laid BY PROGRAM, IN A SANDBOX (cutbox-door.mjs). By AI agents, Wed Nov 11 2026. No macro, syntax, notation, axiom, sorry.
-/
import Derived.Test.YtglhplddjjoggaaDoorRows
import GoSem.ClaimSeven
namespace Go.Proofs.YtglhplddjjoggaaDoor
namespace Rows

/-- THE TIED CARD OF 'permitofficelaw03.NetworkAnswers'. -/
def networkAnswersCard : Claim7 := { stood := { row := networkAnswersRow, standIns := [], harness := (true, "d7b1faa3832d79cc733e44ca69a5b86511611cb89d95f2f9a1caaaeea49d3970"), looks := false }, kinds := [], alts := [], laidByText := true, laidKinds := [.data], laidTests := true, laidLooks := .later }
def NetworkAnswersCardSaid : Prop := Claim7.holds Tryd.pinned (.plain (OpenSpec.ofChange networkAnswersSpec)) networkAnswersCard

/-- THE TIED CARD OF 'permitofficelaw06.MaskAnswers'. -/
def maskAnswersCard : Claim7 := { stood := { row := maskAnswersRow, standIns := [], harness := (true, "d7b1faa3832d79cc733e44ca69a5b86511611cb89d95f2f9a1caaaeea49d3970"), looks := false }, kinds := [], alts := [], laidByText := true, laidKinds := [.data, .data], laidTests := true, laidLooks := .later }
def MaskAnswersCardSaid : Prop := Claim7.holds Tryd.pinned (.plain (OpenSpec.ofChange maskAnswersSpec)) maskAnswersCard

/-- THE TIED CARD OF 'permitofficelaw07.ColourAnswers'. -/
def colourAnswersCard : Claim7 := { stood := { row := colourAnswersRow, standIns := [], harness := (true, "d7b1faa3832d79cc733e44ca69a5b86511611cb89d95f2f9a1caaaeea49d3970"), looks := false }, kinds := [], alts := [], laidByText := true, laidKinds := [.data, .data], laidTests := true, laidLooks := .later }
def ColourAnswersCardSaid : Prop := Claim7.holds Tryd.pinned (.plain (OpenSpec.ofChange colourAnswersSpec)) colourAnswersCard

/-- THE TIED CARD OF 'permitofficelaw11.SupplyLost'. -/
def supplyLostCard : Claim7 := { stood := { row := supplyLostRow, standIns := [], harness := (true, "d7b1faa3832d79cc733e44ca69a5b86511611cb89d95f2f9a1caaaeea49d3970"), looks := false }, kinds := [], alts := [], laidByText := true, laidKinds := [.data, .data], laidTests := true, laidLooks := .later }
def SupplyLostCardSaid : Prop := Claim7.holds Tryd.pinned (.plain (OpenSpec.ofChange supplyLostSpec)) supplyLostCard

/-- THE TIED CARD OF 'permitofficelaw11.SupplyGrows'. -/
def supplyGrowsCard : Claim7 := { stood := { row := supplyGrowsRow, standIns := [], harness := (true, "d7b1faa3832d79cc733e44ca69a5b86511611cb89d95f2f9a1caaaeea49d3970"), looks := false }, kinds := [], alts := [], laidByText := true, laidKinds := [.data, .data], laidTests := true, laidLooks := .later }
def SupplyGrowsCardSaid : Prop := Claim7.holds Tryd.pinned (.plain (OpenSpec.ofChange supplyGrowsSpec)) supplyGrowsCard

/-- THE TIED CARD OF 'permitofficelaw07.ColourShades'. -/
def colourShadesCard : Claim7 := { stood := { row := colourShadesRow, standIns := [], harness := (true, "d7b1faa3832d79cc733e44ca69a5b86511611cb89d95f2f9a1caaaeea49d3970"), looks := false }, kinds := [], alts := [], laidByText := true, laidKinds := [.data, .data], laidTests := true, laidLooks := .later }
def ColourShadesCardSaid : Prop := Claim7.holds Tryd.pinned (.plain (OpenSpec.ofChange colourShadesSpec)) colourShadesCard

/-- THE TIED CARD OF 'permitofficelaw11.SupplyWorst'. -/
def supplyWorstCard : Claim7 := { stood := { row := supplyWorstRow, standIns := [], harness := (true, "d7b1faa3832d79cc733e44ca69a5b86511611cb89d95f2f9a1caaaeea49d3970"), looks := false }, kinds := [], alts := [], laidByText := true, laidKinds := [.data, .data], laidTests := true, laidLooks := .later }
def SupplyWorstCardSaid : Prop := Claim7.holds Tryd.pinned (.plain (OpenSpec.ofChange supplyWorstSpec)) supplyWorstCard

/-- THE TIED CARD OF 'permitofficelaw22.InterruptionMinutes'. -/
def interruptionMinutesCard : Claim7 := { stood := { row := interruptionMinutesRow, standIns := [], harness := (true, "d7b1faa3832d79cc733e44ca69a5b86511611cb89d95f2f9a1caaaeea49d3970"), looks := false }, kinds := [], alts := [], laidByText := true, laidKinds := [.data, .data], laidTests := true, laidLooks := .later }
def InterruptionMinutesCardSaid : Prop := Claim7.holds Tryd.pinned (.plain (OpenSpec.ofChange interruptionMinutesSpec)) interruptionMinutesCard

/-- THE TIED CARD OF 'permitofficelaw22.InterruptionSame'. -/
def interruptionSameCard : Claim7 := { stood := { row := interruptionSameRow, standIns := [], harness := (true, "d7b1faa3832d79cc733e44ca69a5b86511611cb89d95f2f9a1caaaeea49d3970"), looks := false }, kinds := [], alts := [], laidByText := true, laidKinds := [.data, .data], laidTests := true, laidLooks := .later }
def InterruptionSameCardSaid : Prop := Claim7.holds Tryd.pinned (.plain (OpenSpec.ofChange interruptionSameSpec)) interruptionSameCard

/-- THE TIED CARD OF 'permitofficelaw22.InterruptionParts'. -/
def interruptionPartsCard : Claim7 := { stood := { row := interruptionPartsRow, standIns := [], harness := (true, "d7b1faa3832d79cc733e44ca69a5b86511611cb89d95f2f9a1caaaeea49d3970"), looks := false }, kinds := [], alts := [], laidByText := true, laidKinds := [.data, .data], laidTests := true, laidLooks := .later }
def InterruptionPartsCardSaid : Prop := Claim7.holds Tryd.pinned (.plain (OpenSpec.ofChange interruptionPartsSpec)) interruptionPartsCard

/-- THE TIED CARD OF 'permitofficelaw22.InterruptionLong'. -/
def interruptionLongCard : Claim7 := { stood := { row := interruptionLongRow, standIns := [], harness := (true, "d7b1faa3832d79cc733e44ca69a5b86511611cb89d95f2f9a1caaaeea49d3970"), looks := false }, kinds := [], alts := [], laidByText := true, laidKinds := [.data, .data], laidTests := true, laidLooks := .later }
def InterruptionLongCardSaid : Prop := Claim7.holds Tryd.pinned (.plain (OpenSpec.ofChange interruptionLongSpec)) interruptionLongCard

/-- THE TIED CARD OF 'permitofficelaw11.SupplyWays'. -/
def supplyWaysCard : Claim7 := { stood := { row := supplyWaysRow, standIns := [], harness := (true, "d7b1faa3832d79cc733e44ca69a5b86511611cb89d95f2f9a1caaaeea49d3970"), looks := false }, kinds := [], alts := [], laidByText := true, laidKinds := [.data, .data], laidTests := true, laidLooks := .later }
def SupplyWaysCardSaid : Prop := Claim7.holds Tryd.pinned (.plain (OpenSpec.ofChange supplyWaysSpec)) supplyWaysCard

/-- THE SECOND FORM's CARD OF 'permitofficelaw03.NetworkAnswers'. -/
def networkAnswersUptoCard : Claim7 := { stood := { row := networkAnswersUptoRow, standIns := [], harness := (true, "d7b1faa3832d79cc733e44ca69a5b86511611cb89d95f2f9a1caaaeea49d3970"), looks := false }, kinds := [], alts := [], laidByText := true, laidKinds := [.data], laidTests := true, laidLooks := .later }
def NetworkAnswersUptoCardSaid : Prop := Claim7.holds Tryd.pinned (.plain (OpenSpec.upto networkAnswersSpec)) networkAnswersUptoCard

/-- THE SECOND FORM's CARD OF 'permitofficelaw06.MaskAnswers'. -/
def maskAnswersUptoCard : Claim7 := { stood := { row := maskAnswersUptoRow, standIns := [], harness := (true, "d7b1faa3832d79cc733e44ca69a5b86511611cb89d95f2f9a1caaaeea49d3970"), looks := false }, kinds := [], alts := [], laidByText := true, laidKinds := [.data, .data], laidTests := true, laidLooks := .later }
def MaskAnswersUptoCardSaid : Prop := Claim7.holds Tryd.pinned (.plain (OpenSpec.upto maskAnswersSpec)) maskAnswersUptoCard

/-- THE SECOND FORM's CARD OF 'permitofficelaw07.ColourAnswers'. -/
def colourAnswersUptoCard : Claim7 := { stood := { row := colourAnswersUptoRow, standIns := [], harness := (true, "d7b1faa3832d79cc733e44ca69a5b86511611cb89d95f2f9a1caaaeea49d3970"), looks := false }, kinds := [], alts := [], laidByText := true, laidKinds := [.data, .data], laidTests := true, laidLooks := .later }
def ColourAnswersUptoCardSaid : Prop := Claim7.holds Tryd.pinned (.plain (OpenSpec.upto colourAnswersSpec)) colourAnswersUptoCard

/-- THE SECOND FORM's CARD OF 'permitofficelaw11.SupplyLost'. -/
def supplyLostUptoCard : Claim7 := { stood := { row := supplyLostUptoRow, standIns := [], harness := (true, "d7b1faa3832d79cc733e44ca69a5b86511611cb89d95f2f9a1caaaeea49d3970"), looks := false }, kinds := [], alts := [], laidByText := true, laidKinds := [.data, .data], laidTests := true, laidLooks := .later }
def SupplyLostUptoCardSaid : Prop := Claim7.holds Tryd.pinned (.plain (OpenSpec.upto supplyLostSpec)) supplyLostUptoCard

/-- THE SECOND FORM's CARD OF 'permitofficelaw11.SupplyGrows'. -/
def supplyGrowsUptoCard : Claim7 := { stood := { row := supplyGrowsUptoRow, standIns := [], harness := (true, "d7b1faa3832d79cc733e44ca69a5b86511611cb89d95f2f9a1caaaeea49d3970"), looks := false }, kinds := [], alts := [], laidByText := true, laidKinds := [.data, .data], laidTests := true, laidLooks := .later }
def SupplyGrowsUptoCardSaid : Prop := Claim7.holds Tryd.pinned (.plain (OpenSpec.upto supplyGrowsSpec)) supplyGrowsUptoCard

/-- THE SECOND FORM's CARD OF 'permitofficelaw07.ColourShades'. -/
def colourShadesUptoCard : Claim7 := { stood := { row := colourShadesUptoRow, standIns := [], harness := (true, "d7b1faa3832d79cc733e44ca69a5b86511611cb89d95f2f9a1caaaeea49d3970"), looks := false }, kinds := [], alts := [], laidByText := true, laidKinds := [.data, .data], laidTests := true, laidLooks := .later }
def ColourShadesUptoCardSaid : Prop := Claim7.holds Tryd.pinned (.plain (OpenSpec.upto colourShadesSpec)) colourShadesUptoCard

/-- THE SECOND FORM's CARD OF 'permitofficelaw11.SupplyWorst'. -/
def supplyWorstUptoCard : Claim7 := { stood := { row := supplyWorstUptoRow, standIns := [], harness := (true, "d7b1faa3832d79cc733e44ca69a5b86511611cb89d95f2f9a1caaaeea49d3970"), looks := false }, kinds := [], alts := [], laidByText := true, laidKinds := [.data, .data], laidTests := true, laidLooks := .later }
def SupplyWorstUptoCardSaid : Prop := Claim7.holds Tryd.pinned (.plain (OpenSpec.upto supplyWorstSpec)) supplyWorstUptoCard

/-- THE SECOND FORM's CARD OF 'permitofficelaw22.InterruptionMinutes'. -/
def interruptionMinutesUptoCard : Claim7 := { stood := { row := interruptionMinutesUptoRow, standIns := [], harness := (true, "d7b1faa3832d79cc733e44ca69a5b86511611cb89d95f2f9a1caaaeea49d3970"), looks := false }, kinds := [], alts := [], laidByText := true, laidKinds := [.data, .data], laidTests := true, laidLooks := .later }
def InterruptionMinutesUptoCardSaid : Prop := Claim7.holds Tryd.pinned (.plain (OpenSpec.upto interruptionMinutesSpec)) interruptionMinutesUptoCard

/-- THE SECOND FORM's CARD OF 'permitofficelaw22.InterruptionSame'. -/
def interruptionSameUptoCard : Claim7 := { stood := { row := interruptionSameUptoRow, standIns := [], harness := (true, "d7b1faa3832d79cc733e44ca69a5b86511611cb89d95f2f9a1caaaeea49d3970"), looks := false }, kinds := [], alts := [], laidByText := true, laidKinds := [.data, .data], laidTests := true, laidLooks := .later }
def InterruptionSameUptoCardSaid : Prop := Claim7.holds Tryd.pinned (.plain (OpenSpec.upto interruptionSameSpec)) interruptionSameUptoCard

/-- THE SECOND FORM's CARD OF 'permitofficelaw22.InterruptionParts'. -/
def interruptionPartsUptoCard : Claim7 := { stood := { row := interruptionPartsUptoRow, standIns := [], harness := (true, "d7b1faa3832d79cc733e44ca69a5b86511611cb89d95f2f9a1caaaeea49d3970"), looks := false }, kinds := [], alts := [], laidByText := true, laidKinds := [.data, .data], laidTests := true, laidLooks := .later }
def InterruptionPartsUptoCardSaid : Prop := Claim7.holds Tryd.pinned (.plain (OpenSpec.upto interruptionPartsSpec)) interruptionPartsUptoCard

/-- THE SECOND FORM's CARD OF 'permitofficelaw22.InterruptionLong'. -/
def interruptionLongUptoCard : Claim7 := { stood := { row := interruptionLongUptoRow, standIns := [], harness := (true, "d7b1faa3832d79cc733e44ca69a5b86511611cb89d95f2f9a1caaaeea49d3970"), looks := false }, kinds := [], alts := [], laidByText := true, laidKinds := [.data, .data], laidTests := true, laidLooks := .later }
def InterruptionLongUptoCardSaid : Prop := Claim7.holds Tryd.pinned (.plain (OpenSpec.upto interruptionLongSpec)) interruptionLongUptoCard

/-- THE SECOND FORM's CARD OF 'permitofficelaw11.SupplyWays'. -/
def supplyWaysUptoCard : Claim7 := { stood := { row := supplyWaysUptoRow, standIns := [], harness := (true, "d7b1faa3832d79cc733e44ca69a5b86511611cb89d95f2f9a1caaaeea49d3970"), looks := false }, kinds := [], alts := [], laidByText := true, laidKinds := [.data, .data], laidTests := true, laidLooks := .later }
def SupplyWaysUptoCardSaid : Prop := Claim7.holds Tryd.pinned (.plain (OpenSpec.upto supplyWaysSpec)) supplyWaysUptoCard
end Rows
end Go.Proofs.YtglhplddjjoggaaDoor
