/-
  DERIVED. GIVEN WITH THE SEED: THE CARDS: each row of YtjncgpchmhkcbaaDoorRows.lean that lists a variable, with what it lists TIED to the program's text (the seventh form; the later family's looks); each row that meets fmt, with fmt's text TOLD by the authors' own Lean function (tested against real Go, not proved from fmt's source: count such statements apart). THE CARD IS WHAT COUNTS. Prove the row's statement (the work); the ties are given (YtjncgpchmhkcbaaDoorTie.lean); close each card by the builder's one call (the guide's Derived/Test/ToyasCard.lean, 'card_holds'). Laid BY PROGRAM, IN A SANDBOX (cutbox-door.mjs). By AI agents, Wed Nov 11 2026. No macro, syntax, notation, axiom, sorry.
-/
import Derived.Test.YtjncgpchmhkcbaaDoorRows
import GoSem.ClaimSeven
namespace Go.Proofs.YtjncgpchmhkcbaaDoor
namespace Rows

/-- THE TIED CARD OF 'permitofficelaw06.MaskLimit'. -/
def maskLimitCard : Claim7 := { stood := { row := maskLimitRow, standIns := [], harness := (true, "42c956363bbf2cf998bdea43ef74880acb78d1ca859ec7bd689b1973997c6686"), looks := false }, kinds := [], alts := [], laidByText := true, laidKinds := [.data], laidTests := true, laidLooks := .later }
def MaskLimitCardSaid : Prop := Claim7.holds Tryd.pinned (.plain (OpenSpec.ofChange maskLimitSpec)) maskLimitCard

/-- THE TIED CARD OF 'permitofficelaw06.MaskMeets'. -/
def maskMeetsCard : Claim7 := { stood := { row := maskMeetsRow, standIns := [], harness := (true, "42c956363bbf2cf998bdea43ef74880acb78d1ca859ec7bd689b1973997c6686"), looks := false }, kinds := [], alts := [], laidByText := true, laidKinds := [.data], laidTests := true, laidLooks := .later }
def MaskMeetsCardSaid : Prop := Claim7.holds Tryd.pinned (.plain (OpenSpec.ofChange maskMeetsSpec)) maskMeetsCard

/-- THE TIED CARD OF 'permitofficelaw03.NetworkWays'. -/
def networkWaysCard : Claim7 := { stood := { row := networkWaysRow, standIns := [], harness := (true, "42c956363bbf2cf998bdea43ef74880acb78d1ca859ec7bd689b1973997c6686"), looks := false }, kinds := [], alts := [], laidByText := true, laidKinds := [.data], laidTests := true, laidLooks := .later }
def NetworkWaysCardSaid : Prop := Claim7.holds Tryd.pinned (.plain (OpenSpec.ofChange networkWaysSpec)) networkWaysCard

/-- THE TIED CARD OF 'permitofficelaw03.NetworkLess'. -/
def networkLessCard : Claim7 := { stood := { row := networkLessRow, standIns := [], harness := (true, "42c956363bbf2cf998bdea43ef74880acb78d1ca859ec7bd689b1973997c6686"), looks := false }, kinds := [], alts := [], laidByText := true, laidKinds := [.data], laidTests := true, laidLooks := .later }
def NetworkLessCardSaid : Prop := Claim7.holds Tryd.pinned (.plain (OpenSpec.ofChange networkLessSpec)) networkLessCard

/-- THE TIED CARD OF 'permitofficelaw03.NetworkLimits'. -/
def networkLimitsCard : Claim7 := { stood := { row := networkLimitsRow, standIns := [], harness := (true, "42c956363bbf2cf998bdea43ef74880acb78d1ca859ec7bd689b1973997c6686"), looks := false }, kinds := [], alts := [], laidByText := true, laidKinds := [.data], laidTests := true, laidLooks := .later }
def NetworkLimitsCardSaid : Prop := Claim7.holds Tryd.pinned (.plain (OpenSpec.ofChange networkLimitsSpec)) networkLimitsCard

/-- THE TIED CARD OF 'permitofficelaw03.NetworkAt'. -/
def networkAtCard : Claim7 := { stood := { row := networkAtRow, standIns := [], harness := (true, "42c956363bbf2cf998bdea43ef74880acb78d1ca859ec7bd689b1973997c6686"), looks := false }, kinds := [], alts := [], laidByText := true, laidKinds := [.data], laidTests := true, laidLooks := .later }
def NetworkAtCardSaid : Prop := Claim7.holds Tryd.pinned (.plain (OpenSpec.ofChange networkAtSpec)) networkAtCard

/-- THE TIED CARD OF 'permitofficelaw03.NetworkErrors'. -/
def networkErrorsCard : Claim7 := { stood := { row := networkErrorsRow, standIns := [], harness := (true, "42c956363bbf2cf998bdea43ef74880acb78d1ca859ec7bd689b1973997c6686"), looks := false }, kinds := [], alts := [], laidByText := true, laidKinds := [.data], laidTests := true, laidLooks := .later }
def NetworkErrorsCardSaid : Prop := Claim7.holds Tryd.pinned (.plain (OpenSpec.ofChange networkErrorsSpec)) networkErrorsCard

/-- THE SECOND FORM's CARD OF 'permitofficelaw06.MaskLimit'. -/
def maskLimitUptoCard : Claim7 := { stood := { row := maskLimitUptoRow, standIns := [], harness := (true, "42c956363bbf2cf998bdea43ef74880acb78d1ca859ec7bd689b1973997c6686"), looks := false }, kinds := [], alts := [], laidByText := true, laidKinds := [.data], laidTests := true, laidLooks := .later }
def MaskLimitUptoCardSaid : Prop := Claim7.holds Tryd.pinned (.plain (OpenSpec.upto maskLimitSpec)) maskLimitUptoCard

/-- THE SECOND FORM's CARD OF 'permitofficelaw06.MaskMeets'. -/
def maskMeetsUptoCard : Claim7 := { stood := { row := maskMeetsUptoRow, standIns := [], harness := (true, "42c956363bbf2cf998bdea43ef74880acb78d1ca859ec7bd689b1973997c6686"), looks := false }, kinds := [], alts := [], laidByText := true, laidKinds := [.data], laidTests := true, laidLooks := .later }
def MaskMeetsUptoCardSaid : Prop := Claim7.holds Tryd.pinned (.plain (OpenSpec.upto maskMeetsSpec)) maskMeetsUptoCard

/-- THE SECOND FORM's CARD OF 'permitofficelaw03.NetworkWays'. -/
def networkWaysUptoCard : Claim7 := { stood := { row := networkWaysUptoRow, standIns := [], harness := (true, "42c956363bbf2cf998bdea43ef74880acb78d1ca859ec7bd689b1973997c6686"), looks := false }, kinds := [], alts := [], laidByText := true, laidKinds := [.data], laidTests := true, laidLooks := .later }
def NetworkWaysUptoCardSaid : Prop := Claim7.holds Tryd.pinned (.plain (OpenSpec.upto networkWaysSpec)) networkWaysUptoCard

/-- THE SECOND FORM's CARD OF 'permitofficelaw03.NetworkLess'. -/
def networkLessUptoCard : Claim7 := { stood := { row := networkLessUptoRow, standIns := [], harness := (true, "42c956363bbf2cf998bdea43ef74880acb78d1ca859ec7bd689b1973997c6686"), looks := false }, kinds := [], alts := [], laidByText := true, laidKinds := [.data], laidTests := true, laidLooks := .later }
def NetworkLessUptoCardSaid : Prop := Claim7.holds Tryd.pinned (.plain (OpenSpec.upto networkLessSpec)) networkLessUptoCard

/-- THE SECOND FORM's CARD OF 'permitofficelaw03.NetworkLimits'. -/
def networkLimitsUptoCard : Claim7 := { stood := { row := networkLimitsUptoRow, standIns := [], harness := (true, "42c956363bbf2cf998bdea43ef74880acb78d1ca859ec7bd689b1973997c6686"), looks := false }, kinds := [], alts := [], laidByText := true, laidKinds := [.data], laidTests := true, laidLooks := .later }
def NetworkLimitsUptoCardSaid : Prop := Claim7.holds Tryd.pinned (.plain (OpenSpec.upto networkLimitsSpec)) networkLimitsUptoCard

/-- THE SECOND FORM's CARD OF 'permitofficelaw03.NetworkAt'. -/
def networkAtUptoCard : Claim7 := { stood := { row := networkAtUptoRow, standIns := [], harness := (true, "42c956363bbf2cf998bdea43ef74880acb78d1ca859ec7bd689b1973997c6686"), looks := false }, kinds := [], alts := [], laidByText := true, laidKinds := [.data], laidTests := true, laidLooks := .later }
def NetworkAtUptoCardSaid : Prop := Claim7.holds Tryd.pinned (.plain (OpenSpec.upto networkAtSpec)) networkAtUptoCard

/-- THE SECOND FORM's CARD OF 'permitofficelaw03.NetworkErrors'. -/
def networkErrorsUptoCard : Claim7 := { stood := { row := networkErrorsUptoRow, standIns := [], harness := (true, "42c956363bbf2cf998bdea43ef74880acb78d1ca859ec7bd689b1973997c6686"), looks := false }, kinds := [], alts := [], laidByText := true, laidKinds := [.data], laidTests := true, laidLooks := .later }
def NetworkErrorsUptoCardSaid : Prop := Claim7.holds Tryd.pinned (.plain (OpenSpec.upto networkErrorsSpec)) networkErrorsUptoCard
end Rows
end Go.Proofs.YtjncgpchmhkcbaaDoor
