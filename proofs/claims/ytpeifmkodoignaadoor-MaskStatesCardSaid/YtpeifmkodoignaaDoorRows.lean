/-
  NARROWER THAN 'FOR EVERY INPUT', by the rows' own cells (each row's printed sentence says how): NetworkWays: laid · NetworkLess: laid · NetworkLimits: laid · NetworkAt: laid · NetworkErrors: laid · ColourGrows: laid · ColourSources: laid · NetworkAnswers: laid · MaskStates: laid · ColourParts: laid · MaskAnswers: laid · ColourAnswers: laid.
  DERIVED. THE GIVEN ROWS OF THIS SEAT. 12 by the template 'for every input the law returns true; each argument reads behind the call as it read before'; 0 by the template 'total and deterministic' (their statements: YtpeifmkodoignaaDoorTotals.lean).
  GIVEN WITH THE SEED: the statements are not yours to turn. If you find one false, say at which input.
  Laid BY PROGRAM, IN A SANDBOX (cutbox-rows.mjs): the forced cells as the released guide's own fill.sh prints them over the translation d04e19a58eb3a9f4… (all of the seat's roots in one cut). By AI agents, Wed Nov 11 2026. No macro, syntax, notation, axiom, sorry.
-/
import Derived.Test.YtpeifmkodoignaaDoorChecked
import GoSem.Claim
import GoSem.ClaimJoined
import GoSem.ClaimMapViews
import Derived.JoinedTies
import Derived.KernelRfl
namespace Go.Proofs.YtpeifmkodoignaaDoor
/- THE CELL 'sum', in the pinned program and in every row, IS THE sha256 OF THE DUMP (.gsa) THAT YtpeifmkodoignaaDoorProg.lean LOADS. Nothing in Lean hashes anything: it is a label: what it is worth is what the hold of that sum in a sandbox is worth. -/
noncomputable def Tryd.pinned : Pinned := { name := "ytpeifmkodoignaadoor", sum := "d04e19a58eb3a9f4b056dfebfe5012effb02257d08280702cee0fd4cbaad045c", checked := Tryd.checked }
namespace Rows
def none {H : Type} : Left H := { results := [], args := [] }

/- WHAT THE LISTED PACKAGE-LEVEL VARIABLES READ AS WHEN THE CALL BEGINS. Each datum BY PROGRAM (the guide's laid-datum.mjs) off the statement by which the dump's own 'gosem.cut.vars' lays the variable. In a bare row this is a premise. The card (YtpeifmkodoignaaDoorCards.lean) ties it to the program's text. -/
def laid_permitoffice_lexeme_classes {H : Type} : DataW H := .agg [.agg [.lit (.int .u8 65), .lit (.int .u8 90), .lit (.bool true)], .agg [.lit (.int .u8 97), .lit (.int .u8 122), .lit (.bool true)], .agg [.lit (.int .u8 48), .lit (.int .u8 57), .lit (.bool false)], .agg [.lit (.int .u8 95), .lit (.int .u8 95), .lit (.bool false)]]
def laid_permitoffice_mask_positions {H : Type} : DataW H := .agg [.agg [.lit (.bool false), .lit (.bool false)], .agg [.lit (.bool true), .lit (.bool true)], .agg [.lit (.bool true), .lit (.bool true)], .agg [.lit (.bool true), .lit (.bool false)]]

/-- 'permitofficelaw03.NetworkWays': WHATEVER THE INPUT: true; the input reads as it did. -/
def networkWaysSpec : ChangeSpec := { name := "networkWays", fn := fun _ => fun
  | [d] => { results := [.lit (.bool true)], args := [d] }
  | _ => none }
def networkWaysRow : OpenClaim := { program := "ytpeifmkodoignaadoor", sum := "d04e19a58eb3a9f4b056dfebfe5012effb02257d08280702cee0fd4cbaad045c", func := "permitoffice/permitofficelaw03.NetworkWays", spec := "networkWays", unfollowed := true, recurses := true, named := ["permitoffice/lexeme.classes"], apart := false, laid := [("permitoffice/lexeme.classes", laid_permitoffice_lexeme_classes)] }
def NetworkWaysSaid : Prop := networkWaysRow.holds Tryd.pinned (OpenSpec.ofChange networkWaysSpec)

/-- ITS FALSE NEIGHBOUR: 'it returns false'. Refute it at one input. -/
def networkWaysWrong : ChangeSpec := { name := "networkWays", fn := fun _ => fun
  | [d] => { results := [.lit (.bool false)], args := [d] }
  | _ => none }
def NetworkWaysWrongFalsely : Prop := networkWaysRow.holds Tryd.pinned (OpenSpec.ofChange networkWaysWrong)

/-- 'permitofficelaw03.NetworkLess': WHATEVER THE INPUT: true; the input reads as it did. -/
def networkLessSpec : ChangeSpec := { name := "networkLess", fn := fun _ => fun
  | [d] => { results := [.lit (.bool true)], args := [d] }
  | _ => none }
def networkLessRow : OpenClaim := { program := "ytpeifmkodoignaadoor", sum := "d04e19a58eb3a9f4b056dfebfe5012effb02257d08280702cee0fd4cbaad045c", func := "permitoffice/permitofficelaw03.NetworkLess", spec := "networkLess", unfollowed := true, recurses := true, named := ["permitoffice/lexeme.classes"], apart := false, laid := [("permitoffice/lexeme.classes", laid_permitoffice_lexeme_classes)] }
def NetworkLessSaid : Prop := networkLessRow.holds Tryd.pinned (OpenSpec.ofChange networkLessSpec)

/-- ITS FALSE NEIGHBOUR: 'it returns false'. Refute it at one input. -/
def networkLessWrong : ChangeSpec := { name := "networkLess", fn := fun _ => fun
  | [d] => { results := [.lit (.bool false)], args := [d] }
  | _ => none }
def NetworkLessWrongFalsely : Prop := networkLessRow.holds Tryd.pinned (OpenSpec.ofChange networkLessWrong)

/-- 'permitofficelaw03.NetworkLimits': WHATEVER THE INPUT: true; the input reads as it did. -/
def networkLimitsSpec : ChangeSpec := { name := "networkLimits", fn := fun _ => fun
  | [d1, d2] => { results := [.lit (.bool true)], args := [d1, d2] }
  | _ => none }
def networkLimitsRow : OpenClaim := { program := "ytpeifmkodoignaadoor", sum := "d04e19a58eb3a9f4b056dfebfe5012effb02257d08280702cee0fd4cbaad045c", func := "permitoffice/permitofficelaw03.NetworkLimits", spec := "networkLimits", unfollowed := true, recurses := true, named := ["permitoffice/lexeme.classes"], apart := false, laid := [("permitoffice/lexeme.classes", laid_permitoffice_lexeme_classes)] }
def NetworkLimitsSaid : Prop := networkLimitsRow.holds Tryd.pinned (OpenSpec.ofChange networkLimitsSpec)

/-- ITS FALSE NEIGHBOUR: 'it returns false'. Refute it at one input. -/
def networkLimitsWrong : ChangeSpec := { name := "networkLimits", fn := fun _ => fun
  | [d1, d2] => { results := [.lit (.bool false)], args := [d1, d2] }
  | _ => none }
def NetworkLimitsWrongFalsely : Prop := networkLimitsRow.holds Tryd.pinned (OpenSpec.ofChange networkLimitsWrong)

/-- 'permitofficelaw03.NetworkAt': WHATEVER THE INPUT: true; the input reads as it did. -/
def networkAtSpec : ChangeSpec := { name := "networkAt", fn := fun _ => fun
  | [d] => { results := [.lit (.bool true)], args := [d] }
  | _ => none }
def networkAtRow : OpenClaim := { program := "ytpeifmkodoignaadoor", sum := "d04e19a58eb3a9f4b056dfebfe5012effb02257d08280702cee0fd4cbaad045c", func := "permitoffice/permitofficelaw03.NetworkAt", spec := "networkAt", unfollowed := true, recurses := true, named := ["permitoffice/lexeme.classes"], apart := false, laid := [("permitoffice/lexeme.classes", laid_permitoffice_lexeme_classes)] }
def NetworkAtSaid : Prop := networkAtRow.holds Tryd.pinned (OpenSpec.ofChange networkAtSpec)

/-- ITS FALSE NEIGHBOUR: 'it returns false'. Refute it at one input. -/
def networkAtWrong : ChangeSpec := { name := "networkAt", fn := fun _ => fun
  | [d] => { results := [.lit (.bool false)], args := [d] }
  | _ => none }
def NetworkAtWrongFalsely : Prop := networkAtRow.holds Tryd.pinned (OpenSpec.ofChange networkAtWrong)

/-- 'permitofficelaw03.NetworkErrors': WHATEVER THE INPUT: true; the input reads as it did. -/
def networkErrorsSpec : ChangeSpec := { name := "networkErrors", fn := fun _ => fun
  | [d1, d2] => { results := [.lit (.bool true)], args := [d1, d2] }
  | _ => none }
def networkErrorsRow : OpenClaim := { program := "ytpeifmkodoignaadoor", sum := "d04e19a58eb3a9f4b056dfebfe5012effb02257d08280702cee0fd4cbaad045c", func := "permitoffice/permitofficelaw03.NetworkErrors", spec := "networkErrors", unfollowed := true, recurses := true, named := ["permitoffice/lexeme.classes"], apart := false, laid := [("permitoffice/lexeme.classes", laid_permitoffice_lexeme_classes)] }
def NetworkErrorsSaid : Prop := networkErrorsRow.holds Tryd.pinned (OpenSpec.ofChange networkErrorsSpec)

/-- ITS FALSE NEIGHBOUR: 'it returns false'. Refute it at one input. -/
def networkErrorsWrong : ChangeSpec := { name := "networkErrors", fn := fun _ => fun
  | [d1, d2] => { results := [.lit (.bool false)], args := [d1, d2] }
  | _ => none }
def NetworkErrorsWrongFalsely : Prop := networkErrorsRow.holds Tryd.pinned (OpenSpec.ofChange networkErrorsWrong)

/-- 'permitofficelaw07.ColourGrows': WHATEVER THE INPUT: true; the input reads as it did. -/
def colourGrowsSpec : ChangeSpec := { name := "colourGrows", fn := fun _ => fun
  | [d] => { results := [.lit (.bool true)], args := [d] }
  | _ => none }
def colourGrowsRow : OpenClaim := { program := "ytpeifmkodoignaadoor", sum := "d04e19a58eb3a9f4b056dfebfe5012effb02257d08280702cee0fd4cbaad045c", func := "permitoffice/permitofficelaw07.ColourGrows", spec := "colourGrows", unfollowed := true, recurses := true, named := ["permitoffice/lexeme.classes", "permitoffice/mask.positions"], apart := false, laid := [("permitoffice/lexeme.classes", laid_permitoffice_lexeme_classes), ("permitoffice/mask.positions", laid_permitoffice_mask_positions)] }
def ColourGrowsSaid : Prop := colourGrowsRow.holds Tryd.pinned (OpenSpec.ofChange colourGrowsSpec)

/-- ITS FALSE NEIGHBOUR: 'it returns false'. Refute it at one input. -/
def colourGrowsWrong : ChangeSpec := { name := "colourGrows", fn := fun _ => fun
  | [d] => { results := [.lit (.bool false)], args := [d] }
  | _ => none }
def ColourGrowsWrongFalsely : Prop := colourGrowsRow.holds Tryd.pinned (OpenSpec.ofChange colourGrowsWrong)

/-- 'permitofficelaw07.ColourSources': WHATEVER THE INPUT: true; the input reads as it did. -/
def colourSourcesSpec : ChangeSpec := { name := "colourSources", fn := fun _ => fun
  | [d] => { results := [.lit (.bool true)], args := [d] }
  | _ => none }
def colourSourcesRow : OpenClaim := { program := "ytpeifmkodoignaadoor", sum := "d04e19a58eb3a9f4b056dfebfe5012effb02257d08280702cee0fd4cbaad045c", func := "permitoffice/permitofficelaw07.ColourSources", spec := "colourSources", unfollowed := true, recurses := true, named := ["permitoffice/lexeme.classes", "permitoffice/mask.positions"], apart := false, laid := [("permitoffice/lexeme.classes", laid_permitoffice_lexeme_classes), ("permitoffice/mask.positions", laid_permitoffice_mask_positions)] }
def ColourSourcesSaid : Prop := colourSourcesRow.holds Tryd.pinned (OpenSpec.ofChange colourSourcesSpec)

/-- ITS FALSE NEIGHBOUR: 'it returns false'. Refute it at one input. -/
def colourSourcesWrong : ChangeSpec := { name := "colourSources", fn := fun _ => fun
  | [d] => { results := [.lit (.bool false)], args := [d] }
  | _ => none }
def ColourSourcesWrongFalsely : Prop := colourSourcesRow.holds Tryd.pinned (OpenSpec.ofChange colourSourcesWrong)

/-- 'permitofficelaw03.NetworkAnswers': WHATEVER THE INPUT: true; the input reads as it did. -/
def networkAnswersSpec : ChangeSpec := { name := "networkAnswers", fn := fun _ => fun
  | [d1, d2, d3, d4, d5, d6, d7] => { results := [.lit (.bool true)], args := [d1, d2, d3, d4, d5, d6, d7] }
  | _ => none }
def networkAnswersRow : OpenClaim := { program := "ytpeifmkodoignaadoor", sum := "d04e19a58eb3a9f4b056dfebfe5012effb02257d08280702cee0fd4cbaad045c", func := "permitoffice/permitofficelaw03.NetworkAnswers", spec := "networkAnswers", unfollowed := true, recurses := true, named := ["permitoffice/lexeme.classes"], apart := false, laid := [("permitoffice/lexeme.classes", laid_permitoffice_lexeme_classes)] }
def NetworkAnswersSaid : Prop := networkAnswersRow.holds Tryd.pinned (OpenSpec.ofChange networkAnswersSpec)

/-- ITS FALSE NEIGHBOUR: 'it returns false'. Refute it at one input. -/
def networkAnswersWrong : ChangeSpec := { name := "networkAnswers", fn := fun _ => fun
  | [d1, d2, d3, d4, d5, d6, d7] => { results := [.lit (.bool false)], args := [d1, d2, d3, d4, d5, d6, d7] }
  | _ => none }
def NetworkAnswersWrongFalsely : Prop := networkAnswersRow.holds Tryd.pinned (OpenSpec.ofChange networkAnswersWrong)

/-- 'permitofficelaw06.MaskStates': WHATEVER THE INPUT: true; the input reads as it did. -/
def maskStatesSpec : ChangeSpec := { name := "maskStates", fn := fun _ => fun
  | [d] => { results := [.lit (.bool true)], args := [d] }
  | _ => none }
def maskStatesRow : OpenClaim := { program := "ytpeifmkodoignaadoor", sum := "d04e19a58eb3a9f4b056dfebfe5012effb02257d08280702cee0fd4cbaad045c", func := "permitoffice/permitofficelaw06.MaskStates", spec := "maskStates", unfollowed := true, recurses := true, named := ["permitoffice/mask.positions", "permitoffice/lexeme.classes"], apart := false, laid := [("permitoffice/lexeme.classes", laid_permitoffice_lexeme_classes), ("permitoffice/mask.positions", laid_permitoffice_mask_positions)] }
def MaskStatesSaid : Prop := maskStatesRow.holds Tryd.pinned (OpenSpec.ofChange maskStatesSpec)

/-- ITS FALSE NEIGHBOUR: 'it returns false'. Refute it at one input. -/
def maskStatesWrong : ChangeSpec := { name := "maskStates", fn := fun _ => fun
  | [d] => { results := [.lit (.bool false)], args := [d] }
  | _ => none }
def MaskStatesWrongFalsely : Prop := maskStatesRow.holds Tryd.pinned (OpenSpec.ofChange maskStatesWrong)

/-- 'permitofficelaw07.ColourParts': WHATEVER THE INPUT: true; the input reads as it did. -/
def colourPartsSpec : ChangeSpec := { name := "colourParts", fn := fun _ => fun
  | [d] => { results := [.lit (.bool true)], args := [d] }
  | _ => none }
def colourPartsRow : OpenClaim := { program := "ytpeifmkodoignaadoor", sum := "d04e19a58eb3a9f4b056dfebfe5012effb02257d08280702cee0fd4cbaad045c", func := "permitoffice/permitofficelaw07.ColourParts", spec := "colourParts", unfollowed := true, recurses := true, named := ["permitoffice/lexeme.classes", "permitoffice/mask.positions"], apart := false, laid := [("permitoffice/lexeme.classes", laid_permitoffice_lexeme_classes), ("permitoffice/mask.positions", laid_permitoffice_mask_positions)] }
def ColourPartsSaid : Prop := colourPartsRow.holds Tryd.pinned (OpenSpec.ofChange colourPartsSpec)

/-- ITS FALSE NEIGHBOUR: 'it returns false'. Refute it at one input. -/
def colourPartsWrong : ChangeSpec := { name := "colourParts", fn := fun _ => fun
  | [d] => { results := [.lit (.bool false)], args := [d] }
  | _ => none }
def ColourPartsWrongFalsely : Prop := colourPartsRow.holds Tryd.pinned (OpenSpec.ofChange colourPartsWrong)

/-- 'permitofficelaw06.MaskAnswers': WHATEVER THE INPUT: true; the input reads as it did. -/
def maskAnswersSpec : ChangeSpec := { name := "maskAnswers", fn := fun _ => fun
  | [d1, d2, d3, d4] => { results := [.lit (.bool true)], args := [d1, d2, d3, d4] }
  | _ => none }
def maskAnswersRow : OpenClaim := { program := "ytpeifmkodoignaadoor", sum := "d04e19a58eb3a9f4b056dfebfe5012effb02257d08280702cee0fd4cbaad045c", func := "permitoffice/permitofficelaw06.MaskAnswers", spec := "maskAnswers", unfollowed := true, recurses := true, named := ["permitoffice/mask.positions", "permitoffice/lexeme.classes"], apart := false, laid := [("permitoffice/lexeme.classes", laid_permitoffice_lexeme_classes), ("permitoffice/mask.positions", laid_permitoffice_mask_positions)] }
def MaskAnswersSaid : Prop := maskAnswersRow.holds Tryd.pinned (OpenSpec.ofChange maskAnswersSpec)

/-- ITS FALSE NEIGHBOUR: 'it returns false'. Refute it at one input. -/
def maskAnswersWrong : ChangeSpec := { name := "maskAnswers", fn := fun _ => fun
  | [d1, d2, d3, d4] => { results := [.lit (.bool false)], args := [d1, d2, d3, d4] }
  | _ => none }
def MaskAnswersWrongFalsely : Prop := maskAnswersRow.holds Tryd.pinned (OpenSpec.ofChange maskAnswersWrong)

/-- 'permitofficelaw07.ColourAnswers': WHATEVER THE INPUT: true; the input reads as it did. -/
def colourAnswersSpec : ChangeSpec := { name := "colourAnswers", fn := fun _ => fun
  | [d1, d2, d3, d4, d5] => { results := [.lit (.bool true)], args := [d1, d2, d3, d4, d5] }
  | _ => none }
def colourAnswersRow : OpenClaim := { program := "ytpeifmkodoignaadoor", sum := "d04e19a58eb3a9f4b056dfebfe5012effb02257d08280702cee0fd4cbaad045c", func := "permitoffice/permitofficelaw07.ColourAnswers", spec := "colourAnswers", unfollowed := true, recurses := true, named := ["permitoffice/lexeme.classes", "permitoffice/mask.positions"], apart := false, laid := [("permitoffice/lexeme.classes", laid_permitoffice_lexeme_classes), ("permitoffice/mask.positions", laid_permitoffice_mask_positions)] }
def ColourAnswersSaid : Prop := colourAnswersRow.holds Tryd.pinned (OpenSpec.ofChange colourAnswersSpec)

/-- ITS FALSE NEIGHBOUR: 'it returns false'. Refute it at one input. -/
def colourAnswersWrong : ChangeSpec := { name := "colourAnswers", fn := fun _ => fun
  | [d1, d2, d3, d4, d5] => { results := [.lit (.bool false)], args := [d1, d2, d3, d4, d5] }
  | _ => none }
def ColourAnswersWrongFalsely : Prop := colourAnswersRow.holds Tryd.pinned (OpenSpec.ofChange colourAnswersWrong)

/- THE SECOND FORM. 'bulk': how many values and letters a reading holds, each counted each time it is reached (what is shared counts as often as it is met; a slice's spare places count too). A statement '..UptoSaid' is the law's where the arguments, and the package variables that the reading takes, are together of bulk at most 1048576: NARROWER than '..Said'. Prove '..Said' where nothing that the law and all that it calls make is longer than what came in: it says more and counts as full. Else prove '..UptoSaid'. A law counts once. -/
mutual
def uptoBulk {H : Type} : DataW H → Nat
  | .lit (.string bytes) => bytes.length + 1
  | .lit _ => 1
  | .nil => 1
  | .ptr d => uptoBulk d + 1
  | .slice elems spare => uptoBulkAll elems + uptoBulkAll spare + 1
  | .agg parts => uptoBulkAll parts + 1
  | .iface _ d => uptoBulk d + 1
  | .map entries => uptoBulkEntries entries + 1
  | .held _ => 1
def uptoBulkAll {H : Type} : List (DataW H) → Nat
  | [] => 0
  | d :: r => uptoBulk d + uptoBulkAll r
def uptoBulkEntries {H : Type} : List (Lit × DataW H) → Nat
  | [] => 0
  | x :: r => uptoBulkEntry x + uptoBulkEntries r
def uptoBulkEntry {H : Type} : Lit × DataW H → Nat
  | (.string bytes, d) => bytes.length + uptoBulk d + 1
  | (_, d) => uptoBulk d + 1
 end
def uptoSmall : (H : Type) → List (DataW H) → Bool := fun _ ds => decide (uptoBulkAll ds ≤ 1048576)
def OpenSpec.upto (s : _root_.Go.ChangeSpec) : _root_.Go.OpenSpec := { _root_.Go.OpenSpec.ofChange s with cond := some uptoSmall }

/-- 'permitofficelaw03.NetworkWays', WHERE WHAT IT READS IS OF BULK AT MOST 1048576: true; the input reads as it did. -/
def networkWaysUptoRow : OpenClaim := { program := "ytpeifmkodoignaadoor", sum := "d04e19a58eb3a9f4b056dfebfe5012effb02257d08280702cee0fd4cbaad045c", func := "permitoffice/permitofficelaw03.NetworkWays", spec := "networkWays", unfollowed := true, recurses := true, named := ["permitoffice/lexeme.classes"], apart := false, laid := [("permitoffice/lexeme.classes", laid_permitoffice_lexeme_classes)], narrowed := true }
def NetworkWaysUptoSaid : Prop := networkWaysUptoRow.holds Tryd.pinned (OpenSpec.upto networkWaysSpec)

/-- 'permitofficelaw03.NetworkLess', WHERE WHAT IT READS IS OF BULK AT MOST 1048576: true; the input reads as it did. -/
def networkLessUptoRow : OpenClaim := { program := "ytpeifmkodoignaadoor", sum := "d04e19a58eb3a9f4b056dfebfe5012effb02257d08280702cee0fd4cbaad045c", func := "permitoffice/permitofficelaw03.NetworkLess", spec := "networkLess", unfollowed := true, recurses := true, named := ["permitoffice/lexeme.classes"], apart := false, laid := [("permitoffice/lexeme.classes", laid_permitoffice_lexeme_classes)], narrowed := true }
def NetworkLessUptoSaid : Prop := networkLessUptoRow.holds Tryd.pinned (OpenSpec.upto networkLessSpec)

/-- 'permitofficelaw03.NetworkLimits', WHERE WHAT IT READS IS OF BULK AT MOST 1048576: true; the input reads as it did. -/
def networkLimitsUptoRow : OpenClaim := { program := "ytpeifmkodoignaadoor", sum := "d04e19a58eb3a9f4b056dfebfe5012effb02257d08280702cee0fd4cbaad045c", func := "permitoffice/permitofficelaw03.NetworkLimits", spec := "networkLimits", unfollowed := true, recurses := true, named := ["permitoffice/lexeme.classes"], apart := false, laid := [("permitoffice/lexeme.classes", laid_permitoffice_lexeme_classes)], narrowed := true }
def NetworkLimitsUptoSaid : Prop := networkLimitsUptoRow.holds Tryd.pinned (OpenSpec.upto networkLimitsSpec)

/-- 'permitofficelaw03.NetworkAt', WHERE WHAT IT READS IS OF BULK AT MOST 1048576: true; the input reads as it did. -/
def networkAtUptoRow : OpenClaim := { program := "ytpeifmkodoignaadoor", sum := "d04e19a58eb3a9f4b056dfebfe5012effb02257d08280702cee0fd4cbaad045c", func := "permitoffice/permitofficelaw03.NetworkAt", spec := "networkAt", unfollowed := true, recurses := true, named := ["permitoffice/lexeme.classes"], apart := false, laid := [("permitoffice/lexeme.classes", laid_permitoffice_lexeme_classes)], narrowed := true }
def NetworkAtUptoSaid : Prop := networkAtUptoRow.holds Tryd.pinned (OpenSpec.upto networkAtSpec)

/-- 'permitofficelaw03.NetworkErrors', WHERE WHAT IT READS IS OF BULK AT MOST 1048576: true; the input reads as it did. -/
def networkErrorsUptoRow : OpenClaim := { program := "ytpeifmkodoignaadoor", sum := "d04e19a58eb3a9f4b056dfebfe5012effb02257d08280702cee0fd4cbaad045c", func := "permitoffice/permitofficelaw03.NetworkErrors", spec := "networkErrors", unfollowed := true, recurses := true, named := ["permitoffice/lexeme.classes"], apart := false, laid := [("permitoffice/lexeme.classes", laid_permitoffice_lexeme_classes)], narrowed := true }
def NetworkErrorsUptoSaid : Prop := networkErrorsUptoRow.holds Tryd.pinned (OpenSpec.upto networkErrorsSpec)

/-- 'permitofficelaw07.ColourGrows', WHERE WHAT IT READS IS OF BULK AT MOST 1048576: true; the input reads as it did. -/
def colourGrowsUptoRow : OpenClaim := { program := "ytpeifmkodoignaadoor", sum := "d04e19a58eb3a9f4b056dfebfe5012effb02257d08280702cee0fd4cbaad045c", func := "permitoffice/permitofficelaw07.ColourGrows", spec := "colourGrows", unfollowed := true, recurses := true, named := ["permitoffice/lexeme.classes", "permitoffice/mask.positions"], apart := false, laid := [("permitoffice/lexeme.classes", laid_permitoffice_lexeme_classes), ("permitoffice/mask.positions", laid_permitoffice_mask_positions)], narrowed := true }
def ColourGrowsUptoSaid : Prop := colourGrowsUptoRow.holds Tryd.pinned (OpenSpec.upto colourGrowsSpec)

/-- 'permitofficelaw07.ColourSources', WHERE WHAT IT READS IS OF BULK AT MOST 1048576: true; the input reads as it did. -/
def colourSourcesUptoRow : OpenClaim := { program := "ytpeifmkodoignaadoor", sum := "d04e19a58eb3a9f4b056dfebfe5012effb02257d08280702cee0fd4cbaad045c", func := "permitoffice/permitofficelaw07.ColourSources", spec := "colourSources", unfollowed := true, recurses := true, named := ["permitoffice/lexeme.classes", "permitoffice/mask.positions"], apart := false, laid := [("permitoffice/lexeme.classes", laid_permitoffice_lexeme_classes), ("permitoffice/mask.positions", laid_permitoffice_mask_positions)], narrowed := true }
def ColourSourcesUptoSaid : Prop := colourSourcesUptoRow.holds Tryd.pinned (OpenSpec.upto colourSourcesSpec)

/-- 'permitofficelaw03.NetworkAnswers', WHERE WHAT IT READS IS OF BULK AT MOST 1048576: true; the input reads as it did. -/
def networkAnswersUptoRow : OpenClaim := { program := "ytpeifmkodoignaadoor", sum := "d04e19a58eb3a9f4b056dfebfe5012effb02257d08280702cee0fd4cbaad045c", func := "permitoffice/permitofficelaw03.NetworkAnswers", spec := "networkAnswers", unfollowed := true, recurses := true, named := ["permitoffice/lexeme.classes"], apart := false, laid := [("permitoffice/lexeme.classes", laid_permitoffice_lexeme_classes)], narrowed := true }
def NetworkAnswersUptoSaid : Prop := networkAnswersUptoRow.holds Tryd.pinned (OpenSpec.upto networkAnswersSpec)

/-- 'permitofficelaw06.MaskStates', WHERE WHAT IT READS IS OF BULK AT MOST 1048576: true; the input reads as it did. -/
def maskStatesUptoRow : OpenClaim := { program := "ytpeifmkodoignaadoor", sum := "d04e19a58eb3a9f4b056dfebfe5012effb02257d08280702cee0fd4cbaad045c", func := "permitoffice/permitofficelaw06.MaskStates", spec := "maskStates", unfollowed := true, recurses := true, named := ["permitoffice/mask.positions", "permitoffice/lexeme.classes"], apart := false, laid := [("permitoffice/lexeme.classes", laid_permitoffice_lexeme_classes), ("permitoffice/mask.positions", laid_permitoffice_mask_positions)], narrowed := true }
def MaskStatesUptoSaid : Prop := maskStatesUptoRow.holds Tryd.pinned (OpenSpec.upto maskStatesSpec)

/-- 'permitofficelaw07.ColourParts', WHERE WHAT IT READS IS OF BULK AT MOST 1048576: true; the input reads as it did. -/
def colourPartsUptoRow : OpenClaim := { program := "ytpeifmkodoignaadoor", sum := "d04e19a58eb3a9f4b056dfebfe5012effb02257d08280702cee0fd4cbaad045c", func := "permitoffice/permitofficelaw07.ColourParts", spec := "colourParts", unfollowed := true, recurses := true, named := ["permitoffice/lexeme.classes", "permitoffice/mask.positions"], apart := false, laid := [("permitoffice/lexeme.classes", laid_permitoffice_lexeme_classes), ("permitoffice/mask.positions", laid_permitoffice_mask_positions)], narrowed := true }
def ColourPartsUptoSaid : Prop := colourPartsUptoRow.holds Tryd.pinned (OpenSpec.upto colourPartsSpec)

/-- 'permitofficelaw06.MaskAnswers', WHERE WHAT IT READS IS OF BULK AT MOST 1048576: true; the input reads as it did. -/
def maskAnswersUptoRow : OpenClaim := { program := "ytpeifmkodoignaadoor", sum := "d04e19a58eb3a9f4b056dfebfe5012effb02257d08280702cee0fd4cbaad045c", func := "permitoffice/permitofficelaw06.MaskAnswers", spec := "maskAnswers", unfollowed := true, recurses := true, named := ["permitoffice/mask.positions", "permitoffice/lexeme.classes"], apart := false, laid := [("permitoffice/lexeme.classes", laid_permitoffice_lexeme_classes), ("permitoffice/mask.positions", laid_permitoffice_mask_positions)], narrowed := true }
def MaskAnswersUptoSaid : Prop := maskAnswersUptoRow.holds Tryd.pinned (OpenSpec.upto maskAnswersSpec)

/-- 'permitofficelaw07.ColourAnswers', WHERE WHAT IT READS IS OF BULK AT MOST 1048576: true; the input reads as it did. -/
def colourAnswersUptoRow : OpenClaim := { program := "ytpeifmkodoignaadoor", sum := "d04e19a58eb3a9f4b056dfebfe5012effb02257d08280702cee0fd4cbaad045c", func := "permitoffice/permitofficelaw07.ColourAnswers", spec := "colourAnswers", unfollowed := true, recurses := true, named := ["permitoffice/lexeme.classes", "permitoffice/mask.positions"], apart := false, laid := [("permitoffice/lexeme.classes", laid_permitoffice_lexeme_classes), ("permitoffice/mask.positions", laid_permitoffice_mask_positions)], narrowed := true }
def ColourAnswersUptoSaid : Prop := colourAnswersUptoRow.holds Tryd.pinned (OpenSpec.upto colourAnswersSpec)

end Rows
end Go.Proofs.YtpeifmkodoignaaDoor
