/-
  NARROWER THAN 'FOR EVERY INPUT', by the rows' own cells (each row's printed sentence says how): NetworkAnswers: laid · MaskAnswers: laid · ColourAnswers: laid · SupplyWays: laid · InterruptionAnswers: laid · SupplyAnswers: laid.
  DERIVED. THE GIVEN ROWS OF THIS SEAT. 6 by the template 'for every input the law returns true; each argument reads behind the call as it read before'; 0 by the template 'total and deterministic' (their statements: YtgpcojmdfmngeaaDoorTotals.lean).
  GIVEN WITH THE SEED: the statements are not yours to turn. If you find one false, say at which input.
  Laid BY PROGRAM, IN A SANDBOX (cutbox-rows.mjs): the forced cells as the released guide's own fill.sh prints them over the translation 755b0a3b06d0523c… (all of the seat's roots in one cut). By AI agents, Wed Nov 11 2026. No macro, syntax, notation, axiom, sorry.
-/
import Derived.Test.YtgpcojmdfmngeaaDoorChecked
import GoSem.Claim
import GoSem.ClaimJoined
import GoSem.ClaimMapViews
import Derived.JoinedTies
import Derived.KernelRfl
namespace Go.Proofs.YtgpcojmdfmngeaaDoor
/- THE CELL 'sum', in the pinned program and in every row, IS THE sha256 OF THE DUMP (.gsa) THAT YtgpcojmdfmngeaaDoorProg.lean LOADS. Nothing in Lean hashes anything: it is a label: what it is worth is what the hold of that sum in a sandbox is worth. -/
noncomputable def Tryd.pinned : Pinned := { name := "ytgpcojmdfmngeaadoor", sum := "755b0a3b06d0523c9cee66523822fbdb17fb70d8a9cc4c13406fe078be300194", checked := Tryd.checked }
namespace Rows
def none {H : Type} : Left H := { results := [], args := [] }

/- WHAT THE LISTED PACKAGE-LEVEL VARIABLES READ AS WHEN THE CALL BEGINS. Each datum BY PROGRAM (the guide's laid-datum.mjs) off the statement by which the dump's own 'gosem.cut.vars' lays the variable. In a bare row this is a premise. The card (YtgpcojmdfmngeaaDoorCards.lean) ties it to the program's text. -/
def laid_permitoffice_lexeme_classes {H : Type} : DataW H := .agg [.agg [.lit (.int .u8 65), .lit (.int .u8 90), .lit (.bool true)], .agg [.lit (.int .u8 97), .lit (.int .u8 122), .lit (.bool true)], .agg [.lit (.int .u8 48), .lit (.int .u8 57), .lit (.bool false)], .agg [.lit (.int .u8 95), .lit (.int .u8 95), .lit (.bool false)]]
def laid_permitoffice_mask_positions {H : Type} : DataW H := .agg [.agg [.lit (.bool false), .lit (.bool false)], .agg [.lit (.bool true), .lit (.bool true)], .agg [.lit (.bool true), .lit (.bool true)], .agg [.lit (.bool true), .lit (.bool false)]]

/-- 'permitofficelaw03.NetworkAnswers': WHATEVER THE INPUT: true; the input reads as it did. -/
def networkAnswersSpec : ChangeSpec := { name := "networkAnswers", fn := fun _ => fun
  | [d1, d2, d3, d4, d5, d6, d7] => { results := [.lit (.bool true)], args := [d1, d2, d3, d4, d5, d6, d7] }
  | _ => none }
def networkAnswersRow : OpenClaim := { program := "ytgpcojmdfmngeaadoor", sum := "755b0a3b06d0523c9cee66523822fbdb17fb70d8a9cc4c13406fe078be300194", func := "permitoffice/permitofficelaw03.NetworkAnswers", spec := "networkAnswers", unfollowed := true, recurses := true, named := ["permitoffice/lexeme.classes"], apart := false, laid := [("permitoffice/lexeme.classes", laid_permitoffice_lexeme_classes)] }
def NetworkAnswersSaid : Prop := networkAnswersRow.holds Tryd.pinned (OpenSpec.ofChange networkAnswersSpec)

/-- ITS FALSE NEIGHBOUR: 'it returns false'. Refute it at one input. -/
def networkAnswersWrong : ChangeSpec := { name := "networkAnswers", fn := fun _ => fun
  | [d1, d2, d3, d4, d5, d6, d7] => { results := [.lit (.bool false)], args := [d1, d2, d3, d4, d5, d6, d7] }
  | _ => none }
def NetworkAnswersWrongFalsely : Prop := networkAnswersRow.holds Tryd.pinned (OpenSpec.ofChange networkAnswersWrong)

/-- 'permitofficelaw06.MaskAnswers': WHATEVER THE INPUT: true; the input reads as it did. -/
def maskAnswersSpec : ChangeSpec := { name := "maskAnswers", fn := fun _ => fun
  | [d1, d2, d3, d4] => { results := [.lit (.bool true)], args := [d1, d2, d3, d4] }
  | _ => none }
def maskAnswersRow : OpenClaim := { program := "ytgpcojmdfmngeaadoor", sum := "755b0a3b06d0523c9cee66523822fbdb17fb70d8a9cc4c13406fe078be300194", func := "permitoffice/permitofficelaw06.MaskAnswers", spec := "maskAnswers", unfollowed := true, recurses := true, named := ["permitoffice/mask.positions", "permitoffice/lexeme.classes"], apart := false, laid := [("permitoffice/lexeme.classes", laid_permitoffice_lexeme_classes), ("permitoffice/mask.positions", laid_permitoffice_mask_positions)] }
def MaskAnswersSaid : Prop := maskAnswersRow.holds Tryd.pinned (OpenSpec.ofChange maskAnswersSpec)

/-- ITS FALSE NEIGHBOUR: 'it returns false'. Refute it at one input. -/
def maskAnswersWrong : ChangeSpec := { name := "maskAnswers", fn := fun _ => fun
  | [d1, d2, d3, d4] => { results := [.lit (.bool false)], args := [d1, d2, d3, d4] }
  | _ => none }
def MaskAnswersWrongFalsely : Prop := maskAnswersRow.holds Tryd.pinned (OpenSpec.ofChange maskAnswersWrong)

/-- 'permitofficelaw07.ColourAnswers': WHATEVER THE INPUT: true; the input reads as it did. -/
def colourAnswersSpec : ChangeSpec := { name := "colourAnswers", fn := fun _ => fun
  | [d1, d2, d3, d4, d5] => { results := [.lit (.bool true)], args := [d1, d2, d3, d4, d5] }
  | _ => none }
def colourAnswersRow : OpenClaim := { program := "ytgpcojmdfmngeaadoor", sum := "755b0a3b06d0523c9cee66523822fbdb17fb70d8a9cc4c13406fe078be300194", func := "permitoffice/permitofficelaw07.ColourAnswers", spec := "colourAnswers", unfollowed := true, recurses := true, named := ["permitoffice/lexeme.classes", "permitoffice/mask.positions"], apart := false, laid := [("permitoffice/lexeme.classes", laid_permitoffice_lexeme_classes), ("permitoffice/mask.positions", laid_permitoffice_mask_positions)] }
def ColourAnswersSaid : Prop := colourAnswersRow.holds Tryd.pinned (OpenSpec.ofChange colourAnswersSpec)

/-- ITS FALSE NEIGHBOUR: 'it returns false'. Refute it at one input. -/
def colourAnswersWrong : ChangeSpec := { name := "colourAnswers", fn := fun _ => fun
  | [d1, d2, d3, d4, d5] => { results := [.lit (.bool false)], args := [d1, d2, d3, d4, d5] }
  | _ => none }
def ColourAnswersWrongFalsely : Prop := colourAnswersRow.holds Tryd.pinned (OpenSpec.ofChange colourAnswersWrong)

/-- 'permitofficelaw11.SupplyWays': WHATEVER THE INPUT: true; the input reads as it did. -/
def supplyWaysSpec : ChangeSpec := { name := "supplyWays", fn := fun _ => fun
  | [d] => { results := [.lit (.bool true)], args := [d] }
  | _ => none }
def supplyWaysRow : OpenClaim := { program := "ytgpcojmdfmngeaadoor", sum := "755b0a3b06d0523c9cee66523822fbdb17fb70d8a9cc4c13406fe078be300194", func := "permitoffice/permitofficelaw11.SupplyWays", spec := "supplyWays", unfollowed := true, recurses := true, named := ["permitoffice/lexeme.classes", "permitoffice/mask.positions"], apart := false, laid := [("permitoffice/lexeme.classes", laid_permitoffice_lexeme_classes), ("permitoffice/mask.positions", laid_permitoffice_mask_positions)] }
def SupplyWaysSaid : Prop := supplyWaysRow.holds Tryd.pinned (OpenSpec.ofChange supplyWaysSpec)

/-- ITS FALSE NEIGHBOUR: 'it returns false'. Refute it at one input. -/
def supplyWaysWrong : ChangeSpec := { name := "supplyWays", fn := fun _ => fun
  | [d] => { results := [.lit (.bool false)], args := [d] }
  | _ => none }
def SupplyWaysWrongFalsely : Prop := supplyWaysRow.holds Tryd.pinned (OpenSpec.ofChange supplyWaysWrong)

/-- 'permitofficelaw22.InterruptionAnswers': WHATEVER THE INPUT: true; the input reads as it did. -/
def interruptionAnswersSpec : ChangeSpec := { name := "interruptionAnswers", fn := fun _ => fun
  | [d1, d2, d3, d4, d5, d6, d7, d8] => { results := [.lit (.bool true)], args := [d1, d2, d3, d4, d5, d6, d7, d8] }
  | _ => none }
def interruptionAnswersRow : OpenClaim := { program := "ytgpcojmdfmngeaadoor", sum := "755b0a3b06d0523c9cee66523822fbdb17fb70d8a9cc4c13406fe078be300194", func := "permitoffice/permitofficelaw22.InterruptionAnswers", spec := "interruptionAnswers", unfollowed := true, recurses := true, named := ["permitoffice/lexeme.classes", "permitoffice/mask.positions"], apart := false, laid := [("permitoffice/lexeme.classes", laid_permitoffice_lexeme_classes), ("permitoffice/mask.positions", laid_permitoffice_mask_positions)] }
def InterruptionAnswersSaid : Prop := interruptionAnswersRow.holds Tryd.pinned (OpenSpec.ofChange interruptionAnswersSpec)

/-- ITS FALSE NEIGHBOUR: 'it returns false'. Refute it at one input. -/
def interruptionAnswersWrong : ChangeSpec := { name := "interruptionAnswers", fn := fun _ => fun
  | [d1, d2, d3, d4, d5, d6, d7, d8] => { results := [.lit (.bool false)], args := [d1, d2, d3, d4, d5, d6, d7, d8] }
  | _ => none }
def InterruptionAnswersWrongFalsely : Prop := interruptionAnswersRow.holds Tryd.pinned (OpenSpec.ofChange interruptionAnswersWrong)

/-- 'permitofficelaw11.SupplyAnswers': WHATEVER THE INPUT: true; the input reads as it did. -/
def supplyAnswersSpec : ChangeSpec := { name := "supplyAnswers", fn := fun _ => fun
  | [d1, d2, d3, d4] => { results := [.lit (.bool true)], args := [d1, d2, d3, d4] }
  | _ => none }
def supplyAnswersRow : OpenClaim := { program := "ytgpcojmdfmngeaadoor", sum := "755b0a3b06d0523c9cee66523822fbdb17fb70d8a9cc4c13406fe078be300194", func := "permitoffice/permitofficelaw11.SupplyAnswers", spec := "supplyAnswers", unfollowed := true, recurses := true, named := ["permitoffice/lexeme.classes", "permitoffice/mask.positions"], apart := false, laid := [("permitoffice/lexeme.classes", laid_permitoffice_lexeme_classes), ("permitoffice/mask.positions", laid_permitoffice_mask_positions)] }
def SupplyAnswersSaid : Prop := supplyAnswersRow.holds Tryd.pinned (OpenSpec.ofChange supplyAnswersSpec)

/-- ITS FALSE NEIGHBOUR: 'it returns false'. Refute it at one input. -/
def supplyAnswersWrong : ChangeSpec := { name := "supplyAnswers", fn := fun _ => fun
  | [d1, d2, d3, d4] => { results := [.lit (.bool false)], args := [d1, d2, d3, d4] }
  | _ => none }
def SupplyAnswersWrongFalsely : Prop := supplyAnswersRow.holds Tryd.pinned (OpenSpec.ofChange supplyAnswersWrong)

/- THE SECOND FORM. 'bulk': how many values and letters a reading holds, each counted each time it is reached (what is shared counts as often as it is met; a slice's spare places count too). A statement '..UptoSaid' is the law's where the arguments, and the package variables that the reading takes, are together of bulk at most 1048576: NARROWER than '..Said'. Prove '..Said' where nothing that the law and all that it calls make is longer than what came in: it says more and counts as full. Else prove '..UptoSaid'. A law counts once. -/
mutual
def uptoBulk {H : Type} : DataW H → Nat
  | .lit (.string bytes) => bytes.length + 1
  | .lit _ => 1
  | .nil => 1
  | .ptr d => uptoBulk d + 1
  | .slice elems spare => uptoBulkAll elems + uptoBulkAll spare + 1
  | .agg parts => uptoBulkAll parts + 1
  | .iface _ d => uptoBulk d + 1
  | .map entries => uptoBulkEntries entries + 1
  | .held _ => 1
def uptoBulkAll {H : Type} : List (DataW H) → Nat
  | [] => 0
  | d :: r => uptoBulk d + uptoBulkAll r
def uptoBulkEntries {H : Type} : List (Lit × DataW H) → Nat
  | [] => 0
  | x :: r => uptoBulkEntry x + uptoBulkEntries r
def uptoBulkEntry {H : Type} : Lit × DataW H → Nat
  | (.string bytes, d) => bytes.length + uptoBulk d + 1
  | (_, d) => uptoBulk d + 1
 end
def uptoSmall : (H : Type) → List (DataW H) → Bool := fun _ ds => decide (uptoBulkAll ds ≤ 1048576)
def OpenSpec.upto (s : _root_.Go.ChangeSpec) : _root_.Go.OpenSpec := { _root_.Go.OpenSpec.ofChange s with cond := some uptoSmall }

/-- 'permitofficelaw03.NetworkAnswers', WHERE WHAT IT READS IS OF BULK AT MOST 1048576: true; the input reads as it did. -/
def networkAnswersUptoRow : OpenClaim := { program := "ytgpcojmdfmngeaadoor", sum := "755b0a3b06d0523c9cee66523822fbdb17fb70d8a9cc4c13406fe078be300194", func := "permitoffice/permitofficelaw03.NetworkAnswers", spec := "networkAnswers", unfollowed := true, recurses := true, named := ["permitoffice/lexeme.classes"], apart := false, laid := [("permitoffice/lexeme.classes", laid_permitoffice_lexeme_classes)], narrowed := true }
def NetworkAnswersUptoSaid : Prop := networkAnswersUptoRow.holds Tryd.pinned (OpenSpec.upto networkAnswersSpec)

/-- 'permitofficelaw06.MaskAnswers', WHERE WHAT IT READS IS OF BULK AT MOST 1048576: true; the input reads as it did. -/
def maskAnswersUptoRow : OpenClaim := { program := "ytgpcojmdfmngeaadoor", sum := "755b0a3b06d0523c9cee66523822fbdb17fb70d8a9cc4c13406fe078be300194", func := "permitoffice/permitofficelaw06.MaskAnswers", spec := "maskAnswers", unfollowed := true, recurses := true, named := ["permitoffice/mask.positions", "permitoffice/lexeme.classes"], apart := false, laid := [("permitoffice/lexeme.classes", laid_permitoffice_lexeme_classes), ("permitoffice/mask.positions", laid_permitoffice_mask_positions)], narrowed := true }
def MaskAnswersUptoSaid : Prop := maskAnswersUptoRow.holds Tryd.pinned (OpenSpec.upto maskAnswersSpec)

/-- 'permitofficelaw07.ColourAnswers', WHERE WHAT IT READS IS OF BULK AT MOST 1048576: true; the input reads as it did. -/
def colourAnswersUptoRow : OpenClaim := { program := "ytgpcojmdfmngeaadoor", sum := "755b0a3b06d0523c9cee66523822fbdb17fb70d8a9cc4c13406fe078be300194", func := "permitoffice/permitofficelaw07.ColourAnswers", spec := "colourAnswers", unfollowed := true, recurses := true, named := ["permitoffice/lexeme.classes", "permitoffice/mask.positions"], apart := false, laid := [("permitoffice/lexeme.classes", laid_permitoffice_lexeme_classes), ("permitoffice/mask.positions", laid_permitoffice_mask_positions)], narrowed := true }
def ColourAnswersUptoSaid : Prop := colourAnswersUptoRow.holds Tryd.pinned (OpenSpec.upto colourAnswersSpec)

/-- 'permitofficelaw11.SupplyWays', WHERE WHAT IT READS IS OF BULK AT MOST 1048576: true; the input reads as it did. -/
def supplyWaysUptoRow : OpenClaim := { program := "ytgpcojmdfmngeaadoor", sum := "755b0a3b06d0523c9cee66523822fbdb17fb70d8a9cc4c13406fe078be300194", func := "permitoffice/permitofficelaw11.SupplyWays", spec := "supplyWays", unfollowed := true, recurses := true, named := ["permitoffice/lexeme.classes", "permitoffice/mask.positions"], apart := false, laid := [("permitoffice/lexeme.classes", laid_permitoffice_lexeme_classes), ("permitoffice/mask.positions", laid_permitoffice_mask_positions)], narrowed := true }
def SupplyWaysUptoSaid : Prop := supplyWaysUptoRow.holds Tryd.pinned (OpenSpec.upto supplyWaysSpec)

/-- 'permitofficelaw22.InterruptionAnswers', WHERE WHAT IT READS IS OF BULK AT MOST 1048576: true; the input reads as it did. -/
def interruptionAnswersUptoRow : OpenClaim := { program := "ytgpcojmdfmngeaadoor", sum := "755b0a3b06d0523c9cee66523822fbdb17fb70d8a9cc4c13406fe078be300194", func := "permitoffice/permitofficelaw22.InterruptionAnswers", spec := "interruptionAnswers", unfollowed := true, recurses := true, named := ["permitoffice/lexeme.classes", "permitoffice/mask.positions"], apart := false, laid := [("permitoffice/lexeme.classes", laid_permitoffice_lexeme_classes), ("permitoffice/mask.positions", laid_permitoffice_mask_positions)], narrowed := true }
def InterruptionAnswersUptoSaid : Prop := interruptionAnswersUptoRow.holds Tryd.pinned (OpenSpec.upto interruptionAnswersSpec)

/-- 'permitofficelaw11.SupplyAnswers', WHERE WHAT IT READS IS OF BULK AT MOST 1048576: true; the input reads as it did. -/
def supplyAnswersUptoRow : OpenClaim := { program := "ytgpcojmdfmngeaadoor", sum := "755b0a3b06d0523c9cee66523822fbdb17fb70d8a9cc4c13406fe078be300194", func := "permitoffice/permitofficelaw11.SupplyAnswers", spec := "supplyAnswers", unfollowed := true, recurses := true, named := ["permitoffice/lexeme.classes", "permitoffice/mask.positions"], apart := false, laid := [("permitoffice/lexeme.classes", laid_permitoffice_lexeme_classes), ("permitoffice/mask.positions", laid_permitoffice_mask_positions)], narrowed := true }
def SupplyAnswersUptoSaid : Prop := supplyAnswersUptoRow.holds Tryd.pinned (OpenSpec.upto supplyAnswersSpec)

end Rows
end Go.Proofs.YtgpcojmdfmngeaaDoor
