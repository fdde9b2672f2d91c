/-
  NARROWER THAN 'FOR EVERY INPUT', by the rows' own cells (each row's printed sentence says how): MaskLimit: laid · MaskMeets: laid · NetworkWays: laid · NetworkLess: laid · NetworkLimits: laid · NetworkAt: laid · NetworkErrors: laid.
  DERIVED. THE GIVEN ROWS OF THIS SEAT. 7 by the template 'for every input the law returns true; each argument reads behind the call as it read before'; 0 by the template 'total and deterministic' (their statements: YtjncgpchmhkcbaaDoorTotals.lean).
  GIVEN WITH THE SEED: the statements are not yours to turn. If you find one false, say at which input.
  Laid BY PROGRAM, IN A SANDBOX (cutbox-rows.mjs): the forced cells as the released guide's own fill.sh prints them over the translation e41dfa1596ad812c… (all of the seat's roots in one cut). By AI agents, Wed Nov 11 2026. No macro, syntax, notation, axiom, sorry.
-/
import Derived.Test.YtjncgpchmhkcbaaDoorChecked
import GoSem.Claim
import GoSem.ClaimJoined
import GoSem.ClaimMapViews
import Derived.JoinedTies
import Derived.KernelRfl
namespace Go.Proofs.YtjncgpchmhkcbaaDoor
/- THE CELL 'sum', in the pinned program and in every row, IS THE sha256 OF THE DUMP (.gsa) THAT YtjncgpchmhkcbaaDoorProg.lean LOADS. Nothing in Lean hashes anything: it is a label: what it is worth is what the hold of that sum in a sandbox is worth. -/
noncomputable def Tryd.pinned : Pinned := { name := "ytjncgpchmhkcbaadoor", sum := "e41dfa1596ad812c22d390b441f7e3d4697025c78766075878e64d95a01d7ca0", checked := Tryd.checked }
namespace Rows
def none {H : Type} : Left H := { results := [], args := [] }

/- WHAT THE LISTED PACKAGE-LEVEL VARIABLES READ AS WHEN THE CALL BEGINS. Each datum BY PROGRAM (the guide's laid-datum.mjs) off the statement by which the dump's own 'gosem.cut.vars' lays the variable. In a bare row this is a premise. The card (YtjncgpchmhkcbaaDoorCards.lean) ties it to the program's text. -/
def laid_permitoffice_mask_positions {H : Type} : DataW H := .agg [.agg [.lit (.bool false), .lit (.bool false)], .agg [.lit (.bool true), .lit (.bool true)], .agg [.lit (.bool true), .lit (.bool true)], .agg [.lit (.bool true), .lit (.bool false)]]
def laid_permitoffice_lexeme_classes {H : Type} : DataW H := .agg [.agg [.lit (.int .u8 65), .lit (.int .u8 90), .lit (.bool true)], .agg [.lit (.int .u8 97), .lit (.int .u8 122), .lit (.bool true)], .agg [.lit (.int .u8 48), .lit (.int .u8 57), .lit (.bool false)], .agg [.lit (.int .u8 95), .lit (.int .u8 95), .lit (.bool false)]]

/-- 'permitofficelaw06.MaskLimit': WHATEVER THE INPUT: true; the input reads as it did. -/
def maskLimitSpec : ChangeSpec := { name := "maskLimit", fn := fun _ => fun
  | [d1, d2] => { results := [.lit (.bool true)], args := [d1, d2] }
  | _ => none }
def maskLimitRow : OpenClaim := { program := "ytjncgpchmhkcbaadoor", sum := "e41dfa1596ad812c22d390b441f7e3d4697025c78766075878e64d95a01d7ca0", func := "permitoffice/permitofficelaw06.MaskLimit", spec := "maskLimit", unfollowed := true, recurses := true, named := ["permitoffice/mask.positions"], apart := false, laid := [("permitoffice/mask.positions", laid_permitoffice_mask_positions)] }
def MaskLimitSaid : Prop := maskLimitRow.holds Tryd.pinned (OpenSpec.ofChange maskLimitSpec)

/-- ITS FALSE NEIGHBOUR: 'it returns false'. Refute it at one input. -/
def maskLimitWrong : ChangeSpec := { name := "maskLimit", fn := fun _ => fun
  | [d1, d2] => { results := [.lit (.bool false)], args := [d1, d2] }
  | _ => none }
def MaskLimitWrongFalsely : Prop := maskLimitRow.holds Tryd.pinned (OpenSpec.ofChange maskLimitWrong)

/-- 'permitofficelaw06.MaskMeets': WHATEVER THE INPUT: true; the input reads as it did. -/
def maskMeetsSpec : ChangeSpec := { name := "maskMeets", fn := fun _ => fun
  | [d] => { results := [.lit (.bool true)], args := [d] }
  | _ => none }
def maskMeetsRow : OpenClaim := { program := "ytjncgpchmhkcbaadoor", sum := "e41dfa1596ad812c22d390b441f7e3d4697025c78766075878e64d95a01d7ca0", func := "permitoffice/permitofficelaw06.MaskMeets", spec := "maskMeets", unfollowed := true, recurses := true, named := ["permitoffice/mask.positions"], apart := false, laid := [("permitoffice/mask.positions", laid_permitoffice_mask_positions)] }
def MaskMeetsSaid : Prop := maskMeetsRow.holds Tryd.pinned (OpenSpec.ofChange maskMeetsSpec)

/-- ITS FALSE NEIGHBOUR: 'it returns false'. Refute it at one input. -/
def maskMeetsWrong : ChangeSpec := { name := "maskMeets", fn := fun _ => fun
  | [d] => { results := [.lit (.bool false)], args := [d] }
  | _ => none }
def MaskMeetsWrongFalsely : Prop := maskMeetsRow.holds Tryd.pinned (OpenSpec.ofChange maskMeetsWrong)

/-- 'permitofficelaw03.NetworkWays': WHATEVER THE INPUT: true; the input reads as it did. -/
def networkWaysSpec : ChangeSpec := { name := "networkWays", fn := fun _ => fun
  | [d] => { results := [.lit (.bool true)], args := [d] }
  | _ => none }
def networkWaysRow : OpenClaim := { program := "ytjncgpchmhkcbaadoor", sum := "e41dfa1596ad812c22d390b441f7e3d4697025c78766075878e64d95a01d7ca0", func := "permitoffice/permitofficelaw03.NetworkWays", spec := "networkWays", unfollowed := true, recurses := true, named := ["permitoffice/lexeme.classes"], apart := false, laid := [("permitoffice/lexeme.classes", laid_permitoffice_lexeme_classes)] }
def NetworkWaysSaid : Prop := networkWaysRow.holds Tryd.pinned (OpenSpec.ofChange networkWaysSpec)

/-- ITS FALSE NEIGHBOUR: 'it returns false'. Refute it at one input. -/
def networkWaysWrong : ChangeSpec := { name := "networkWays", fn := fun _ => fun
  | [d] => { results := [.lit (.bool false)], args := [d] }
  | _ => none }
def NetworkWaysWrongFalsely : Prop := networkWaysRow.holds Tryd.pinned (OpenSpec.ofChange networkWaysWrong)

/-- 'permitofficelaw03.NetworkLess': WHATEVER THE INPUT: true; the input reads as it did. -/
def networkLessSpec : ChangeSpec := { name := "networkLess", fn := fun _ => fun
  | [d] => { results := [.lit (.bool true)], args := [d] }
  | _ => none }
def networkLessRow : OpenClaim := { program := "ytjncgpchmhkcbaadoor", sum := "e41dfa1596ad812c22d390b441f7e3d4697025c78766075878e64d95a01d7ca0", func := "permitoffice/permitofficelaw03.NetworkLess", spec := "networkLess", unfollowed := true, recurses := true, named := ["permitoffice/lexeme.classes"], apart := false, laid := [("permitoffice/lexeme.classes", laid_permitoffice_lexeme_classes)] }
def NetworkLessSaid : Prop := networkLessRow.holds Tryd.pinned (OpenSpec.ofChange networkLessSpec)

/-- ITS FALSE NEIGHBOUR: 'it returns false'. Refute it at one input. -/
def networkLessWrong : ChangeSpec := { name := "networkLess", fn := fun _ => fun
  | [d] => { results := [.lit (.bool false)], args := [d] }
  | _ => none }
def NetworkLessWrongFalsely : Prop := networkLessRow.holds Tryd.pinned (OpenSpec.ofChange networkLessWrong)

/-- 'permitofficelaw03.NetworkLimits': WHATEVER THE INPUT: true; the input reads as it did. -/
def networkLimitsSpec : ChangeSpec := { name := "networkLimits", fn := fun _ => fun
  | [d1, d2] => { results := [.lit (.bool true)], args := [d1, d2] }
  | _ => none }
def networkLimitsRow : OpenClaim := { program := "ytjncgpchmhkcbaadoor", sum := "e41dfa1596ad812c22d390b441f7e3d4697025c78766075878e64d95a01d7ca0", func := "permitoffice/permitofficelaw03.NetworkLimits", spec := "networkLimits", unfollowed := true, recurses := true, named := ["permitoffice/lexeme.classes"], apart := false, laid := [("permitoffice/lexeme.classes", laid_permitoffice_lexeme_classes)] }
def NetworkLimitsSaid : Prop := networkLimitsRow.holds Tryd.pinned (OpenSpec.ofChange networkLimitsSpec)

/-- ITS FALSE NEIGHBOUR: 'it returns false'. Refute it at one input. -/
def networkLimitsWrong : ChangeSpec := { name := "networkLimits", fn := fun _ => fun
  | [d1, d2] => { results := [.lit (.bool false)], args := [d1, d2] }
  | _ => none }
def NetworkLimitsWrongFalsely : Prop := networkLimitsRow.holds Tryd.pinned (OpenSpec.ofChange networkLimitsWrong)

/-- 'permitofficelaw03.NetworkAt': WHATEVER THE INPUT: true; the input reads as it did. -/
def networkAtSpec : ChangeSpec := { name := "networkAt", fn := fun _ => fun
  | [d] => { results := [.lit (.bool true)], args := [d] }
  | _ => none }
def networkAtRow : OpenClaim := { program := "ytjncgpchmhkcbaadoor", sum := "e41dfa1596ad812c22d390b441f7e3d4697025c78766075878e64d95a01d7ca0", func := "permitoffice/permitofficelaw03.NetworkAt", spec := "networkAt", unfollowed := true, recurses := true, named := ["permitoffice/lexeme.classes"], apart := false, laid := [("permitoffice/lexeme.classes", laid_permitoffice_lexeme_classes)] }
def NetworkAtSaid : Prop := networkAtRow.holds Tryd.pinned (OpenSpec.ofChange networkAtSpec)

/-- ITS FALSE NEIGHBOUR: 'it returns false'. Refute it at one input. -/
def networkAtWrong : ChangeSpec := { name := "networkAt", fn := fun _ => fun
  | [d] => { results := [.lit (.bool false)], args := [d] }
  | _ => none }
def NetworkAtWrongFalsely : Prop := networkAtRow.holds Tryd.pinned (OpenSpec.ofChange networkAtWrong)

/-- 'permitofficelaw03.NetworkErrors': WHATEVER THE INPUT: true; the input reads as it did. -/
def networkErrorsSpec : ChangeSpec := { name := "networkErrors", fn := fun _ => fun
  | [d1, d2] => { results := [.lit (.bool true)], args := [d1, d2] }
  | _ => none }
def networkErrorsRow : OpenClaim := { program := "ytjncgpchmhkcbaadoor", sum := "e41dfa1596ad812c22d390b441f7e3d4697025c78766075878e64d95a01d7ca0", func := "permitoffice/permitofficelaw03.NetworkErrors", spec := "networkErrors", unfollowed := true, recurses := true, named := ["permitoffice/lexeme.classes"], apart := false, laid := [("permitoffice/lexeme.classes", laid_permitoffice_lexeme_classes)] }
def NetworkErrorsSaid : Prop := networkErrorsRow.holds Tryd.pinned (OpenSpec.ofChange networkErrorsSpec)

/-- ITS FALSE NEIGHBOUR: 'it returns false'. Refute it at one input. -/
def networkErrorsWrong : ChangeSpec := { name := "networkErrors", fn := fun _ => fun
  | [d1, d2] => { results := [.lit (.bool false)], args := [d1, d2] }
  | _ => none }
def NetworkErrorsWrongFalsely : Prop := networkErrorsRow.holds Tryd.pinned (OpenSpec.ofChange networkErrorsWrong)

/- THE SECOND FORM. 'bulk': how many values and letters a reading holds, each counted each time it is reached (what is shared counts as often as it is met; a slice's spare places count too). A statement '..UptoSaid' is the law's where the arguments, and the package variables that the reading takes, are together of bulk at most 1048576: NARROWER than '..Said'. Prove '..Said' where nothing that the law and all that it calls make is longer than what came in: it says more and counts as full. Else prove '..UptoSaid'. A law counts once. -/
mutual
def uptoBulk {H : Type} : DataW H → Nat
  | .lit (.string bytes) => bytes.length + 1
  | .lit _ => 1
  | .nil => 1
  | .ptr d => uptoBulk d + 1
  | .slice elems spare => uptoBulkAll elems + uptoBulkAll spare + 1
  | .agg parts => uptoBulkAll parts + 1
  | .iface _ d => uptoBulk d + 1
  | .map entries => uptoBulkEntries entries + 1
  | .held _ => 1
def uptoBulkAll {H : Type} : List (DataW H) → Nat
  | [] => 0
  | d :: r => uptoBulk d + uptoBulkAll r
def uptoBulkEntries {H : Type} : List (Lit × DataW H) → Nat
  | [] => 0
  | x :: r => uptoBulkEntry x + uptoBulkEntries r
def uptoBulkEntry {H : Type} : Lit × DataW H → Nat
  | (.string bytes, d) => bytes.length + uptoBulk d + 1
  | (_, d) => uptoBulk d + 1
 end
def uptoSmall : (H : Type) → List (DataW H) → Bool := fun _ ds => decide (uptoBulkAll ds ≤ 1048576)
def OpenSpec.upto (s : _root_.Go.ChangeSpec) : _root_.Go.OpenSpec := { _root_.Go.OpenSpec.ofChange s with cond := some uptoSmall }

/-- 'permitofficelaw06.MaskLimit', WHERE WHAT IT READS IS OF BULK AT MOST 1048576: true; the input reads as it did. -/
def maskLimitUptoRow : OpenClaim := { program := "ytjncgpchmhkcbaadoor", sum := "e41dfa1596ad812c22d390b441f7e3d4697025c78766075878e64d95a01d7ca0", func := "permitoffice/permitofficelaw06.MaskLimit", spec := "maskLimit", unfollowed := true, recurses := true, named := ["permitoffice/mask.positions"], apart := false, laid := [("permitoffice/mask.positions", laid_permitoffice_mask_positions)], narrowed := true }
def MaskLimitUptoSaid : Prop := maskLimitUptoRow.holds Tryd.pinned (OpenSpec.upto maskLimitSpec)

/-- 'permitofficelaw06.MaskMeets', WHERE WHAT IT READS IS OF BULK AT MOST 1048576: true; the input reads as it did. -/
def maskMeetsUptoRow : OpenClaim := { program := "ytjncgpchmhkcbaadoor", sum := "e41dfa1596ad812c22d390b441f7e3d4697025c78766075878e64d95a01d7ca0", func := "permitoffice/permitofficelaw06.MaskMeets", spec := "maskMeets", unfollowed := true, recurses := true, named := ["permitoffice/mask.positions"], apart := false, laid := [("permitoffice/mask.positions", laid_permitoffice_mask_positions)], narrowed := true }
def MaskMeetsUptoSaid : Prop := maskMeetsUptoRow.holds Tryd.pinned (OpenSpec.upto maskMeetsSpec)

/-- 'permitofficelaw03.NetworkWays', WHERE WHAT IT READS IS OF BULK AT MOST 1048576: true; the input reads as it did. -/
def networkWaysUptoRow : OpenClaim := { program := "ytjncgpchmhkcbaadoor", sum := "e41dfa1596ad812c22d390b441f7e3d4697025c78766075878e64d95a01d7ca0", func := "permitoffice/permitofficelaw03.NetworkWays", spec := "networkWays", unfollowed := true, recurses := true, named := ["permitoffice/lexeme.classes"], apart := false, laid := [("permitoffice/lexeme.classes", laid_permitoffice_lexeme_classes)], narrowed := true }
def NetworkWaysUptoSaid : Prop := networkWaysUptoRow.holds Tryd.pinned (OpenSpec.upto networkWaysSpec)

/-- 'permitofficelaw03.NetworkLess', WHERE WHAT IT READS IS OF BULK AT MOST 1048576: true; the input reads as it did. -/
def networkLessUptoRow : OpenClaim := { program := "ytjncgpchmhkcbaadoor", sum := "e41dfa1596ad812c22d390b441f7e3d4697025c78766075878e64d95a01d7ca0", func := "permitoffice/permitofficelaw03.NetworkLess", spec := "networkLess", unfollowed := true, recurses := true, named := ["permitoffice/lexeme.classes"], apart := false, laid := [("permitoffice/lexeme.classes", laid_permitoffice_lexeme_classes)], narrowed := true }
def NetworkLessUptoSaid : Prop := networkLessUptoRow.holds Tryd.pinned (OpenSpec.upto networkLessSpec)

/-- 'permitofficelaw03.NetworkLimits', WHERE WHAT IT READS IS OF BULK AT MOST 1048576: true; the input reads as it did. -/
def networkLimitsUptoRow : OpenClaim := { program := "ytjncgpchmhkcbaadoor", sum := "e41dfa1596ad812c22d390b441f7e3d4697025c78766075878e64d95a01d7ca0", func := "permitoffice/permitofficelaw03.NetworkLimits", spec := "networkLimits", unfollowed := true, recurses := true, named := ["permitoffice/lexeme.classes"], apart := false, laid := [("permitoffice/lexeme.classes", laid_permitoffice_lexeme_classes)], narrowed := true }
def NetworkLimitsUptoSaid : Prop := networkLimitsUptoRow.holds Tryd.pinned (OpenSpec.upto networkLimitsSpec)

/-- 'permitofficelaw03.NetworkAt', WHERE WHAT IT READS IS OF BULK AT MOST 1048576: true; the input reads as it did. -/
def networkAtUptoRow : OpenClaim := { program := "ytjncgpchmhkcbaadoor", sum := "e41dfa1596ad812c22d390b441f7e3d4697025c78766075878e64d95a01d7ca0", func := "permitoffice/permitofficelaw03.NetworkAt", spec := "networkAt", unfollowed := true, recurses := true, named := ["permitoffice/lexeme.classes"], apart := false, laid := [("permitoffice/lexeme.classes", laid_permitoffice_lexeme_classes)], narrowed := true }
def NetworkAtUptoSaid : Prop := networkAtUptoRow.holds Tryd.pinned (OpenSpec.upto networkAtSpec)

/-- 'permitofficelaw03.NetworkErrors', WHERE WHAT IT READS IS OF BULK AT MOST 1048576: true; the input reads as it did. -/
def networkErrorsUptoRow : OpenClaim := { program := "ytjncgpchmhkcbaadoor", sum := "e41dfa1596ad812c22d390b441f7e3d4697025c78766075878e64d95a01d7ca0", func := "permitoffice/permitofficelaw03.NetworkErrors", spec := "networkErrors", unfollowed := true, recurses := true, named := ["permitoffice/lexeme.classes"], apart := false, laid := [("permitoffice/lexeme.classes", laid_permitoffice_lexeme_classes)], narrowed := true }
def NetworkErrorsUptoSaid : Prop := networkErrorsUptoRow.holds Tryd.pinned (OpenSpec.upto networkErrorsSpec)

end Rows
end Go.Proofs.YtjncgpchmhkcbaaDoor
