/-
  DERIVED. GIVEN WITH THE SEED: THE PROGRAM's TIES (one call each: nine closed facts by the kernel) AND EACH ROW's TIE, after the 31st guide's Derived/Test/Toyas{Tie, Card}.lean. No idea stands in it: it is a product of the set-up. Laid BY PROGRAM, IN A SANDBOX (cutbox-door.mjs). By AI agents, Wed Nov 11 2026. No macro, syntax, notation, axiom, sorry.
-/
import Derived.Test.YtgpcojmdfmngeaaDoorRows
import Derived.LaidByTextLater
import Derived.SevenTiedAt
import Derived.LaidSub
import Derived.LaidOnce
namespace Go.Proofs.YtgpcojmdfmngeaaDoor
open Go
set_option maxRecDepth 100000
theorem seatTie1 : Tryd.prog.laidByTextLater [("permitoffice/lexeme.classes", Rows.laid_permitoffice_lexeme_classes), ("permitoffice/mask.positions", Rows.laid_permitoffice_mask_positions)] [.data, .data] true :=
  Program.laidByTextLater_by_one 27 8 13 (by kernel_rfl) (by kernel_rfl) (by kernel_rfl) (by kernel_rfl) (by kernel_rfl) (by kernel_rfl) (fun _ _ => by kernel_rfl)
theorem noOwnUnsafe : Tryd.pinned.checked.prog.headLifts.contains "ownunsafe" = false := by kernel_rfl
theorem tie : Tryd.prog.laidByTextLater [("permitoffice/lexeme.classes", Rows.laid_permitoffice_lexeme_classes)] [.data] true :=
  Program.laidByTextLater.sub seatTie1 ["permitoffice/lexeme.classes"] (by kernel_rfl) (by kernel_rfl)
theorem networkAnswers_row_tie : Rows.networkAnswersRow.laidByTextAt .later Tryd.pinned [.data] true :=
  OpenClaim.laidByTextAt_later rfl rfl tie noOwnUnsafe
theorem tie2 : Tryd.prog.laidByTextLater [("permitoffice/lexeme.classes", Rows.laid_permitoffice_lexeme_classes), ("permitoffice/mask.positions", Rows.laid_permitoffice_mask_positions)] [.data, .data] true :=
  Program.laidByTextLater.sub seatTie1 ["permitoffice/lexeme.classes", "permitoffice/mask.positions"] (by kernel_rfl) (by kernel_rfl)
theorem maskAnswers_row_tie : Rows.maskAnswersRow.laidByTextAt .later Tryd.pinned [.data, .data] true :=
  OpenClaim.laidByTextAt_later rfl rfl tie2 noOwnUnsafe
theorem colourAnswers_row_tie : Rows.colourAnswersRow.laidByTextAt .later Tryd.pinned [.data, .data] true :=
  OpenClaim.laidByTextAt_later rfl rfl tie2 noOwnUnsafe
theorem supplyWays_row_tie : Rows.supplyWaysRow.laidByTextAt .later Tryd.pinned [.data, .data] true :=
  OpenClaim.laidByTextAt_later rfl rfl tie2 noOwnUnsafe
theorem interruptionAnswers_row_tie : Rows.interruptionAnswersRow.laidByTextAt .later Tryd.pinned [.data, .data] true :=
  OpenClaim.laidByTextAt_later rfl rfl tie2 noOwnUnsafe
theorem supplyAnswers_row_tie : Rows.supplyAnswersRow.laidByTextAt .later Tryd.pinned [.data, .data] true :=
  OpenClaim.laidByTextAt_later rfl rfl tie2 noOwnUnsafe
theorem networkAnswersUpto_row_tie : Rows.networkAnswersUptoRow.laidByTextAt .later Tryd.pinned [.data] true :=
  OpenClaim.laidByTextAt_later rfl rfl tie noOwnUnsafe
theorem maskAnswersUpto_row_tie : Rows.maskAnswersUptoRow.laidByTextAt .later Tryd.pinned [.data, .data] true :=
  OpenClaim.laidByTextAt_later rfl rfl tie2 noOwnUnsafe
theorem colourAnswersUpto_row_tie : Rows.colourAnswersUptoRow.laidByTextAt .later Tryd.pinned [.data, .data] true :=
  OpenClaim.laidByTextAt_later rfl rfl tie2 noOwnUnsafe
theorem supplyWaysUpto_row_tie : Rows.supplyWaysUptoRow.laidByTextAt .later Tryd.pinned [.data, .data] true :=
  OpenClaim.laidByTextAt_later rfl rfl tie2 noOwnUnsafe
theorem interruptionAnswersUpto_row_tie : Rows.interruptionAnswersUptoRow.laidByTextAt .later Tryd.pinned [.data, .data] true :=
  OpenClaim.laidByTextAt_later rfl rfl tie2 noOwnUnsafe
theorem supplyAnswersUpto_row_tie : Rows.supplyAnswersUptoRow.laidByTextAt .later Tryd.pinned [.data, .data] true :=
  OpenClaim.laidByTextAt_later rfl rfl tie2 noOwnUnsafe
end Go.Proofs.YtgpcojmdfmngeaaDoor
