/-
  The row is lifted.
-/
import Derived.Test.YtpdhikjfdjjjlaaGreatDoorGu
import Derived.Test.YtpdhikjfdjjjlaaGreatDoorGv
namespace Go.Proofs.YtpdhikjfdjjjlaaGreatDoor.consoleWords
open Go.ChangeShapes Go.WideShapes Go.ChangeAt Go.RowKit
set_option linter.unusedVariables false
set_option maxRecDepth 100000

theorem lifted (os : Os) (started : os.Started) (H : Type) (enc : TypeId × Value → H) (F : Stop.Interp) :
    ReturnsInHanded {} Tryz.checked os 3 .any ((OpenSpec.ofChange Rows.consoleWordsSpec).preRow enc Tryz.prog Tryz.f3 Rows.consoleWordsRow.domain false Rows.consoleWordsRow.laid) (((OpenSpec.ofChange Rows.consoleWordsSpec).at F).post enc Tryz.prog Tryz.f3 false true false false) := by
  obtain ⟨places, hx⟩ := reads os enc
  refine returnsInHanded_of_row (C := Tryz.checked) (s := OpenSpec.ofChange Rows.consoleWordsSpec) own started (by kernel_rfl) Tryz.func3
    (witness_row_at (enc := enc) (C := Tryz.checked) false (laidWorld os) #[.slice none 0 0, .int .u8 0] rfl (by kernel_rfl) (by kernel_rfl) (by kernel_rfl)
      (OpenSpec.preRow_of_cond 8 hx (by kernel_rfl) (fun k hk => by cases hk) (by kernel_rfl) (laid_met os))) ?_
  intro W base args ds gs before hval hW _ _ _ hL _ _
  exact contract H enc W base args ds gs before hval hW hL
end Go.Proofs.YtpdhikjfdjjjlaaGreatDoor.consoleWords
