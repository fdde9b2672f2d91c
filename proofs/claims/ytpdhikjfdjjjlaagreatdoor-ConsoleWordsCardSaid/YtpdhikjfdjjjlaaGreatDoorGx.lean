/-
  The row's statement.
-/
import Derived.Test.YtpdhikjfdjjjlaaGreatDoorGw
import Derived.Test.YtpdhikjfdjjjlaaGreatDoorHz
namespace Go.Proofs.YtpdhikjfdjjjlaaGreatDoor.consoleWords
open Go.ChangeShapes Go.WideShapes Go.ChangeAt Go.RowKit
set_option linter.unusedVariables false
set_option maxRecDepth 100000

theorem said : Rows.ConsoleWordsSaid :=
  OpenClaim.holds_of_cond 3 Tryz.f3 rfl rfl rfl rfl rfl rfl rfl ⟨rfl, rfl, rfl, rfl, rfl⟩ rfl rfl rfl rfl rfl namedF Tryz.func3 closed
    instF wrapF
    (fun os started H enc _ F => by rw [OpenClaim.pre_eq_preRow]; exact lifted os started H enc F)
end Go.Proofs.YtpdhikjfdjjjlaaGreatDoor.consoleWords
