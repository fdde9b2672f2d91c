/-
  The variables that the program text lays.
-/
import Derived.Test.YtpdhikjfdjjjlaaGreatDoorGta
namespace Go.Proofs.YtpdhikjfdjjjlaaGreatDoor
open Go
set_option maxRecDepth 100000
theorem a6 : varsNamedLaterB Tryz.prog (varsId Tryz.prog) lst = true := by kernel_rfl
end Go.Proofs.YtpdhikjfdjjjlaaGreatDoor
