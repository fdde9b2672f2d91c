/-
  A closed fact of the row.
-/
import Derived.Test.YtpdhikjfdjjjlaaGreatDoorRows
import Derived.JoinedCond
namespace Go.Proofs.YtpdhikjfdjjjlaaGreatDoor.consoleWords
open Go
set_option maxRecDepth 100000
theorem jf25 : (Tryz.prog.mayEnter) = true := by kernel_rfl
end Go.Proofs.YtpdhikjfdjjjlaaGreatDoor.consoleWords
