/-
  What the run that lays the tables leaves.
-/
import Derived.Test.YtpdhikjfdjjjlaaGreatDoorGta
namespace Go.Proofs.YtpdhikjfdjjjlaaGreatDoor
open Go
set_option maxRecDepth 100000
theorem a7 (os : Os) (tape : Tape) : doorLeaves Tryz.prog 400 8 100 lst os tape = some (lst.filter fun x => x.2.handleName?.isNone, (funcsListed lst).map (·.2.funcsOut)) := by kernel_rfl
end Go.Proofs.YtpdhikjfdjjjlaaGreatDoor
