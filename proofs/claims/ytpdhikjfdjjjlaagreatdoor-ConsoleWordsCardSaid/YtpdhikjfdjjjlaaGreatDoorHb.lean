/-
  The variables and parameters have types of the program.
-/
import Derived.Test.YtpdhikjfdjjjlaaGreatDoorRows
import Derived.JoinedCond
namespace Go.Proofs.YtpdhikjfdjjjlaaGreatDoor
open Go
set_option maxRecDepth 100000
theorem tsize : Tryz.prog.types.size = 663 := by kernel_rfl
theorem globs : (Tryz.prog.globals.all fun g => decide (g.type < 663)) = true := by kernel_rfl
theorem funs : (Tryz.prog.funcs.all fun f => f.params.all fun t => decide (t < 663)) = true := by kernel_rfl
end Go.Proofs.YtpdhikjfdjjjlaaGreatDoor
