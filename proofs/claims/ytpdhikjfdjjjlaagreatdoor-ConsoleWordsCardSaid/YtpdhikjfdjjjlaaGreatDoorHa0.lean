/-
  Part of the types lie as the model lays them.
-/
import Derived.Test.YtpdhikjfdjjjlaaGreatDoorRows
import Derived.JoinedCond
namespace Go.Proofs.YtpdhikjfdjjjlaaGreatDoor
open Go
set_option maxRecDepth 100000
theorem rows0 : (List.range' 0 84).all (rowFine Tryz.prog) = true := by kernel_rfl
theorem rows1 : (List.range' 84 84).all (rowFine Tryz.prog) = true := by kernel_rfl
theorem rows2 : (List.range' 168 84).all (rowFine Tryz.prog) = true := by kernel_rfl
theorem rows3 : (List.range' 252 84).all (rowFine Tryz.prog) = true := by kernel_rfl
end Go.Proofs.YtpdhikjfdjjjlaaGreatDoor
