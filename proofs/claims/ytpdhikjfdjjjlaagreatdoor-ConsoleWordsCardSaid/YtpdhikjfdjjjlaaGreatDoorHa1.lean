/-
  Part of the types lie as the model lays them.
-/
import Derived.Test.YtpdhikjfdjjjlaaGreatDoorRows
import Derived.JoinedCond
namespace Go.Proofs.YtpdhikjfdjjjlaaGreatDoor
open Go
set_option maxRecDepth 100000
theorem rows4 : (List.range' 336 84).all (rowFine Tryz.prog) = true := by kernel_rfl
theorem rows5 : (List.range' 420 84).all (rowFine Tryz.prog) = true := by kernel_rfl
theorem rows6 : (List.range' 504 84).all (rowFine Tryz.prog) = true := by kernel_rfl
theorem rows7 : (List.range' 588 75).all (rowFine Tryz.prog) = true := by kernel_rfl
end Go.Proofs.YtpdhikjfdjjjlaaGreatDoor
