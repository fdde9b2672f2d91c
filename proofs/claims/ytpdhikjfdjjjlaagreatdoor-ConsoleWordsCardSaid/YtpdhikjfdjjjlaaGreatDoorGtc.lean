/-
  The words and the kinds of the listed tables.
-/
import Derived.Test.YtpdhikjfdjjjlaaGreatDoorGta
namespace Go.Proofs.YtpdhikjfdjjjlaaGreatDoor
open Go
set_option maxRecDepth 100000
theorem a1 : Tryz.prog.worded (varsWordLater true) = true := by kernel_rfl
theorem a2 : Tryz.prog.worded (varsWordLater !true) = false := by kernel_rfl
theorem a3 : Tryz.prog.worded rootWordLater = true := by kernel_rfl
theorem a4 : lst.map (fun x => Tryz.prog.kindOfLater x.1) = [LaidKind.data, .data, .data, .data, .data, .data].map some := by kernel_rfl
theorem a5 : (Tryz.prog.funcNamed "gosem.cut.vars").isSome = true := by kernel_rfl
end Go.Proofs.YtpdhikjfdjjjlaaGreatDoor
