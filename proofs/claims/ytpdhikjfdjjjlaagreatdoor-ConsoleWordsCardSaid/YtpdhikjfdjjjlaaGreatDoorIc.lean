/-
  What the law names: by the functions that it leads to.
-/
import Derived.Test.YtpdhikjfdjjjlaaGreatDoorIb
namespace Go.Proofs.YtpdhikjfdjjjlaaGreatDoor.consoleWords
open Go
set_option maxRecDepth 100000
theorem jf9 : ((Rows.consoleWordsRow.inPlace == Tryz.prog.inPlace 3)) = true := by
  unfold Program.inPlace
  rw [clo]
  kernel_rfl
theorem unf : Tryz.prog.unfollowed 3 = true := by
  unfold Program.unfollowed
  rw [clo]
  kernel_rfl
theorem jf10 : ((Rows.consoleWordsRow.unfollowed == Tryz.prog.unfollowed 3)) = true := by
  rw [unf]
  kernel_rfl
theorem jf11 : ((Rows.consoleWordsRow.recurses == Tryz.prog.recurses 3)) = true := by
  unfold Program.recurses
  rw [unf, Bool.true_or]
  kernel_rfl
theorem jf12 : ((Rows.consoleWordsRow.named == Tryz.prog.varsNamed 3)) = true := by
  unfold Program.varsNamed
  rw [clo]
  simp only [glob_at]
  kernel_rfl
end Go.Proofs.YtpdhikjfdjjjlaaGreatDoor.consoleWords
