/-
  The main package, and what looks are taken.
-/
import Derived.Test.YtpdhikjfdjjjlaaGreatDoorCards
import Derived.JoinedCond
import Derived.SevenTiedAt
namespace Go.Proofs.YtpdhikjfdjjjlaaGreatDoor.consoleWords
open Go
set_option maxRecDepth 100000
theorem byTextF : Rows.consoleWordsRow.wfByText (OpenSpec.ofChange Rows.consoleWordsSpec) = true := by kernel_rfl
theorem mainF : Tryz.pinned.checked.prog.mainIs = some (true, "e272e59c2ab7de7645c89c0ec3ea1691d8f768db82c1c7533676353063f3a91e".toList) := by kernel_rfl
theorem looksF : false = Tryz.prog.looks [] := by kernel_rfl
end Go.Proofs.YtpdhikjfdjjjlaaGreatDoor.consoleWords
