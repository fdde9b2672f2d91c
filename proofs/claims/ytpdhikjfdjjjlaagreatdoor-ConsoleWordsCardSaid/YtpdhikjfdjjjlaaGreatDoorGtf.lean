/-
  The row is tied to the program text.
-/
import Derived.Test.YtpdhikjfdjjjlaaGreatDoorGtb
import Derived.Test.YtpdhikjfdjjjlaaGreatDoorGtc
import Derived.Test.YtpdhikjfdjjjlaaGreatDoorGtd
import Derived.Test.YtpdhikjfdjjjlaaGreatDoorGte
namespace Go.Proofs.YtpdhikjfdjjjlaaGreatDoor
open Go
set_option maxRecDepth 100000
theorem tie : Tryz.prog.laidByTextLater lst [.data, .data, .data, .data, .data, .data] true :=
  Program.laidByTextLater_by_one 400 8 100 a1 a2 a3 a4 a5 a6 a7
theorem consoleWords_row_tie : Rows.consoleWordsRow.laidByTextAt .later Tryz.pinned [.data, .data, .pinned, .data, .data, .data, .data] true :=
  OpenClaim.laidByTextAt_pinned rfl rfl tie rfl rfl rfl rfl (fun y hy _e => by
    simp only [Rows.consoleWordsRow, List.zip_cons_cons, List.zip_nil_right, List.mem_cons, List.mem_nil_iff, or_false] at hy
    rcases hy with rfl | rfl | rfl | rfl | rfl | rfl | rfl
    · cases _e
    · cases _e
    · exact ⟨pin_laid_unicode_utf8_first, by kernel_rfl⟩
    · cases _e
    · cases _e
    · cases _e
    · cases _e) fits1
end Go.Proofs.YtpdhikjfdjjjlaaGreatDoor
