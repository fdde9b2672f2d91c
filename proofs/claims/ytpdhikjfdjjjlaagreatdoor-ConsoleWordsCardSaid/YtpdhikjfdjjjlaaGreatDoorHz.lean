/-
  The closed facts of the row, joined.
-/
import Derived.Test.YtpdhikjfdjjjlaaGreatDoorHd2
import Derived.Test.YtpdhikjfdjjjlaaGreatDoorHd22
import Derived.Test.YtpdhikjfdjjjlaaGreatDoorHd24
import Derived.Test.YtpdhikjfdjjjlaaGreatDoorHd25
import Derived.Test.YtpdhikjfdjjjlaaGreatDoorHd
import Derived.Test.YtpdhikjfdjjjlaaGreatDoorHc
import Derived.Test.YtpdhikjfdjjjlaaGreatDoorIc
namespace Go.Proofs.YtpdhikjfdjjjlaaGreatDoor.consoleWords
open Go
set_option maxRecDepth 100000
theorem and_t {a b : Bool} (h : a = true) (k : b = true) : (a && b) = true := by rw [h, k]; rfl
theorem closed : joinedFacts Tryz.prog 3 Tryz.f3 (OpenSpec.ofChange Rows.consoleWordsSpec).bare Rows.consoleWordsRow = true := by
  unfold joinedFacts
  exact and_t (and_t (and_t (and_t (and_t (and_t (and_t (and_t (and_t (and_t (and_t (and_t (and_t (and_t (and_t (and_t (and_t (and_t (and_t (and_t (and_t (and_t (and_t (and_t (and_t (and_t (and_t (and_t (and_t (and_t (and_t (jf0) laidOut) jf2) jf3) jf4) jf5) jf6) jf7) jf8) jf9) jf10) jf11) jf12) jf13) jf14) jf15) jf16) jf17) jf18) jf19) jf20) jf21) jf22) jf23) jf24) jf25) jf26) jf27) jf28) jf29) jf30) jf31
theorem namedF : Tryz.prog.funcNamed Rows.consoleWordsRow.func = some 3 := by kernel_rfl
theorem instF : Tryz.f3.isInstance Tryz.prog Rows.consoleWordsRow.origin Rows.consoleWordsRow.targs := of_decide_eq_true (by kernel_rfl)
theorem wrapF : Tryz.f3.isWrapper Tryz.prog Rows.consoleWordsRow.wrapper Rows.consoleWordsRow.mainSum := by
  unfold Func.isWrapper
  first | (rw [if_pos (by decide +kernel)]; kernel_rfl) | (rw [if_neg (by decide +kernel)]; exact ⟨rfl, rfl⟩)
end Go.Proofs.YtpdhikjfdjjjlaaGreatDoor.consoleWords
