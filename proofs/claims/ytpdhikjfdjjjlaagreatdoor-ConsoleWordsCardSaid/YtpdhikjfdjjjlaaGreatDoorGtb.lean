/-
  The listed tables fit the head of the translation.
-/
import Derived.Test.YtpdhikjfdjjjlaaGreatDoorGta
namespace Go.Proofs.YtpdhikjfdjjjlaaGreatDoor
open Go
set_option maxRecDepth 100000
theorem fits1 : Tryz.pinned.checked.prog.listedFits [("permitoffice/lexeme.classes", Rows.laid_permitoffice_lexeme_classes), ("permitoffice/mask.positions", Rows.laid_permitoffice_mask_positions), ("unicode/utf8.first", Rows.laid_unicode_utf8_first), ("unicode/utf8.acceptRanges", Rows.laid_unicode_utf8_acceptRanges), ("internal/strconv.uint64pow10", Rows.laid_internal_strconv_uint64pow10), ("math/bits.deBruijn32tab", Rows.laid_math_bits_deBruijn32tab), ("math/bits.deBruijn64tab", Rows.laid_math_bits_deBruijn64tab)] = true := by
  unfold Program.listedFits
  rw [noOwnUnsafe]
  kernel_rfl
end Go.Proofs.YtpdhikjfdjjjlaaGreatDoor
