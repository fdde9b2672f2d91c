/-
  Closed facts of the row.
-/
import Derived.Test.YtpdhikjfdjjjlaaGreatDoorRows
import Derived.JoinedCond
namespace Go.Proofs.YtpdhikjfdjjjlaaGreatDoor.consoleWords
open Go
set_option maxRecDepth 100000
theorem jf0 : (Rows.consoleWordsRow.wf (OpenSpec.ofChange (OpenSpec.ofChange Rows.consoleWordsSpec).bare)) = true := by kernel_rfl
theorem jf3 : (Tryz.f3.params.all (Tryz.prog.readableRec ·)) = true := by kernel_rfl
theorem jf4 : (namedTie Tryz.prog Rows.consoleWordsRow.named (OpenSpec.ofChange Rows.consoleWordsSpec).bare.vars) = true := by kernel_rfl
theorem jf5 : ((Rows.consoleWordsRow.stops == [])) = true := by kernel_rfl
theorem jf6 : ((Tryz.prog.stops == [])) = true := by kernel_rfl
theorem jf7 : ((Rows.consoleWordsRow.knobs == [])) = true := by kernel_rfl
theorem jf8 : ((Tryz.prog.stopKnobs == [])) = true := by kernel_rfl
theorem jf13 : ((Rows.consoleWordsRow.maps == (Tryz.f3.params.toList ++ (OpenSpec.ofChange Rows.consoleWordsSpec).bare.plain.varTypes Tryz.prog).any (Tryz.prog.mapsRec ·))) = true := by kernel_rfl
theorem jf14 : ((Rows.consoleWordsRow.ifaces == (Tryz.f3.params.toList ++ (OpenSpec.ofChange Rows.consoleWordsSpec).bare.plain.varTypes Tryz.prog).any (Tryz.prog.ifacesRec ·))) = true := by kernel_rfl
theorem jf15 : ((Rows.consoleWordsRow.mapsOut == Tryz.prog.mapsAmong Tryz.f3.resultTypes.toList)) = true := by kernel_rfl
theorem jf16 : ((Rows.consoleWordsRow.loops == (Tryz.f3.params.toList ++ (OpenSpec.ofChange Rows.consoleWordsSpec).bare.plain.varTypes Tryz.prog).any (Tryz.prog.loopsFrom ·))) = true := by kernel_rfl
theorem jf17 : ((Rows.consoleWordsRow.wideKeys == (Tryz.f3.params.toList ++ (OpenSpec.ofChange Rows.consoleWordsSpec).bare.plain.varTypes Tryz.prog ++ Tryz.f3.resultTypes.toList).any (Tryz.prog.wideKeysFrom ·))) = true := by kernel_rfl
theorem jf18 : ((OpenSpec.ofChange Rows.consoleWordsSpec).bare.vars.all (Tryz.prog.varReadable ·)) = true := by kernel_rfl
theorem jf19 : (Tryz.f3.resultTypes.all (fun t => Tryz.prog.readableRec t && decide (t < Tryz.prog.types.size))) = true := by kernel_rfl
theorem jf20 : ((Rows.consoleWordsRow.ifacesOut == Tryz.f3.resultTypes.toList.any (Tryz.prog.ifacesRec ·))) = true := by kernel_rfl
theorem jf21 : ((Rows.consoleWordsRow.loopsOut == Tryz.f3.resultTypes.toList.any (Tryz.prog.loopsFrom ·))) = true := by kernel_rfl
theorem jf23 : (Rows.consoleWordsRow.shortTexts.isNone) = true := by kernel_rfl
theorem jf26 : ((Rows.consoleWordsRow.lifted == Tryz.prog.liftsFinal)) = true := by kernel_rfl
theorem jf27 : ((Tryz.prog.make == some Rows.consoleWordsRow.make)) = true := by kernel_rfl
theorem jf28 : ((Rows.consoleWordsRow.kinds == (if Rows.consoleWordsRow.domain.isEmpty then [] else Tryz.f3.params.toList.map fun t => match Tryz.prog.underlying t with | some (.int k) => some k | _ => none))) = true := by kernel_rfl
theorem jf29 : ((Rows.consoleWordsRow.pinned == Rows.consoleWordsRow.pinnedBy)) = true := by kernel_rfl
theorem jf30 : ((Rows.consoleWordsRow.veiled == (Tryz.f3.params.toList ++ (OpenSpec.ofChange Rows.consoleWordsSpec).bare.plain.varTypes Tryz.prog ++ Tryz.f3.resultTypes.toList).any (Tryz.prog.veiledRec ·))) = true := by kernel_rfl
theorem jf31 : (Rows.consoleWordsRow.veiledFits Tryz.prog Tryz.f3.params.toList (Tryz.f3.params.toList ++ (OpenSpec.ofChange Rows.consoleWordsSpec).bare.plain.varTypes Tryz.prog ++ Tryz.f3.resultTypes.toList)) = true := by kernel_rfl
end Go.Proofs.YtpdhikjfdjjjlaaGreatDoor.consoleWords
