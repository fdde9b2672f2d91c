/-
  The law ConsoleWords holds for every input: it returns true, and its arguments read as before. Condition: the tables that it reads start as the program's text lays them, which the card ties.
-/
import Derived.Test.YtpdhikjfdjjjlaaGreatDoorGx
import Derived.Test.YtpdhikjfdjjjlaaGreatDoorGtf
import Derived.Test.YtpdhikjfdjjjlaaGreatDoorId
import Derived.Test.YtpdhikjfdjjjlaaGreatDoorIe
import Derived.SevenTiedAt
namespace Go.Proofs.YtpdhikjfdjjjlaaGreatDoor.consoleWords
open Go.ChangeShapes Go.WideShapes Go.ChangeAt Go.RowKit
set_option linter.unusedVariables false
set_option maxRecDepth 100000

theorem plain (f : FuncId) (fn : Func) (hf : Tryz.pinned.checked.prog.funcNamed "permitoffice/permitofficelaw44.ConsoleWords" = some f) (hfn : Tryz.pinned.checked.prog.funcs[f]? = some fn) :
    false = Tryz.pinned.checked.prog.looks [] ∧ ∀ (j : Nat) t, fn.params[j]? = some t → Tryz.pinned.checked.prog.wantsStandIn t = false := by
  obtain rfl : f = 3 := Option.some.inj ((show Tryz.prog.funcNamed "permitoffice/permitofficelaw44.ConsoleWords" = some 3 from named3).symm.trans hf) |>.symm
  obtain rfl : fn = Tryz.f3 := (Option.some.inj (Tryz.func3.symm.trans hfn)).symm
  refine ⟨looksF, fun j t ht => ?_⟩
  rw [Tryz.params3] at ht
  have hm : t = 22 ∨ t = 5 := by simpa using Array.mem_of_getElem? ht
  rcases hm with rfl | rfl
  · exact (show Tryz.prog.wantsStandIn 22 = false by kernel_rfl)
  · exact (show Tryz.prog.wantsStandIn 5 = false by kernel_rfl)

theorem card : Rows.ConsoleWordsCardSaid :=
  Claim7.holds_tied_plain_at .later [] _ _ _ _ said (fun _ h => by cases h) byTextF (fun _ h => by cases h) consoleWords_row_tie rfl ⟨rfl, rfl⟩ mainF rfl plain goesF
#print axioms card
end Go.Proofs.YtpdhikjfdjjjlaaGreatDoor.consoleWords
