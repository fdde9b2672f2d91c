/-
  No function begins a goroutine.
-/
import Derived.Test.YtpdhikjfdjjjlaaGreatDoorRows
import Derived.JoinedCond
import GoSem.ClaimGoes
namespace Go.Proofs.YtpdhikjfdjjjlaaGreatDoor.consoleWords
open Go
set_option maxRecDepth 100000
theorem noGo0 : ((Tryz.prog.funcs.toList.drop 0).take 92).all (fun fn => !fn.goes) = true := by kernel_rfl
theorem noGo1 : ((Tryz.prog.funcs.toList.drop 92).take 92).all (fun fn => !fn.goes) = true := by kernel_rfl
theorem noGo2 : ((Tryz.prog.funcs.toList.drop 184).take 92).all (fun fn => !fn.goes) = true := by kernel_rfl
theorem noGo3 : ((Tryz.prog.funcs.toList.drop 276).take 92).all (fun fn => !fn.goes) = true := by kernel_rfl
theorem noGo4 : ((Tryz.prog.funcs.toList.drop 368).take 92).all (fun fn => !fn.goes) = true := by kernel_rfl
theorem noGo5 : ((Tryz.prog.funcs.toList.drop 460).take 92).all (fun fn => !fn.goes) = true := by kernel_rfl
theorem noGo6 : ((Tryz.prog.funcs.toList.drop 552).take 92).all (fun fn => !fn.goes) = true := by kernel_rfl
theorem noGo7 : ((Tryz.prog.funcs.toList.drop 644).take 92).all (fun fn => !fn.goes) = true := by kernel_rfl
theorem all_chunk {p : Func → Bool} {l : List Func} {a n : Nat} (h1 : ((l.drop a).take n).all p = true) (h2 : (l.drop (a + n)).all p = true) : (l.drop a).all p = true := by
  rw [← List.take_append_drop n (l.drop a), List.all_append, List.drop_drop, h1, h2]; rfl
theorem all_end {p : Func → Bool} {l : List Func} {a : Nat} (h : (l.drop a).length = 0) : (l.drop a).all p = true := by
  rw [List.length_eq_zero_iff.1 h]; rfl
theorem noGo : (Tryz.prog.funcs.toList.drop 0).all (fun fn => !fn.goes) = true := all_chunk noGo0 (all_chunk noGo1 (all_chunk noGo2 (all_chunk noGo3 (all_chunk noGo4 (all_chunk noGo5 (all_chunk noGo6 (all_chunk noGo7 (all_end (p := fun fn : Func => !fn.goes) (l := Tryz.prog.funcs.toList) (a := 736) (by kernel_rfl)))))))))
theorem go_of (fn : Func) (h : fn ∈ Tryz.prog.funcs) : fn.goes = false := by
  have := List.all_eq_true.1 noGo fn (by rw [List.drop_zero]; exact Array.mem_toList_iff.2 h)
  rw [Bool.not_eq_true'] at this
  exact this
theorem goes3 : Tryz.prog.goes 3 = false := by
  have e1 : ((Tryz.prog.closure 3).any fun g => (Tryz.prog.funcs[g]?).any Func.goes) = false := by
    rw [List.any_eq_false]
    intro g _
    cases h : Tryz.prog.funcs[g]? with
    | none => rw [Option.any_none]; exact Bool.false_ne_true
    | some fn => rw [Option.any_some, go_of fn (Array.mem_of_getElem? h)]; exact Bool.false_ne_true
  have e2 : Tryz.prog.funcs.any Func.goes = false := by
    rw [Array.any_eq_false]
    intro i hi
    rw [go_of _ (Array.getElem_mem hi)]
    exact Bool.false_ne_true
  unfold Program.goes
  rw [e1, e2, Bool.and_false]; rfl
theorem named3 : Tryz.prog.funcNamed Rows.consoleWordsRow.func = some 3 := by kernel_rfl
theorem goesF : false = Rows.consoleWordsRow.goesBy Tryz.pinned.checked.prog := by
  show false = Tryz.prog.goesAt Rows.consoleWordsRow.start Rows.consoleWordsRow.func
  unfold Program.goesAt Program.goesFrom
  rw [named3, Option.any_some, goes3]
  rfl
end Go.Proofs.YtpdhikjfdjjjlaaGreatDoor.consoleWords
