/-
  A world for the witness, in which the listed tables lie.
-/
import Derived.Test.YtpdhikjfdjjjlaaGreatDoorRows
import Derived.LaidOnce
import Derived.WalkKit
import Derived.ProofKit
import Derived.OpenShut
import Derived.Deep.DeepHandedRow
namespace Go.Proofs.YtpdhikjfdjjjlaaGreatDoor.consoleWords
open Go.ChangeShapes Go.WideShapes Go.ChangeAt Go.RowKit
set_option linter.unusedVariables false
set_option maxRecDepth 100000

/-- The cells that a datum of ints and bools takes. -/
def flatV : Nat → DataW Unit → List Value
  | n + 1, .agg ps => (ps.map (flatV n)).flatten
  | _ + 1, .lit (.int k m) => [.int k m]
  | _ + 1, .lit (.bool b) => [.bool b]
  | _, _ => []
def layAt (g : Nat) (d : DataW Unit) (h : Array Obj) : Array Obj := h.modify g fun | .cells _ t frozen => .cells (flatV 4 d).toArray t frozen | o => o
/-- A world for the witness: the settled one, each table holding what its initialiser lays. -/
noncomputable def laidWorld (os : Os) : World := { World.holding Tryz.prog os ⟨#[], #[], []⟩ with heap := layAt 0 Rows.laid_permitoffice_lexeme_classes (layAt 1 Rows.laid_permitoffice_mask_positions (layAt 3 Rows.laid_unicode_utf8_first (layAt 4 Rows.laid_unicode_utf8_acceptRanges (layAt 5 Rows.laid_internal_strconv_uint64pow10 (layAt 6 Rows.laid_math_bits_deBruijn32tab (layAt 7 Rows.laid_math_bits_deBruijn64tab (World.holding Tryz.prog os ⟨#[], #[], []⟩).heap)))))) }
noncomputable def witW (os : Os) : World := ((laidWorld os).forCall (fun _ _ => 0) ⟨#[], #[.slice none 0 0, .int .u8 0], []⟩).memory
theorem met_of {P : Program} {w : World} {l : List (String × DataW Unit)} {M : Nat} (fuel : Nat) (h : (DataW.laidRun P w fuel (l.map (·.1))).map (fun x => (x.1, nodupBits M x.2 0 && laidRowsB P w x.2)) = some (l, true)) : laidMet P l w := by
  cases hx : DataW.laidRun P w fuel (l.map (·.1)) with
  | none => simp [hx] at h
  | some x =>
    obtain ⟨l', ps⟩ := x
    simp only [hx, Option.map_some, Option.some.injEq, Prod.mk.injEq, Bool.and_eq_true] at h
    obtain ⟨rfl, h1, h2⟩ := h
    exact laidMet_of_run fuel hx (decide_eq_true (nodupBits_sound h1).1) h2
theorem laid_run (os : Os) : (DataW.laidRun Tryz.prog (witW os) 8 (Rows.consoleWordsRow.laid.map (·.1))).map (fun x => (x.1, nodupBits 300 x.2 0 && laidRowsB Tryz.prog (witW os) x.2)) = some (Rows.consoleWordsRow.laid, true) := by kernel_rfl
theorem laid_met (os : Os) : laidMet Tryz.prog Rows.consoleWordsRow.laid (witW os) := met_of 8 (laid_run os)
theorem reads (os : Os) {H : Type} (enc : TypeId × Value → H) : ∃ places, DataW.whole enc Tryz.prog ((laidWorld os).forCall (fun _ _ => 0) ⟨#[], #[.slice none 0 0, .int .u8 0], []⟩).memory Tryz.f3.params.toList Rows.consoleWordsSpec.vars false (#[.slice none 0 0, .int .u8 0] : Array Value).toList 8 = some ([.nil, .lit (.int .u8 0)], [], places) :=
  ⟨[], by kernel_rfl⟩
end Go.Proofs.YtpdhikjfdjjjlaaGreatDoor.consoleWords
