/-
  DERIVED. GIVEN WITH THE SEED: THE CARDS: each row of YtpdhikjfdjjjlaaGreatDoorRows.lean that lists a variable, with what it lists TIED to the program's text (the seventh form; the later family's looks); each row that meets fmt, with fmt's text TOLD by the authors' own Lean function (tested against real Go, not proved from fmt's source: count such statements apart). THE CARD IS WHAT COUNTS. Prove the row's statement (the work); the ties are given (YtpdhikjfdjjjlaaGreatDoorTie.lean); close each card by the builder's one call (the guide's Derived/Test/ToyasCard.lean, 'card_holds'). Laid BY PROGRAM, IN A SANDBOX (cutbox-door.mjs). By AI agents, Wed Nov 11 2026. No macro, syntax, notation, axiom, sorry.
-/
import Derived.Test.YtpdhikjfdjjjlaaGreatDoorRows
import GoSem.ClaimSeven
namespace Go.Proofs.YtpdhikjfdjjjlaaGreatDoor
namespace Rows

/-- THE TIED CARD OF 'permitofficelaw44.ConsoleWords'. -/
def consoleWordsCard : Claim7 := { stood := { row := consoleWordsRow, standIns := [], harness := (true, "e272e59c2ab7de7645c89c0ec3ea1691d8f768db82c1c7533676353063f3a91e"), looks := false }, kinds := [], alts := [], laidByText := true, laidKinds := [.data, .data, .pinned, .data, .data, .data, .data], laidTests := true, laidLooks := .later }
def ConsoleWordsCardSaid : Prop := Claim7.holds Tryz.pinned (.plain (OpenSpec.ofChange consoleWordsSpec)) consoleWordsCard

/-- THE SECOND FORM's CARD OF 'permitofficelaw44.ConsoleWords'. -/
def consoleWordsUptoCard : Claim7 := { stood := { row := consoleWordsUptoRow, standIns := [], harness := (true, "e272e59c2ab7de7645c89c0ec3ea1691d8f768db82c1c7533676353063f3a91e"), looks := false }, kinds := [], alts := [], laidByText := true, laidKinds := [.data, .data, .pinned, .data, .data, .data, .data], laidTests := true, laidLooks := .later }
def ConsoleWordsUptoCardSaid : Prop := Claim7.holds Tryz.pinned (.plain (OpenSpec.upto consoleWordsSpec)) consoleWordsUptoCard
end Rows
end Go.Proofs.YtpdhikjfdjjjlaaGreatDoor
