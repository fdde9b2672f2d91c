/-
  DERIVED. GIVEN WITH THE SEED: THE CARDS: each row of YtjdgofpcmcobnaaGreatDoorRows.lean that lists a variable, with what it lists TIED to the program's text (the seventh form; the later family's looks); each row that meets fmt, with fmt's text TOLD by the authors' own Lean function (tested against real Go, not proved from fmt's source: count such statements apart). THE CARD IS WHAT COUNTS. Prove the row's statement (the work); the ties are given (YtjdgofpcmcobnaaGreatDoorTie.lean); close each card by the builder's one call (the guide's Derived/Test/ToyasCard.lean, 'card_holds'). Laid BY PROGRAM, IN A SANDBOX (cutbox-door.mjs). By AI agents, Wed Nov 11 2026. No macro, syntax, notation, axiom, sorry.
-/
import Derived.Test.YtjdgofpcmcobnaaGreatDoorRows
import GoSem.ClaimSeven
namespace Go.Proofs.YtjdgofpcmcobnaaGreatDoor
namespace Rows

/-- THE TIED CARD OF 'permitofficetop.TopIsolated'. -/
def topIsolatedCard : Claim7 := { stood := { row := topIsolatedRow, standIns := [], harness := (true, "571b7f138cf91ac4a32c657cc990902328697c3e5efc17aababb94586bb944d7"), looks := true }, kinds := [], alts := [], laidByText := true, laidKinds := [.data, .data], laidTests := true, laidLooks := .later }
def TopIsolatedCardSaid : Prop := Claim7.holds Tryz.pinned (.plain (OpenSpec.ofChange topIsolatedSpec)) topIsolatedCard

/-- THE TIED CARD OF 'permitofficetop.TopStuck'. -/
def topStuckCard : Claim7 := { stood := { row := topStuckRow, standIns := [], harness := (true, "571b7f138cf91ac4a32c657cc990902328697c3e5efc17aababb94586bb944d7"), looks := true }, kinds := [], alts := [], laidByText := true, laidKinds := [.data, .data], laidTests := true, laidLooks := .later }
def TopStuckCardSaid : Prop := Claim7.holds Tryz.pinned (.plain (OpenSpec.ofChange topStuckSpec)) topStuckCard

/-- THE TIED CARD OF 'permitofficetop.TopBack'. -/
def topBackCard : Claim7 := { stood := { row := topBackRow, standIns := [], harness := (true, "571b7f138cf91ac4a32c657cc990902328697c3e5efc17aababb94586bb944d7"), looks := true }, kinds := [], alts := [], laidByText := true, laidKinds := [.data, .data], laidTests := true, laidLooks := .later }
def TopBackCardSaid : Prop := Claim7.holds Tryz.pinned (.plain (OpenSpec.ofChange topBackSpec)) topBackCard

/-- THE SECOND FORM's CARD OF 'permitofficetop.TopIsolated'. -/
def topIsolatedUptoCard : Claim7 := { stood := { row := topIsolatedUptoRow, standIns := [], harness := (true, "571b7f138cf91ac4a32c657cc990902328697c3e5efc17aababb94586bb944d7"), looks := true }, kinds := [], alts := [], laidByText := true, laidKinds := [.data, .data], laidTests := true, laidLooks := .later }
def TopIsolatedUptoCardSaid : Prop := Claim7.holds Tryz.pinned (.plain (OpenSpec.upto topIsolatedSpec)) topIsolatedUptoCard

/-- THE SECOND FORM's CARD OF 'permitofficetop.TopStuck'. -/
def topStuckUptoCard : Claim7 := { stood := { row := topStuckUptoRow, standIns := [], harness := (true, "571b7f138cf91ac4a32c657cc990902328697c3e5efc17aababb94586bb944d7"), looks := true }, kinds := [], alts := [], laidByText := true, laidKinds := [.data, .data], laidTests := true, laidLooks := .later }
def TopStuckUptoCardSaid : Prop := Claim7.holds Tryz.pinned (.plain (OpenSpec.upto topStuckSpec)) topStuckUptoCard

/-- THE SECOND FORM's CARD OF 'permitofficetop.TopBack'. -/
def topBackUptoCard : Claim7 := { stood := { row := topBackUptoRow, standIns := [], harness := (true, "571b7f138cf91ac4a32c657cc990902328697c3e5efc17aababb94586bb944d7"), looks := true }, kinds := [], alts := [], laidByText := true, laidKinds := [.data, .data], laidTests := true, laidLooks := .later }
def TopBackUptoCardSaid : Prop := Claim7.holds Tryz.pinned (.plain (OpenSpec.upto topBackSpec)) topBackUptoCard
end Rows
end Go.Proofs.YtjdgofpcmcobnaaGreatDoor
