/-
  DERIVED. GIVEN WITH THE SEED: THE CARDS: each row of YtehkhkdpcgkckaaGreatDoorRows.lean that lists a variable, with what it lists TIED to the program's text (the seventh form; the later family's looks); each row that meets fmt, with fmt's text TOLD by the authors' own Lean function (tested against real Go, not proved from fmt's source: count such statements apart). THE CARD IS WHAT COUNTS. Prove the row's statement (the work); the ties are given (YtehkhkdpcgkckaaGreatDoorTie.lean); close each card by the builder's one call (the guide's Derived/Test/ToyasCard.lean, 'card_holds'). Laid BY PROGRAM, IN A SANDBOX (cutbox-door.mjs). By AI agents, Wed Nov 11 2026. No macro, syntax, notation, axiom, sorry.
-/
import Derived.Test.YtehkhkdpcgkckaaGreatDoorRows
import GoSem.ClaimSeven
namespace Go.Proofs.YtehkhkdpcgkckaaGreatDoor
namespace Rows

/-- THE TIED CARD OF 'redoubtlaw27.NodeNil'. -/
def nodeNilCard : Claim7 := { stood := { row := nodeNilRow, standIns := [], harness := (true, "1bad31b04f6c27224c5e04fbfdb5b58c579dc4252c057583a06957708f389cf8"), looks := true }, kinds := [], alts := [], laidByText := true, laidKinds := [.handle, .data, .data, .data, .data, .data], laidTests := true, laidLooks := .later }
def NodeNilCardSaid : Prop := Claim7.holds Tryz.pinned (.plain (OpenSpec.ofChange nodeNilSpec)) nodeNilCard

/-- THE SECOND FORM's CARD OF 'redoubtlaw27.NodeNil'. -/
def nodeNilUptoCard : Claim7 := { stood := { row := nodeNilUptoRow, standIns := [], harness := (true, "1bad31b04f6c27224c5e04fbfdb5b58c579dc4252c057583a06957708f389cf8"), looks := true }, kinds := [], alts := [], laidByText := true, laidKinds := [.handle, .data, .data, .data, .data, .data], laidTests := true, laidLooks := .later }
def NodeNilUptoCardSaid : Prop := Claim7.holds Tryz.pinned (.plain (OpenSpec.upto nodeNilSpec)) nodeNilUptoCard
end Rows
end Go.Proofs.YtehkhkdpcgkckaaGreatDoor
