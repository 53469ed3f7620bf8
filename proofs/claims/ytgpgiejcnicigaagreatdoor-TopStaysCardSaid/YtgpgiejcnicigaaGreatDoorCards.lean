/-
  DERIVED. GIVEN WITH THE SEED: THE CARDS: each row of YtgpgiejcnicigaaGreatDoorRows.lean that lists a variable, with what it lists TIED to the program's text (the seventh form; the later family's looks); each row that meets fmt, with fmt's text TOLD by the authors' own Lean function (tested against real Go, not proved from fmt's source: count such statements apart). THE CARD IS WHAT COUNTS. Prove the row's statement (the work); the ties are given (YtgpgiejcnicigaaGreatDoorTie.lean); close each card by the builder's one call (the guide's Derived/Test/ToyasCard.lean, 'card_holds'). Laid BY PROGRAM, IN A SANDBOX (cutbox-door.mjs). By AI agents, Wed Nov 11 2026. No macro, syntax, notation, axiom, sorry.
-/
import Derived.Test.YtgpgiejcnicigaaGreatDoorRows
import GoSem.ClaimSeven
namespace Go.Proofs.YtgpgiejcnicigaaGreatDoor
namespace Rows

/-- THE TIED CARD OF 'dampertop.TopStays'. -/
def topStaysCard : Claim7 := { stood := { row := topStaysRow, standIns := [], harness := (true, "11fb76739bdc454fc9e84452172d190eb540f78287f01647a0093b0630cfad6f"), looks := true }, kinds := [], alts := [], laidByText := true, laidKinds := [.data, .data, .data, .sentinel, .sentinel], laidTests := true, laidLooks := .later }
def TopStaysCardSaid : Prop := Claim7.holds Tryz.pinned (.plain (OpenSpec.ofChange topStaysSpec)) topStaysCard

/-- THE SECOND FORM's CARD OF 'dampertop.TopStays'. -/
def topStaysUptoCard : Claim7 := { stood := { row := topStaysUptoRow, standIns := [], harness := (true, "11fb76739bdc454fc9e84452172d190eb540f78287f01647a0093b0630cfad6f"), looks := true }, kinds := [], alts := [], laidByText := true, laidKinds := [.data, .data, .data, .sentinel, .sentinel], laidTests := true, laidLooks := .later }
def TopStaysUptoCardSaid : Prop := Claim7.holds Tryz.pinned (.plain (OpenSpec.upto topStaysSpec)) topStaysUptoCard
end Rows
end Go.Proofs.YtgpgiejcnicigaaGreatDoor
