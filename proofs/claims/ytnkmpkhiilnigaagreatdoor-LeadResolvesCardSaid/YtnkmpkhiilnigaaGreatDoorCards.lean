/-
  DERIVED. GIVEN WITH THE SEED: THE CARDS: each row of YtnkmpkhiilnigaaGreatDoorRows.lean that lists a variable, with what it lists TIED to the program's text (the seventh form; the later family's looks); each row that meets fmt, with fmt's text TOLD by the authors' own Lean function (tested against real Go, not proved from fmt's source: count such statements apart). THE CARD IS WHAT COUNTS. Prove the row's statement (the work); the ties are given (YtnkmpkhiilnigaaGreatDoorTie.lean); close each card by the builder's one call (the guide's Derived/Test/ToyasCard.lean, 'card_holds'). Laid BY PROGRAM, IN A SANDBOX (cutbox-door.mjs). By AI agents, Wed Nov 11 2026. No macro, syntax, notation, axiom, sorry.
-/
import Derived.Test.YtnkmpkhiilnigaaGreatDoorRows
import GoSem.ClaimSeven
namespace Go.Proofs.YtnkmpkhiilnigaaGreatDoor
namespace Rows

/-- THE TIED CARD OF 'damperlaw13.LeadResolves'. -/
def leadResolvesCard : Claim7 := { stood := { row := leadResolvesRow, standIns := [], harness := (true, "72dafed844f21c7b862685c3d647cd496d8c9b87f937f541cb5269b630e349d2"), looks := false }, kinds := [], alts := [], laidByText := true, laidKinds := [.data, .data, .data], laidTests := true, laidLooks := .later }
def LeadResolvesCardSaid : Prop := Claim7.holds Tryz.pinned (.plain (OpenSpec.ofChange leadResolvesSpec)) leadResolvesCard

/-- THE SECOND FORM's CARD OF 'damperlaw13.LeadResolves'. -/
def leadResolvesUptoCard : Claim7 := { stood := { row := leadResolvesUptoRow, standIns := [], harness := (true, "72dafed844f21c7b862685c3d647cd496d8c9b87f937f541cb5269b630e349d2"), looks := false }, kinds := [], alts := [], laidByText := true, laidKinds := [.data, .data, .data], laidTests := true, laidLooks := .later }
def LeadResolvesUptoCardSaid : Prop := Claim7.holds Tryz.pinned (.plain (OpenSpec.upto leadResolvesSpec)) leadResolvesUptoCard
end Rows
end Go.Proofs.YtnkmpkhiilnigaaGreatDoor
