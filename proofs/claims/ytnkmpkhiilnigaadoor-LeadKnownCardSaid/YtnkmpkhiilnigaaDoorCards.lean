/-
  DERIVED. GIVEN WITH THE SEED: THE CARDS: each row of YtnkmpkhiilnigaaDoorRows.lean that lists a variable, with what it lists TIED to the program's text (the seventh form; the later family's looks); each row that meets fmt, with fmt's text TOLD by the authors' own Lean function (tested against real Go, not proved from fmt's source: count such statements apart). THE CARD IS WHAT COUNTS. Prove the row's statement (the work); the ties are given (YtnkmpkhiilnigaaDoorTie.lean); close each card by the builder's one call (the guide's Derived/Test/ToyasCard.lean, 'card_holds'). Laid BY PROGRAM, IN A SANDBOX (cutbox-door.mjs). By AI agents, Wed Nov 11 2026. No macro, syntax, notation, axiom, sorry.
-/
import Derived.Test.YtnkmpkhiilnigaaDoorRows
import GoSem.ClaimSeven
namespace Go.Proofs.YtnkmpkhiilnigaaDoor
namespace Rows

/-- THE TIED CARD OF 'damperlaw13.LeadAdds'. -/
def leadAddsCard : Claim7 := { stood := { row := leadAddsRow, standIns := [], harness := (true, "9c713349ba7bb07706b07f34168e9d72eb532a6c2f9eaccc65a0c44af4895e78"), looks := false }, kinds := [], alts := [], laidByText := true, laidKinds := [.data, .data, .data], laidTests := true, laidLooks := .later }
def LeadAddsCardSaid : Prop := Claim7.holds Tryd.pinned (.plain (OpenSpec.ofChange leadAddsSpec)) leadAddsCard

/-- THE TIED CARD OF 'damperlaw13.LeadKnown'. -/
def leadKnownCard : Claim7 := { stood := { row := leadKnownRow, standIns := [], harness := (true, "9c713349ba7bb07706b07f34168e9d72eb532a6c2f9eaccc65a0c44af4895e78"), looks := false }, kinds := [], alts := [], laidByText := true, laidKinds := [.data, .data, .data], laidTests := true, laidLooks := .later }
def LeadKnownCardSaid : Prop := Claim7.holds Tryd.pinned (.plain (OpenSpec.ofChange leadKnownSpec)) leadKnownCard

/-- THE SECOND FORM's CARD OF 'damperlaw13.LeadAdds'. -/
def leadAddsUptoCard : Claim7 := { stood := { row := leadAddsUptoRow, standIns := [], harness := (true, "9c713349ba7bb07706b07f34168e9d72eb532a6c2f9eaccc65a0c44af4895e78"), looks := false }, kinds := [], alts := [], laidByText := true, laidKinds := [.data, .data, .data], laidTests := true, laidLooks := .later }
def LeadAddsUptoCardSaid : Prop := Claim7.holds Tryd.pinned (.plain (OpenSpec.upto leadAddsSpec)) leadAddsUptoCard

/-- THE SECOND FORM's CARD OF 'damperlaw13.LeadKnown'. -/
def leadKnownUptoCard : Claim7 := { stood := { row := leadKnownUptoRow, standIns := [], harness := (true, "9c713349ba7bb07706b07f34168e9d72eb532a6c2f9eaccc65a0c44af4895e78"), looks := false }, kinds := [], alts := [], laidByText := true, laidKinds := [.data, .data, .data], laidTests := true, laidLooks := .later }
def LeadKnownUptoCardSaid : Prop := Claim7.holds Tryd.pinned (.plain (OpenSpec.upto leadKnownSpec)) leadKnownUptoCard
end Rows
end Go.Proofs.YtnkmpkhiilnigaaDoor
