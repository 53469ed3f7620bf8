/-
  DERIVED. GIVEN WITH THE SEED: THE CARDS: each row of YtmiojmnifnnncaaDoorRows.lean that lists a variable, with what it lists TIED to the program's text (the seventh form; the later family's looks); each row that meets fmt, with fmt's text TOLD by the authors' own Lean function (tested against real Go, not proved from fmt's source: count such statements apart). THE CARD IS WHAT COUNTS. Prove the row's statement (the work); the ties are given (YtmiojmnifnnncaaDoorTie.lean); close each card by the builder's one call (the guide's Derived/Test/ToyasCard.lean, 'card_holds'). Laid BY PROGRAM, IN A SANDBOX (cutbox-door.mjs). By AI agents, Wed Nov 11 2026. No macro, syntax, notation, axiom, sorry.
-/
import Derived.Test.YtmiojmnifnnncaaDoorRows
import GoSem.ClaimSeven
namespace Go.Proofs.YtmiojmnifnnncaaDoor
namespace Rows

/-- THE TIED CARD OF 'damperlaw12.StampLatest'. -/
def stampLatestCard : Claim7 := { stood := { row := stampLatestRow, standIns := [], harness := (true, "673e787dac688fc86a63fcb80fde425d99c92af7bd8b9522900b4793d0599daf"), looks := false }, kinds := [], alts := [], laidByText := true, laidKinds := [.data, .data, .data], laidTests := true, laidLooks := .later }
def StampLatestCardSaid : Prop := Claim7.holds Tryd.pinned (.plain (OpenSpec.ofChange stampLatestSpec)) stampLatestCard

/-- THE TIED CARD OF 'damperlaw12.StampStays'. -/
def stampStaysCard : Claim7 := { stood := { row := stampStaysRow, standIns := [], harness := (true, "673e787dac688fc86a63fcb80fde425d99c92af7bd8b9522900b4793d0599daf"), looks := false }, kinds := [], alts := [], laidByText := true, laidKinds := [.data, .data, .data], laidTests := true, laidLooks := .later }
def StampStaysCardSaid : Prop := Claim7.holds Tryd.pinned (.plain (OpenSpec.ofChange stampStaysSpec)) stampStaysCard

/-- THE TIED CARD OF 'damperlaw12.StampFar'. -/
def stampFarCard : Claim7 := { stood := { row := stampFarRow, standIns := [], harness := (true, "673e787dac688fc86a63fcb80fde425d99c92af7bd8b9522900b4793d0599daf"), looks := false }, kinds := [], alts := [], laidByText := true, laidKinds := [.data, .data, .data], laidTests := true, laidLooks := .later }
def StampFarCardSaid : Prop := Claim7.holds Tryd.pinned (.plain (OpenSpec.ofChange stampFarSpec)) stampFarCard

/-- THE TIED CARD OF 'damperlaw12.StampProves'. -/
def stampProvesCard : Claim7 := { stood := { row := stampProvesRow, standIns := [], harness := (true, "673e787dac688fc86a63fcb80fde425d99c92af7bd8b9522900b4793d0599daf"), looks := false }, kinds := [], alts := [], laidByText := true, laidKinds := [.data, .data, .data], laidTests := true, laidLooks := .later }
def StampProvesCardSaid : Prop := Claim7.holds Tryd.pinned (.plain (OpenSpec.ofChange stampProvesSpec)) stampProvesCard

/-- THE TIED CARD OF 'damperlaw12.StampOrder'. -/
def stampOrderCard : Claim7 := { stood := { row := stampOrderRow, standIns := [], harness := (true, "673e787dac688fc86a63fcb80fde425d99c92af7bd8b9522900b4793d0599daf"), looks := false }, kinds := [], alts := [], laidByText := true, laidKinds := [.data, .data, .data], laidTests := true, laidLooks := .later }
def StampOrderCardSaid : Prop := Claim7.holds Tryd.pinned (.plain (OpenSpec.ofChange stampOrderSpec)) stampOrderCard

/-- THE TIED CARD OF 'damperlaw12.StampPlays'. -/
def stampPlaysCard : Claim7 := { stood := { row := stampPlaysRow, standIns := [], harness := (true, "673e787dac688fc86a63fcb80fde425d99c92af7bd8b9522900b4793d0599daf"), looks := false }, kinds := [], alts := [], laidByText := true, laidKinds := [.data, .data, .data], laidTests := true, laidLooks := .later }
def StampPlaysCardSaid : Prop := Claim7.holds Tryd.pinned (.plain (OpenSpec.ofChange stampPlaysSpec)) stampPlaysCard

/-- THE TIED CARD OF 'damperlaw12.StampFamily'. -/
def stampFamilyCard : Claim7 := { stood := { row := stampFamilyRow, standIns := [], harness := (true, "673e787dac688fc86a63fcb80fde425d99c92af7bd8b9522900b4793d0599daf"), looks := false }, kinds := [], alts := [], laidByText := true, laidKinds := [.data, .data, .data], laidTests := true, laidLooks := .later }
def StampFamilyCardSaid : Prop := Claim7.holds Tryd.pinned (.plain (OpenSpec.ofChange stampFamilySpec)) stampFamilyCard

/-- THE TIED CARD OF 'damperlaw12.StampTwice'. -/
def stampTwiceCard : Claim7 := { stood := { row := stampTwiceRow, standIns := [], harness := (true, "673e787dac688fc86a63fcb80fde425d99c92af7bd8b9522900b4793d0599daf"), looks := false }, kinds := [], alts := [], laidByText := true, laidKinds := [.data, .data, .data], laidTests := true, laidLooks := .later }
def StampTwiceCardSaid : Prop := Claim7.holds Tryd.pinned (.plain (OpenSpec.ofChange stampTwiceSpec)) stampTwiceCard

/-- THE SECOND FORM's CARD OF 'damperlaw12.StampLatest'. -/
def stampLatestUptoCard : Claim7 := { stood := { row := stampLatestUptoRow, standIns := [], harness := (true, "673e787dac688fc86a63fcb80fde425d99c92af7bd8b9522900b4793d0599daf"), looks := false }, kinds := [], alts := [], laidByText := true, laidKinds := [.data, .data, .data], laidTests := true, laidLooks := .later }
def StampLatestUptoCardSaid : Prop := Claim7.holds Tryd.pinned (.plain (OpenSpec.upto stampLatestSpec)) stampLatestUptoCard

/-- THE SECOND FORM's CARD OF 'damperlaw12.StampStays'. -/
def stampStaysUptoCard : Claim7 := { stood := { row := stampStaysUptoRow, standIns := [], harness := (true, "673e787dac688fc86a63fcb80fde425d99c92af7bd8b9522900b4793d0599daf"), looks := false }, kinds := [], alts := [], laidByText := true, laidKinds := [.data, .data, .data], laidTests := true, laidLooks := .later }
def StampStaysUptoCardSaid : Prop := Claim7.holds Tryd.pinned (.plain (OpenSpec.upto stampStaysSpec)) stampStaysUptoCard

/-- THE SECOND FORM's CARD OF 'damperlaw12.StampFar'. -/
def stampFarUptoCard : Claim7 := { stood := { row := stampFarUptoRow, standIns := [], harness := (true, "673e787dac688fc86a63fcb80fde425d99c92af7bd8b9522900b4793d0599daf"), looks := false }, kinds := [], alts := [], laidByText := true, laidKinds := [.data, .data, .data], laidTests := true, laidLooks := .later }
def StampFarUptoCardSaid : Prop := Claim7.holds Tryd.pinned (.plain (OpenSpec.upto stampFarSpec)) stampFarUptoCard

/-- THE SECOND FORM's CARD OF 'damperlaw12.StampProves'. -/
def stampProvesUptoCard : Claim7 := { stood := { row := stampProvesUptoRow, standIns := [], harness := (true, "673e787dac688fc86a63fcb80fde425d99c92af7bd8b9522900b4793d0599daf"), looks := false }, kinds := [], alts := [], laidByText := true, laidKinds := [.data, .data, .data], laidTests := true, laidLooks := .later }
def StampProvesUptoCardSaid : Prop := Claim7.holds Tryd.pinned (.plain (OpenSpec.upto stampProvesSpec)) stampProvesUptoCard

/-- THE SECOND FORM's CARD OF 'damperlaw12.StampOrder'. -/
def stampOrderUptoCard : Claim7 := { stood := { row := stampOrderUptoRow, standIns := [], harness := (true, "673e787dac688fc86a63fcb80fde425d99c92af7bd8b9522900b4793d0599daf"), looks := false }, kinds := [], alts := [], laidByText := true, laidKinds := [.data, .data, .data], laidTests := true, laidLooks := .later }
def StampOrderUptoCardSaid : Prop := Claim7.holds Tryd.pinned (.plain (OpenSpec.upto stampOrderSpec)) stampOrderUptoCard

/-- THE SECOND FORM's CARD OF 'damperlaw12.StampPlays'. -/
def stampPlaysUptoCard : Claim7 := { stood := { row := stampPlaysUptoRow, standIns := [], harness := (true, "673e787dac688fc86a63fcb80fde425d99c92af7bd8b9522900b4793d0599daf"), looks := false }, kinds := [], alts := [], laidByText := true, laidKinds := [.data, .data, .data], laidTests := true, laidLooks := .later }
def StampPlaysUptoCardSaid : Prop := Claim7.holds Tryd.pinned (.plain (OpenSpec.upto stampPlaysSpec)) stampPlaysUptoCard

/-- THE SECOND FORM's CARD OF 'damperlaw12.StampFamily'. -/
def stampFamilyUptoCard : Claim7 := { stood := { row := stampFamilyUptoRow, standIns := [], harness := (true, "673e787dac688fc86a63fcb80fde425d99c92af7bd8b9522900b4793d0599daf"), looks := false }, kinds := [], alts := [], laidByText := true, laidKinds := [.data, .data, .data], laidTests := true, laidLooks := .later }
def StampFamilyUptoCardSaid : Prop := Claim7.holds Tryd.pinned (.plain (OpenSpec.upto stampFamilySpec)) stampFamilyUptoCard

/-- THE SECOND FORM's CARD OF 'damperlaw12.StampTwice'. -/
def stampTwiceUptoCard : Claim7 := { stood := { row := stampTwiceUptoRow, standIns := [], harness := (true, "673e787dac688fc86a63fcb80fde425d99c92af7bd8b9522900b4793d0599daf"), looks := false }, kinds := [], alts := [], laidByText := true, laidKinds := [.data, .data, .data], laidTests := true, laidLooks := .later }
def StampTwiceUptoCardSaid : Prop := Claim7.holds Tryd.pinned (.plain (OpenSpec.upto stampTwiceSpec)) stampTwiceUptoCard
end Rows
end Go.Proofs.YtmiojmnifnnncaaDoor
