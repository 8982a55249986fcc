/-
  DERIVED. GIVEN WITH THE SEED: THE CARDS: each row of YtdhihdiifgcfdaaGreatDoorRows.lean that lists a variable, with what it lists TIED to the program's text (the seventh form; the later family's looks); each row that meets fmt, with fmt's text TOLD by the authors' own Lean function (tested against real Go, not proved from fmt's source: count such statements apart). THE CARD IS WHAT COUNTS. Prove the row's statement (the work); the ties are given (YtdhihdiifgcfdaaGreatDoorTie.lean); close each card by the builder's one call (the guide's Derived/Test/ToyasCard.lean, 'card_holds'). Laid BY PROGRAM, IN A SANDBOX (cutbox-door.mjs). By AI agents, Wed Nov 11 2026. No macro, syntax, notation, axiom, sorry.
-/
import Derived.Test.YtdhihdiifgcfdaaGreatDoorRows
import GoSem.ClaimSeven
namespace Go.Proofs.YtdhihdiifgcfdaaGreatDoor
namespace Rows

/-- THE TIED CARD OF 'modcertlaw31.ConstraintPlaces'. -/
def constraintPlacesCard : Claim7 := { stood := { row := constraintPlacesRow, standIns := [], harness := (true, "53965f4823b8259b422d2bccc27e4affb8f574459b6871a6539922ad287cd7cb"), looks := true }, kinds := [], alts := [], laidByText := true, laidKinds := [.data, .data, .data, .data, .sentinel, .sentinel, .pinned], laidTests := true, laidLooks := .later }
def ConstraintPlacesCardSaid : Prop := Claim7.holds Tryz.pinned (.plain (OpenSpec.ofChange constraintPlacesSpec)) constraintPlacesCard

/-- THE TIED CARD OF 'modcertlaw31.ConstraintTexts'. -/
def constraintTextsCard : Claim7 := { stood := { row := constraintTextsRow, standIns := [], harness := (true, "53965f4823b8259b422d2bccc27e4affb8f574459b6871a6539922ad287cd7cb"), looks := true }, kinds := [], alts := [], laidByText := true, laidKinds := [.data, .data, .data, .data, .sentinel, .sentinel, .pinned], laidTests := true, laidLooks := .later }
def ConstraintTextsCardSaid : Prop := Claim7.holds Tryz.pinned (.plain (OpenSpec.ofChange constraintTextsSpec)) constraintTextsCard

/-- THE TIED CARD OF 'modcertlaw31.ConstraintEnds'. -/
def constraintEndsCard : Claim7 := { stood := { row := constraintEndsRow, standIns := [], harness := (true, "53965f4823b8259b422d2bccc27e4affb8f574459b6871a6539922ad287cd7cb"), looks := true }, kinds := [], alts := [], laidByText := true, laidKinds := [.data, .data, .data, .data, .sentinel, .sentinel, .pinned], laidTests := true, laidLooks := .later }
def ConstraintEndsCardSaid : Prop := Claim7.holds Tryz.pinned (.plain (OpenSpec.ofChange constraintEndsSpec)) constraintEndsCard

/-- THE TIED CARD OF 'modcertlaw31.ConstraintOrder'. -/
def constraintOrderCard : Claim7 := { stood := { row := constraintOrderRow, standIns := [], harness := (true, "53965f4823b8259b422d2bccc27e4affb8f574459b6871a6539922ad287cd7cb"), looks := true }, kinds := [], alts := [], laidByText := true, laidKinds := [.data, .data, .data, .data, .sentinel, .sentinel, .pinned], laidTests := true, laidLooks := .later }
def ConstraintOrderCardSaid : Prop := Claim7.holds Tryz.pinned (.plain (OpenSpec.ofChange constraintOrderSpec)) constraintOrderCard

/-- THE TIED CARD OF 'modcertlaw31.ConstraintReturns'. -/
def constraintReturnsCard : Claim7 := { stood := { row := constraintReturnsRow, standIns := [], harness := (true, "53965f4823b8259b422d2bccc27e4affb8f574459b6871a6539922ad287cd7cb"), looks := true }, kinds := [], alts := [], laidByText := true, laidKinds := [.data, .data, .data, .data, .sentinel, .sentinel, .pinned], laidTests := true, laidLooks := .later }
def ConstraintReturnsCardSaid : Prop := Claim7.holds Tryz.pinned (.plain (OpenSpec.ofChange constraintReturnsSpec)) constraintReturnsCard

/-- THE TIED CARD OF 'modcertlaw31.ConstraintUnique'. -/
def constraintUniqueCard : Claim7 := { stood := { row := constraintUniqueRow, standIns := [], harness := (true, "53965f4823b8259b422d2bccc27e4affb8f574459b6871a6539922ad287cd7cb"), looks := true }, kinds := [], alts := [], laidByText := true, laidKinds := [.data, .data, .data, .data, .sentinel, .sentinel, .pinned], laidTests := true, laidLooks := .later }
def ConstraintUniqueCardSaid : Prop := Claim7.holds Tryz.pinned (.plain (OpenSpec.ofChange constraintUniqueSpec)) constraintUniqueCard

/-- THE TIED CARD OF 'modcertlaw31.ConstraintMembers'. -/
def constraintMembersCard : Claim7 := { stood := { row := constraintMembersRow, standIns := [], harness := (true, "53965f4823b8259b422d2bccc27e4affb8f574459b6871a6539922ad287cd7cb"), looks := true }, kinds := [], alts := [], laidByText := true, laidKinds := [.data, .data, .data, .data, .sentinel, .sentinel, .pinned], laidTests := true, laidLooks := .later }
def ConstraintMembersCardSaid : Prop := Claim7.holds Tryz.pinned (.plain (OpenSpec.ofChange constraintMembersSpec)) constraintMembersCard

/-- THE TIED CARD OF 'modcertlaw31.ConstraintSets'. -/
def constraintSetsCard : Claim7 := { stood := { row := constraintSetsRow, standIns := [], harness := (true, "53965f4823b8259b422d2bccc27e4affb8f574459b6871a6539922ad287cd7cb"), looks := true }, kinds := [], alts := [], laidByText := true, laidKinds := [.data, .data, .data, .data, .sentinel, .sentinel, .pinned], laidTests := true, laidLooks := .later }
def ConstraintSetsCardSaid : Prop := Claim7.holds Tryz.pinned (.plain (OpenSpec.ofChange constraintSetsSpec)) constraintSetsCard

/-- THE SECOND FORM's CARD OF 'modcertlaw31.ConstraintPlaces'. -/
def constraintPlacesUptoCard : Claim7 := { stood := { row := constraintPlacesUptoRow, standIns := [], harness := (true, "53965f4823b8259b422d2bccc27e4affb8f574459b6871a6539922ad287cd7cb"), looks := true }, kinds := [], alts := [], laidByText := true, laidKinds := [.data, .data, .data, .data, .sentinel, .sentinel, .pinned], laidTests := true, laidLooks := .later }
def ConstraintPlacesUptoCardSaid : Prop := Claim7.holds Tryz.pinned (.plain (OpenSpec.upto constraintPlacesSpec)) constraintPlacesUptoCard

/-- THE SECOND FORM's CARD OF 'modcertlaw31.ConstraintTexts'. -/
def constraintTextsUptoCard : Claim7 := { stood := { row := constraintTextsUptoRow, standIns := [], harness := (true, "53965f4823b8259b422d2bccc27e4affb8f574459b6871a6539922ad287cd7cb"), looks := true }, kinds := [], alts := [], laidByText := true, laidKinds := [.data, .data, .data, .data, .sentinel, .sentinel, .pinned], laidTests := true, laidLooks := .later }
def ConstraintTextsUptoCardSaid : Prop := Claim7.holds Tryz.pinned (.plain (OpenSpec.upto constraintTextsSpec)) constraintTextsUptoCard

/-- THE SECOND FORM's CARD OF 'modcertlaw31.ConstraintEnds'. -/
def constraintEndsUptoCard : Claim7 := { stood := { row := constraintEndsUptoRow, standIns := [], harness := (true, "53965f4823b8259b422d2bccc27e4affb8f574459b6871a6539922ad287cd7cb"), looks := true }, kinds := [], alts := [], laidByText := true, laidKinds := [.data, .data, .data, .data, .sentinel, .sentinel, .pinned], laidTests := true, laidLooks := .later }
def ConstraintEndsUptoCardSaid : Prop := Claim7.holds Tryz.pinned (.plain (OpenSpec.upto constraintEndsSpec)) constraintEndsUptoCard

/-- THE SECOND FORM's CARD OF 'modcertlaw31.ConstraintOrder'. -/
def constraintOrderUptoCard : Claim7 := { stood := { row := constraintOrderUptoRow, standIns := [], harness := (true, "53965f4823b8259b422d2bccc27e4affb8f574459b6871a6539922ad287cd7cb"), looks := true }, kinds := [], alts := [], laidByText := true, laidKinds := [.data, .data, .data, .data, .sentinel, .sentinel, .pinned], laidTests := true, laidLooks := .later }
def ConstraintOrderUptoCardSaid : Prop := Claim7.holds Tryz.pinned (.plain (OpenSpec.upto constraintOrderSpec)) constraintOrderUptoCard

/-- THE SECOND FORM's CARD OF 'modcertlaw31.ConstraintReturns'. -/
def constraintReturnsUptoCard : Claim7 := { stood := { row := constraintReturnsUptoRow, standIns := [], harness := (true, "53965f4823b8259b422d2bccc27e4affb8f574459b6871a6539922ad287cd7cb"), looks := true }, kinds := [], alts := [], laidByText := true, laidKinds := [.data, .data, .data, .data, .sentinel, .sentinel, .pinned], laidTests := true, laidLooks := .later }
def ConstraintReturnsUptoCardSaid : Prop := Claim7.holds Tryz.pinned (.plain (OpenSpec.upto constraintReturnsSpec)) constraintReturnsUptoCard

/-- THE SECOND FORM's CARD OF 'modcertlaw31.ConstraintUnique'. -/
def constraintUniqueUptoCard : Claim7 := { stood := { row := constraintUniqueUptoRow, standIns := [], harness := (true, "53965f4823b8259b422d2bccc27e4affb8f574459b6871a6539922ad287cd7cb"), looks := true }, kinds := [], alts := [], laidByText := true, laidKinds := [.data, .data, .data, .data, .sentinel, .sentinel, .pinned], laidTests := true, laidLooks := .later }
def ConstraintUniqueUptoCardSaid : Prop := Claim7.holds Tryz.pinned (.plain (OpenSpec.upto constraintUniqueSpec)) constraintUniqueUptoCard

/-- THE SECOND FORM's CARD OF 'modcertlaw31.ConstraintMembers'. -/
def constraintMembersUptoCard : Claim7 := { stood := { row := constraintMembersUptoRow, standIns := [], harness := (true, "53965f4823b8259b422d2bccc27e4affb8f574459b6871a6539922ad287cd7cb"), looks := true }, kinds := [], alts := [], laidByText := true, laidKinds := [.data, .data, .data, .data, .sentinel, .sentinel, .pinned], laidTests := true, laidLooks := .later }
def ConstraintMembersUptoCardSaid : Prop := Claim7.holds Tryz.pinned (.plain (OpenSpec.upto constraintMembersSpec)) constraintMembersUptoCard

/-- THE SECOND FORM's CARD OF 'modcertlaw31.ConstraintSets'. -/
def constraintSetsUptoCard : Claim7 := { stood := { row := constraintSetsUptoRow, standIns := [], harness := (true, "53965f4823b8259b422d2bccc27e4affb8f574459b6871a6539922ad287cd7cb"), looks := true }, kinds := [], alts := [], laidByText := true, laidKinds := [.data, .data, .data, .data, .sentinel, .sentinel, .pinned], laidTests := true, laidLooks := .later }
def ConstraintSetsUptoCardSaid : Prop := Claim7.holds Tryz.pinned (.plain (OpenSpec.upto constraintSetsSpec)) constraintSetsUptoCard
end Rows
end Go.Proofs.YtdhihdiifgcfdaaGreatDoor
