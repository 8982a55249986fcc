/-
  DERIVED. GIVEN WITH THE SEED: THE CARDS: each row of YtnjiibiafhnmgaaGreatDoorRows.lean that lists a variable, with what it lists TIED to the program's text (the seventh form; the later family's looks); each row that meets fmt, with fmt's text TOLD by the authors' own Lean function (tested against real Go, not proved from fmt's source: count such statements apart). THE CARD IS WHAT COUNTS. Prove the row's statement (the work); the ties are given (YtnjiibiafhnmgaaGreatDoorTie.lean); close each card by the builder's one call (the guide's Derived/Test/ToyasCard.lean, 'card_holds'). Laid BY PROGRAM, IN A SANDBOX (cutbox-door.mjs). By AI agents, Wed Nov 11 2026. No macro, syntax, notation, axiom, sorry.
-/
import Derived.Test.YtnjiibiafhnmgaaGreatDoorRows
import GoSem.ClaimSeven
namespace Go.Proofs.YtnjiibiafhnmgaaGreatDoor
namespace Rows

/-- THE TIED CARD OF 'modcertlaw44.WavesPlans'. -/
def wavesPlansCard : Claim7 := { stood := { row := wavesPlansRow, standIns := [], harness := (true, "34f6234fbfd2974c88590082f17635bec8eca37a8c39fd4b9f04c7f200de9d03"), looks := false }, kinds := [], alts := [], laidByText := true, laidKinds := [.data, .pinned], laidTests := true, laidLooks := .later }
def WavesPlansCardSaid : Prop := Claim7.holds Tryz.pinned (.plain (OpenSpec.ofChange wavesPlansSpec)) wavesPlansCard

/-- THE TIED CARD OF 'modcertlaw44.WavesChecks'. -/
def wavesChecksCard : Claim7 := { stood := { row := wavesChecksRow, standIns := [], harness := (true, "34f6234fbfd2974c88590082f17635bec8eca37a8c39fd4b9f04c7f200de9d03"), looks := false }, kinds := [], alts := [], laidByText := true, laidKinds := [.data, .pinned], laidTests := true, laidLooks := .later }
def WavesChecksCardSaid : Prop := Claim7.holds Tryz.pinned (.plain (OpenSpec.ofChange wavesChecksSpec)) wavesChecksCard

/-- THE TIED CARD OF 'modcertlaw44.WavesClosed'. -/
def wavesClosedCard : Claim7 := { stood := { row := wavesClosedRow, standIns := [], harness := (true, "34f6234fbfd2974c88590082f17635bec8eca37a8c39fd4b9f04c7f200de9d03"), looks := false }, kinds := [], alts := [], laidByText := true, laidKinds := [.data, .pinned], laidTests := true, laidLooks := .later }
def WavesClosedCardSaid : Prop := Claim7.holds Tryz.pinned (.plain (OpenSpec.ofChange wavesClosedSpec)) wavesClosedCard

/-- THE TIED CARD OF 'modcertlaw44.WavesWhole'. -/
def wavesWholeCard : Claim7 := { stood := { row := wavesWholeRow, standIns := [], harness := (true, "34f6234fbfd2974c88590082f17635bec8eca37a8c39fd4b9f04c7f200de9d03"), looks := false }, kinds := [], alts := [], laidByText := true, laidKinds := [.data, .pinned], laidTests := true, laidLooks := .later }
def WavesWholeCardSaid : Prop := Claim7.holds Tryz.pinned (.plain (OpenSpec.ofChange wavesWholeSpec)) wavesWholeCard

/-- THE TIED CARD OF 'modcertlaw44.WavesBack'. -/
def wavesBackCard : Claim7 := { stood := { row := wavesBackRow, standIns := [], harness := (true, "34f6234fbfd2974c88590082f17635bec8eca37a8c39fd4b9f04c7f200de9d03"), looks := false }, kinds := [], alts := [], laidByText := true, laidKinds := [.data, .pinned], laidTests := true, laidLooks := .later }
def WavesBackCardSaid : Prop := Claim7.holds Tryz.pinned (.plain (OpenSpec.ofChange wavesBackSpec)) wavesBackCard

/-- THE TIED CARD OF 'modcertlaw44.WavesRight'. -/
def wavesRightCard : Claim7 := { stood := { row := wavesRightRow, standIns := [], harness := (true, "34f6234fbfd2974c88590082f17635bec8eca37a8c39fd4b9f04c7f200de9d03"), looks := false }, kinds := [], alts := [], laidByText := true, laidKinds := [.data, .pinned], laidTests := true, laidLooks := .later }
def WavesRightCardSaid : Prop := Claim7.holds Tryz.pinned (.plain (OpenSpec.ofChange wavesRightSpec)) wavesRightCard

/-- THE TIED CARD OF 'modcertlaw44.WavesNothing'. -/
def wavesNothingCard : Claim7 := { stood := { row := wavesNothingRow, standIns := [], harness := (true, "34f6234fbfd2974c88590082f17635bec8eca37a8c39fd4b9f04c7f200de9d03"), looks := false }, kinds := [], alts := [], laidByText := true, laidKinds := [.data, .pinned], laidTests := true, laidLooks := .later }
def WavesNothingCardSaid : Prop := Claim7.holds Tryz.pinned (.plain (OpenSpec.ofChange wavesNothingSpec)) wavesNothingCard

/-- THE SECOND FORM's CARD OF 'modcertlaw44.WavesPlans'. -/
def wavesPlansUptoCard : Claim7 := { stood := { row := wavesPlansUptoRow, standIns := [], harness := (true, "34f6234fbfd2974c88590082f17635bec8eca37a8c39fd4b9f04c7f200de9d03"), looks := false }, kinds := [], alts := [], laidByText := true, laidKinds := [.data, .pinned], laidTests := true, laidLooks := .later }
def WavesPlansUptoCardSaid : Prop := Claim7.holds Tryz.pinned (.plain (OpenSpec.upto wavesPlansSpec)) wavesPlansUptoCard

/-- THE SECOND FORM's CARD OF 'modcertlaw44.WavesChecks'. -/
def wavesChecksUptoCard : Claim7 := { stood := { row := wavesChecksUptoRow, standIns := [], harness := (true, "34f6234fbfd2974c88590082f17635bec8eca37a8c39fd4b9f04c7f200de9d03"), looks := false }, kinds := [], alts := [], laidByText := true, laidKinds := [.data, .pinned], laidTests := true, laidLooks := .later }
def WavesChecksUptoCardSaid : Prop := Claim7.holds Tryz.pinned (.plain (OpenSpec.upto wavesChecksSpec)) wavesChecksUptoCard

/-- THE SECOND FORM's CARD OF 'modcertlaw44.WavesClosed'. -/
def wavesClosedUptoCard : Claim7 := { stood := { row := wavesClosedUptoRow, standIns := [], harness := (true, "34f6234fbfd2974c88590082f17635bec8eca37a8c39fd4b9f04c7f200de9d03"), looks := false }, kinds := [], alts := [], laidByText := true, laidKinds := [.data, .pinned], laidTests := true, laidLooks := .later }
def WavesClosedUptoCardSaid : Prop := Claim7.holds Tryz.pinned (.plain (OpenSpec.upto wavesClosedSpec)) wavesClosedUptoCard

/-- THE SECOND FORM's CARD OF 'modcertlaw44.WavesWhole'. -/
def wavesWholeUptoCard : Claim7 := { stood := { row := wavesWholeUptoRow, standIns := [], harness := (true, "34f6234fbfd2974c88590082f17635bec8eca37a8c39fd4b9f04c7f200de9d03"), looks := false }, kinds := [], alts := [], laidByText := true, laidKinds := [.data, .pinned], laidTests := true, laidLooks := .later }
def WavesWholeUptoCardSaid : Prop := Claim7.holds Tryz.pinned (.plain (OpenSpec.upto wavesWholeSpec)) wavesWholeUptoCard

/-- THE SECOND FORM's CARD OF 'modcertlaw44.WavesBack'. -/
def wavesBackUptoCard : Claim7 := { stood := { row := wavesBackUptoRow, standIns := [], harness := (true, "34f6234fbfd2974c88590082f17635bec8eca37a8c39fd4b9f04c7f200de9d03"), looks := false }, kinds := [], alts := [], laidByText := true, laidKinds := [.data, .pinned], laidTests := true, laidLooks := .later }
def WavesBackUptoCardSaid : Prop := Claim7.holds Tryz.pinned (.plain (OpenSpec.upto wavesBackSpec)) wavesBackUptoCard

/-- THE SECOND FORM's CARD OF 'modcertlaw44.WavesRight'. -/
def wavesRightUptoCard : Claim7 := { stood := { row := wavesRightUptoRow, standIns := [], harness := (true, "34f6234fbfd2974c88590082f17635bec8eca37a8c39fd4b9f04c7f200de9d03"), looks := false }, kinds := [], alts := [], laidByText := true, laidKinds := [.data, .pinned], laidTests := true, laidLooks := .later }
def WavesRightUptoCardSaid : Prop := Claim7.holds Tryz.pinned (.plain (OpenSpec.upto wavesRightSpec)) wavesRightUptoCard

/-- THE SECOND FORM's CARD OF 'modcertlaw44.WavesNothing'. -/
def wavesNothingUptoCard : Claim7 := { stood := { row := wavesNothingUptoRow, standIns := [], harness := (true, "34f6234fbfd2974c88590082f17635bec8eca37a8c39fd4b9f04c7f200de9d03"), looks := false }, kinds := [], alts := [], laidByText := true, laidKinds := [.data, .pinned], laidTests := true, laidLooks := .later }
def WavesNothingUptoCardSaid : Prop := Claim7.holds Tryz.pinned (.plain (OpenSpec.upto wavesNothingSpec)) wavesNothingUptoCard
end Rows
end Go.Proofs.YtnjiibiafhnmgaaGreatDoor
