/-
  DERIVED. GIVEN WITH THE SEED: THE CARDS: each row of YtapbhoodgnmnkaaGreatDoorRows.lean that lists a variable, with what it lists TIED to the program's text (the seventh form; the later family's looks); each row that meets fmt, with fmt's text TOLD by the authors' own Lean function (tested against real Go, not proved from fmt's source: count such statements apart). THE CARD IS WHAT COUNTS. Prove the row's statement (the work); the ties are given (YtapbhoodgnmnkaaGreatDoorTie.lean); close each card by the builder's one call (the guide's Derived/Test/ToyasCard.lean, 'card_holds'). Laid BY PROGRAM, IN A SANDBOX (cutbox-door.mjs). By AI agents, Wed Nov 11 2026. No macro, syntax, notation, axiom, sorry.
-/
import Derived.Test.YtapbhoodgnmnkaaGreatDoorRows
import GoSem.ClaimSeven
namespace Go.Proofs.YtapbhoodgnmnkaaGreatDoor
namespace Rows

/-- THE TIED CARD OF 'modcertlaw44.WavesPlans'. -/
def wavesPlansCard : Claim7 := { stood := { row := wavesPlansRow, standIns := [], harness := (true, "d4af378d70dba3e54292a354b0ba6dcfd5d563808b196fd967ebc780f31b0fb9"), looks := false }, kinds := [], alts := [], laidByText := true, laidKinds := [.data, .pinned], laidTests := true, laidLooks := .later }
def WavesPlansCardSaid : Prop := Claim7.holds Tryz.pinned (.plain (OpenSpec.ofChange wavesPlansSpec)) wavesPlansCard

/-- THE TIED CARD OF 'modcertlaw44.WavesChecks'. -/
def wavesChecksCard : Claim7 := { stood := { row := wavesChecksRow, standIns := [], harness := (true, "d4af378d70dba3e54292a354b0ba6dcfd5d563808b196fd967ebc780f31b0fb9"), looks := false }, kinds := [], alts := [], laidByText := true, laidKinds := [.data, .pinned], laidTests := true, laidLooks := .later }
def WavesChecksCardSaid : Prop := Claim7.holds Tryz.pinned (.plain (OpenSpec.ofChange wavesChecksSpec)) wavesChecksCard

/-- THE SECOND FORM's CARD OF 'modcertlaw44.WavesPlans'. -/
def wavesPlansUptoCard : Claim7 := { stood := { row := wavesPlansUptoRow, standIns := [], harness := (true, "d4af378d70dba3e54292a354b0ba6dcfd5d563808b196fd967ebc780f31b0fb9"), looks := false }, kinds := [], alts := [], laidByText := true, laidKinds := [.data, .pinned], laidTests := true, laidLooks := .later }
def WavesPlansUptoCardSaid : Prop := Claim7.holds Tryz.pinned (.plain (OpenSpec.upto wavesPlansSpec)) wavesPlansUptoCard

/-- THE SECOND FORM's CARD OF 'modcertlaw44.WavesChecks'. -/
def wavesChecksUptoCard : Claim7 := { stood := { row := wavesChecksUptoRow, standIns := [], harness := (true, "d4af378d70dba3e54292a354b0ba6dcfd5d563808b196fd967ebc780f31b0fb9"), looks := false }, kinds := [], alts := [], laidByText := true, laidKinds := [.data, .pinned], laidTests := true, laidLooks := .later }
def WavesChecksUptoCardSaid : Prop := Claim7.holds Tryz.pinned (.plain (OpenSpec.upto wavesChecksSpec)) wavesChecksUptoCard
end Rows
end Go.Proofs.YtapbhoodgnmnkaaGreatDoor
