/-
  DERIVED. GIVEN WITH THE SEED: THE CARDS: each row of YtenfkejbndifdaaGreatDoorRows.lean that lists a variable, with what it lists TIED to the program's text (the seventh form; the later family's looks); each row that meets fmt, with fmt's text TOLD by the authors' own Lean function (tested against real Go, not proved from fmt's source: count such statements apart). THE CARD IS WHAT COUNTS. Prove the row's statement (the work); the ties are given (YtenfkejbndifdaaGreatDoorTie.lean); close each card by the builder's one call (the guide's Derived/Test/ToyasCard.lean, 'card_holds'). Laid BY PROGRAM, IN A SANDBOX (cutbox-door.mjs). By AI agents, Wed Nov 11 2026. No macro, syntax, notation, axiom, sorry.
-/
import Derived.Test.YtenfkejbndifdaaGreatDoorRows
import GoSem.ClaimSeven
namespace Go.Proofs.YtenfkejbndifdaaGreatDoor
namespace Rows

/-- THE TIED CARD OF 'modcertlaw34.MvsExplains'. -/
def mvsExplainsCard : Claim7 := { stood := { row := mvsExplainsRow, standIns := [], harness := (true, "2988b5d5346f72fb3dff2183763cbe5794dafa3e98c051c53d1242817597d623"), looks := false }, kinds := [], alts := [], laidByText := true, laidKinds := [.data, .pinned], laidTests := true, laidLooks := .later }
def MvsExplainsCardSaid : Prop := Claim7.holds Tryz.pinned (.plain (OpenSpec.ofChange mvsExplainsSpec)) mvsExplainsCard

/-- THE TIED CARD OF 'modcertlaw34.MvsCauses'. -/
def mvsCausesCard : Claim7 := { stood := { row := mvsCausesRow, standIns := [], harness := (true, "2988b5d5346f72fb3dff2183763cbe5794dafa3e98c051c53d1242817597d623"), looks := false }, kinds := [], alts := [], laidByText := true, laidKinds := [.data, .pinned], laidTests := true, laidLooks := .later }
def MvsCausesCardSaid : Prop := Claim7.holds Tryz.pinned (.plain (OpenSpec.ofChange mvsCausesSpec)) mvsCausesCard

/-- THE TIED CARD OF 'modcertlaw34.MvsSelects'. -/
def mvsSelectsCard : Claim7 := { stood := { row := mvsSelectsRow, standIns := [], harness := (true, "2988b5d5346f72fb3dff2183763cbe5794dafa3e98c051c53d1242817597d623"), looks := false }, kinds := [], alts := [], laidByText := true, laidKinds := [.data, .pinned], laidTests := true, laidLooks := .later }
def MvsSelectsCardSaid : Prop := Claim7.holds Tryz.pinned (.plain (OpenSpec.ofChange mvsSelectsSpec)) mvsSelectsCard

/-- THE TIED CARD OF 'modcertlaw34.MvsMerges'. -/
def mvsMergesCard : Claim7 := { stood := { row := mvsMergesRow, standIns := [], harness := (true, "2988b5d5346f72fb3dff2183763cbe5794dafa3e98c051c53d1242817597d623"), looks := false }, kinds := [], alts := [], laidByText := true, laidKinds := [.data, .pinned], laidTests := true, laidLooks := .later }
def MvsMergesCardSaid : Prop := Claim7.holds Tryz.pinned (.plain (OpenSpec.ofChange mvsMergesSpec)) mvsMergesCard

/-- THE TIED CARD OF 'modcertlaw34.MvsMonotone'. -/
def mvsMonotoneCard : Claim7 := { stood := { row := mvsMonotoneRow, standIns := [], harness := (true, "2988b5d5346f72fb3dff2183763cbe5794dafa3e98c051c53d1242817597d623"), looks := false }, kinds := [], alts := [], laidByText := true, laidKinds := [.data, .pinned], laidTests := true, laidLooks := .later }
def MvsMonotoneCardSaid : Prop := Claim7.holds Tryz.pinned (.plain (OpenSpec.ofChange mvsMonotoneSpec)) mvsMonotoneCard

/-- THE TIED CARD OF 'modcertlaw34.MvsSatisfies'. -/
def mvsSatisfiesCard : Claim7 := { stood := { row := mvsSatisfiesRow, standIns := [], harness := (true, "2988b5d5346f72fb3dff2183763cbe5794dafa3e98c051c53d1242817597d623"), looks := false }, kinds := [], alts := [], laidByText := true, laidKinds := [.data, .pinned], laidTests := true, laidLooks := .later }
def MvsSatisfiesCardSaid : Prop := Claim7.holds Tryz.pinned (.plain (OpenSpec.ofChange mvsSatisfiesSpec)) mvsSatisfiesCard

/-- THE TIED CARD OF 'modcertlaw34.MvsReduces'. -/
def mvsReducesCard : Claim7 := { stood := { row := mvsReducesRow, standIns := [], harness := (true, "2988b5d5346f72fb3dff2183763cbe5794dafa3e98c051c53d1242817597d623"), looks := false }, kinds := [], alts := [], laidByText := true, laidKinds := [.data, .pinned], laidTests := true, laidLooks := .later }
def MvsReducesCardSaid : Prop := Claim7.holds Tryz.pinned (.plain (OpenSpec.ofChange mvsReducesSpec)) mvsReducesCard

/-- THE TIED CARD OF 'modcertlaw34.MvsLeast'. -/
def mvsLeastCard : Claim7 := { stood := { row := mvsLeastRow, standIns := [], harness := (true, "2988b5d5346f72fb3dff2183763cbe5794dafa3e98c051c53d1242817597d623"), looks := false }, kinds := [], alts := [], laidByText := true, laidKinds := [.data, .pinned], laidTests := true, laidLooks := .later }
def MvsLeastCardSaid : Prop := Claim7.holds Tryz.pinned (.plain (OpenSpec.ofChange mvsLeastSpec)) mvsLeastCard

/-- THE SECOND FORM's CARD OF 'modcertlaw34.MvsExplains'. -/
def mvsExplainsUptoCard : Claim7 := { stood := { row := mvsExplainsUptoRow, standIns := [], harness := (true, "2988b5d5346f72fb3dff2183763cbe5794dafa3e98c051c53d1242817597d623"), looks := false }, kinds := [], alts := [], laidByText := true, laidKinds := [.data, .pinned], laidTests := true, laidLooks := .later }
def MvsExplainsUptoCardSaid : Prop := Claim7.holds Tryz.pinned (.plain (OpenSpec.upto mvsExplainsSpec)) mvsExplainsUptoCard

/-- THE SECOND FORM's CARD OF 'modcertlaw34.MvsCauses'. -/
def mvsCausesUptoCard : Claim7 := { stood := { row := mvsCausesUptoRow, standIns := [], harness := (true, "2988b5d5346f72fb3dff2183763cbe5794dafa3e98c051c53d1242817597d623"), looks := false }, kinds := [], alts := [], laidByText := true, laidKinds := [.data, .pinned], laidTests := true, laidLooks := .later }
def MvsCausesUptoCardSaid : Prop := Claim7.holds Tryz.pinned (.plain (OpenSpec.upto mvsCausesSpec)) mvsCausesUptoCard

/-- THE SECOND FORM's CARD OF 'modcertlaw34.MvsSelects'. -/
def mvsSelectsUptoCard : Claim7 := { stood := { row := mvsSelectsUptoRow, standIns := [], harness := (true, "2988b5d5346f72fb3dff2183763cbe5794dafa3e98c051c53d1242817597d623"), looks := false }, kinds := [], alts := [], laidByText := true, laidKinds := [.data, .pinned], laidTests := true, laidLooks := .later }
def MvsSelectsUptoCardSaid : Prop := Claim7.holds Tryz.pinned (.plain (OpenSpec.upto mvsSelectsSpec)) mvsSelectsUptoCard

/-- THE SECOND FORM's CARD OF 'modcertlaw34.MvsMerges'. -/
def mvsMergesUptoCard : Claim7 := { stood := { row := mvsMergesUptoRow, standIns := [], harness := (true, "2988b5d5346f72fb3dff2183763cbe5794dafa3e98c051c53d1242817597d623"), looks := false }, kinds := [], alts := [], laidByText := true, laidKinds := [.data, .pinned], laidTests := true, laidLooks := .later }
def MvsMergesUptoCardSaid : Prop := Claim7.holds Tryz.pinned (.plain (OpenSpec.upto mvsMergesSpec)) mvsMergesUptoCard

/-- THE SECOND FORM's CARD OF 'modcertlaw34.MvsMonotone'. -/
def mvsMonotoneUptoCard : Claim7 := { stood := { row := mvsMonotoneUptoRow, standIns := [], harness := (true, "2988b5d5346f72fb3dff2183763cbe5794dafa3e98c051c53d1242817597d623"), looks := false }, kinds := [], alts := [], laidByText := true, laidKinds := [.data, .pinned], laidTests := true, laidLooks := .later }
def MvsMonotoneUptoCardSaid : Prop := Claim7.holds Tryz.pinned (.plain (OpenSpec.upto mvsMonotoneSpec)) mvsMonotoneUptoCard

/-- THE SECOND FORM's CARD OF 'modcertlaw34.MvsSatisfies'. -/
def mvsSatisfiesUptoCard : Claim7 := { stood := { row := mvsSatisfiesUptoRow, standIns := [], harness := (true, "2988b5d5346f72fb3dff2183763cbe5794dafa3e98c051c53d1242817597d623"), looks := false }, kinds := [], alts := [], laidByText := true, laidKinds := [.data, .pinned], laidTests := true, laidLooks := .later }
def MvsSatisfiesUptoCardSaid : Prop := Claim7.holds Tryz.pinned (.plain (OpenSpec.upto mvsSatisfiesSpec)) mvsSatisfiesUptoCard

/-- THE SECOND FORM's CARD OF 'modcertlaw34.MvsReduces'. -/
def mvsReducesUptoCard : Claim7 := { stood := { row := mvsReducesUptoRow, standIns := [], harness := (true, "2988b5d5346f72fb3dff2183763cbe5794dafa3e98c051c53d1242817597d623"), looks := false }, kinds := [], alts := [], laidByText := true, laidKinds := [.data, .pinned], laidTests := true, laidLooks := .later }
def MvsReducesUptoCardSaid : Prop := Claim7.holds Tryz.pinned (.plain (OpenSpec.upto mvsReducesSpec)) mvsReducesUptoCard

/-- THE SECOND FORM's CARD OF 'modcertlaw34.MvsLeast'. -/
def mvsLeastUptoCard : Claim7 := { stood := { row := mvsLeastUptoRow, standIns := [], harness := (true, "2988b5d5346f72fb3dff2183763cbe5794dafa3e98c051c53d1242817597d623"), looks := false }, kinds := [], alts := [], laidByText := true, laidKinds := [.data, .pinned], laidTests := true, laidLooks := .later }
def MvsLeastUptoCardSaid : Prop := Claim7.holds Tryz.pinned (.plain (OpenSpec.upto mvsLeastSpec)) mvsLeastUptoCard
end Rows
end Go.Proofs.YtenfkejbndifdaaGreatDoor
