/-
  DERIVED. GIVEN WITH THE SEED: THE CARDS: each row of YtbpgbbdebhmlkaaGreatDoorRows.lean that lists a variable, with what it lists TIED to the program's text (the seventh form; the later family's looks); each row that meets fmt, with fmt's text TOLD by the authors' own Lean function (tested against real Go, not proved from fmt's source: count such statements apart). THE CARD IS WHAT COUNTS. Prove the row's statement (the work); the ties are given (YtbpgbbdebhmlkaaGreatDoorTie.lean); close each card by the builder's one call (the guide's Derived/Test/ToyasCard.lean, 'card_holds'). Laid BY PROGRAM, IN A SANDBOX (cutbox-door.mjs). By AI agents, Wed Nov 11 2026. No macro, syntax, notation, axiom, sorry.
-/
import Derived.Test.YtbpgbbdebhmlkaaGreatDoorRows
import GoSem.ClaimSeven
namespace Go.Proofs.YtbpgbbdebhmlkaaGreatDoor
namespace Rows

/-- THE TIED CARD OF 'modcertlaw24.VersionNumbers'. -/
def versionNumbersCard : Claim7 := { stood := { row := versionNumbersRow, standIns := [], harness := (true, "74dcdef79e79c5ac9f4a86bdc82fd20783820f7e86c768883092ec4ca5d5246a"), looks := true }, kinds := [], alts := [], laidByText := true, laidKinds := [.data, .data, .data, .data, .sentinel, .sentinel, .pinned], laidTests := true, laidLooks := .later }
def VersionNumbersCardSaid : Prop := Claim7.holds Tryz.pinned (.plain (OpenSpec.ofChange versionNumbersSpec)) versionNumbersCard

/-- THE TIED CARD OF 'modcertlaw24.VersionLines'. -/
def versionLinesCard : Claim7 := { stood := { row := versionLinesRow, standIns := [], harness := (true, "74dcdef79e79c5ac9f4a86bdc82fd20783820f7e86c768883092ec4ca5d5246a"), looks := true }, kinds := [], alts := [], laidByText := true, laidKinds := [.data, .data, .data, .data, .sentinel, .sentinel, .pinned], laidTests := true, laidLooks := .later }
def VersionLinesCardSaid : Prop := Claim7.holds Tryz.pinned (.plain (OpenSpec.ofChange versionLinesSpec)) versionLinesCard

/-- THE SECOND FORM's CARD OF 'modcertlaw24.VersionNumbers'. -/
def versionNumbersUptoCard : Claim7 := { stood := { row := versionNumbersUptoRow, standIns := [], harness := (true, "74dcdef79e79c5ac9f4a86bdc82fd20783820f7e86c768883092ec4ca5d5246a"), looks := true }, kinds := [], alts := [], laidByText := true, laidKinds := [.data, .data, .data, .data, .sentinel, .sentinel, .pinned], laidTests := true, laidLooks := .later }
def VersionNumbersUptoCardSaid : Prop := Claim7.holds Tryz.pinned (.plain (OpenSpec.upto versionNumbersSpec)) versionNumbersUptoCard

/-- THE SECOND FORM's CARD OF 'modcertlaw24.VersionLines'. -/
def versionLinesUptoCard : Claim7 := { stood := { row := versionLinesUptoRow, standIns := [], harness := (true, "74dcdef79e79c5ac9f4a86bdc82fd20783820f7e86c768883092ec4ca5d5246a"), looks := true }, kinds := [], alts := [], laidByText := true, laidKinds := [.data, .data, .data, .data, .sentinel, .sentinel, .pinned], laidTests := true, laidLooks := .later }
def VersionLinesUptoCardSaid : Prop := Claim7.holds Tryz.pinned (.plain (OpenSpec.upto versionLinesSpec)) versionLinesUptoCard
end Rows
end Go.Proofs.YtbpgbbdebhmlkaaGreatDoor
