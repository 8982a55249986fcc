/-
  DERIVED. GIVEN WITH THE SEED: THE CARDS: each row of YtbpgbbdebhmlkaaDoorRows.lean that lists a variable, with what it lists TIED to the program's text (the seventh form; the later family's looks); each row that meets fmt, with fmt's text TOLD by the authors' own Lean function (tested against real Go, not proved from fmt's source: count such statements apart). THE CARD IS WHAT COUNTS. Prove the row's statement (the work); the ties are given (YtbpgbbdebhmlkaaDoorTie.lean); close each card by the builder's one call (the guide's Derived/Test/ToyasCard.lean, 'card_holds'). Laid BY PROGRAM, IN A SANDBOX (cutbox-door.mjs). By AI agents, Wed Nov 11 2026. No macro, syntax, notation, axiom, sorry.
-/
import Derived.Test.YtbpgbbdebhmlkaaDoorRows
import GoSem.ClaimSeven
namespace Go.Proofs.YtbpgbbdebhmlkaaDoor
namespace Rows

/-- THE TIED CARD OF 'modcertlaw24.VersionTexts'. -/
def versionTextsCard : Claim7 := { stood := { row := versionTextsRow, standIns := [], harness := (true, "8930c2a5681e26ebb0f6ed2a38c6abf479d5a48d099f51365234ae2ac6ce60c1"), looks := true }, kinds := [], alts := [], laidByText := true, laidKinds := [.data, .data, .data, .data, .sentinel, .sentinel, .pinned], laidTests := true, laidLooks := .later }
def VersionTextsCardSaid : Prop := Claim7.holds Tryd.pinned (.plain (OpenSpec.ofChange versionTextsSpec)) versionTextsCard

/-- THE TIED CARD OF 'modcertlaw24.VersionReturns'. -/
def versionReturnsCard : Claim7 := { stood := { row := versionReturnsRow, standIns := [], harness := (true, "8930c2a5681e26ebb0f6ed2a38c6abf479d5a48d099f51365234ae2ac6ce60c1"), looks := true }, kinds := [], alts := [], laidByText := true, laidKinds := [.data, .data, .data, .data, .sentinel, .sentinel, .pinned], laidTests := true, laidLooks := .later }
def VersionReturnsCardSaid : Prop := Claim7.holds Tryd.pinned (.plain (OpenSpec.ofChange versionReturnsSpec)) versionReturnsCard

/-- THE TIED CARD OF 'modcertlaw24.VersionOrder'. -/
def versionOrderCard : Claim7 := { stood := { row := versionOrderRow, standIns := [], harness := (true, "8930c2a5681e26ebb0f6ed2a38c6abf479d5a48d099f51365234ae2ac6ce60c1"), looks := true }, kinds := [], alts := [], laidByText := true, laidKinds := [.data, .data, .data, .data, .sentinel, .sentinel, .pinned], laidTests := true, laidLooks := .later }
def VersionOrderCardSaid : Prop := Claim7.holds Tryd.pinned (.plain (OpenSpec.ofChange versionOrderSpec)) versionOrderCard

/-- THE TIED CARD OF 'modcertlaw24.VersionLeast'. -/
def versionLeastCard : Claim7 := { stood := { row := versionLeastRow, standIns := [], harness := (true, "8930c2a5681e26ebb0f6ed2a38c6abf479d5a48d099f51365234ae2ac6ce60c1"), looks := true }, kinds := [], alts := [], laidByText := true, laidKinds := [.data, .data, .data, .data, .sentinel, .sentinel, .pinned], laidTests := true, laidLooks := .later }
def VersionLeastCardSaid : Prop := Claim7.holds Tryd.pinned (.plain (OpenSpec.ofChange versionLeastSpec)) versionLeastCard

/-- THE TIED CARD OF 'modcertlaw24.VersionSteps'. -/
def versionStepsCard : Claim7 := { stood := { row := versionStepsRow, standIns := [], harness := (true, "8930c2a5681e26ebb0f6ed2a38c6abf479d5a48d099f51365234ae2ac6ce60c1"), looks := true }, kinds := [], alts := [], laidByText := true, laidKinds := [.data, .data, .data, .data, .sentinel, .sentinel, .pinned], laidTests := true, laidLooks := .later }
def VersionStepsCardSaid : Prop := Claim7.holds Tryd.pinned (.plain (OpenSpec.ofChange versionStepsSpec)) versionStepsCard

/-- THE SECOND FORM's CARD OF 'modcertlaw24.VersionTexts'. -/
def versionTextsUptoCard : Claim7 := { stood := { row := versionTextsUptoRow, standIns := [], harness := (true, "8930c2a5681e26ebb0f6ed2a38c6abf479d5a48d099f51365234ae2ac6ce60c1"), looks := true }, kinds := [], alts := [], laidByText := true, laidKinds := [.data, .data, .data, .data, .sentinel, .sentinel, .pinned], laidTests := true, laidLooks := .later }
def VersionTextsUptoCardSaid : Prop := Claim7.holds Tryd.pinned (.plain (OpenSpec.upto versionTextsSpec)) versionTextsUptoCard

/-- THE SECOND FORM's CARD OF 'modcertlaw24.VersionReturns'. -/
def versionReturnsUptoCard : Claim7 := { stood := { row := versionReturnsUptoRow, standIns := [], harness := (true, "8930c2a5681e26ebb0f6ed2a38c6abf479d5a48d099f51365234ae2ac6ce60c1"), looks := true }, kinds := [], alts := [], laidByText := true, laidKinds := [.data, .data, .data, .data, .sentinel, .sentinel, .pinned], laidTests := true, laidLooks := .later }
def VersionReturnsUptoCardSaid : Prop := Claim7.holds Tryd.pinned (.plain (OpenSpec.upto versionReturnsSpec)) versionReturnsUptoCard

/-- THE SECOND FORM's CARD OF 'modcertlaw24.VersionOrder'. -/
def versionOrderUptoCard : Claim7 := { stood := { row := versionOrderUptoRow, standIns := [], harness := (true, "8930c2a5681e26ebb0f6ed2a38c6abf479d5a48d099f51365234ae2ac6ce60c1"), looks := true }, kinds := [], alts := [], laidByText := true, laidKinds := [.data, .data, .data, .data, .sentinel, .sentinel, .pinned], laidTests := true, laidLooks := .later }
def VersionOrderUptoCardSaid : Prop := Claim7.holds Tryd.pinned (.plain (OpenSpec.upto versionOrderSpec)) versionOrderUptoCard

/-- THE SECOND FORM's CARD OF 'modcertlaw24.VersionLeast'. -/
def versionLeastUptoCard : Claim7 := { stood := { row := versionLeastUptoRow, standIns := [], harness := (true, "8930c2a5681e26ebb0f6ed2a38c6abf479d5a48d099f51365234ae2ac6ce60c1"), looks := true }, kinds := [], alts := [], laidByText := true, laidKinds := [.data, .data, .data, .data, .sentinel, .sentinel, .pinned], laidTests := true, laidLooks := .later }
def VersionLeastUptoCardSaid : Prop := Claim7.holds Tryd.pinned (.plain (OpenSpec.upto versionLeastSpec)) versionLeastUptoCard

/-- THE SECOND FORM's CARD OF 'modcertlaw24.VersionSteps'. -/
def versionStepsUptoCard : Claim7 := { stood := { row := versionStepsUptoRow, standIns := [], harness := (true, "8930c2a5681e26ebb0f6ed2a38c6abf479d5a48d099f51365234ae2ac6ce60c1"), looks := true }, kinds := [], alts := [], laidByText := true, laidKinds := [.data, .data, .data, .data, .sentinel, .sentinel, .pinned], laidTests := true, laidLooks := .later }
def VersionStepsUptoCardSaid : Prop := Claim7.holds Tryd.pinned (.plain (OpenSpec.upto versionStepsSpec)) versionStepsUptoCard
end Rows
end Go.Proofs.YtbpgbbdebhmlkaaDoor
