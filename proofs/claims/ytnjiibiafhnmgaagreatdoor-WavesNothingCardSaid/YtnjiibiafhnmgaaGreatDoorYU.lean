/- Contract of the reference's Canonical. -/
import Derived.Test.YtnjiibiafhnmgaaGreatDoorYG
import Derived.Test.YtnjiibiafhnmgaaGreatDoorYT
import Derived.Test.YtnjiibiafhnmgaaGreatDoorYE
import Derived.Test.YtnjiibiafhnmgaaGreatDoorYH
import Derived.Deep.RegionLawGrows
import Derived.Lib.SmallJoins
import Derived.Laws.OwnMore
namespace Go.Proofs.YtnjiibiafhnmgaaGreatDoor
set_option linter.unusedVariables false
set_option linter.unusedSimpArgs false
open Go Go.RowKit Go.Sort

end Go.Proofs.YtnjiibiafhnmgaaGreatDoor
