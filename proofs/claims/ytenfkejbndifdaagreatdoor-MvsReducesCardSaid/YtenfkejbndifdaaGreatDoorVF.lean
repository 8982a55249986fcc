/- Contract of the reference's Canonical. -/
import Derived.Test.YtenfkejbndifdaaGreatDoorUF
import Derived.Test.YtenfkejbndifdaaGreatDoorVE
import Derived.Test.YtenfkejbndifdaaGreatDoorUD
import Derived.Test.YtenfkejbndifdaaGreatDoorUG
import Derived.Deep.RegionLawGrows
import Derived.Lib.SmallJoins
import Derived.Laws.OwnMore
namespace Go.Proofs.YtenfkejbndifdaaGreatDoor
set_option linter.unusedVariables false
set_option linter.unusedSimpArgs false
open Go Go.RowKit Go.Sort

end Go.Proofs.YtenfkejbndifdaaGreatDoor
