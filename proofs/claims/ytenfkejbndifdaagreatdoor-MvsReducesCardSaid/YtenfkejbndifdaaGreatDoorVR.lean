/- Contract of the reference's Check of an index. Contracts of the reference's Least, Greatest, AtLeast and Upward. -/
import Derived.Test.YtenfkejbndifdaaGreatDoorVQ
import Derived.Test.YtenfkejbndifdaaGreatDoorUJ
import Derived.Test.YtenfkejbndifdaaGreatDoorUG
import Derived.Test.YtenfkejbndifdaaGreatDoorVF
namespace Go.Proofs.YtenfkejbndifdaaGreatDoor
set_option linter.unusedVariables false
set_option linter.unusedSimpArgs false
open Go Go.RowKit

end Go.Proofs.YtenfkejbndifdaaGreatDoor

namespace Go.Proofs.YtenfkejbndifdaaGreatDoor
set_option linter.unusedVariables false
set_option linter.unusedSimpArgs false
open Go Go.RowKit

end Go.Proofs.YtenfkejbndifdaaGreatDoor
