/- Contracts of the reference's Segments, segment, Major and IsPath. Contracts of the reference's Line and Path. Contract of the reference's Compare. Contracts of the reference's checks of releases: major, digest, compare. -/
import Derived.Test.YtenfkejbndifdaaGreatDoorUC
import Derived.Test.YtenfkejbndifdaaGreatDoorUB
import Derived.Test.YtenfkejbndifdaaGreatDoorVO
import Derived.Test.YtenfkejbndifdaaGreatDoorUP
import Derived.Test.YtenfkejbndifdaaGreatDoorUI
import Derived.Test.YtenfkejbndifdaaGreatDoorVF
import Derived.Test.YtenfkejbndifdaaGreatDoorVG
namespace Go.Proofs.YtenfkejbndifdaaGreatDoor
open Go Go.RowKit

def strVs (l : List (List UInt8)) : List Value := l.map fun x => .string ⟨x.toArray⟩
end Go.Proofs.YtenfkejbndifdaaGreatDoor

namespace Go.Proofs.YtenfkejbndifdaaGreatDoor
open Go Go.RowKit

end Go.Proofs.YtenfkejbndifdaaGreatDoor

namespace Go.Proofs.YtenfkejbndifdaaGreatDoor
open Go Go.RowKit

end Go.Proofs.YtenfkejbndifdaaGreatDoor

namespace Go.Proofs.YtenfkejbndifdaaGreatDoor
set_option linter.unusedVariables false
set_option linter.unusedSimpArgs false
open Go Go.RowKit

def majV (s : ByteArray) : Int := if (lineV s).2.2 ≠ 0 then -1 else (lineV s).2.1
end Go.Proofs.YtenfkejbndifdaaGreatDoor
