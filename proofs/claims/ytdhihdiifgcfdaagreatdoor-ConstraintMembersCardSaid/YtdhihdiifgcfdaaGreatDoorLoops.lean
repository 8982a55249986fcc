/- Contracts of the loops over a string: all, words, span. -/
import Derived.Test.YtdhihdiifgcfdaaGreatDoorChars
namespace Go.Proofs.YtdhihdiifgcfdaaGreatDoor
open Go Go.RowKit

end Go.Proofs.YtdhihdiifgcfdaaGreatDoor
