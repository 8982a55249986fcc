/- The statement on steps: its walk. -/
import Derived.Test.YtbpgbbdebhmlkaaGreatDoorVAwake
import Derived.Test.YtbpgbbdebhmlkaaGreatDoorVPlainNum
namespace Go.Proofs.YtbpgbbdebhmlkaaGreatDoor
open Go Go.RowKit

theorem AwS.start (w : World) : AwS w w [] := ⟨Below.refl _ _, fun x hx => by cases hx⟩
end Go.Proofs.YtbpgbbdebhmlkaaGreatDoor
