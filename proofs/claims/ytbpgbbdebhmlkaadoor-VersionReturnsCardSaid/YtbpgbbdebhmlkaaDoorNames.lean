/- Contracts of the reference's IsName, IsType. -/
import Derived.Test.YtbpgbbdebhmlkaaDoorKeys
namespace Go.Proofs.YtbpgbbdebhmlkaaDoor
open Go Go.RowKit

end Go.Proofs.YtbpgbbdebhmlkaaDoor
