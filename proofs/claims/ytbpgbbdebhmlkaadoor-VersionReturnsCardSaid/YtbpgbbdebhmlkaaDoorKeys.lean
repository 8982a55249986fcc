/- Contracts of Keywords, Symbols, Has. -/
import Derived.Test.YtbpgbbdebhmlkaaDoorLoops
namespace Go.Proofs.YtbpgbbdebhmlkaaDoor
open Go Go.RowKit

/-- a row of a new block, as a list of strings. -/
theorem cells_new (w : World) (ss : List ByteArray) (t : TypeId) (i : Nat) (h : i < ss.length) :
    (w.alloc (.cells (ss.map Value.string).toArray t)).cell? ⟨w.heap.size, 0 + i, none⟩ = some (.string (ss.getD i ByteArray.empty)) := by
  rw [World.cell?_alloc_at _ _ _ _ rfl]
  simp [h]

end Go.Proofs.YtbpgbbdebhmlkaaDoor
