/- Contracts of the reference 34: upward, Plain, named. -/
import Derived.Test.YtenfkejbndifdaaGreatDoorVO
import Derived.Test.YtenfkejbndifdaaGreatDoorVI
import Derived.Test.YtenfkejbndifdaaGreatDoorVR
namespace Go.Proofs.YtenfkejbndifdaaGreatDoor
set_option linter.unusedVariables false
set_option linter.unusedSimpArgs false
open Go Go.RowKit

def HeldRq (gq gx : Nat) (q : ReqL) (rq : Value) (x : RelL) (W : World) : Prop := (W.cell? ⟨gq, 0, none⟩ = some (.string q.1) ∧ W.cell? ⟨gq, 1, none⟩ = some rq) ∧ W.cell? ⟨gx, 0, none⟩ = some (.string x.path) ∧ W.cell? ⟨gx, 1, none⟩ = some (intC x.ver.1) ∧ W.cell? ⟨gx, 2, none⟩ = some (intC x.ver.2.1) ∧ W.cell? ⟨gx, 3, none⟩ = some (intC x.ver.2.2)
structure NamB (w : World) (v iv : Value) (q : ReqL) (rq : Value) (W : World) : Prop where
  bel : Below w.heap.size w W
  idx : W.heap[w.heap.size]? = some (.cells #[v, iv] 25 (0, 0))
  req : W.heap[w.heap.size + 1]? = some (.cells #[.string q.1, rq] 58 (0, 0))
def HeldNm (g b o : Nat) (v iv : Value) (q : ReqL) (rq : Value) (x : RelL) (rx : Value) (W : World) : Prop := (W.cell? ⟨g, 0, none⟩ = some v ∧ W.cell? ⟨g, 1, none⟩ = some iv) ∧ (W.cell? ⟨g + 1, 0, none⟩ = some (.string q.1) ∧ W.cell? ⟨g + 1, 1, none⟩ = some rq) ∧ CellsAt W b o x rx
end Go.Proofs.YtenfkejbndifdaaGreatDoor
