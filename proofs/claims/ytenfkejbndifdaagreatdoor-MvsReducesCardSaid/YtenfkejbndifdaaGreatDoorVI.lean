/- The law MvsSatisfies returns true. Minimal version selection, plain: what MvsCauses asks. A set that reads in a world reads in a later one. -/
import Derived.Test.YtenfkejbndifdaaGreatDoorVH
import Derived.Test.YtenfkejbndifdaaGreatDoorUK
import Derived.Test.YtenfkejbndifdaaGreatDoorUL
import Derived.Test.YtenfkejbndifdaaGreatDoorUD
namespace Go.Proofs.YtenfkejbndifdaaGreatDoor
set_option linter.unusedVariables false
set_option linter.unusedSimpArgs false
open Go Go.RowKit

structure LawB (w : World) (v iv : Value) (W : World) : Prop where
  bel : Below w.heap.size w W
  idx : W.heap[w.heap.size]? = some (.cells #[v, iv] 25 (0, 0))
theorem LawB.lt {w : World} {v iv : Value} {W : World} (h : LawB w v iv W) : w.heap.size < W.heap.size := (Array.getElem?_eq_some_iff.1 h.idx).1
theorem LawB.below {w : World} {v iv : Value} {W W' : World} (h : LawB w v iv W) (hb : Below W.heap.size W W') : LawB w v iv W' := ⟨h.bel.trans (hb.mono h.bel.size), (hb.block _ h.lt).trans h.idx⟩
theorem LawB.start (w : World) (v iv : Value) : LawB w v iv (w.alloc (.cells #[v, iv] 25)) := ⟨belQ _ _, World.alloc_heap_new w _⟩
theorem LawB.c0 {w : World} {v iv : Value} {W : World} (h : LawB w v iv W) : W.cell? ⟨w.heap.size, 0, none⟩ = some v := cell_of_row _ _ 0 _ _ _ h.idx
theorem LawB.c1 {w : World} {v iv : Value} {W : World} (h : LawB w v iv W) : W.cell? ⟨w.heap.size, 1, none⟩ = some iv := cell_of_row _ _ 1 _ _ _ h.idx
theorem FewR.bd {X : List RelL} {m : Nat} (h : FewR X m) : ∀ x ∈ X, RelBd x := fun x hx => by
  obtain ⟨h1, _, _, _, h5⟩ := h.all x hx
  exact ⟨by omega, by have := h5.len; omega, fun q hq => by have := h5.all q hq; omega⟩
theorem FewQ.bd {l : List ReqL} (h : FewQ l) : ReqsBd l := fun q hq => by have := h.all q hq; omega
theorem selM_zero {nw : Bool} {X : List RelL} {roots : List ReqL} (h : (selM nw X roots).2 = 0) : PlainP X roots ∧ AllM nw X roots := by
  by_cases hp : PlainP X roots
  · by_cases ha : AllM nw X roots
    · exact ⟨hp, ha⟩
    · rw [selM_not hp ha] at h; cases h
  · rw [selM_arg hp] at h; cases h
theorem selM_mem {nw : Bool} {X : List RelL} {roots : List ReqL} {y : SelL} (h : y ∈ (selM nw X roots).1) : PlainP X roots ∧ ∃ i, i ∈ topM nw X roots ∧ keyL (X.getD i default) = y := by
  by_cases hp : PlainP X roots
  · by_cases ha : AllM nw X roots
    · rw [selM_ok hp ha] at h
      exact ⟨hp, selL_mem.1 h⟩
    · rw [selM_not hp ha] at h; cases h
  · rw [selM_arg hp] at h; cases h
theorem selM_bd {nw : Bool} {X : List RelL} {roots : List ReqL} (hq : ∀ x ∈ X, RelBd x) {y : SelL} (h : y ∈ (selM nw X roots).1) : SelBd y := by
  obtain ⟨hp, i, hi, rfl⟩ := selM_mem h
  have hil := (topM_mem.1 hi).1.lt.1
  have hv := (validB_iff _ _ _).1 ((idx_ok hp.idx).rel i hil).val
  have hx : X.getD i default ∈ X := by rw [List.getD_eq_getElem?_getD, List.getElem?_eq_getElem hil]; exact List.getElem_mem hil
  have hps := (hq _ hx).path
  refine ⟨?_, ?_, ?_, ?_⟩
  · show (X.getD i default).path.size ≤ maxLen
    unfold maxLen
    omega
  all_goals (unfold IntOk; simp only [keyL]; omega)
def GeOk (a b : SelL) : Prop := ¬ b.2.2.1 < a.2.2.1 ∧ ¬ (b.2.2.1 = a.2.2.1 ∧ b.2.2.2 < a.2.2.2)
end Go.Proofs.YtenfkejbndifdaaGreatDoor

namespace Go.Proofs.YtenfkejbndifdaaGreatDoor
set_option linter.unusedVariables false
set_option linter.unusedSimpArgs false
open Go

def path0 (p : ByteArray) : ByteArray := p ++ ⟨#[48]⟩
end Go.Proofs.YtenfkejbndifdaaGreatDoor

namespace Go.Proofs.YtenfkejbndifdaaGreatDoor
set_option linter.unusedVariables false
set_option linter.unusedSimpArgs false
open Go Go.RowKit
theorem SpansOf.on {w w' : World} {v : Value} {es : List (Int × Int)} (h : SpansOf w.heap.size v es w) (hb : Below w.heap.size w w') : SpansOf w'.heap.size v es w' := (h.below hb (Nat.le_refl _)).mono hb.size
end Go.Proofs.YtenfkejbndifdaaGreatDoor
