/- What the chapter's laws share. -/
import Derived.Test.YtdhihdiifgcfdaaGreatDoorCAwake
import Derived.Test.YtdhihdiifgcfdaaGreatDoorCRef2
import Derived.Test.YtdhihdiifgcfdaaGreatDoorCPlace
namespace Go.Proofs.YtdhihdiifgcfdaaGreatDoor
set_option linter.unusedVariables false
set_option linter.unusedSimpArgs false
open Go Go.RowKit

/-- a version in memory. -/
def VBox (B : Nat) (a b c : Int) (w : World) : Prop := w.heap[B]? = some (.cells #[.int .i64 a, .int .i64 b, .int .i64 c] 23 (0, 0))
theorem VBox.lt {B : Nat} {a b c : Int} {w : World} (h : VBox B a b c w) : B < w.heap.size := (Array.getElem?_eq_some_iff.1 h).1
theorem VBox.below {B : Nat} {a b c : Int} {w w' : World} (h : VBox B a b c w) (hb : Below w.heap.size w w') : VBox B a b c w' := (hb.block _ h.lt).trans h
theorem VBox.new (w : World) (a b c : Int) : VBox w.heap.size a b c (w.alloc (.cells #[.int .i64 a, .int .i64 b, .int .i64 c] 23)) := heap_alloc_new _ _
theorem VBox.alloc {B : Nat} {a b c : Int} {w : World} (h : VBox B a b c w) (o : Obj) : VBox B a b c (w.alloc o) := h.below (bel1 w o)
theorem VBox.cells {B : Nat} {a b c : Int} {w : World} (h : VBox B a b c w) : w.cell? ⟨B, 0, none⟩ = some (.int .i64 a) ∧ w.cell? ⟨B, 1, none⟩ = some (.int .i64 b) ∧ w.cell? ⟨B, 2, none⟩ = some (.int .i64 c) :=
  ⟨by rw [Lib.cell_of_heap h]; rfl, by rw [Lib.cell_of_heap h]; rfl, by rw [Lib.cell_of_heap h]; rfl⟩
theorem VBox.free {B : Nat} {a b c : Int} {w : World} (h : VBox B a b c w) (j : Nat) : w.frozen? ⟨B, j, none⟩ = false := Lib.frozen_of_heap h j
theorem Same_yes (a : List (Int × Int)) (v u : Value) (w : World) (ha : a.length ≤ 1000000) (hE : EdgesOf w.heap.size v a w) (hF : EdgesOf w.heap.size u a w) :
    Calls Tryz.prog 20 #[v, u] w fun e w' => e = .returned (.bool true) ∧ Below w.heap.size w w' := by
  have := Same_any v u a a w (by omega) (by omega) hE hF
  rw [decide_eq_true rfl] at this
  exact this
/-- a law's end: true, and no old cell has turned. -/
def LawEnd (w : World) (e : Ending) (w' : World) : Prop := e = .returned (.bool true) ∧ Below w.heap.size w w'
end Go.Proofs.YtdhihdiifgcfdaaGreatDoor
