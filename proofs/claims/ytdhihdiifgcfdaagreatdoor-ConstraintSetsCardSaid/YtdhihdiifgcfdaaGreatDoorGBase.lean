/- Rows in memory that read as lists; the graph's successors; the iterator over a row. -/
import Derived.Test.YtdhihdiifgcfdaaGreatDoorProg
import Derived.Test.YtdhihdiifgcfdaaGreatDoorGRound
import Derived.RangeFuncNested
import Derived.RangeFuncBound
import Derived.RangeFuncCalls
import Derived.RangeFuncLeaves
import Derived.Shelf.Abstract
import Derived.Shelf.RegionOpen
import Derived.OwnWalkIn
import Derived.TacticsInMore
import Derived.LoopNIn
import Derived.LoopIn
import Derived.WalkKit
import Derived.WalkSpells
import Derived.WalkLawsBesides
import Derived.BigQuiet
import Derived.Deep.QuietTactic
import Derived.Deep.AppendLies
import Derived.Deep.RegionHeld3
import Derived.Maps.AppendAt
import Derived.Lib.Hide
import Derived.Laws.EntriesVeiled
namespace Go.Proofs.YtdhihdiifgcfdaaGreatDoor
set_option linter.unusedVariables false
set_option linter.unusedSimpArgs false
open Go Go.RowKit

theorem cellA {W : World} {a : Addr} {v : Value} (o : Obj) (h : W.cell? a = some v) : (W.alloc o).cell? a = some v := cell_kept h (World.grownBy_alloc W o none) (fun r e => by cases e)
theorem frozA {W : World} {a : Addr} {v : Value} (o : Obj) (h : W.cell? a = some v) (hf : W.frozen? a = false) : (W.alloc o).frozen? a = false := (frozen_kept h (World.grownBy_alloc W o none) (fun r e => by cases e)).trans hf
theorem grownD {w w' : World} {row : Option Nat} (h : w.grownBy w' row) : w.grownBy w'.drew row := ⟨h.os, h.tape, h.output, h.size, h.block⟩
theorem ownFrom_grown {β : Type} {w : World} {row : Option Nat} {B : Nat} (hB : w.heap.size ≤ B) : OwnFrom B (fun (_ : β) W => w.grownBy W row) := fun _ W W' r h hg hr =>
  h.andThen hg (fun j e => .inl (Nat.le_trans hB (hr j e).1))
/-- what holds of blocks of cells alone is kept where no such block is turned. -/
theorem blk_turn {W W' : World} {row : Option Nat} {b t : Nat} {cs : Array Value} {f : Nat × Nat} (h : W.heap[b]? = some (.cells cs t f)) (hg : W.grownBy W' row) (hr : ∀ r, row = some r → ∃ o : Obj, W.heap[r]? = some o ∧ o.isCells = false) : W'.heap[b]? = some (.cells cs t f) :=
  (hg.block b (Array.getElem?_eq_some_iff.1 h).1 (fun e => by obtain ⟨o, ho, hc⟩ := hr b e.symm; rw [h] at ho; cases ho; cases hc)).trans h
/-- a number that is no less than 0. -/
abbrev natC (k : Nat) : Value := .int .i64 (k : Int)
/-- a slice that reads as a list, in a block below B. -/
def RowOf {α : Type} (enc : α → Value) (B : Nat) (v : Value) (l : List α) (W : World) : Prop :=
  (l = [] ∧ ∃ a c, v = .slice a 0 c) ∨ ∃ b off cap, v = .slice (some ⟨b, off, none⟩) l.length cap ∧ b < B ∧ ∀ i x, l[i]? = some x → W.cell? ⟨b, off + i, none⟩ = some (enc x)
/-- a slice of slices that reads as a list of lists. -/
def RowsOf (B : Nat) (v : Value) (S : List (List Nat)) (W : World) : Prop :=
  (S = [] ∧ ∃ a c, v = .slice a 0 c) ∨ ∃ b off cap, v = .slice (some ⟨b, off, none⟩) S.length cap ∧ b < B ∧ ∀ i l, S[i]? = some l → ∃ r, W.cell? ⟨b, off + i, none⟩ = some r ∧ RowOf natC B r l W

theorem RowOf.below {α : Type} {enc : α → Value} {B B' : Nat} {v : Value} {l : List α} {W W' : World} (h : RowOf enc B v l W) (hb : Below B' W W') (hB : B ≤ B') : RowOf enc B v l W' := by
  rcases h with h | ⟨b, off, cap, h1, h2, h3⟩
  · exact .inl h
  · exact .inr ⟨b, off, cap, h1, h2, fun i x hx => (hb.cell (p := ⟨b, off + i, none⟩) (by simp; omega)).trans (h3 i x hx)⟩
theorem RowOf.mono {α : Type} {enc : α → Value} {B B' : Nat} {v : Value} {l : List α} {W : World} (h : RowOf enc B v l W) (hB : B ≤ B') : RowOf enc B' v l W := by
  rcases h with h | ⟨b, off, cap, h1, h2, h3⟩
  · exact .inl h
  · exact .inr ⟨b, off, cap, h1, by omega, h3⟩
theorem RowsOf.below {B B' : Nat} {v : Value} {S : List (List Nat)} {W W' : World} (h : RowsOf B v S W) (hb : Below B' W W') (hB : B ≤ B') : RowsOf B v S W' := by
  rcases h with h | ⟨b, off, cap, h1, h2, h3⟩
  · exact .inl h
  · refine .inr ⟨b, off, cap, h1, h2, fun i x hx => ?_⟩
    obtain ⟨r, hr, hl⟩ := h3 i x hx
    exact ⟨r, (hb.cell (p := ⟨b, off + i, none⟩) (by simp; omega)).trans hr, hl.below hb hB⟩
theorem RowsOf.mono {B B' : Nat} {v : Value} {S : List (List Nat)} {W : World} (h : RowsOf B v S W) (hB : B ≤ B') : RowsOf B' v S W := by
  rcases h with h | ⟨b, off, cap, h1, h2, h3⟩
  · exact .inl h
  · refine .inr ⟨b, off, cap, h1, by omega, fun i x hx => ?_⟩
    obtain ⟨r, hr, hl⟩ := h3 i x hx
    exact ⟨r, hr, hl.mono hB⟩

/-- what a range over of yields. -/
def ofL (S : List (List Nat)) (node least : Nat) : List Nat := (S.getD node []).filter (fun k => decide (least ≤ k))
/-- what a round must keep: one box, and what was there before. -/
def KpB (Bn B0 : Nat) (W W' : World) : Prop := W'.heap[Bn]? = W.heap[Bn]? ∧ Below B0 W W'
theorem kpB_t {Bn B0 : Nat} {A B C : World} (h : KpB Bn B0 A B) (k : KpB Bn B0 B C) : KpB Bn B0 A C := ⟨k.1.trans h.1, h.2.trans k.2⟩
theorem kpB_b {Bn B0 : Nat} {w : World} (hn : B0 ≤ w.heap.size) (hBn : Bn < w.heap.size) (W : World) (l : Nat) (o o' : Obj) (hl : w.heap.size ≤ l) (h : W.heap[l]? = some o) (h1 : o.isCells = false) (h2 : o.isWalk = false) : KpB Bn B0 W (W.putObj l o') :=
  ⟨World.putObj_heap_other (by omega), belowK_b hn W l o o' hl h h1 h2⟩

end Go.Proofs.YtdhihdiifgcfdaaGreatDoor
