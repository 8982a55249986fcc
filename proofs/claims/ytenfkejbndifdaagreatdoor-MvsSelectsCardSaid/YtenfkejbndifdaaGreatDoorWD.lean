/- A region that draws its order inside a round of a range over a function: whatever walks it outside serves there. Rows in memory that read as lists; the graph's successors; the iterator over a row. A slice of slices that a call makes itself, each row of its own. Rows of spans in memory that read as lists of pairs. A map of numbers that a call makes, read as a function; slices of sets. -/
import Derived.OrdersIn
import Derived.OrdersHeld
import Derived.StillTailTactics
import Derived.RangeFuncNested
import Derived.RangeFuncCalls
import Derived.WalkKit
import Derived.Deep.RegionHeld3
import Derived.Test.YtenfkejbndifdaaGreatDoorProg
import Derived.RangeFuncBound
import Derived.RangeFuncLeaves
import Derived.Shelf.Abstract
import Derived.Shelf.RegionOpen
import Derived.OwnWalkIn
import Derived.TacticsInMore
import Derived.LoopNIn
import Derived.LoopIn
import Derived.WalkSpells
import Derived.WalkLawsBesides
import Derived.BigQuiet
import Derived.Deep.QuietTactic
import Derived.Deep.AppendLies
import Derived.Maps.AppendAt
import Derived.Lib.Hide
import Derived.Laws.EntriesVeiled
import Derived.Laws.OwnMore
import Derived.Sort.OwnSortedInts
import Derived.Deep.OwnRows
import Derived.Outline
import Derived.Shelf.GgClosure.Gives
import Derived.Test.YtenfkejbndifdaaGreatDoorWA
import Derived.Maps.Own
import Derived.Maps.OwnOps
import Derived.Maps.OwnSet
import Derived.Maps.Views
import Derived.Maps.RangeWalk
import Derived.Sort.KeysCollected
namespace Go.Proofs.YtenfkejbndifdaaGreatDoor
theorem zl1 {α : Type} {xs : List α} {i : Nat} (h : i < xs.toArray.size) : xs.toArray[i] = xs[i]'(by simpa using h) := rfl
theorem zl2 {α : Type} {a : α} {l : List α} (h : 0 < (a :: l).length) : (a :: l)[0] = a := rfl
theorem zl3 {α : Type} {a : α} {l : List α} {i : Nat} (h : i + 1 < (a :: l).length) : (a :: l)[i + 1] = l[i]'(Nat.lt_of_succ_lt_succ h) := rfl
theorem zl4 {α : Type} (l : List α) (i : Nat) (a : α) : l.toArray.setIfInBounds i a = (l.set i a).toArray := List.setIfInBounds_toArray _ _ _
theorem zl5 {α : Type} {x a : α} {xs : List α} : (x :: xs).set 0 a = a :: xs := rfl
theorem zl6 {α : Type} {x a : α} {xs : List α} {i : Nat} : (x :: xs).set (i + 1) a = x :: xs.set i a := rfl
set_option linter.unusedVariables false
set_option linter.unusedSimpArgs false
open Go Go.RowKit

def calmOps (ops : Array Oper) : Bool := ops.all fun o => match o.op with | .defer _ => false | _ => true

structure Sealed (P : Program) (ops : Array Oper) (w : World) (Q : Act → Prop) (l : List Oper) (a : Act) : Prop where
  out : wpStill P ops w Q l a
def HeldC (a b : Addr) (x y : Value) (W : World) : Prop := W.cell? a = some x ∧ W.cell? b = some y
def HeldR (a b c : Addr) (x y z : Value) (W : World) : Prop := W.cell? a = some x ∧ W.cell? b = some y ∧ W.cell? c = some z
def HeldS (a b c d e f : Addr) (x y z u v q : Value) (W : World) : Prop := W.cell? a = some x ∧ W.cell? b = some y ∧ W.cell? c = some z ∧ W.cell? d = some u ∧ W.cell? e = some v ∧ W.cell? f = some q
end Go.Proofs.YtenfkejbndifdaaGreatDoor

namespace Go.Proofs.YtenfkejbndifdaaGreatDoor
set_option linter.unusedVariables false
set_option linter.unusedSimpArgs false
open Go Go.RowKit

theorem cellA {W : World} {a : Addr} {v : Value} (o : Obj) (h : W.cell? a = some v) : (W.alloc o).cell? a = some v := cell_kept h (World.grownBy_alloc W o none) (fun r e => by cases e)
abbrev natC (k : Nat) : Value := .int .i64 (k : Int)
def RowOf {α : Type} (enc : α → Value) (B : Nat) (v : Value) (l : List α) (W : World) : Prop :=
  (l = [] ∧ ∃ a c, v = .slice a 0 c) ∨ ∃ b off cap, v = .slice (some ⟨b, off, none⟩) l.length cap ∧ b < B ∧ ∀ i x, l[i]? = some x → W.cell? ⟨b, off + i, none⟩ = some (enc x)
def RowsOf (B : Nat) (v : Value) (S : List (List Nat)) (W : World) : Prop :=
  (S = [] ∧ ∃ a c, v = .slice a 0 c) ∨ ∃ b off cap, v = .slice (some ⟨b, off, none⟩) S.length cap ∧ b < B ∧ ∀ i l, S[i]? = some l → ∃ r, W.cell? ⟨b, off + i, none⟩ = some r ∧ RowOf natC B r l W

theorem RowOf.below {α : Type} {enc : α → Value} {B B' : Nat} {v : Value} {l : List α} {W W' : World} (h : RowOf enc B v l W) (hb : Below B' W W') (hB : B ≤ B') : RowOf enc B v l W' := by
  rcases h with h | ⟨b, off, cap, h1, h2, h3⟩
  · exact .inl h
  · exact .inr ⟨b, off, cap, h1, h2, fun i x hx => (hb.cell (p := ⟨b, off + i, none⟩) (by simp; omega)).trans (h3 i x hx)⟩
theorem RowOf.mono {α : Type} {enc : α → Value} {B B' : Nat} {v : Value} {l : List α} {W : World} (h : RowOf enc B v l W) (hB : B ≤ B') : RowOf enc B' v l W := by
  rcases h with h | ⟨b, off, cap, h1, h2, h3⟩
  · exact .inl h
  · exact .inr ⟨b, off, cap, h1, by omega, h3⟩
def ofL (S : List (List Nat)) (node least : Nat) : List Nat := (S.getD node []).filter (fun k => decide (least ≤ k))
def KpB (Bn B0 : Nat) (W W' : World) : Prop := W'.heap[Bn]? = W.heap[Bn]? ∧ Below B0 W W'
end Go.Proofs.YtenfkejbndifdaaGreatDoor

namespace Go.Proofs.YtenfkejbndifdaaGreatDoor
set_option linter.unusedVariables false
set_option linter.unusedSimpArgs false
open Go Go.RowKit

abbrev intC (x : Int) : Value := .int .i64 x

theorem own_far {W W' : World} {B e n s : Nat} {v : Value} {xs : List Value} (h : W.ownsRow B e s v n xs) (hk : ∀ k, v.ownBlock = some k → W'.heap[k]? = W.heap[k]?) : W'.ownsRow B e s v n xs := by
  refine ⟨h.1, ?_⟩
  rcases h.2 with h2 | ⟨g, cap, cur, rfl, hb, hg, r⟩
  · exact .inl h2
  · exact .inr ⟨g, cap, cur, rfl, hb, (hk g rfl).trans hg, r⟩
theorem own_cell {W : World} {B e n g cap : Nat} {xs : List Value} (h : W.ownsRow B e 1 (.slice (some ⟨g, 0, none⟩) n cap) n xs) (i : Nat) (x : Value) (hx : xs[i]? = some x) : W.cell? ⟨g, i, none⟩ = some x := by
  have hl := h.1
  have hi : i < xs.length := (List.getElem?_eq_some_iff.1 hx).1
  rw [h.cellAt i (by omega), hx]
theorem own_row {α : Type} {enc : α → Value} {W : World} {B e n : Nat} {v : Value} {l : List α} (h : W.ownsRow B e 1 v n (l.map enc)) : n = l.length ∧ RowOf enc W.heap.size v l W := by
  have hl : n = l.length := by have := h.1; simp at this; omega
  subst hl
  refine ⟨rfl, ?_⟩
  rcases h.2 with ⟨rfl, h0⟩ | ⟨g, cap, cur, rfl, hb, hg, hc, _⟩
  · exact .inl ⟨List.length_eq_zero_iff.1 h0, _, _, rfl⟩
  · refine .inr ⟨g, 0, cap, rfl, (Array.getElem?_eq_some_iff.1 hg).1, fun i x hx => ?_⟩
    rw [Nat.zero_add]
    exact own_cell h i _ (by rw [List.getElem?_map, hx]; rfl)

structure Grid (B : Nat) (v : Value) (vs : List Value) (L : List (List Value)) (W : World) : Prop where
  top : W.ownsRow B 79 1 v L.length vs
  row : ∀ (i : Nat) (u : Value) (l : List Value), vs[i]? = some u → L[i]? = some l → W.ownsRow B 3 1 u l.length l
  apart : ∀ (i j : Nat) (u u' : Value) (b : Nat), vs[i]? = some u → vs[j]? = some u' → u.ownBlock = some b → u'.ownBlock = some b → i = j
  base : B ≤ W.heap.size

-- grid_shape
end Go.Proofs.YtenfkejbndifdaaGreatDoor

namespace Go.Proofs.YtenfkejbndifdaaGreatDoor
set_option linter.unusedVariables false
set_option linter.unusedSimpArgs false
open Go Go.RowKit Go.Sort

def SpansOf (B : Nat) (v : Value) (es : List (Int × Int)) (W : World) : Prop :=
  ∃ ao cap, v = .slice ao es.length cap ∧ ∀ i x, es[i]? = some x → ∃ b off, ao = some ⟨b, off, none⟩ ∧ b < B ∧ W.cell? ⟨b, off + i * 2, none⟩ = some (intC x.1) ∧ W.cell? ⟨b, off + i * 2 + 1, none⟩ = some (intC x.2)
theorem SpansOf.below {B B' : Nat} {v : Value} {es : List (Int × Int)} {W W' : World} (h : SpansOf B v es W) (hb : Below B' W W') (hB : B ≤ B') : SpansOf B v es W' := by
  obtain ⟨ao, cap, rfl, h⟩ := h
  refine ⟨ao, cap, rfl, fun i x hx => ?_⟩
  obtain ⟨b, off, rfl, hlt, h1, h2⟩ := h i x hx
  exact ⟨b, off, rfl, hlt, (hb.cell (p := ⟨b, off + i * 2, none⟩) (by simp; omega)).trans h1, (hb.cell (p := ⟨b, off + i * 2 + 1, none⟩) (by simp; omega)).trans h2⟩
theorem SpansOf.mono {B B' : Nat} {v : Value} {es : List (Int × Int)} {W : World} (h : SpansOf B v es W) (hB : B ≤ B') : SpansOf B' v es W := by
  obtain ⟨ao, cap, rfl, h⟩ := h
  refine ⟨ao, cap, rfl, fun i x hx => ?_⟩
  obtain ⟨b, off, rfl, hlt, h1, h2⟩ := h i x hx
  exact ⟨b, off, rfl, by omega, h1, h2⟩
def spanCells (es : List (Int × Int)) : List Value := es.flatMap fun x => [intC x.1, intC x.2]
theorem spanCells_snoc (es : List (Int × Int)) (x : Int × Int) : spanCells (es ++ [x]) = spanCells es ++ [intC x.1, intC x.2] := by unfold spanCells; rw [List.flatMap_append]; rfl
theorem spanCells_length (es : List (Int × Int)) : (spanCells es).length = es.length * 2 := by
  induction es with
  | nil => rfl
  | cons x es ih => show (intC x.1 :: intC x.2 :: spanCells es).length = _; simp [ih]; omega
theorem spanCells_get (es : List (Int × Int)) (i : Nat) (x : Int × Int) (h : es[i]? = some x) : (spanCells es)[i * 2]? = some (intC x.1) ∧ (spanCells es)[i * 2 + 1]? = some (intC x.2) := by
  induction es generalizing i with
  | nil => simp at h
  | cons y es ih =>
    cases i with
    | zero => simp at h; subst h; exact ⟨rfl, rfl⟩
    | succ i =>
      have := ih i (by simpa using h)
      have e : ∀ j, (spanCells (y :: es))[j + 2]? = (spanCells es)[j]? := fun j => rfl
      rw [show (i + 1) * 2 = i * 2 + 2 by omega, show i * 2 + 2 + 1 = (i * 2 + 1) + 2 by omega, e, e]
      exact this
theorem own_spans {W : World} {B n : Nat} {v : Value} {es : List (Int × Int)} (h : W.ownsRow B 133 2 v n (spanCells es)) : SpansOf W.heap.size v es W := by
  have hl : n = es.length := by have := h.1; rw [spanCells_length] at this; omega
  subst hl
  rcases h.2 with ⟨rfl, h0⟩ | ⟨g, cap, cur, rfl, hb, hg, hc, _⟩
  · obtain rfl := List.length_eq_zero_iff.1 h0
    exact ⟨none, 0, rfl, fun i x hx => by simp at hx⟩
  · refine ⟨_, cap, rfl, fun i x hx => ⟨g, 0, rfl, (Array.getElem?_eq_some_iff.1 hg).1, ?_, ?_⟩⟩
    · have hi := (List.getElem?_eq_some_iff.1 hx).1
      rw [Nat.zero_add, h.cellAt (i * 2) (by omega)]
      exact (spanCells_get es i x hx).1
    · have hi := (List.getElem?_eq_some_iff.1 hx).1
      rw [Nat.zero_add, h.cellAt (i * 2 + 1) (by omega)]
      exact (spanCells_get es i x hx).2
theorem info_spans : (Tryz.prog.info? 133).map (fun i => (i.zero, i.size, i.bytes)) = some (some (.agg #[.int .i64 0, .int .i64 0]), 2, 16) := by kernel_rfl
abbrev spanV (x : Int × Int) : Value := .agg #[intC x.1, intC x.2]
def PredS (g : Nat) (lb : Array Value) (es : List (Int × Int)) (p : Int × Int → Bool) (w : World) : Prop :=
  ∀ (W : World) (x : Int × Int), x ∈ es → Below w.heap.size w W → Calls Tryz.prog g (#[spanV x] ++ lb) W fun e w' => e = .returned (.bool (p x)) ∧ Below w.heap.size w w'
end Go.Proofs.YtenfkejbndifdaaGreatDoor

namespace Go.Proofs.YtenfkejbndifdaaGreatDoor
set_option linter.unusedVariables false
set_option linter.unusedSimpArgs false
open Go Go.RowKit Go.Maps

theorem lawI : Keyed Tryz.prog 3 := int_keyed Tryz.underlying3
theorem wfI {a : Int} (h1 : -9223372036854775808 ≤ a) (h2 : a ≤ 9223372036854775807) : (Lit.int .i64 a).wf = true := by
  simp [Lit.wf, IntKind.min, IntKind.max, IntKind.signed, IntKind.bits]
  omega
theorem keyI {a : Int} (h1 : -9223372036854775808 ≤ a) (h2 : a ≤ 9223372036854775807) : keyOf Tryz.prog 3 (.int .i64 a) = some (.int .i64 a) := keyOf_int_mk Tryz.underlying3 (wfI h1 h2)
def ReadsI (D : DataW Unit) (f : Int → Int) (K : Int → Prop) : Prop :=
  IsMap D ∧ (∀ q, D.atKey (.int .i64 q) (.lit (.int .i64 0)) = .lit (.int .i64 (f q))) ∧ ∀ q, Maps.has D (.int .i64 q) = true ↔ K q
def keyE (E : List (Int × Int)) (q : Int) : Prop := q = 0 ∨ q = 1000000 ∨ ∃ x ∈ E, q = x.1 ∨ q = x.2
def SetsOf (B : Nat) (v : Value) (l : List (List (Int × Int))) (W : World) : Prop :=
  ∃ ao cap, v = .slice ao l.length cap ∧ ∀ i s, l[i]? = some s → ∃ b off r, ao = some ⟨b, off, none⟩ ∧ b < B ∧ W.cell? ⟨b, off + i, none⟩ = some r ∧ SpansOf B r s W
def CollI (D : DataW Unit) (left : Lit → Bool) (ks : List Int) : Prop := ks.Nodup ∧ ∀ x, x ∈ ks ↔ (Maps.has D (.int .i64 x) = true ∧ left (.int .i64 x) = false)
end Go.Proofs.YtenfkejbndifdaaGreatDoor
