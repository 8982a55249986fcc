/- A region that draws its order inside a round of a range over a function: whatever walks it outside serves there. Rows in memory that read as lists; the graph's successors; the iterator over a row. A slice of slices that a call makes itself, each row of its own. Rows of spans in memory that read as lists of pairs. A map of numbers that a call makes, read as a function; slices of sets. Requirements, releases, selections in memory. The library's Equal at spans. The graph of a selection, plain; what solving says. Graphs, plain: edges, successors; a list that is sorted and compacted. Graphs, plain: what is reached, and what a visit leaves. -/
import Derived.OrdersIn
import Derived.OrdersHeld
import Derived.StillTailTactics
import Derived.RangeFuncNested
import Derived.RangeFuncCalls
import Derived.WalkKit
import Derived.Deep.RegionHeld3
import Derived.Test.YtbbnoloploklkaaGreatDoorProg
import Derived.RangeFuncBound
import Derived.RangeFuncLeaves
import Derived.Shelf.Abstract
import Derived.Shelf.RegionOpen
import Derived.OwnWalkIn
import Derived.TacticsInMore
import Derived.LoopNIn
import Derived.LoopIn
import Derived.WalkSpells
import Derived.WalkLawsBesides
import Derived.BigQuiet
import Derived.Deep.QuietTactic
import Derived.Deep.AppendLies
import Derived.Maps.AppendAt
import Derived.Lib.Hide
import Derived.Laws.EntriesVeiled
import Derived.Laws.OwnMore
import Derived.Sort.OwnSortedInts
import Derived.Deep.OwnRows
import Derived.Outline
import Derived.Shelf.GgClosure.Gives
import Derived.Test.YtbbnoloploklkaaGreatDoorQA
import Derived.Maps.Own
import Derived.Maps.OwnOps
import Derived.Maps.OwnSet
import Derived.Maps.Views
import Derived.Maps.RangeWalk
import Derived.Sort.KeysCollected
import Derived.Test.YtbbnoloploklkaaGreatDoorQB
import Derived.Test.YtbbnoloploklkaaGreatDoorQShelf
import Derived.Shelf.SlicesQ.Equal
import Derived.Laws.StructEq
import Derived.Lib.SlicesCompact
namespace Go.Proofs.YtbbnoloploklkaaGreatDoor
theorem zl1 {α : Type} {xs : List α} {i : Nat} (h : i < xs.toArray.size) : xs.toArray[i] = xs[i]'(by simpa using h) := rfl
theorem zl2 {α : Type} {a : α} {l : List α} (h : 0 < (a :: l).length) : (a :: l)[0] = a := rfl
theorem zl3 {α : Type} {a : α} {l : List α} {i : Nat} (h : i + 1 < (a :: l).length) : (a :: l)[i + 1] = l[i]'(Nat.lt_of_succ_lt_succ h) := rfl
theorem zl4 {α : Type} (l : List α) (i : Nat) (a : α) : l.toArray.setIfInBounds i a = (l.set i a).toArray := List.setIfInBounds_toArray _ _ _
theorem zl5 {α : Type} {x a : α} {xs : List α} : (x :: xs).set 0 a = a :: xs := rfl
theorem zl6 {α : Type} {x a : α} {xs : List α} {i : Nat} : (x :: xs).set (i + 1) a = x :: xs.set i a := rfl
set_option linter.unusedVariables false
set_option linter.unusedSimpArgs false
open Go Go.RowKit

def calmOps (ops : Array Oper) : Bool := ops.all fun o => match o.op with | .defer _ => false | _ => true

theorem calmOps_spec {ops : Array Oper} (h : calmOps ops = true) {j : Nat} {o : Oper} (ho : ops[j]? = some o) (c : _) : o.op ≠ .defer c := fun e => by
  unfold calmOps at h
  rw [Array.all_eq_true'] at h
  have := h o (Array.mem_of_getElem? ho)
  rw [e] at this
  cases this

theorem oper_round {P : Program} {l n : Nat} {o : Oper} {a : Act} {w : World} {K K' : Act → World → Prop} {Q : Exit → Act → World → Prop} (hd : ∀ c, o.op ≠ .defer c)
    (hK : ∀ a w, K a w → K' a w) (h : o.wp P a w K Q) : o.wpIn (Fence.wide.inRound l) n P a w K' Q := by
  refine ⟨fun _ _ => trivial, ?_⟩
  rw [Oper.semAt_eq _ _ _ hd]
  unfold Oper.wp at h
  generalize (execOp a.eval o).run P w = r at *
  cases r with
  | ok x w' =>
    cases x <;> simp only [Oper.upon, Oper.uponIn] at h ⊢
    case value v => exact hK _ _ h
    case skip => exact hK _ _ h
    case defer d => exact hK _ _ h
    case enter f args =>
      refine ⟨fun h => (by cases h), ?_⟩
      refine CallsIn.inRound l (callsIn_wide.2 (h.mono ?_))
      intro e w'' he
      cases e with
      | returned v => exact hK _ _ he
      | panicked c => exact he
      | outgrown => exact he
    case row r args =>
      refine ⟨fun h => (by cases h), ?_⟩
      intro c cs _
      obtain ⟨v, w'', hv, hs⟩ := h c cs
      exact ⟨v, w'', hK _ _ hv, stepsIn_wide.2 hs⟩
  | halt x w' =>
    cases x <;> simp only [Oper.upon, Oper.uponIn] at h ⊢ <;> exact h

theorem op_round {P : Program} {l n : Nat} {ops : Array Oper} {Q : Exit → Act → World → Prop} {i : Nat} {a : Act} {w : World} {K K' : Act → World → Prop} (hd : calmOps ops = true) (hQ : ∀ a w, ¬ Q .outgrown a w)
    (hK : ∀ a w, K a w → K' a w) (h : wpOp P ops Q i K a w) : wpOpIn (Fence.wide.inRound l) n P ops Q i K' a w := by
  unfold wpOp at h
  unfold wpOpIn
  cases ho : ops[i]? with
  | none => simp only [ho] at h ⊢; exact hK _ _ h
  | some o =>
    simp only [ho] at h ⊢
    by_cases hw : Region.wanted o (yielded ops a.tmps) = true
    · rw [if_pos hw] at h ⊢
      rcases h with h | ⟨_, a0, w0, h⟩
      · exact oper_round (calmOps_spec hd ho) hK h
      · exact absurd h (hQ _ _)
    · rw [if_neg hw] at h ⊢
      exact ⟨fun _ _ => trivial, hK _ _ h⟩

theorem any_round {P : Program} {l n : Nat} {md : Region.Mode} {ops : Array Oper} {Q : Exit → Act → World → Prop} (hd : calmOps ops = true) (hQ : ∀ a w, ¬ Q .outgrown a w) :
    ∀ (fuel : Nat) (listed : Array Bool) (a : Act) (w : World), wpAny P md ops Q fuel listed a w → wpAnyIn (Fence.wide.inRound l) n P md ops Q fuel listed a w
  | 0, _, _, _, h => h
  | fuel + 1, listed, a, w, h => ⟨h.1, fun i hi => op_round hd hQ (fun a w h => any_round hd hQ fuel _ a w h) (h.2 i hi)⟩

theorem wpStill_no {P : Program} {ops : Array Oper} {w : World} {Q : Act → Prop} {a : Act} {o : Oper} {rest : List Oper} (hw : Region.wanted o (yielded ops a.tmps) = false) (h : wpStill P ops w Q rest (a.put o.dst undef)) : wpStill P ops w Q (o :: rest) a := by
  refine wpStill_step fun K hK => ?_
  rw [hw]
  exact hK _ h
theorem wpStill_yes {P : Program} {ops : Array Oper} {w : World} {Q : Act → Prop} {a : Act} {o : Oper} {rest : List Oper} (hw : Region.wanted o (yielded ops a.tmps) = true) (h : ∀ K : Act → Prop, (∀ a, wpStill P ops w Q rest a → K a) → o.still P a w K) : wpStill P ops w Q (o :: rest) a := by
  refine wpStill_step fun K hK => ?_
  rw [hw]
  exact h K hK

theorem region_round {P : Program} {l n id : Nat} {ops : Array Oper} {Q : Exit → Act → World → Prop} {a : Act} {w : World} (hm : P.follows .mixedOrders = true) (hd : calmOps ops = true) (hQ : ∀ a w, ¬ Q .outgrown a w)
    (h : wpAny P .any ops Q ops.size (Array.replicate ops.size false) a w.drew) : (Code.region id ops true).wpIn (Fence.wide.inRound l) n P Q a w :=
  wpIn_region_any hm (any_round hd hQ _ _ _ _ h)

theorem region_round_tail {P : Program} {l n id : Nat} {Q : Exit → Act → World → Prop} {a : Act} {w : World} {lo : List Oper} (k : Nat) (hm : P.follows .mixedOrders = true) (hd : calmOps lo.toArray = true) (hQ : ∀ a w, ¬ Q .outgrown a w)
    (hB : Region.lexTailB .any lo.toArray k = true)
    (h : wpStill P lo.toArray w.drew (fun a' => wpList P lo.toArray Q (lo.drop k) a' w.drew) (lo.take k) a) : (Code.region id lo.toArray true).wpIn (Fence.wide.inRound l) n P Q a w := by
  refine region_round hm hd hQ ?_
  simp only [Region.lexTailB, Bool.and_eq_true, decide_eq_true_eq] at hB
  obtain ⟨⟨⟨⟨hsel, hn⟩, hs⟩, hc⟩, hlex⟩ := hB
  have hn' : k < lo.length := by simpa using hn
  have htl : (lo.take k).length = k := by simp; omega
  have hdl : (lo.drop k).length = lo.toArray.size - k := by simp
  have inv0 : HeadInv .any lo.toArray k (Array.replicate lo.toArray.size false) :=
    ⟨by simp, fun j oj _ hl => (by rw [getD_replicate_false] at hl; cases hl), fun t _ ht => getD_in (by simpa using ht) (getD_replicate_false _ _)⟩
  have H := wpAnyL_lex (md := .any) (g := lo.toArray.size - k) hsel hs hc hn (lo.take k) 0 _ a (fun j hj => by
    have hj' : j < k := by rw [htl] at hj; exact hj
    simp [hj']) (by simpa using htl) inv0 (by rw [htl]; exact hlex) h
  have := wpAny_of_head (Q' := Q) (g := lo.toArray.size - k) (fun listed a' hL => by
    have := wpAny_of_seq (md := .any) (Q' := Q) (lo.drop k) k listed a' w.drew (fun j => by simp [List.getElem?_drop]) (by rw [hdl]; exact hL.1) hL.2
    rwa [hdl] at this) _ _ _ H
  rw [htl, show k + (lo.toArray.size - k) = lo.toArray.size by omega] at this
  exact this

structure Sealed (P : Program) (ops : Array Oper) (w : World) (Q : Act → Prop) (l : List Oper) (a : Act) : Prop where
  out : wpStill P ops w Q l a
theorem seal_nil {P : Program} {ops : Array Oper} {w : World} {Q : Act → Prop} {a : Act} (h : Q a) : Sealed P ops w Q [] a := ⟨wpStill_nil h⟩
theorem seal_no {P : Program} {ops : Array Oper} {w : World} {Q : Act → Prop} {a : Act} {o : Oper} {rest : List Oper} (hw : Region.wanted o (yielded ops a.tmps) = false) (h : Sealed P ops w Q rest (a.put o.dst undef)) : Sealed P ops w Q (o :: rest) a :=
  ⟨wpStill_no hw h.out⟩
theorem seal_yes {P : Program} {ops : Array Oper} {w : World} {Q : Act → Prop} {a : Act} {o : Oper} {rest : List Oper} (hw : Region.wanted o (yielded ops a.tmps) = true) (h : ∀ K : Act → Prop, (∀ a, Sealed P ops w Q rest a → K a) → o.still P a w K) : Sealed P ops w Q (o :: rest) a :=
  ⟨wpStill_yes hw fun K hK => h K fun a ha => hK a ha.out⟩

theorem region_roundP {P : Program} {l n id : Nat} {ops : Array Oper} {Q : Exit → Act → World → Prop} {a : Act} {w : World} {S : World → Prop} (hm : P.follows .mixedOrders = true) (hd : calmOps ops = true) (hQ : ∀ a w, ¬ Q .outgrown a w)
    (h : wpAnyH P .any ops (NoPanic Q) S ops.size (Array.replicate ops.size false) a w.drew) : (Code.region id ops true).wpIn (Fence.wide.inRound l) n P Q a w :=
  Code.wpIn_mono (fun e a w q => NoPanic.imp e a w q) (region_round hm hd (fun a w q => hQ a w q) (wpAny_of_held _ _ _ _ h))
def HeldC (a b : Addr) (x y : Value) (W : World) : Prop := W.cell? a = some x ∧ W.cell? b = some y
def HeldR (a b c : Addr) (x y z : Value) (W : World) : Prop := W.cell? a = some x ∧ W.cell? b = some y ∧ W.cell? c = some z
def HeldS (a b c d e f : Addr) (x y z u v q : Value) (W : World) : Prop := W.cell? a = some x ∧ W.cell? b = some y ∧ W.cell? c = some z ∧ W.cell? d = some u ∧ W.cell? e = some v ∧ W.cell? f = some q
end Go.Proofs.YtbbnoloploklkaaGreatDoor

namespace Go.Proofs.YtbbnoloploklkaaGreatDoor
set_option linter.unusedVariables false
set_option linter.unusedSimpArgs false
open Go Go.RowKit

theorem cellA {W : World} {a : Addr} {v : Value} (o : Obj) (h : W.cell? a = some v) : (W.alloc o).cell? a = some v := cell_kept h (World.grownBy_alloc W o none) (fun r e => by cases e)
theorem frozA {W : World} {a : Addr} {v : Value} (o : Obj) (h : W.cell? a = some v) (hf : W.frozen? a = false) : (W.alloc o).frozen? a = false := (frozen_kept h (World.grownBy_alloc W o none) (fun r e => by cases e)).trans hf
theorem grownD {w w' : World} {row : Option Nat} (h : w.grownBy w' row) : w.grownBy w'.drew row := ⟨h.os, h.tape, h.output, h.size, h.block⟩
theorem ownFrom_grown {β : Type} {w : World} {row : Option Nat} {B : Nat} (hB : w.heap.size ≤ B) : OwnFrom B (fun (_ : β) W => w.grownBy W row) := fun _ W W' r h hg hr =>
  h.andThen hg (fun j e => .inl (Nat.le_trans hB (hr j e).1))
theorem blk_turn {W W' : World} {row : Option Nat} {b t : Nat} {cs : Array Value} {f : Nat × Nat} (h : W.heap[b]? = some (.cells cs t f)) (hg : W.grownBy W' row) (hr : ∀ r, row = some r → ∃ o : Obj, W.heap[r]? = some o ∧ o.isCells = false) : W'.heap[b]? = some (.cells cs t f) :=
  (hg.block b (Array.getElem?_eq_some_iff.1 h).1 (fun e => by obtain ⟨o, ho, hc⟩ := hr b e.symm; rw [h] at ho; cases ho; cases hc)).trans h
abbrev natC (k : Nat) : Value := .int .i64 (k : Int)
def RowOf {α : Type} (enc : α → Value) (B : Nat) (v : Value) (l : List α) (W : World) : Prop :=
  (l = [] ∧ ∃ a c, v = .slice a 0 c) ∨ ∃ b off cap, v = .slice (some ⟨b, off, none⟩) l.length cap ∧ b < B ∧ ∀ i x, l[i]? = some x → W.cell? ⟨b, off + i, none⟩ = some (enc x)
def RowsOf (B : Nat) (v : Value) (S : List (List Nat)) (W : World) : Prop :=
  (S = [] ∧ ∃ a c, v = .slice a 0 c) ∨ ∃ b off cap, v = .slice (some ⟨b, off, none⟩) S.length cap ∧ b < B ∧ ∀ i l, S[i]? = some l → ∃ r, W.cell? ⟨b, off + i, none⟩ = some r ∧ RowOf natC B r l W

theorem RowOf.below {α : Type} {enc : α → Value} {B B' : Nat} {v : Value} {l : List α} {W W' : World} (h : RowOf enc B v l W) (hb : Below B' W W') (hB : B ≤ B') : RowOf enc B v l W' := by
  rcases h with h | ⟨b, off, cap, h1, h2, h3⟩
  · exact .inl h
  · exact .inr ⟨b, off, cap, h1, h2, fun i x hx => (hb.cell (p := ⟨b, off + i, none⟩) (by simp; omega)).trans (h3 i x hx)⟩
theorem RowOf.mono {α : Type} {enc : α → Value} {B B' : Nat} {v : Value} {l : List α} {W : World} (h : RowOf enc B v l W) (hB : B ≤ B') : RowOf enc B' v l W := by
  rcases h with h | ⟨b, off, cap, h1, h2, h3⟩
  · exact .inl h
  · exact .inr ⟨b, off, cap, h1, by omega, h3⟩
theorem RowsOf.below {B B' : Nat} {v : Value} {S : List (List Nat)} {W W' : World} (h : RowsOf B v S W) (hb : Below B' W W') (hB : B ≤ B') : RowsOf B v S W' := by
  rcases h with h | ⟨b, off, cap, h1, h2, h3⟩
  · exact .inl h
  · refine .inr ⟨b, off, cap, h1, h2, fun i x hx => ?_⟩
    obtain ⟨r, hr, hl⟩ := h3 i x hx
    exact ⟨r, (hb.cell (p := ⟨b, off + i, none⟩) (by simp; omega)).trans hr, hl.below hb hB⟩
theorem RowsOf.mono {B B' : Nat} {v : Value} {S : List (List Nat)} {W : World} (h : RowsOf B v S W) (hB : B ≤ B') : RowsOf B' v S W := by
  rcases h with h | ⟨b, off, cap, h1, h2, h3⟩
  · exact .inl h
  · refine .inr ⟨b, off, cap, h1, by omega, fun i x hx => ?_⟩
    obtain ⟨r, hr, hl⟩ := h3 i x hx
    exact ⟨r, hr, hl.mono hB⟩

def ofL (S : List (List Nat)) (node least : Nat) : List Nat := (S.getD node []).filter (fun k => decide (least ≤ k))
def KpB (Bn B0 : Nat) (W W' : World) : Prop := W'.heap[Bn]? = W.heap[Bn]? ∧ Below B0 W W'
theorem kpB_t {Bn B0 : Nat} {A B C : World} (h : KpB Bn B0 A B) (k : KpB Bn B0 B C) : KpB Bn B0 A C := ⟨k.1.trans h.1, h.2.trans k.2⟩
theorem kpB_b {Bn B0 : Nat} {w : World} (hn : B0 ≤ w.heap.size) (hBn : Bn < w.heap.size) (W : World) (l : Nat) (o o' : Obj) (hl : w.heap.size ≤ l) (h : W.heap[l]? = some o) (h1 : o.isCells = false) (h2 : o.isWalk = false) : KpB Bn B0 W (W.putObj l o') :=
  ⟨World.putObj_heap_other (by omega), belowK_b hn W l o o' hl h h1 h2⟩

attribute [local go_sem] Oper.semAt_some

set_option maxHeartbeats 1000000 in
theorem of_in (n : Nat) (v : Value) (node least : Int) (w : World) (hv : v.oneCell' = true) :
    CallsIn Fence.wide n Tryz.prog 127 #[v, .int .i64 node, .int .i64 least] w fun e w' =>
      e = .returned (.func (.func 175) #[] #[.pointer (some ⟨w.heap.size, 0, none⟩), .pointer (some ⟨w.heap.size + 1, 0, none⟩), .pointer (some ⟨w.heap.size + 1 + 1, 0, none⟩)]) ∧
      w' = ((w.alloc (.cells #[v] 161)).alloc (.cells #[.int .i64 node] 3)).alloc (.cells #[.int .i64 least] 3) := by
  refine callsIn_of_wp Tryz.func127 rfl trivial ?_ rfl
  simp only [Tryz.ntmps127, List.size_toArray, List.length_cons, List.length_nil, Nat.reduceAdd, Nat.reduceSub, Array.replicate_succ, Array.replicate_zero, List.push_toArray, List.append_toArray, List.nil_append, List.cons_append]
  cases v <;> first | (simp [Value.oneCell'] at hv; done) | skip
  all_goals
    gi_wp2
    go_ret
    exact ⟨rfl, rfl⟩
end Go.Proofs.YtbbnoloploklkaaGreatDoor

namespace Go.Proofs.YtbbnoloploklkaaGreatDoor
set_option linter.unusedVariables false
set_option linter.unusedSimpArgs false
open Go Go.RowKit

abbrev intC (x : Int) : Value := .int .i64 x

theorem own_ne {W : World} {B B' e e' n n' s s' : Nat} {v v' : Value} {xs xs' : List Value} (h : W.ownsRow B e s v n xs) (h' : W.ownsRow B' e' s' v' n' xs') (he : e ≠ e') : v.ownBlock = none ∨ v.ownBlock ≠ v'.ownBlock := by
  rcases h.2 with ⟨rfl, _⟩ | ⟨g, cap, cur, rfl, _, hg, _⟩
  · exact .inl rfl
  · right
    rcases h'.2 with ⟨rfl, _⟩ | ⟨g', cap', cur', rfl, _, hg', _⟩
    · simp [Value.ownBlock]
    · intro h3
      simp [Value.ownBlock] at h3
      subst h3
      rw [hg] at hg'
      simp at hg'
      exact he hg'.2
theorem blk_ne {W : World} {b B e s n t : Nat} {cs : Array Value} {f : Nat × Nat} {v : Value} {xs : List Value} (hb : W.heap[b]? = some (.cells cs t f)) (h : W.ownsRow B e s v n xs) (ht : t ≠ e) : some b ≠ v.ownBlock := by
  rcases h.2 with ⟨rfl, _⟩ | ⟨g, cap, cur, rfl, _, hg, _⟩
  · simp [Value.ownBlock]
  · intro h3
    simp [Value.ownBlock] at h3
    subst h3
    rw [hb] at hg
    simp at hg
    exact ht hg.2.1
theorem own_far {W W' : World} {B e n s : Nat} {v : Value} {xs : List Value} (h : W.ownsRow B e s v n xs) (hk : ∀ k, v.ownBlock = some k → W'.heap[k]? = W.heap[k]?) : W'.ownsRow B e s v n xs := by
  refine ⟨h.1, ?_⟩
  rcases h.2 with h2 | ⟨g, cap, cur, rfl, hb, hg, r⟩
  · exact .inl h2
  · exact .inr ⟨g, cap, cur, rfl, hb, (hk g rfl).trans hg, r⟩
theorem own_cell {W : World} {B e n g cap : Nat} {xs : List Value} (h : W.ownsRow B e 1 (.slice (some ⟨g, 0, none⟩) n cap) n xs) (i : Nat) (x : Value) (hx : xs[i]? = some x) : W.cell? ⟨g, i, none⟩ = some x := by
  have hl := h.1
  have hi : i < xs.length := (List.getElem?_eq_some_iff.1 hx).1
  rw [h.cellAt i (by omega), hx]
theorem own_shape {W : World} {B e n : Nat} {v : Value} {xs : List Value} (h : W.ownsRow B e 1 v n xs) (hn : 0 < n) : ∃ g cap, v = .slice (some ⟨g, 0, none⟩) n cap ∧ B ≤ g ∧ g < W.heap.size ∧ n ≤ cap := by
  rcases h.2 with ⟨_, h0⟩ | ⟨g, cap, cur, hv, hb, hg, hc, _⟩
  · omega
  · exact ⟨g, cap, hv, hb, (Array.getElem?_eq_some_iff.1 hg).1, hc⟩
theorem own_row {α : Type} {enc : α → Value} {W : World} {B e n : Nat} {v : Value} {l : List α} (h : W.ownsRow B e 1 v n (l.map enc)) : n = l.length ∧ RowOf enc W.heap.size v l W := by
  have hl : n = l.length := by have := h.1; simp at this; omega
  subst hl
  refine ⟨rfl, ?_⟩
  rcases h.2 with ⟨rfl, h0⟩ | ⟨g, cap, cur, rfl, hb, hg, hc, _⟩
  · exact .inl ⟨List.length_eq_zero_iff.1 h0, _, _, rfl⟩
  · refine .inr ⟨g, 0, cap, rfl, (Array.getElem?_eq_some_iff.1 hg).1, fun i x hx => ?_⟩
    rw [Nat.zero_add]
    exact own_cell h i _ (by rw [List.getElem?_map, hx]; rfl)

structure Grid (B : Nat) (v : Value) (vs : List Value) (L : List (List Value)) (W : World) : Prop where
  top : W.ownsRow B 86 1 v L.length vs
  row : ∀ (i : Nat) (u : Value) (l : List Value), vs[i]? = some u → L[i]? = some l → W.ownsRow B 3 1 u l.length l
  apart : ∀ (i j : Nat) (u u' : Value) (b : Nat), vs[i]? = some u → vs[j]? = some u' → u.ownBlock = some b → u'.ownBlock = some b → i = j
  base : B ≤ W.heap.size

theorem Grid.len {B : Nat} {v : Value} {vs : List Value} {L : List (List Value)} {W : World} (h : Grid B v vs L W) : vs.length = L.length := by have := h.top.1; omega
theorem Grid.below {B : Nat} {v : Value} {vs : List Value} {L : List (List Value)} {W W' : World} (h : Grid B v vs L W) (hb : Below W.heap.size W W') : Grid B v vs L W' :=
  ⟨own_far h.top (fun k hk => hb.block k (h.top.lt k hk).2), fun i u l hu hl => own_far (h.row i u l hu hl) (fun k hk => hb.block k ((h.row i u l hu hl).lt k hk).2), h.apart, by have := h.base; have := hb.size; omega⟩
theorem Grid.keep {B : Nat} {v : Value} {vs : List Value} {L : List (List Value)} {W W' : World} (h : Grid B v vs L W) (hs : W.heap.size ≤ W'.heap.size) (ht : ∀ k, v.ownBlock = some k → W'.heap[k]? = W.heap[k]?)
    (hr : ∀ (i : Nat) (u : Value) (k : Nat), vs[i]? = some u → u.ownBlock = some k → W'.heap[k]? = W.heap[k]?) : Grid B v vs L W' :=
  ⟨own_far h.top ht, fun i u l hu hl => own_far (h.row i u l hu hl) (fun k hk => hr i u k hu hk), h.apart, by have := h.base; omega⟩
theorem Grid.made (B n : Nat) (W : World) (hB : B ≤ W.heap.size) (hn : n ≤ maxLen) (W' : World) (v : Value) (hv : W'.ownsRow B 86 1 v n (List.replicate n (.slice none 0 0))) (hs : W.heap.size ≤ W'.heap.size) :
    Grid B v (List.replicate n (.slice none 0 0)) (List.replicate n []) W' := by
  refine ⟨by rw [List.length_replicate]; exact hv, fun i u l hu hl => ?_, fun i j u u' b hu _ hb _ => ?_, by omega⟩
  · obtain rfl := (List.eq_of_mem_replicate (List.mem_of_getElem? hu))
    obtain rfl := (List.eq_of_mem_replicate (List.mem_of_getElem? hl))
    exact World.ownsRow_nil _ _ _ _
  · obtain rfl := (List.eq_of_mem_replicate (List.mem_of_getElem? hu))
    simp [Value.ownBlock] at hb

theorem Grid.put {B g n cap : Nat} {vs : List Value} {L : List (List Value)} {W W1 : World} (h : Grid B (.slice (some ⟨g, 0, none⟩) n cap) vs L W) (i : Nat) (u u' : Value) (l l' : List Value) (hn : n = L.length) (hu : vs[i]? = some u) (hl : L[i]? = some l)
    (hgrow : W.grownBy W1 u.ownBlock) (hown : W1.ownsRow B 3 1 u' l'.length l') (hat : u'.ownBlock = u.ownBlock ∨ ∀ k, u'.ownBlock = some k → W.heap.size ≤ k) :
    Grid B (.slice (some ⟨g, 0, none⟩) n cap) (vs.set i u') (L.set i l') (W1.setCell ⟨g, i, none⟩ u') := by
  subst hn
  have hlen := h.len
  have hi : i < vs.length := (List.getElem?_eq_some_iff.1 hu).1
  have hri := h.row i u l hu hl
  have htop1 : W1.ownsRow B 86 1 (.slice (some ⟨g, 0, none⟩) L.length cap) L.length vs := h.top.kept hgrow (own_ne h.top hri (by decide))
  have hst := htop1.stored i u'
  have hsz : W1.heap.size ≤ (W1.setCell ⟨g, i, none⟩ u').heap.size := by simp
  refine ⟨by rw [List.length_set]; exact hst.1, fun j v l2 hv hl2 => ?_, fun j k v v' b hv hv' hb hb' => ?_, by have := h.base; have := hgrow.size; omega⟩
  · by_cases hij : j = i
    · subst hij
      rw [List.getElem?_set_self (by omega)] at hv hl2
      cases hv; cases hl2
      exact hown.kept hst.2 (by have := own_ne hown htop1 (by decide); simpa [Value.ownBlock] using this)
    · rw [List.getElem?_set_ne (Ne.symm hij)] at hv hl2
      have hr := h.row j v l2 hv hl2
      have hr1 : W1.ownsRow B 3 1 v l2.length l2 := hr.kept hgrow (by
        cases hb : v.ownBlock with
        | none => exact .inl rfl
        | some b =>
          right
          intro hb'
          exact hij (h.apart j i v u b hv hu hb hb'.symm))
      exact hr1.kept hst.2 (by have := own_ne hr1 htop1 (by decide); simpa [Value.ownBlock] using this)
  · have key : ∀ (j : Nat) (v : Value) (b : Nat), j ≠ i → (vs.set i u')[j]? = some v → v.ownBlock = some b → u'.ownBlock = some b → False := by
      intro j v b hji hv hb hb'
      rw [List.getElem?_set_ne (Ne.symm hji)] at hv
      rcases hat with hat | hat
      · exact hji (h.apart j i v u b hv hu hb (hat ▸ hb'))
      · have hjl : j < L.length := by have := (List.getElem?_eq_some_iff.1 hv).1; omega
        have := ((h.row j v L[j] hv (by simp [hjl])).lt b hb).2
        have := hat b hb'
        omega
    by_cases hj : j = i
    · by_cases hk : k = i
      · omega
      · subst hj
        rw [List.getElem?_set_self (by omega)] at hv
        cases hv
        exact (key k v' b hk hv' hb' hb).elim
    · by_cases hk : k = i
      · subst hk
        rw [List.getElem?_set_self (by omega)] at hv'
        cases hv'
        exact (key j v b hj hv hb hb').elim
      · rw [List.getElem?_set_ne (Ne.symm hj)] at hv
        rw [List.getElem?_set_ne (Ne.symm hk)] at hv'
        exact h.apart j k v v' b hv hv' hb hb'
theorem Grid.turn {B : Nat} {v : Value} {vs : List Value} {L : List (List Value)} {W W1 : World} (h : Grid B v vs L W) (i : Nat) (u : Value) (l l' : List Value) (hu : vs[i]? = some u) (hl : L[i]? = some l)
    (hgrow : W.grownBy W1 u.ownBlock) (hown : W1.ownsRow B 3 1 u l'.length l') : Grid B v vs (L.set i l') W1 := by
  have hlen := h.len
  have hi : i < vs.length := (List.getElem?_eq_some_iff.1 hu).1
  have hri := h.row i u l hu hl
  refine ⟨by rw [List.length_set]; exact h.top.kept hgrow (own_ne h.top hri (by decide)), fun j v l2 hv hl2 => ?_, h.apart, by have := h.base; have := hgrow.size; omega⟩
  by_cases hij : j = i
  · subst hij
    rw [List.getElem?_set_self (by omega)] at hl2
    cases hl2
    rw [hu] at hv
    cases hv
    exact hown
  · rw [List.getElem?_set_ne (Ne.symm hij)] at hl2
    exact (h.row j v l2 hv hl2).kept hgrow (by
      cases hb : v.ownBlock with
      | none => exact .inl rfl
      | some b =>
        right
        intro hb'
        exact hij (h.apart j i v u b hv hu hb hb'.symm))
theorem Grid.rows {B : Nat} {v : Value} {vs : List Value} {S : List (List Nat)} {W : World} (h : Grid B v vs (S.map (·.map natC)) W) : RowsOf W.heap.size v S W := by
  have hlen := h.len
  simp only [List.length_map] at hlen
  rcases h.top.2 with ⟨rfl, h0⟩ | ⟨g, cap, cur, rfl, hb, hg, hc, _⟩
  · simp only [List.length_map] at h0
    exact .inl ⟨List.length_eq_zero_iff.1 h0, _, _, rfl⟩
  · refine .inr ⟨g, 0, cap, by rw [List.length_map], (Array.getElem?_eq_some_iff.1 hg).1, fun i l hl => ?_⟩
    have hi : i < vs.length := by have := (List.getElem?_eq_some_iff.1 hl).1; omega
    refine ⟨vs[i], ?_, ?_⟩
    · rw [Nat.zero_add]
      exact own_cell h.top i _ (by simp [hi])
    · exact (own_row (h.row i vs[i] (l.map natC) (by simp [hi]) (by rw [List.getElem?_map, hl]; rfl))).2
theorem Grid.shape {B : Nat} {v : Value} {vs : List Value} {L : List (List Value)} {W : World} (h : Grid B v vs L W) : ∃ a c, v = .slice a L.length c := by
  rcases h.top.2 with ⟨rfl, h0⟩ | ⟨g, cap, cur, rfl, _⟩
  · exact ⟨none, 0, by rw [h0]⟩
  · exact ⟨_, _, rfl⟩
-- grid_shape
end Go.Proofs.YtbbnoloploklkaaGreatDoor

namespace Go.Proofs.YtbbnoloploklkaaGreatDoor
set_option linter.unusedVariables false
set_option linter.unusedSimpArgs false
open Go Go.RowKit Go.Sort

def SpansOf (B : Nat) (v : Value) (es : List (Int × Int)) (W : World) : Prop :=
  ∃ ao cap, v = .slice ao es.length cap ∧ ∀ i x, es[i]? = some x → ∃ b off, ao = some ⟨b, off, none⟩ ∧ b < B ∧ W.cell? ⟨b, off + i * 2, none⟩ = some (intC x.1) ∧ W.cell? ⟨b, off + i * 2 + 1, none⟩ = some (intC x.2)
theorem SpansOf.below {B B' : Nat} {v : Value} {es : List (Int × Int)} {W W' : World} (h : SpansOf B v es W) (hb : Below B' W W') (hB : B ≤ B') : SpansOf B v es W' := by
  obtain ⟨ao, cap, rfl, h⟩ := h
  refine ⟨ao, cap, rfl, fun i x hx => ?_⟩
  obtain ⟨b, off, rfl, hlt, h1, h2⟩ := h i x hx
  exact ⟨b, off, rfl, hlt, (hb.cell (p := ⟨b, off + i * 2, none⟩) (by simp; omega)).trans h1, (hb.cell (p := ⟨b, off + i * 2 + 1, none⟩) (by simp; omega)).trans h2⟩
theorem SpansOf.mono {B B' : Nat} {v : Value} {es : List (Int × Int)} {W : World} (h : SpansOf B v es W) (hB : B ≤ B') : SpansOf B' v es W := by
  obtain ⟨ao, cap, rfl, h⟩ := h
  refine ⟨ao, cap, rfl, fun i x hx => ?_⟩
  obtain ⟨b, off, rfl, hlt, h1, h2⟩ := h i x hx
  exact ⟨b, off, rfl, by omega, h1, h2⟩
def spanCells (es : List (Int × Int)) : List Value := es.flatMap fun x => [intC x.1, intC x.2]
theorem spanCells_snoc (es : List (Int × Int)) (x : Int × Int) : spanCells (es ++ [x]) = spanCells es ++ [intC x.1, intC x.2] := by unfold spanCells; rw [List.flatMap_append]; rfl
theorem spanCells_length (es : List (Int × Int)) : (spanCells es).length = es.length * 2 := by
  induction es with
  | nil => rfl
  | cons x es ih => show (intC x.1 :: intC x.2 :: spanCells es).length = _; simp [ih]; omega
theorem spanCells_get (es : List (Int × Int)) (i : Nat) (x : Int × Int) (h : es[i]? = some x) : (spanCells es)[i * 2]? = some (intC x.1) ∧ (spanCells es)[i * 2 + 1]? = some (intC x.2) := by
  induction es generalizing i with
  | nil => simp at h
  | cons y es ih =>
    cases i with
    | zero => simp at h; subst h; exact ⟨rfl, rfl⟩
    | succ i =>
      have := ih i (by simpa using h)
      have e : ∀ j, (spanCells (y :: es))[j + 2]? = (spanCells es)[j]? := fun j => rfl
      rw [show (i + 1) * 2 = i * 2 + 2 by omega, show i * 2 + 2 + 1 = (i * 2 + 1) + 2 by omega, e, e]
      exact this
theorem own_spans {W : World} {B n : Nat} {v : Value} {es : List (Int × Int)} (h : W.ownsRow B 139 2 v n (spanCells es)) : SpansOf W.heap.size v es W := by
  have hl : n = es.length := by have := h.1; rw [spanCells_length] at this; omega
  subst hl
  rcases h.2 with ⟨rfl, h0⟩ | ⟨g, cap, cur, rfl, hb, hg, hc, _⟩
  · obtain rfl := List.length_eq_zero_iff.1 h0
    exact ⟨none, 0, rfl, fun i x hx => by simp at hx⟩
  · refine ⟨_, cap, rfl, fun i x hx => ⟨g, 0, rfl, (Array.getElem?_eq_some_iff.1 hg).1, ?_, ?_⟩⟩
    · have hi := (List.getElem?_eq_some_iff.1 hx).1
      rw [Nat.zero_add, h.cellAt (i * 2) (by omega)]
      exact (spanCells_get es i x hx).1
    · have hi := (List.getElem?_eq_some_iff.1 hx).1
      rw [Nat.zero_add, h.cellAt (i * 2 + 1) (by omega)]
      exact (spanCells_get es i x hx).2
theorem info_spans : (Tryz.prog.info? 139).map (fun i => (i.zero, i.size, i.bytes)) = some (some (.agg #[.int .i64 0, .int .i64 0]), 2, 16) := by kernel_rfl
abbrev spanV (x : Int × Int) : Value := .agg #[intC x.1, intC x.2]
def PredS (g : Nat) (lb : Array Value) (es : List (Int × Int)) (p : Int × Int → Bool) (w : World) : Prop :=
  ∀ (W : World) (x : Int × Int), x ∈ es → Below w.heap.size w W → Calls Tryz.prog g (#[spanV x] ++ lb) W fun e w' => e = .returned (.bool (p x)) ∧ Below w.heap.size w w'
set_option maxRecDepth 100000 in
set_option maxHeartbeats 2000000 in
theorem idx_spanE (g : Nat) (lb : Array Value) (eg : ∀ args w, (callFunc g args).run Tryz.prog w = .ok (.enter g args) w) (p : Int × Int → Bool) (v : Value) (es : List (Int × Int)) (w : World) (hes : es.length ≤ 1000000000) (hE : SpansOf w.heap.size v es w) (hp : PredS g lb es p w) :
    Calls Tryz.prog 204 #[v, .func (.func g) #[] lb] w fun e w' => ∃ r : Int, e = .returned (.int .i64 r) ∧ (0 ≤ r ↔ es.any p = true) ∧ Below w.heap.size w w' := by
  obtain ⟨ao, ec, rfl, hE⟩ := hE
  have HE := Lib.hid hE
  have HP := Lib.hid hp
  clear hE hp
  go_enter Tryz.func204, Tryz.ntmps204
  go_wp2
  go_loopw [8] (fun s wr => ∃ k : Nat, k ≤ es.length ∧ s = .int .i64 k ∧ Hid (Below w.heap.size w wr) ∧ Hid (∀ x ∈ es.take k, p x = false)) (fun s _ => es.length - (intOf s).toNat)
  case atStart => exact ⟨0, by omega, rfl, Lib.hid (Below.refl _ _), Lib.hid (by simp)⟩
  case round =>
    obtain ⟨k, hk, rfl, HB, HA⟩ := hrel
    by_cases hlt : k < es.length
    · have hlt2 : (k : Int) < (es.length : Int) := by omega
      obtain ⟨b, off, rfl, hb, hc1, hc2⟩ := HE.out k es[k] (by simp [hlt])
      have hc1 := (HB.out.cell (p := ⟨b, off + k * 2, none⟩) hb).trans hc1
      have hc2 := (HB.out.cell (p := ⟨b, off + k * 2 + 1, none⟩) hb).trans hc2
      have HT : Hid (es.take (k + 1) = es.take k ++ [es[k]]) := Lib.hid (List.take_succ_eq_append_getElem hlt)
      have hcall := HP.out wr es[k] (List.getElem_mem hlt) HB.out
      have HM : Hid (es[k] ∈ es) := Lib.hid (List.getElem_mem hlt)
      generalize es[k] = x at *
      cases hq : p x with
      | true =>
        rw [hq] at hcall
        have HQ := Lib.hid hq
        clear hq
        go_wp2_with (go_at_fn g; refine hcall.mono ?_; rintro e w' ⟨rfl, hb'⟩)
        go_ret
        exact ⟨_, rfl, ⟨fun _ => by rw [List.any_eq_true]; exact ⟨x, HM.out, HQ.out⟩, fun _ => by omega⟩, hb'⟩
      | false =>
        rw [hq] at hcall
        have HQ := Lib.hid hq
        clear hq
        go_wp2_with (go_at_fn g; refine hcall.mono ?_; rintro e w' ⟨rfl, hb'⟩)
        go_roundw
        case rel =>
          refine ⟨k + 1, by omega, by go_num, Lib.hid hb', Lib.hid ?_⟩
          rw [HT.out]
          intro y hy
          rcases List.mem_append.1 hy with hy | hy
          · exact HA.out y hy
          · rw [List.mem_singleton] at hy; rw [hy]; exact HQ.out
        case measure => simp [intOf]; omega
    · have hkk : k = es.length := by omega
      subst hkk
      rw [List.take_length] at HA
      go_wp2
      go_ret
      refine ⟨-1, rfl, ⟨fun h => by omega, fun h => ?_⟩, HB.out⟩
      rw [List.any_eq_true] at h
      obtain ⟨x, hx, hpx⟩ := h
      rw [HA.out x hx] at hpx
      cases hpx
theorem has_spanE (g : Nat) (lb : Array Value) (eg : ∀ args w, (callFunc g args).run Tryz.prog w = .ok (.enter g args) w) (p : Int × Int → Bool) (v : Value) (es : List (Int × Int)) (w : World) (hes : es.length ≤ 1000000000) (hE : SpansOf w.heap.size v es w) (hp : PredS g lb es p w) :
    Calls Tryz.prog 171 #[v, .func (.func g) #[] lb] w fun e w' => e = .returned (.bool (es.any p)) ∧ Below w.heap.size w w' := by
  have hi := idx_spanE g lb eg p v es w hes hE hp
  generalize es.any p = q at hi ⊢
  have HI := Lib.hid hi
  obtain ⟨ao, ec, rfl, _⟩ := hE
  clear hp eg hi
  go_enter Tryz.func171, Tryz.ntmps171
  go_wp2_with fail
  refine HI.out.mono ?_
  rintro e w' ⟨r, rfl, hr, hb⟩
  cases q with
  | true =>
    have h0 : 0 ≤ r := hr.2 rfl
    clear hr
    go_wp2
    go_ret
    exact ⟨rfl, hb⟩
  | false =>
    have h0 : ¬ 0 ≤ r := fun h => by have := hr.1 h; cases this
    have h1 : decide (0 ≤ r) = false := decide_eq_false h0
    have h2 : r < 0 := by omega
    clear hr
    go_wp2
    go_ret
    exact ⟨rfl, hb⟩
end Go.Proofs.YtbbnoloploklkaaGreatDoor

namespace Go.Proofs.YtbbnoloploklkaaGreatDoor
set_option linter.unusedVariables false
set_option linter.unusedSimpArgs false
open Go Go.RowKit Go.Maps

def ReadsI (D : DataW Unit) (f : Int → Int) (K : Int → Prop) : Prop :=
  IsMap D ∧ (∀ q, D.atKey (.int .i64 q) (.lit (.int .i64 0)) = .lit (.int .i64 (f q))) ∧ ∀ q, Maps.has D (.int .i64 q) = true ↔ K q
def keyE (E : List (Int × Int)) (q : Int) : Prop := q = 0 ∨ q = 1000000 ∨ ∃ x ∈ E, q = x.1 ∨ q = x.2
def SetsOf (B : Nat) (v : Value) (l : List (List (Int × Int))) (W : World) : Prop :=
  ∃ ao cap, v = .slice ao l.length cap ∧ ∀ i s, l[i]? = some s → ∃ b off r, ao = some ⟨b, off, none⟩ ∧ b < B ∧ W.cell? ⟨b, off + i, none⟩ = some r ∧ SpansOf B r s W
def CollI (D : DataW Unit) (left : Lit → Bool) (ks : List Int) : Prop := ks.Nodup ∧ ∀ x, x ∈ ks ↔ (Maps.has D (.int .i64 x) = true ∧ left (.int .i64 x) = false)
end Go.Proofs.YtbbnoloploklkaaGreatDoor

namespace Go.Proofs.YtbbnoloploklkaaGreatDoor
set_option linter.unusedVariables false
set_option linter.unusedSimpArgs false
open Go Go.RowKit

def ReqsOf (B : Nat) (v : Value) (l : List ReqL) (W : World) : Prop :=
  ∃ ao cap, v = .slice ao l.length cap ∧ ∀ i q, l[i]? = some q → ∃ b off r, ao = some ⟨b, off, none⟩ ∧ b < B ∧ W.cell? ⟨b, off + i * 2, none⟩ = some (.string q.1) ∧ W.cell? ⟨b, off + i * 2 + 1, none⟩ = some r ∧ SpansOf B r q.2 W
theorem ReqsOf.below {B B' : Nat} {v : Value} {l : List ReqL} {W W' : World} (h : ReqsOf B v l W) (hb : Below B' W W') (hB : B ≤ B') : ReqsOf B v l W' := by
  obtain ⟨ao, cap, rfl, h⟩ := h
  refine ⟨ao, cap, rfl, fun i q hq => ?_⟩
  obtain ⟨b, off, r, rfl, hlt, h1, h2, h3⟩ := h i q hq
  exact ⟨b, off, r, rfl, hlt, (hb.cell (p := ⟨b, off + i * 2, none⟩) (by simp; omega)).trans h1, (hb.cell (p := ⟨b, off + i * 2 + 1, none⟩) (by simp; omega)).trans h2, h3.below hb hB⟩
theorem ReqsOf.mono {B B' : Nat} {v : Value} {l : List ReqL} {W : World} (h : ReqsOf B v l W) (hB : B ≤ B') : ReqsOf B' v l W := by
  obtain ⟨ao, cap, rfl, h⟩ := h
  refine ⟨ao, cap, rfl, fun i q hq => ?_⟩
  obtain ⟨b, off, r, rfl, hlt, h1, h2, h3⟩ := h i q hq
  exact ⟨b, off, r, rfl, by omega, h1, h2, h3.mono hB⟩
def SelsOf (B : Nat) (v : Value) (l : List SelL) (W : World) : Prop :=
  ∃ ao cap, v = .slice ao l.length cap ∧ ∀ i y, l[i]? = some y → ∃ b off, ao = some ⟨b, off, none⟩ ∧ b < B ∧ W.cell? ⟨b, off + i * 4, none⟩ = some (.string y.1) ∧ W.cell? ⟨b, off + i * 4 + 1, none⟩ = some (intC y.2.1) ∧ W.cell? ⟨b, off + i * 4 + 2, none⟩ = some (intC y.2.2.1) ∧ W.cell? ⟨b, off + i * 4 + 3, none⟩ = some (intC y.2.2.2)
theorem SelsOf.below {B B' : Nat} {v : Value} {l : List SelL} {W W' : World} (h : SelsOf B v l W) (hb : Below B' W W') (hB : B ≤ B') : SelsOf B v l W' := by
  obtain ⟨ao, cap, rfl, h⟩ := h
  refine ⟨ao, cap, rfl, fun i q hq => ?_⟩
  obtain ⟨b, off, rfl, hlt, h1, h2, h3, h4⟩ := h i q hq
  have key : ∀ j, W'.cell? ⟨b, j, none⟩ = W.cell? ⟨b, j, none⟩ := fun j => hb.cell (p := ⟨b, j, none⟩) (by simp; omega)
  exact ⟨b, off, rfl, hlt, (key _).trans h1, (key _).trans h2, (key _).trans h3, (key _).trans h4⟩
theorem SelsOf.mono {B B' : Nat} {v : Value} {l : List SelL} {W : World} (h : SelsOf B v l W) (hB : B ≤ B') : SelsOf B' v l W := by
  obtain ⟨ao, cap, rfl, h⟩ := h
  refine ⟨ao, cap, rfl, fun i q hq => ?_⟩
  obtain ⟨b, off, rfl, hlt, h1⟩ := h i q hq
  exact ⟨b, off, rfl, by omega, h1⟩
def RelAt (B : Nat) (b o : Nat) (x : RelL) (W : World) : Prop :=
  ∃ r, W.cell? ⟨b, o, none⟩ = some (.string x.path) ∧ W.cell? ⟨b, o + 1, none⟩ = some (intC x.ver.1) ∧ W.cell? ⟨b, o + 2, none⟩ = some (intC x.ver.2.1) ∧ W.cell? ⟨b, o + 3, none⟩ = some (intC x.ver.2.2) ∧ W.cell? ⟨b, o + 4, none⟩ = some r ∧
    W.cell? ⟨b, o + 5, none⟩ = some (.string x.ar) ∧ W.cell? ⟨b, o + 6, none⟩ = some (.string x.ifc) ∧ W.cell? ⟨b, o + 7, none⟩ = some (.string x.cert) ∧ W.cell? ⟨b, o + 8, none⟩ = some (.bool x.yk) ∧ ReqsOf B r x.reqs W
theorem RelAt.below {B B' b o : Nat} {x : RelL} {W W' : World} (h : RelAt B b o x W) (hb : Below B' W W') (hB : B ≤ B') (hlt : b < B') : RelAt B b o x W' := by
  obtain ⟨r, h0, h1, h2, h3, h4, h5, h6, h7, h8, h9⟩ := h
  have key : ∀ j, W'.cell? ⟨b, j, none⟩ = W.cell? ⟨b, j, none⟩ := fun j => hb.cell (p := ⟨b, j, none⟩) hlt
  exact ⟨r, (key _).trans h0, (key _).trans h1, (key _).trans h2, (key _).trans h3, (key _).trans h4, (key _).trans h5, (key _).trans h6, (key _).trans h7, (key _).trans h8, h9.below hb hB⟩
theorem RelAt.mono {B B' b o : Nat} {x : RelL} {W : World} (h : RelAt B b o x W) (hB : B ≤ B') : RelAt B' b o x W := by
  obtain ⟨r, h0, h1, h2, h3, h4, h5, h6, h7, h8, h9⟩ := h
  exact ⟨r, h0, h1, h2, h3, h4, h5, h6, h7, h8, h9.mono hB⟩
def RelsOf (B : Nat) (v : Value) (l : List RelL) (W : World) : Prop :=
  ∃ ao cap, v = .slice ao l.length cap ∧ ∀ i x, l[i]? = some x → ∃ b off, ao = some ⟨b, off, none⟩ ∧ b < B ∧ RelAt B b (off + i * 9) x W
theorem RelsOf.below {B B' : Nat} {v : Value} {l : List RelL} {W W' : World} (h : RelsOf B v l W) (hb : Below B' W W') (hB : B ≤ B') : RelsOf B v l W' := by
  obtain ⟨ao, cap, rfl, h⟩ := h
  refine ⟨ao, cap, rfl, fun i q hq => ?_⟩
  obtain ⟨b, off, rfl, hlt, h1⟩ := h i q hq
  exact ⟨b, off, rfl, hlt, h1.below hb hB (by omega)⟩
theorem RelsOf.mono {B B' : Nat} {v : Value} {l : List RelL} {W : World} (h : RelsOf B v l W) (hB : B ≤ B') : RelsOf B' v l W := by
  obtain ⟨ao, cap, rfl, h⟩ := h
  refine ⟨ao, cap, rfl, fun i q hq => ?_⟩
  obtain ⟨b, off, rfl, hlt, h1⟩ := h i q hq
  exact ⟨b, off, rfl, by omega, h1.mono hB⟩
end Go.Proofs.YtbbnoloploklkaaGreatDoor

namespace Go.Proofs.YtbbnoloploklkaaGreatDoor
set_option linter.unusedVariables false
set_option linter.unusedSimpArgs false
open Go Go.RowKit Go.Shelf Go.Lib

def spanRen : Ren := ⟨fun _ => 183, fun x => if x = 0 then 0 else if x = 3 then 3 else if x = 4 then 4 else if x = 22 then 56 else 139, fun x => x⟩
theorem spanLays8 : SlLaysQ.n8 Tryz.prog spanRen := {
  mixed := by kernel_rfl
  f8 := ⟨Tryz.f183.name, by decide, Tryz.func183.trans (congrArg some (by kernel_rfl))⟩
  t0 := Tryz.underlying0
  a0 := Tryz.isAgg0
  z0 := Tryz.sizeOf0
  v0 := Tryz.zeroValue0
  t3 := Tryz.underlying3
  a3 := Tryz.isAgg3
  z3 := Tryz.sizeOf3
  v3 := Tryz.zeroValue3
  t4 := Tryz.underlying4
  a4 := Tryz.isAgg4
  z4 := Tryz.sizeOf4
  v4 := Tryz.zeroValue4
  t22 := Tryz.underlying56
  a22 := Tryz.isAgg56
  z22 := Tryz.sizeOf56
  v22 := Tryz.zeroValue56 }
def spanC (x : Int × Int) : List Value := [.int .i64 x.1, .int .i64 x.2]
theorem span_neq : NeqAt Tryz.prog 139 (fun x => .agg (spanC x).toArray) (fun x y => x.1 == y.1 && x.2 == y.2) := by
  refine ⟨fun x y w => ?_, GuardAt.agg _ (by kernel_rfl)⟩
  have u3 := Tryz.underlying3
  have a3 := Tryz.isAgg3
  have z3 := Tryz.sizeOf3
  have hS : Tryz.prog.underlying 139 = some (.struct (Tryz.prog.fieldsOf 139)) := by kernel_rfl
  have hp : Tryz.prog.stoodInHeld 139 = false := by kernel_rfl
  simp only [spanC]
  rw [run_neq_struct, show (10000 : Nat) = 9999 + 1 from rfl, run_equalIn_agg w 9999 139 _ _ hS hp]
  simp only [Program.fieldsOf, Tryz.underlying139]
  go_simp
  by_cases h1 : x.fst = y.fst <;> by_cases h2 : x.snd = y.snd <;> simp [h1, h2]
theorem spanEq_eq : ∀ (xs ys : List (Int × Int)), Lib.allEq (fun x y : Int × Int => x.1 == y.1 && x.2 == y.2) xs ys = decide (xs = ys)
  | [], [] => rfl
  | [], _ :: _ => rfl
  | _ :: _, [] => rfl
  | (a, b) :: xs, (c, d) :: ys => by
    simp only [Lib.allEq, spanEq_eq xs ys]
    by_cases h1 : a = c <;> by_cases h2 : b = d <;> by_cases h3 : xs = ys <;> simp [h1, h2, h3]
theorem spans_cells {B b off cap : Nat} {es : List (Int × Int)} {w : World} (h : SpansOf B (.slice (some ⟨b, off, none⟩) es.length cap) es w) : ∀ j, j < es.length → ∀ i v, (spanC es[j]!)[i]? = some v → w.cell? ⟨b, off + j * 2 + i, none⟩ = some v := by
  obtain ⟨ao, c, e, h⟩ := h
  cases e
  intro j hj i v hv
  rw [getElem!_pos es j hj] at hv
  obtain ⟨b', off', e, _, h1, h2⟩ := h j es[j] (by simp [hj])
  cases e
  match i, hv with
  | 0, hv => cases hv; exact h1
  | 1, hv => cases hv; exact h2
  | i + 2, hv => simp [spanC] at hv
set_option maxRecDepth 100000 in
theorem Equal_spans (v u : Value) (B : Nat) (xs ys : List (Int × Int)) (w : World) (hxl : xs.length ≤ 1000000000) (hyl : ys.length ≤ 1000000000) (h1 : SpansOf B v xs w) (h2 : SpansOf B u ys w) :
    Calls Tryz.prog 183 #[v, u] w fun e w' => e = .returned (.bool (decide (xs = ys))) ∧ ∃ q, w' = w.drewN q := by
  have g1 := h1
  have g2 := h2
  obtain ⟨a1, c1, rfl, k1⟩ := h1
  obtain ⟨a2, c2, rfl, k2⟩ := h2
  by_cases hl : xs.length = ys.length
  · by_cases hp : 0 < xs.length
    · obtain ⟨b1, o1, rfl, _⟩ := k1 0 xs[0] (by simp [hp])
      obtain ⟨b2, o2, rfl, _⟩ := k2 0 (ys[0]'(by omega)) (by simp)
      refine (AnyQ.slices_Equal spanLays8 2 Tryz.isAgg139 Tryz.sizeOf139 spanC (fun _ => rfl) _ span_neq b1 o1 xs.length c1 b2 o2 ys.length c2 xs ys w (Nat.le_refl _) (Nat.le_refl _) (by omega) (by omega) (spans_cells g1) (spans_cells g2)).mono ?_
      rintro e w' ⟨rfl, q, rfl⟩
      exact ⟨by rw [List.take_length, List.take_length, spanEq_eq], q, rfl⟩
    · have e1 : xs = [] := List.length_eq_zero_iff.1 (by omega)
      subst e1
      have e2 : ys = [] := List.length_eq_zero_iff.1 (by simpa using hl.symm)
      subst e2
      clear g1 g2 k1 k2 hxl hyl hp hl
      go_enter Tryz.func183, Tryz.ntmps183
      go_wp2_with fail
      go_loopw [13] (fun q wr => q = .int .i64 0 ∧ wr = w) (fun _ _ => 0)
      case atStart => exact ⟨rfl, rfl⟩
      case round =>
        obtain ⟨rfl, rfl⟩ := hrel
        go_wp2_with fail
        go_ret
        exact ⟨rfl, 0, rfl⟩
  · have hne : decide (xs = ys) = false := decide_eq_false fun e => hl (by rw [e])
    rw [hne]
    clear g1 g2 k1 k2 hne
    have hl2 : ¬ ((xs.length : Int) = (ys.length : Int)) := by omega
    have hl3 : decide ((xs.length : Int) = (ys.length : Int)) = false := decide_eq_false hl2
    go_enter Tryz.func183, Tryz.ntmps183
    go_wp2_with fail
    go_ret
    exact ⟨rfl, 0, rfl⟩
end Go.Proofs.YtbbnoloploklkaaGreatDoor

namespace Go.Proofs.YtbbnoloploklkaaGreatDoor
set_option linter.unusedVariables false
set_option linter.unusedSimpArgs false
open Go

theorem ltB_irrefl (a : ByteArray) : ltB a a = false := by
  unfold ltB
  generalize a.toList = l
  induction l with
  | nil => rfl
  | cons c l ih => simp [Op.bytesLess, ih]
def pathIx (s : List SelL) (p : ByteArray) : Option Nat := s.findIdx? fun z => decide (z.1 = p)
def nodeE (s : List SelL) (i : Nat) (l : List ReqL) : List (Int × Int) := l.filterMap fun q => (pathIx s q.1).map fun k => ((i : Int), (k : Int))
theorem nodeE_snoc (s : List SelL) (i : Nat) (l : List ReqL) (q : ReqL) : nodeE s i (l ++ [q]) = nodeE s i l ++ (match pathIx s q.1 with | some k => [((i : Int), (k : Int))] | none => []) := by
  unfold nodeE
  rw [List.filterMap_append]
  cases h : pathIx s q.1 <;> simp [h]
def reqsOf (X : List RelL) (y : SelL) : List ReqL := match findR X y with
  | some r => r.reqs
  | none => []
def edgesK (X : List RelL) (s : List SelL) (k : Nat) : List (Int × Int) := (List.range k).flatMap fun i => nodeE s i (reqsOf X (s.getD i default))
theorem edgesK_succ (X : List RelL) (s : List SelL) (k : Nat) : edgesK X s (k + 1) = edgesK X s k ++ nodeE s k (reqsOf X (s.getD k default)) := by
  unfold edgesK
  rw [List.range_succ, List.flatMap_append]
  simp
theorem nodeE_len (s : List SelL) (i : Nat) (l : List ReqL) : (nodeE s i l).length ≤ l.length := by
  unfold nodeE
  exact List.length_filterMap_le _ _
theorem edgesK_len (X : List RelL) (s : List SelL) (C : Nat) (h : ∀ y, (reqsOf X y).length ≤ C) : ∀ k, (edgesK X s k).length ≤ k * C
  | 0 => by simp [edgesK]
  | k + 1 => by
    have h1 := edgesK_len X s C h k
    have h2 := nodeE_len s k (reqsOf X (s.getD k default))
    have h3 := h (s.getD k default)
    rw [edgesK_succ, List.length_append, Nat.add_mul]
    omega
noncomputable def ofV (X : List RelL) (s : List SelL) : (List ByteArray × List (Int × Int)) × Int := open Classical in
  if checkX X ≠ 0 ∨ ¬ incrS s then (([], []), 1)
  else if (s.all fun y => (findR X y).isSome) = true then ((s.map (·.1), edgesK X s s.length), 0)
  else (([], []), 6)
inductive Need (X : List RelL) (roots : List ReqL) (s : List SelL) : ByteArray → Prop
  | root {q : ReqL} (h : q ∈ roots) : Need X roots s q.1
  | step {y : SelL} {q : ReqL} (hy : y ∈ s) (h : Need X roots s y.1) (hq : q ∈ reqsOf X y) : Need X roots s q.1
def metB (s : List SelL) (q : ReqL) : Bool := s.any fun y => decide (y.1 = q.1) && hasB q.2 (1000 * y.2.2.1 + y.2.2.2)
end Go.Proofs.YtbbnoloploklkaaGreatDoor

namespace Go.Proofs.YtbbnoloploklkaaGreatDoor
set_option linter.unusedVariables false
set_option linter.unusedSimpArgs false
open Go.Lib

def sucL (n : Nat) (es : List (Int × Int)) (i : Nat) : List Nat := (List.range n).filter fun k => es.contains ((i : Int), (k : Int))
def sucs (n : Nat) (es : List (Int × Int)) : List (List Nat) := (List.range n).map (sucL n es)
def rawL (es : List (Int × Int)) (i : Nat) : List Int := (es.filter fun e => e.1 == (i : Int)).map (·.2)
def validG (n : Nat) (es : List (Int × Int)) : Bool := decide (n ≤ 1024) && decide (es.length ≤ 4096) && es.all fun e => decide (0 ≤ e.1 ∧ e.1 < n ∧ 0 ≤ e.2 ∧ e.2 < n)

theorem sucs_length (n : Nat) (es : List (Int × Int)) : (sucs n es).length = n := by simp [sucs]
theorem sucs_get (n : Nat) (es : List (Int × Int)) (i : Nat) (h : i < n) : (sucs n es)[i]? = some (sucL n es i) := by simp [sucs, h]
theorem sucs_getD (n : Nat) (es : List (Int × Int)) (i : Nat) (h : i < n) : (sucs n es).getD i [] = sucL n es i := by rw [List.getD_eq_getElem?_getD, sucs_get n es i h]; rfl
theorem mem_sucL {n : Nat} {es : List (Int × Int)} {i k : Nat} : k ∈ sucL n es i ↔ k < n ∧ ((i : Int), (k : Int)) ∈ es := by simp [sucL]
theorem sucL_length (n : Nat) (es : List (Int × Int)) (i : Nat) : (sucL n es i).length ≤ n := by
  unfold sucL
  have := List.length_filter_le (fun k : Nat => es.contains ((i : Int), (k : Int))) (List.range n)
  simpa using this
theorem sucL_sorted (n : Nat) (es : List (Int × Int)) (i : Nat) : (sucL n es i).Pairwise (· < ·) := List.Pairwise.filter _ List.pairwise_lt_range

theorem rawL_snoc (es : List (Int × Int)) (e : Int × Int) (i : Nat) : rawL (es ++ [e]) i = if e.1 = (i : Int) then rawL es i ++ [e.2] else rawL es i := by
  unfold rawL
  rw [List.filter_append]
  by_cases h : e.1 = (i : Int) <;> simp [h]
theorem mem_rawL {es : List (Int × Int)} {i : Nat} {x : Int} : x ∈ rawL es i ↔ ((i : Int), x) ∈ es := by
  unfold rawL
  rw [List.mem_map]
  constructor
  · rintro ⟨⟨a, b⟩, h, rfl⟩
    rw [List.mem_filter] at h
    have : a = (i : Int) := by simpa using h.2
    subst this
    exact h.1
  · intro h
    exact ⟨((i : Int), x), List.mem_filter.2 ⟨h, by simp⟩, rfl⟩

theorem incr_ext : ∀ {a b : List Int}, a.Pairwise (· < ·) → b.Pairwise (· < ·) → (∀ x, x ∈ a ↔ x ∈ b) → a = b
  | [], [], _, _, _ => rfl
  | [], y :: b, _, _, h => by have := (h y).2 (by simp); simp at this
  | x :: a, [], _, _, h => by have := (h x).1 (by simp); simp at this
  | x :: a, y :: b, ha, hb, h => by
    rw [List.pairwise_cons] at ha hb
    have hxy : x = y := by
      have h1 := (h x).1 (by simp)
      have h2 := (h y).2 (by simp)
      rcases List.mem_cons.1 h1 with h1 | h1
      · exact h1
      · rcases List.mem_cons.1 h2 with h2 | h2
        · exact h2.symm
        · have := hb.1 x h1
          have := ha.1 y h2
          omega
    subst hxy
    congr 1
    refine incr_ext ha.2 hb.2 fun z => ?_
    have := h z
    constructor
    · intro hz
      rcases List.mem_cons.1 (this.1 (by simp [hz])) with e | e
      · have := ha.1 z hz; omega
      · exact e
    · intro hz
      rcases List.mem_cons.1 (this.2 (by simp [hz])) with e | e
      · have := hb.1 z hz; omega
      · exact e

theorem compactUpTo_incr (d : Array Int) (hs : ∀ i j, i ≤ j → j < d.size → d[i]! ≤ d[j]!) : ∀ m, m ≤ d.size →
    (compactUpTo d m).Pairwise (· < ·) ∧ (∀ x ∈ compactUpTo d m, ∃ j, j < m ∧ d[j]! = x) ∧ (∀ j, j < m → d[j]! ∈ compactUpTo d m)
  | 0, _ => by simp [compactUpTo]
  | m + 1, hm => by
    obtain ⟨h1, h2, h3⟩ := compactUpTo_incr d hs m (by omega)
    rw [compactUpTo_succ]
    by_cases hk : keeps d m = true
    · rw [if_pos hk]
      refine ⟨?_, ?_, ?_⟩
      · rw [List.pairwise_append]
        refine ⟨h1, by simp, fun x hx y hy => ?_⟩
        obtain ⟨j, hj, rfl⟩ := h2 x hx
        rw [List.mem_singleton] at hy
        subst hy
        unfold keeps at hk
        simp only [decide_eq_true_eq] at hk
        have h0 : d[m]! ≠ d[m - 1]! := by rcases hk with hk | hk
                                          · omega
                                          · exact hk
        have ha := hs j (m - 1) (by omega) (by omega)
        have hb := hs (m - 1) m (by omega) (by omega)
        omega
      · intro x hx
        rcases List.mem_append.1 hx with hx | hx
        · obtain ⟨j, hj, e⟩ := h2 x hx; exact ⟨j, by omega, e⟩
        · rw [List.mem_singleton] at hx; exact ⟨m, by omega, hx.symm⟩
      · intro j hj
        by_cases e : j = m
        · subst e; simp
        · exact List.mem_append_left _ (h3 j (by omega))
    · rw [if_neg hk, List.append_nil]
      refine ⟨h1, fun x hx => ?_, fun j hj => ?_⟩
      · obtain ⟨j, hj, e⟩ := h2 x hx; exact ⟨j, by omega, e⟩
      · by_cases e : j = m
        · subst e
          unfold keeps at hk
          simp only [decide_eq_true_eq, not_or, ne_eq, Decidable.not_not] at hk
          rw [hk.2]
          exact h3 (j - 1) (by omega)
        · exact h3 j (by omega)

theorem compact_sort (l : List Int) (t : List Int) (ht : t.Pairwise (· < ·)) (hm : ∀ x, x ∈ t ↔ x ∈ l) : compact (l.mergeSort fun x y => decide (x ≤ y)) = t := by
  have hp := List.mergeSort_perm l (fun x y => decide (x ≤ y))
  have hs := List.pairwise_mergeSort (le := fun (x y : Int) => decide (x ≤ y)) (fun a b c h1 h2 => by simp at *; omega) (fun a b => by simp; omega) l
  generalize l.mergeSort (fun x y => decide (x ≤ y)) = s at *
  have hsz : s.toArray.size = s.length := by simp
  have key := compactUpTo_incr s.toArray (fun i j hij hj => by
    have hj' : j < s.length := by simpa using hj
    rw [getElem!_pos s.toArray i (by simp; omega), getElem!_pos s.toArray j (by simpa using hj')]
    simp only [List.getElem_toArray]
    by_cases e : i = j
    · subst e; exact Int.le_refl _
    · have := List.pairwise_iff_getElem.1 hs i j (by omega) hj' (by omega)
      simpa using this) s.length (by simp)
  unfold compact
  refine incr_ext key.1 ht fun x => ?_
  rw [hm, ← hp.mem_iff]
  constructor
  · intro hx
    obtain ⟨j, hj, e⟩ := key.2.1 x hx
    rw [getElem!_pos s.toArray j (by simpa using hj)] at e
    simp only [List.getElem_toArray] at e
    rw [← e]
    exact List.getElem_mem hj
  · intro hx
    obtain ⟨j, hj, e⟩ := List.getElem_of_mem hx
    have := key.2.2 j hj
    rw [getElem!_pos s.toArray j (by simpa using hj)] at this
    simp only [List.getElem_toArray] at this
    rwa [e] at this

theorem validG_edge {n : Nat} {es : List (Int × Int)} (h : validG n es = true) {e : Int × Int} (he : e ∈ es) : 0 ≤ e.1 ∧ e.1 < n ∧ 0 ≤ e.2 ∧ e.2 < n := by
  unfold validG at h
  simp only [Bool.and_eq_true, List.all_eq_true, decide_eq_true_eq] at h
  exact h.2 e he
theorem validG_n {n : Nat} {es : List (Int × Int)} (h : validG n es = true) : n ≤ 1024 ∧ es.length ≤ 4096 := by
  unfold validG at h
  simp only [Bool.and_eq_true, decide_eq_true_eq] at h
  exact h.1
theorem compact_raw {n : Nat} {es : List (Int × Int)} (h : validG n es = true) (i : Nat) : compact ((rawL es i).mergeSort fun x y => decide (x ≤ y)) = ((sucL n es i).map Int.ofNat) := by
  refine compact_sort _ _ ?_ fun x => ?_
  · rw [List.pairwise_map]
    exact (sucL_sorted n es i).imp fun h => Int.ofNat_lt.2 h
  · rw [mem_rawL, List.mem_map]
    constructor
    · rintro ⟨k, hk, rfl⟩
      exact (mem_sucL.1 hk).2
    · intro hx
      have := validG_edge h hx
      have e : ((x.toNat : Nat) : Int) = x := by omega
      refine ⟨x.toNat, mem_sucL.2 ⟨by omega, ?_⟩, e⟩
      rw [e]
      exact hx
end Go.Proofs.YtbbnoloploklkaaGreatDoor

namespace Go.Proofs.YtbbnoloploklkaaGreatDoor
set_option linter.unusedVariables false
set_option linter.unusedSimpArgs false

inductive Rch (S : List (List Nat)) : Nat → Nat → Prop
  | refl (a : Nat) : Rch S a a
  | step {a b c : Nat} : b ∈ S.getD a [] → Rch S b c → Rch S a c
theorem Rch.trans {S : List (List Nat)} {a b c : Nat} (h : Rch S a b) (k : Rch S b c) : Rch S a c := by
  induction h with
  | refl => exact k
  | step hb _ ih => exact .step hb (ih k)

def Mono (a b : List Bool) : Prop := a.length = b.length ∧ ∀ i : Nat, a[i]? = some true → b[i]? = some true
theorem Mono.refl (a : List Bool) : Mono a a := ⟨rfl, fun _ h => h⟩
theorem Mono.trans {a b c : List Bool} (h : Mono a b) (k : Mono b c) : Mono a c := ⟨h.1.trans k.1, fun i hi => k.2 i (h.2 i hi)⟩

def VisR (S : List (List Nat)) (seen : List Bool) (n : Nat) (seen' : List Bool) : Prop :=
  Mono seen seen' ∧ seen'[n]? = some true ∧ ∀ a : Nat, seen'[a]? = some true → seen[a]? ≠ some true → Rch S n a ∧ ∀ k ∈ S.getD a [], seen'[k]? = some true
def VisL (S : List (List Nat)) (s0 : List Bool) (pre : List Nat) (sn : List Bool) : Prop :=
  Mono s0 sn ∧ (∀ k ∈ pre, sn[k]? = some true) ∧ ∀ a : Nat, sn[a]? = some true → s0[a]? ≠ some true → (∃ k ∈ pre, Rch S k a) ∧ ∀ k ∈ S.getD a [], sn[k]? = some true

theorem VisL.nil (S : List (List Nat)) (s0 : List Bool) : VisL S s0 [] s0 := ⟨Mono.refl _, by simp, fun a h1 h2 => absurd h1 h2⟩
theorem VisL.snoc {S : List (List Nat)} {s0 sn sn' : List Bool} {pre : List Nat} {k : Nat} (h : VisL S s0 pre sn) (hv : VisR S sn k sn') : VisL S s0 (pre ++ [k]) sn' := by
  obtain ⟨h1, h2, h3⟩ := h
  obtain ⟨v1, v2, v3⟩ := hv
  refine ⟨h1.trans v1, fun j hj => ?_, fun a ha hna => ?_⟩
  · rcases List.mem_append.1 hj with hj | hj
    · exact v1.2 _ (h2 j hj)
    · rw [List.mem_singleton] at hj; rw [hj]; exact v2
  · by_cases hs : sn[a]? = some true
    · obtain ⟨⟨j, hj, hr⟩, hc⟩ := h3 a hs hna
      exact ⟨⟨j, by simp [hj], hr⟩, fun i hi => v1.2 _ (hc i hi)⟩
    · obtain ⟨hr, hc⟩ := v3 a ha hs
      exact ⟨⟨k, by simp, hr⟩, hc⟩
theorem VisR.seen {S : List (List Nat)} {seen : List Bool} {n : Nat} (h : seen[n]? = some true) : VisR S seen n seen := ⟨Mono.refl _, h, fun a h1 h2 => absurd h1 h2⟩
theorem VisR.done {S : List (List Nat)} {seen sn : List Bool} {n : Nat} (h : seen[n]? = some false) (hl : VisL S (seen.set n true) (S.getD n []) sn) : VisR S seen n sn := by
  obtain ⟨h1, h2, h3⟩ := hl
  have hn : n < seen.length := (List.getElem?_eq_some_iff.1 h).1
  have hnn : (seen.set n true)[n]? = some true := List.getElem?_set_self hn
  refine ⟨⟨by rw [← h1.1, List.length_set], fun i hi => ?_⟩, h1.2 _ hnn, fun a ha hna => ?_⟩
  · refine h1.2 _ ?_
    by_cases e : i = n
    · subst e; exact hnn
    · rw [List.getElem?_set_ne (Ne.symm e)]; exact hi
  · by_cases e : a = n
    · subst e
      exact ⟨.refl _, h2⟩
    · obtain ⟨⟨k, hk, hr⟩, hc⟩ := h3 a ha (by rw [List.getElem?_set_ne (Ne.symm e)]; exact hna)
      exact ⟨.step hk hr, hc⟩

def unseen (l : List Bool) : Nat := l.count false
theorem Mono.left : ∀ {a b : List Bool}, Mono a b → unseen b ≤ unseen a
  | [], [], _ => Nat.le_refl _
  | [], _ :: _, h => by have := h.1; simp at this
  | _ :: _, [], h => by have := h.1; simp at this
  | x :: a, y :: b, h => by
    have ih := Mono.left (a := a) (b := b) ⟨by have := h.1; simpa using this, fun i hi => by have := h.2 (i + 1) (by simpa using hi); simpa using this⟩
    unfold unseen at *
    have h0 := h.2 0
    simp at h0
    rw [List.count_cons, List.count_cons]
    cases x <;> cases y <;> simp at h0 ⊢ <;> omega
theorem unseen_set : ∀ (l : List Bool) (n : Nat), l[n]? = some false → unseen (l.set n true) + 1 = unseen l
  | [], n, h => by simp at h
  | x :: l, 0, h => by
    simp at h
    subst h
    simp [unseen]
  | x :: l, n + 1, h => by
    have := unseen_set l n (by simpa using h)
    unfold unseen at *
    rw [List.set_cons_succ, List.count_cons, List.count_cons]
    omega
end Go.Proofs.YtbbnoloploklkaaGreatDoor
