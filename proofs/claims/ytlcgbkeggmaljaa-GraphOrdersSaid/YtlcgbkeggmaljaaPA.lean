/- A region that draws its order inside a round of a range over a function: whatever walks it outside serves there. A region that draws its order, cut in two: what comes in whatever order, and the operations at its end that wait for all of it. Rows in memory that read as lists; the graph's successors; the iterator over a row. Contract of the graph's iterator over the successors of a node. A slice of slices that a call makes itself, each row of its own. Graphs, plain: edges, successors; a list that is sorted and compacted. slices.Sort and slices.Compact at a row of the call's own. Contract of the graph's newSuccessors. -/
import Derived.OrdersIn
import Derived.OrdersHeld
import Derived.StillTailTactics
import Derived.RangeFuncNested
import Derived.RangeFuncCalls
import Derived.WalkKit
import Derived.Deep.RegionHeld3
import Derived.Test.YtlcgbkeggmaljaaProg
import Derived.RangeFuncBound
import Derived.RangeFuncLeaves
import Derived.Shelf.Abstract
import Derived.Shelf.RegionOpen
import Derived.OwnWalkIn
import Derived.TacticsInMore
import Derived.LoopNIn
import Derived.LoopIn
import Derived.WalkSpells
import Derived.WalkLawsBesides
import Derived.BigQuiet
import Derived.Deep.QuietTactic
import Derived.Deep.AppendLies
import Derived.Maps.AppendAt
import Derived.Lib.Hide
import Derived.Laws.EntriesVeiled
import Derived.Laws.OwnMore
import Derived.Sort.OwnSortedInts
import Derived.Lib.SlicesCompact
import Derived.Test.YtlcgbkeggmaljaaShelf
import Derived.Deep.OwnRows
import Derived.Outline
namespace Go.Proofs.Ytlcgbkeggmaljaa
set_option linter.unusedVariables false
set_option linter.unusedSimpArgs false
open Go Go.RowKit

/-- no operation defers, and none is a range over a map. -/
def calmOps (ops : Array Oper) : Bool := ops.all fun o => match o.op with | .defer _ => false | _ => true

theorem calmOps_spec {ops : Array Oper} (h : calmOps ops = true) {j : Nat} {o : Oper} (ho : ops[j]? = some o) (c : _) : o.op ≠ .defer c := fun e => by
  unfold calmOps at h
  rw [Array.all_eq_true'] at h
  have := h o (Array.mem_of_getElem? ho)
  rw [e] at this
  cases this

theorem oper_round {P : Program} {l n : Nat} {o : Oper} {a : Act} {w : World} {K K' : Act → World → Prop} {Q : Exit → Act → World → Prop} (hd : ∀ c, o.op ≠ .defer c)
    (hK : ∀ a w, K a w → K' a w) (h : o.wp P a w K Q) : o.wpIn (Fence.wide.inRound l) n P a w K' Q := by
  refine ⟨fun _ _ => trivial, ?_⟩
  rw [Oper.semAt_eq _ _ _ hd]
  unfold Oper.wp at h
  generalize (execOp a.eval o).run P w = r at *
  cases r with
  | ok x w' =>
    cases x <;> simp only [Oper.upon, Oper.uponIn] at h ⊢
    case value v => exact hK _ _ h
    case skip => exact hK _ _ h
    case defer d => exact hK _ _ h
    case enter f args =>
      refine ⟨fun h => (by cases h), ?_⟩
      refine CallsIn.inRound l (callsIn_wide.2 (h.mono ?_))
      intro e w'' he
      cases e with
      | returned v => exact hK _ _ he
      | panicked c => exact he
      | outgrown => exact he
    case row r args =>
      refine ⟨fun h => (by cases h), ?_⟩
      intro c cs _
      obtain ⟨v, w'', hv, hs⟩ := h c cs
      exact ⟨v, w'', hK _ _ hv, stepsIn_wide.2 hs⟩
  | halt x w' =>
    cases x <;> simp only [Oper.upon, Oper.uponIn] at h ⊢ <;> exact h

theorem op_round {P : Program} {l n : Nat} {ops : Array Oper} {Q : Exit → Act → World → Prop} {i : Nat} {a : Act} {w : World} {K K' : Act → World → Prop} (hd : calmOps ops = true) (hQ : ∀ a w, ¬ Q .outgrown a w)
    (hK : ∀ a w, K a w → K' a w) (h : wpOp P ops Q i K a w) : wpOpIn (Fence.wide.inRound l) n P ops Q i K' a w := by
  unfold wpOp at h
  unfold wpOpIn
  cases ho : ops[i]? with
  | none => simp only [ho] at h ⊢; exact hK _ _ h
  | some o =>
    simp only [ho] at h ⊢
    by_cases hw : Region.wanted o (yielded ops a.tmps) = true
    · rw [if_pos hw] at h ⊢
      rcases h with h | ⟨_, a0, w0, h⟩
      · exact oper_round (calmOps_spec hd ho) hK h
      · exact absurd h (hQ _ _)
    · rw [if_neg hw] at h ⊢
      exact ⟨fun _ _ => trivial, hK _ _ h⟩

theorem any_round {P : Program} {l n : Nat} {md : Region.Mode} {ops : Array Oper} {Q : Exit → Act → World → Prop} (hd : calmOps ops = true) (hQ : ∀ a w, ¬ Q .outgrown a w) :
    ∀ (fuel : Nat) (listed : Array Bool) (a : Act) (w : World), wpAny P md ops Q fuel listed a w → wpAnyIn (Fence.wide.inRound l) n P md ops Q fuel listed a w
  | 0, _, _, _, h => h
  | fuel + 1, listed, a, w, h => ⟨h.1, fun i hi => op_round hd hQ (fun a w h => any_round hd hQ fuel _ a w h) (h.2 i hi)⟩

/-- an operation that its guard passes over. -/
theorem wpStill_no {P : Program} {ops : Array Oper} {w : World} {Q : Act → Prop} {a : Act} {o : Oper} {rest : List Oper} (hw : Region.wanted o (yielded ops a.tmps) = false) (h : wpStill P ops w Q rest (a.put o.dst undef)) : wpStill P ops w Q (o :: rest) a := by
  refine wpStill_step fun K hK => ?_
  rw [hw]
  exact hK _ h
theorem wpStill_yes {P : Program} {ops : Array Oper} {w : World} {Q : Act → Prop} {a : Act} {o : Oper} {rest : List Oper} (hw : Region.wanted o (yielded ops a.tmps) = true) (h : ∀ K : Act → Prop, (∀ a, wpStill P ops w Q rest a → K a) → o.still P a w K) : wpStill P ops w Q (o :: rest) a := by
  refine wpStill_step fun K hK => ?_
  rw [hw]
  exact h K hK

/-- a region in a round, whatever order is drawn. -/
theorem region_round {P : Program} {l n id : Nat} {ops : Array Oper} {Q : Exit → Act → World → Prop} {a : Act} {w : World} (hm : P.follows .mixedOrders = true) (hd : calmOps ops = true) (hQ : ∀ a w, ¬ Q .outgrown a w)
    (h : wpAny P .any ops Q ops.size (Array.replicate ops.size false) a w.drew) : (Code.region id ops true).wpIn (Fence.wide.inRound l) n P Q a w :=
  wpIn_region_any hm (any_round hd hQ _ _ _ _ h)

/-- operations that only read, then a chain: in a round. -/
theorem region_round_tail {P : Program} {l n id : Nat} {Q : Exit → Act → World → Prop} {a : Act} {w : World} {lo : List Oper} (k : Nat) (hm : P.follows .mixedOrders = true) (hd : calmOps lo.toArray = true) (hQ : ∀ a w, ¬ Q .outgrown a w)
    (hB : Region.lexTailB .any lo.toArray k = true)
    (h : wpStill P lo.toArray w.drew (fun a' => wpList P lo.toArray Q (lo.drop k) a' w.drew) (lo.take k) a) : (Code.region id lo.toArray true).wpIn (Fence.wide.inRound l) n P Q a w := by
  refine region_round hm hd hQ ?_
  simp only [Region.lexTailB, Bool.and_eq_true, decide_eq_true_eq] at hB
  obtain ⟨⟨⟨⟨hsel, hn⟩, hs⟩, hc⟩, hlex⟩ := hB
  have hn' : k < lo.length := by simpa using hn
  have htl : (lo.take k).length = k := by simp; omega
  have hdl : (lo.drop k).length = lo.toArray.size - k := by simp
  have inv0 : HeadInv .any lo.toArray k (Array.replicate lo.toArray.size false) :=
    ⟨by simp, fun j oj _ hl => (by rw [getD_replicate_false] at hl; cases hl), fun t _ ht => getD_in (by simpa using ht) (getD_replicate_false _ _)⟩
  have H := wpAnyL_lex (md := .any) (g := lo.toArray.size - k) hsel hs hc hn (lo.take k) 0 _ a (fun j hj => by
    have hj' : j < k := by rw [htl] at hj; exact hj
    simp [hj']) (by simpa using htl) inv0 (by rw [htl]; exact hlex) h
  have := wpAny_of_head (Q' := Q) (g := lo.toArray.size - k) (fun listed a' hL => by
    have := wpAny_of_seq (md := .any) (Q' := Q) (lo.drop k) k listed a' w.drew (fun j => by simp [List.getElem?_drop]) (by rw [hdl]; exact hL.1) hL.2
    rwa [hdl] at this) _ _ _ H
  rw [htl, show k + (lo.toArray.size - k) = lo.toArray.size by omega] at this
  exact this

/-- a still chain behind a structure: whnf stops there. -/
structure Sealed (P : Program) (ops : Array Oper) (w : World) (Q : Act → Prop) (l : List Oper) (a : Act) : Prop where
  out : wpStill P ops w Q l a
theorem seal_nil {P : Program} {ops : Array Oper} {w : World} {Q : Act → Prop} {a : Act} (h : Q a) : Sealed P ops w Q [] a := ⟨wpStill_nil h⟩
theorem seal_no {P : Program} {ops : Array Oper} {w : World} {Q : Act → Prop} {a : Act} {o : Oper} {rest : List Oper} (hw : Region.wanted o (yielded ops a.tmps) = false) (h : Sealed P ops w Q rest (a.put o.dst undef)) : Sealed P ops w Q (o :: rest) a :=
  ⟨wpStill_no hw h.out⟩
theorem seal_yes {P : Program} {ops : Array Oper} {w : World} {Q : Act → Prop} {a : Act} {o : Oper} {rest : List Oper} (hw : Region.wanted o (yielded ops a.tmps) = true) (h : ∀ K : Act → Prop, (∀ a, Sealed P ops w Q rest a → K a) → o.still P a w K) : Sealed P ops w Q (o :: rest) a :=
  ⟨wpStill_yes hw fun K hK => h K fun a ha => hK a ha.out⟩

/-- a region in a round, by a walk that keeps S; it does not panic. -/
theorem region_roundP {P : Program} {l n id : Nat} {ops : Array Oper} {Q : Exit → Act → World → Prop} {a : Act} {w : World} {S : World → Prop} (hm : P.follows .mixedOrders = true) (hd : calmOps ops = true) (hQ : ∀ a w, ¬ Q .outgrown a w)
    (h : wpAnyH P .any ops (NoPanic Q) S ops.size (Array.replicate ops.size false) a w.drew) : (Code.region id ops true).wpIn (Fence.wide.inRound l) n P Q a w :=
  Code.wpIn_mono (fun e a w q => NoPanic.imp e a w q) (region_round hm hd (fun a w q => hQ a w q) (wpAny_of_held _ _ _ _ h))
/-- what two cells hold. -/
def HeldC (a b : Addr) (x y : Value) (W : World) : Prop := W.cell? a = some x ∧ W.cell? b = some y
/-- what three cells hold. -/
def HeldR (a b c : Addr) (x y z : Value) (W : World) : Prop := W.cell? a = some x ∧ W.cell? b = some y ∧ W.cell? c = some z
/-- what six cells hold. -/
def HeldS (a b c d e f : Addr) (x y z u v q : Value) (W : World) : Prop := W.cell? a = some x ∧ W.cell? b = some y ∧ W.cell? c = some z ∧ W.cell? d = some u ∧ W.cell? e = some v ∧ W.cell? f = some q
end Go.Proofs.Ytlcgbkeggmaljaa

namespace Go.Proofs.Ytlcgbkeggmaljaa
set_option linter.unusedVariables false
set_option linter.unusedSimpArgs false
open Go Go.RowKit

/-- what follows the first k operations. -/
def TailQ (P : Program) (lo : List Oper) (k : Nat) (Q : Exit → Act → World → Prop) : Exit → Act → World → Prop
  | .normal, a, w => wpList P lo.toArray Q (lo.drop k) a w
  | _, _, _ => False
def splitB (lo : List Oper) (k : Nat) : Bool :=
  (List.range k).all (fun i => match lo[i]? with
    | some o => o.guard.isNone && o.after.all (fun e => !Region.binds .any e || decide (e.on < i))
    | none => false) &&
  (List.range lo.length).all (fun i => decide (i < k) || (List.range k).all fun j => Region.waitsFor .any lo.toArray i j) &&
  Region.seqB .any lo.toArray (lo.length - k) k (Array.replicate k true ++ Array.replicate (lo.length - k) false) && decide (k ≤ lo.length)
theorem wpAny_more {P : Program} {md : Region.Mode} {ops : Array Oper} {Q : Exit → Act → World → Prop} (m : Nat) : ∀ (f : Nat) (listed : Array Bool) (a : Act) (w : World), wpAny P md ops Q f listed a w → wpAny P md ops Q (f + m) listed a w
  | 0, listed, a, w, h => by
    rw [Nat.zero_add]
    cases m with
    | zero => exact h
    | succ m => exact ⟨fun _ => h.2, by rw [h.1]; simp⟩
  | f + 1, listed, a, w, h => by
    rw [show f + 1 + m = (f + m) + 1 by omega]
    exact ⟨h.1, fun i hi => wpOp_mono (fun a' w' h' => wpAny_more m f _ a' w' h') (h.2 i hi)⟩
theorem oper_tail {P : Program} {o : Oper} {a : Act} {w : World} {K K' : Act → World → Prop} {T Q : Exit → Act → World → Prop} (hT : ∀ e a w, T e a w → e = .normal) (hK : ∀ a w, K a w → K' a w) (h : o.wp P a w K T) : o.wp P a w K' Q := by
  unfold Oper.wp at *
  generalize (execOp a.eval o).run P w = r at *
  cases r with
  | ok x w' =>
    cases x <;> simp only [Oper.upon] at h ⊢
    case value v => exact hK _ _ h
    case skip => exact hK _ _ h
    case defer d => exact hK _ _ h
    case enter f args =>
      refine h.mono fun e w'' he => ?_
      cases e with
      | returned v => exact hK _ _ he
      | panicked c => cases hT _ _ _ he
      | outgrown => obtain ⟨a, w, h⟩ := he; cases hT _ _ _ h
    case row r args =>
      intro c cs
      obtain ⟨v, w'', hv, hs⟩ := h c cs
      exact ⟨v, w'', hK _ _ hv, hs⟩
  | halt x w' =>
    cases x <;> simp only [Oper.upon] at h ⊢
    case panic v => cases hT _ _ _ h
theorem getD_head {k m : Nat} {listed : Array Bool} (hs : listed.size = k) {i : Nat} (hi : i < k) (d : Bool) : (listed ++ Array.replicate m false).getD i d = listed.getD i d := by
  rw [Array.getD_eq_getD_getElem?, Array.getD_eq_getD_getElem?, Array.getElem?_append_left (by omega)]
theorem getD_rest {k m : Nat} {listed : Array Bool} (hs : listed.size = k) {i : Nat} (hi : k ≤ i) : (listed ++ Array.replicate m false).getD i false = false := by
  rw [Array.getD_eq_getD_getElem?, Array.getElem?_append_right (by omega)]
  cases e : (Array.replicate m false)[i - listed.size]? with
  | none => rfl
  | some b => have := Array.getElem?_eq_some_iff.1 e; obtain ⟨h1, h2⟩ := this; simp at h2; simp [h2]
theorem wpAny_split {P : Program} {lo : List Oper} {k : Nat} {Q : Exit → Act → World → Prop} (hB : splitB lo k = true) : ∀ (f : Nat) (listed : Array Bool) (a : Act) (w : World), listed.size = k →
    wpAny P .any (lo.take k).toArray (TailQ P lo k Q) f listed a w → wpAny P .any lo.toArray Q (f + (lo.length - k)) (listed ++ Array.replicate (lo.length - k) false) a w := by
  simp only [splitB, Bool.and_eq_true, decide_eq_true_eq] at hB
  obtain ⟨⟨⟨h1, h2⟩, h3⟩, hk⟩ := hB
  have hto : ∀ i, i < k → (lo.take k).toArray[i]? = lo.toArray[i]? := fun i hi => by simp [List.getElem?_take, hi]
  have hhead : ∀ i, i < k → ∃ o, lo.toArray[i]? = some o ∧ o.guard = none ∧ ∀ e ∈ o.after, Region.binds .any e = true → e.on < i := fun i hi => by
    have := List.all_eq_true.1 h1 i (List.mem_range.2 hi)
    cases e : lo[i]? with
    | none => rw [e] at this; cases this
    | some o =>
      rw [e] at this
      simp only [Bool.and_eq_true, Option.isNone_iff_eq_none, Array.all_eq_true', Bool.or_eq_true, Bool.not_eq_true', decide_eq_true_eq] at this
      refine ⟨o, by simpa using e, this.1, fun e' he hb => ?_⟩
      rcases this.2 e' he with h | h
      · rw [hb] at h; cases h
      · exact h
  have hall : ∀ (listed : Array Bool), listed.size = k → Region.ready .any (lo.take k).toArray listed = [] → ∀ i, i < k → listed.getD i true = true := by
    intro listed hs hr i
    induction i using Nat.strongRecOn with
    | _ i ih =>
      intro hi
      cases hb : listed.getD i true with
      | true => rfl
      | false =>
        obtain ⟨o, ho, _, hon⟩ := hhead i hi
        have : i ∈ Region.ready .any (lo.take k).toArray listed := mem_ready.2 ⟨hb, o, (hto i hi).trans ho, fun e he hbd => by
          have hlt := hon e he hbd
          have := ih e.on hlt (by omega)
          have hsz : e.on < listed.size := by omega
          simp [hsz] at this ⊢
          exact this⟩
        rw [hr] at this
        cases this
  have hdone : ∀ (listed : Array Bool) (a : Act) (w : World) (f : Nat), listed.size = k → Region.ready .any (lo.take k).toArray listed = [] → wpList P lo.toArray Q (lo.drop k) a w → wpAny P .any lo.toArray Q (f + (lo.length - k)) (listed ++ Array.replicate (lo.length - k) false) a w := by
    intro listed a w f hs hr hw
    have hl : listed = Array.replicate k true := by
      apply Array.ext
      · simp [hs]
      · intro i hi1 hi2
        have := hall listed hs hr i (by omega)
        simp [hi1] at this
        simp [this]
    rw [hl, Nat.add_comm]
    refine wpAny_more f _ _ _ _ ?_
    have := wpAny_of_seq (md := .any) (Q' := Q) (ops := lo.toArray) (P := P) (lo.drop k) k (Array.replicate k true ++ Array.replicate (lo.length - k) false) a w (fun j => by simp [List.getElem?_drop]) (by rw [List.length_drop]; exact h3) hw
    rwa [List.length_drop] at this
  intro f
  induction f with
  | zero =>
    intro listed a w hs h
    exact hdone listed a w 0 hs h.1 h.2
  | succ f ih =>
    intro listed a w hs h
    by_cases hr : Region.ready .any (lo.take k).toArray listed = []
    · exact hdone listed a w (f + 1) hs hr (h.1 hr)
    · have hin : ∀ i, i ∈ Region.ready .any lo.toArray (listed ++ Array.replicate (lo.length - k) false) → i < k ∧ i ∈ Region.ready .any (lo.take k).toArray listed := by
        intro i hi
        obtain ⟨hu, o, ho, hw⟩ := mem_ready.1 hi
        by_cases hik : i < k
        · refine ⟨hik, mem_ready.2 ⟨by rw [← getD_head (m := lo.length - k) hs hik]; exact hu, o, (hto i hik).trans ho, fun e he hb => ?_⟩⟩
          have := hw e he hb
          by_cases hek : e.on < k
          · rwa [getD_head hs hek] at this
          · rw [getD_rest hs (by omega)] at this; cases this
        · exfalso
          obtain ⟨j, hj⟩ := List.exists_mem_of_ne_nil _ hr
          obtain ⟨hju, oj, hoj, _⟩ := mem_ready.1 hj
          have hjk : j < k := by have := (Array.getElem?_eq_some_iff.1 hoj).1; simp at this; omega
          have hil : i < lo.length := by have := (Array.getElem?_eq_some_iff.1 ho).1; simpa using this
          have h4 := List.all_eq_true.1 h2 i (List.mem_range.2 hil)
          simp only [Bool.or_eq_true, decide_eq_true_eq] at h4
          rcases h4 with h4 | h4
          · omega
          · obtain ⟨oi, hoi, e, he, hb, hon⟩ := Region.waitsFor_spec (List.all_eq_true.1 h4 j (List.mem_range.2 hjk))
            rw [ho] at hoi
            cases hoi
            have := hw e he hb
            rw [hon, getD_head hs hjk] at this
            rw [getD_both hju] at this
            cases this
      rw [show f + 1 + (lo.length - k) = (f + (lo.length - k)) + 1 by omega]
      refine ⟨fun h0 => ?_, fun i hi => ?_⟩
      · exfalso
        obtain ⟨j, hj⟩ := List.exists_mem_of_ne_nil _ hr
        obtain ⟨hju, oj, hoj, hw⟩ := mem_ready.1 hj
        have hjk : j < k := by have := (Array.getElem?_eq_some_iff.1 hoj).1; simp at this; omega
        have : j ∈ Region.ready .any lo.toArray (listed ++ Array.replicate (lo.length - k) false) := mem_ready.2 ⟨by rw [getD_head hs hjk]; exact hju, oj, (hto j hjk).symm.trans hoj, fun e he hb => by
          have := hw e he hb
          by_cases hek : e.on < k
          · rwa [getD_head hs hek]
          · rw [Array.getD_eq_getD_getElem?, Array.getElem?_eq_none (by omega)] at this; cases this⟩
        rw [h0] at this
        cases this
      · obtain ⟨hik, hi2⟩ := hin i hi
        obtain ⟨o, ho, hg, _⟩ := hhead i hik
        have hh := h.2 i hi2
        unfold wpOp at hh ⊢
        rw [hto i hik, ho] at hh
        rw [ho]
        simp only at hh ⊢
        have hw1 : ∀ y, Region.wanted o y = true := fun y => by simp [Region.wanted, hg]
        rw [if_pos (hw1 _)] at hh ⊢
        rcases hh with hh | ⟨_, a0, w0, hh⟩
        · refine .inl (oper_tail (T := TailQ P lo k Q) (fun e a w ht => by cases e <;> first | rfl | exact ht.elim) (fun a' w' hk' => ?_) hh)
          have := ih (listed.setIfInBounds i true) a' w' (by simp [hs]) hk'
          rwa [show (listed ++ Array.replicate (lo.length - k) false).setIfInBounds i true = listed.setIfInBounds i true ++ Array.replicate (lo.length - k) false from by
            rw [Array.setIfInBounds_append_left (by omega)]]
        · exact hh.elim
/-- the beginning, from the first k operations in whatever order, S held among them. -/
theorem any_split {P : Program} {lo : List Oper} {Q : Exit → Act → World → Prop} {S : World → Prop} {a : Act} {w : World} (k : Nat) (hB : splitB lo k = true)
    (h : wpAnyH P .any (lo.take k).toArray (TailQ P lo k Q) S k (Array.replicate k false) a w) : wpAny P .any lo.toArray Q lo.toArray.size (Array.replicate lo.toArray.size false) a w := by
  have hk : k ≤ lo.length := by simp only [splitB, Bool.and_eq_true, decide_eq_true_eq] at hB; exact hB.2
  have := wpAny_split (Q := Q) hB k (Array.replicate k false) a w (by simp) (wpAny_of_held _ _ _ _ h)
  rw [show k + (lo.length - k) = lo.toArray.size by simp; omega, Array.replicate_append_replicate, show k + (lo.length - k) = lo.toArray.size by simp; omega] at this
  exact this
theorem region_plain_split {P : Program} {id : Nat} {lo : List Oper} {Q : Exit → Act → World → Prop} {a : Act} {w : World} {S : World → Prop} (k : Nat) (hm : P.follows .mixedOrders = true) (hB : splitB lo k = true)
    (h : wpAnyH P .any (lo.take k).toArray (TailQ P lo k Q) S k (Array.replicate k false) a w.drew) : (Code.region id lo.toArray true).wp P Q a w := wp_region_any hm (any_split k hB h)
theorem region_round_split {P : Program} {l n id : Nat} {lo : List Oper} {Q : Exit → Act → World → Prop} {a : Act} {w : World} {S : World → Prop} (k : Nat) (hm : P.follows .mixedOrders = true) (hd : calmOps lo.toArray = true) (hQ : ∀ a w, ¬ Q .outgrown a w) (hB : splitB lo k = true)
    (h : wpAnyH P .any (lo.take k).toArray (TailQ P lo k Q) S k (Array.replicate k false) a w.drew) : (Code.region id lo.toArray true).wpIn (Fence.wide.inRound l) n P Q a w := region_round hm hd hQ (any_split k hB h)
end Go.Proofs.Ytlcgbkeggmaljaa

namespace Go.Proofs.Ytlcgbkeggmaljaa
set_option linter.unusedVariables false
set_option linter.unusedSimpArgs false
open Go Go.RowKit

theorem cellA {W : World} {a : Addr} {v : Value} (o : Obj) (h : W.cell? a = some v) : (W.alloc o).cell? a = some v := cell_kept h (World.grownBy_alloc W o none) (fun r e => by cases e)
theorem frozA {W : World} {a : Addr} {v : Value} (o : Obj) (h : W.cell? a = some v) (hf : W.frozen? a = false) : (W.alloc o).frozen? a = false := (frozen_kept h (World.grownBy_alloc W o none) (fun r e => by cases e)).trans hf
theorem grownD {w w' : World} {row : Option Nat} (h : w.grownBy w' row) : w.grownBy w'.drew row := ⟨h.os, h.tape, h.output, h.size, h.block⟩
theorem ownFrom_grown {β : Type} {w : World} {row : Option Nat} {B : Nat} (hB : w.heap.size ≤ B) : OwnFrom B (fun (_ : β) W => w.grownBy W row) := fun _ W W' r h hg hr =>
  h.andThen hg (fun j e => .inl (Nat.le_trans hB (hr j e).1))
/-- what holds of blocks of cells alone is kept where no such block is turned. -/
theorem blk_turn {W W' : World} {row : Option Nat} {b t : Nat} {cs : Array Value} {f : Nat × Nat} (h : W.heap[b]? = some (.cells cs t f)) (hg : W.grownBy W' row) (hr : ∀ r, row = some r → ∃ o : Obj, W.heap[r]? = some o ∧ o.isCells = false) : W'.heap[b]? = some (.cells cs t f) :=
  (hg.block b (Array.getElem?_eq_some_iff.1 h).1 (fun e => by obtain ⟨o, ho, hc⟩ := hr b e.symm; rw [h] at ho; cases ho; cases hc)).trans h
/-- a number that is no less than 0. -/
abbrev natC (k : Nat) : Value := .int .i64 (k : Int)
/-- a slice that reads as a list, in a block below B. -/
def RowOf {α : Type} (enc : α → Value) (B : Nat) (v : Value) (l : List α) (W : World) : Prop :=
  (l = [] ∧ ∃ a c, v = .slice a 0 c) ∨ ∃ b off cap, v = .slice (some ⟨b, off, none⟩) l.length cap ∧ b < B ∧ ∀ i x, l[i]? = some x → W.cell? ⟨b, off + i, none⟩ = some (enc x)
/-- a slice of slices that reads as a list of lists. -/
def RowsOf (B : Nat) (v : Value) (S : List (List Nat)) (W : World) : Prop :=
  (S = [] ∧ ∃ a c, v = .slice a 0 c) ∨ ∃ b off cap, v = .slice (some ⟨b, off, none⟩) S.length cap ∧ b < B ∧ ∀ i l, S[i]? = some l → ∃ r, W.cell? ⟨b, off + i, none⟩ = some r ∧ RowOf natC B r l W

theorem RowOf.below {α : Type} {enc : α → Value} {B B' : Nat} {v : Value} {l : List α} {W W' : World} (h : RowOf enc B v l W) (hb : Below B' W W') (hB : B ≤ B') : RowOf enc B v l W' := by
  rcases h with h | ⟨b, off, cap, h1, h2, h3⟩
  · exact .inl h
  · exact .inr ⟨b, off, cap, h1, h2, fun i x hx => (hb.cell (p := ⟨b, off + i, none⟩) (by simp; omega)).trans (h3 i x hx)⟩
theorem RowOf.mono {α : Type} {enc : α → Value} {B B' : Nat} {v : Value} {l : List α} {W : World} (h : RowOf enc B v l W) (hB : B ≤ B') : RowOf enc B' v l W := by
  rcases h with h | ⟨b, off, cap, h1, h2, h3⟩
  · exact .inl h
  · exact .inr ⟨b, off, cap, h1, by omega, h3⟩
theorem RowsOf.below {B B' : Nat} {v : Value} {S : List (List Nat)} {W W' : World} (h : RowsOf B v S W) (hb : Below B' W W') (hB : B ≤ B') : RowsOf B v S W' := by
  rcases h with h | ⟨b, off, cap, h1, h2, h3⟩
  · exact .inl h
  · refine .inr ⟨b, off, cap, h1, h2, fun i x hx => ?_⟩
    obtain ⟨r, hr, hl⟩ := h3 i x hx
    exact ⟨r, (hb.cell (p := ⟨b, off + i, none⟩) (by simp; omega)).trans hr, hl.below hb hB⟩
theorem RowsOf.mono {B B' : Nat} {v : Value} {S : List (List Nat)} {W : World} (h : RowsOf B v S W) (hB : B ≤ B') : RowsOf B' v S W := by
  rcases h with h | ⟨b, off, cap, h1, h2, h3⟩
  · exact .inl h
  · refine .inr ⟨b, off, cap, h1, by omega, fun i x hx => ?_⟩
    obtain ⟨r, hr, hl⟩ := h3 i x hx
    exact ⟨r, hr, hl.mono hB⟩

/-- what a range over of yields. -/
def ofL (S : List (List Nat)) (node least : Nat) : List Nat := (S.getD node []).filter (fun k => decide (least ≤ k))
/-- what a round must keep: one box, and what was there before. -/
def KpB (Bn B0 : Nat) (W W' : World) : Prop := W'.heap[Bn]? = W.heap[Bn]? ∧ Below B0 W W'
theorem kpB_t {Bn B0 : Nat} {A B C : World} (h : KpB Bn B0 A B) (k : KpB Bn B0 B C) : KpB Bn B0 A C := ⟨k.1.trans h.1, h.2.trans k.2⟩
theorem kpB_b {Bn B0 : Nat} {w : World} (hn : B0 ≤ w.heap.size) (hBn : Bn < w.heap.size) (W : World) (l : Nat) (o o' : Obj) (hl : w.heap.size ≤ l) (h : W.heap[l]? = some o) (h1 : o.isCells = false) (h2 : o.isWalk = false) : KpB Bn B0 W (W.putObj l o') :=
  ⟨World.putObj_heap_other (by omega), belowK_b hn W l o o' hl h h1 h2⟩

attribute [local go_sem] Oper.semAt_some

set_option maxHeartbeats 1000000 in
/-- of: its parameters are boxed; the function value holds the boxes. -/
theorem of_in (n : Nat) (v : Value) (node least : Int) (w : World) (hv : v.oneCell' = true) :
    CallsIn Fence.wide n Try.prog 42 #[v, .int .i64 node, .int .i64 least] w fun e w' =>
      e = .returned (.func (.func 64) #[] #[.pointer (some ⟨w.heap.size, 0, none⟩), .pointer (some ⟨w.heap.size + 1, 0, none⟩), .pointer (some ⟨w.heap.size + 1 + 1, 0, none⟩)]) ∧
      w' = ((w.alloc (.cells #[v] 53)).alloc (.cells #[.int .i64 node] 3)).alloc (.cells #[.int .i64 least] 3) := by
  refine callsIn_of_wp Try.func42 rfl trivial ?_ rfl
  simp only [Try.ntmps42, List.size_toArray, List.length_cons, List.length_nil, Nat.reduceAdd, Nat.reduceSub, Array.replicate_succ, Array.replicate_zero, List.push_toArray, List.append_toArray, List.nil_append, List.cons_append]
  cases v <;> first | (simp [Value.oneCell'] at hv; done) | skip
  all_goals
    gi_wp2
    go_ret
    exact ⟨rfl, rfl⟩
end Go.Proofs.Ytlcgbkeggmaljaa

namespace Go.Proofs.Ytlcgbkeggmaljaa
set_option linter.unusedVariables false
set_option linter.unusedSimpArgs false
open Go Go.RowKit

/-- a successor that is yielded. -/
abbrev OfT (S : List (List Nat)) (node least : Nat) := { k : Nat // k ∈ ofL S node least }
/-- the nodes of some that have been yielded. -/
def valsOf {S : List (List Nat)} {node least : Nat} (l : List (OfT S node least)) : List Nat := l.map (·.1)
theorem valsOf_snoc {S : List (List Nat)} {node least : Nat} (l : List (OfT S node least)) (x : OfT S node least) : valsOf (l ++ [x]) = valsOf l ++ [x.1] := by simp [valsOf]
theorem valsOf_length {S : List (List Nat)} {node least : Nat} (l : List (OfT S node least)) : (valsOf l).length = l.length := by simp [valsOf]
theorem pref_cast {a a' b b' : List Nat} (h : a <+: b) (ha : a = a') (hb : b = b') : a' <+: b' := by subst ha hb; exact h
theorem len_cast {b b' : List Nat} {n : Nat} (h : n < b.length) (hb : b = b') : n < b'.length := by subst hb; exact h
theorem mem_cast {b b' : List Nat} {n : Nat} (h : n ∈ b) (hb : b = b') : n ∈ b' := by subst hb; exact h
def encOf {S : List (List Nat)} {node least : Nat} (x : OfT S node least) : Array Value := #[natC x.1]
theorem filter_take (p : Nat → Bool) (l : List Nat) (k : Nat) (h : k < l.length) : (l.take (k + 1)).filter p = if p l[k] then (l.take k).filter p ++ [l[k]] else (l.take k).filter p := by
  rw [List.take_succ_eq_append_getElem h, List.filter_append]
  by_cases hp : p l[k] <;> simp [hp]
theorem filter_pref (p : Nat → Bool) (l : List Nat) (k : Nat) : (l.take k).filter p <+: l.filter p := by
  obtain ⟨t, ht⟩ := List.take_prefix k l
  refine ⟨t.filter p, ?_⟩
  conv => rhs; rw [← ht]
  rw [List.filter_append]

attribute [local go_sem] Oper.semAt_some

set_option maxRecDepth 100000 in
set_option maxHeartbeats 4000000 in
theorem of1_in (n : Nat) (hn : 1 ≤ n) (l Bs B0 : Nat) (v : Value) (S : List (List Nat)) (node least : Nat) (J Jx : List (OfT S node least) → World → Prop) (W0 : World) (hnode : node < S.length) (hS63 : S.length ≤ 1000000000) (hl63 : (S.getD node []).length ≤ 1000000000)
    (hJ : AbidesFrom W0.heap.size J)
    (hY : ∀ pre x W, J pre W → pre.length < (ofL S node least).length → YieldAt Fence.wide (n - 1) Try.prog l (encOf x) W fun e W' =>
      (e = .returned (.bool true) ∧ J (pre ++ [x]) W' ∧ KpB (Bs + 1 + 1) B0 W W') ∨ (e = .returned (.bool false) ∧ Jx (pre ++ [x]) W'))
    (h0b : Boxed W0 Bs 53 v) (h1b : Boxed W0 (Bs + 1) 3 (natC node)) (h2b : Boxed W0 (Bs + 1 + 1) 3 (natC least)) (hR : RowsOf B0 v S W0) (h0 : J [] W0) :
    CallsIn Fence.wide n Try.prog 64 #[.func (.yield l) #[] #[], .pointer (some ⟨Bs, 0, none⟩), .pointer (some ⟨Bs + 1, 0, none⟩), .pointer (some ⟨Bs + 1 + 1, 0, none⟩)] W0 fun e W' => (∃ v, e = .returned v) ∧
      ((∃ ys : List (OfT S node least), valsOf ys = ofL S node least ∧ J ys W') ∨ (∃ pre : List (OfT S node least), valsOf pre <+: ofL S node least ∧ Jx pre W')) := by
  rcases hR with ⟨rfl, _⟩ | ⟨b, off, cap, rfl, hbB, hR⟩
  · simp at hnode
  obtain ⟨r, hr, hrow⟩ := hR node (S[node]) (by simp [hnode])
  have hg : S.getD node [] = S[node] := by simp [hnode]
  generalize S[node] = L at *
  have hc0 := h0b.cell
  have hc1 := h1b.cell
  have hc2 := h2b.cell
  have hlt2 := h2b.lt
  have hx0 : (0 : Int) ≤ (node : Int) := Int.natCast_nonneg _
  have hx1 : (node : Int) < (S.length : Int) := by omega
  have HB2 := Lib.hid h2b
  have HY := Lib.hid hY
  have HJ := Lib.hid hJ
  have HO : Hid (ofL S node least = L.filter (fun k => decide (least ≤ k))) := Lib.hid (by unfold ofL; rw [hg])
  have HG := Lib.hid hg
  clear hY hJ h2b hR hg
  refine callsIn_of_wp Try.func64 rfl trivial ?_ rfl
  simp only [Try.ntmps64, List.size_toArray, List.length_cons, List.length_nil, Nat.reduceAdd, Nat.reduceSub, Array.replicate_succ, Array.replicate_zero, List.push_toArray, List.append_toArray, List.nil_append, List.cons_append]
  rcases hrow with ⟨rfl, a', c', rfl⟩ | ⟨b', off', cap', rfl, hbB', hrow⟩
  · gi_wp2
    gi_loopw [12] (fun p wr => p = .int .i64 0 ∧ Hid (J [] wr)) (fun _ _ => 0)
    case atStart => exact ⟨rfl, Lib.hid h0⟩
    case round =>
      clear h0
      obtain ⟨rfl, HJ0⟩ := hrel
      gi_wp2
      go_end0
      exact ⟨⟨_, rfl⟩, .inl ⟨[], Eq.trans rfl HO.out.symm, HJ0.out⟩⟩
  · rw [HG.out] at hl63
    have HROW := Lib.hid hrow
    clear hrow
    gi_wp2
    gi_loopw [12] (fun p wr => ∃ (k : Nat) (ys : List (OfT S node least)), k ≤ L.length ∧ p = .int .i64 k ∧ Hid (valsOf ys = (L.take k).filter (fun k => decide (least ≤ k))) ∧ Hid (J ys wr) ∧ Hid (Boxed wr (Bs + 1 + 1) 3 (natC least)) ∧ Hid (Below B0 W0 wr)) (fun p _ => L.length - (intOf p).toNat)
    case atStart => exact ⟨0, [], by omega, rfl, Lib.hid rfl, Lib.hid h0, HB2, Lib.hid (Below.refl _ _)⟩
    case round =>
      clear h0 HB2 hc0 hc1 hc2
      obtain ⟨k, ys, hk, rfl, HYS, HJy, HB2, HBW⟩ := hrel
      by_cases hlt : k < L.length
      · have hcl := (HBW.out.cell (p := ⟨b', off' + k, none⟩) (by simp; omega)).trans (HROW.out k L[k] (by simp [hlt]))
        have hc2 := HB2.out.cell
        have HFT := Lib.hid (filter_take (fun k => decide (least ≤ k)) L k hlt)
        have HMEM : Hid (L[k] ∈ L) := Lib.hid (List.getElem_mem hlt)
        generalize L[k] = x at *
        by_cases hge : least ≤ x
        · have hge2 : (least : Int) ≤ (x : Int) := by omega
          have HX : Hid (x ∈ ofL S node least) := Lib.hid (mem_cast (List.mem_filter.2 ⟨HMEM.out, by simpa using hge⟩) HO.out.symm)
          have HL : Hid (ys.length < (ofL S node least).length) := Lib.hid (len_cast (by
            have e := congrArg List.length HYS.out
            rw [valsOf_length] at e
            have e2 := (filter_pref (fun k => decide (least ≤ k)) L (k + 1)).length_le
            rw [HFT.out, if_pos (by simpa using hge), List.length_append] at e2
            simp at e e2 ⊢
            omega) HO.out.symm)
          obtain ⟨fn, tmps, assign, body, hy, hR⟩ := HY.out ys ⟨x, HX.out⟩ wr HJy.out HL.out
          unfold encOf at hy
          dsimp only at hy
          gi_wp2_with fail
          refine hR.mono ?_
          rintro e W' (⟨rfl, hJ', hk'⟩ | ⟨rfl, hJx'⟩)
          · have HB3 : Hid (Boxed W' (Bs + 1 + 1) 3 (natC least)) := Lib.hid (hk'.1.trans HB2.out)
            have HBW3 : Hid (Below B0 W0 W') := Lib.hid (HBW.out.trans hk'.2)
            have HJ3 := Lib.hid hJ'
            clear hJ' hk' hR hy
            gi_wp2_with fail
            go_roundw
            case rel => exact ⟨k + 1, ys ++ [⟨x, HX.out⟩], by omega, by go_num, Lib.hid (by rw [HFT.out, if_pos (by simpa using hge), valsOf_snoc, HYS.out]), HJ3, HB3, HBW3⟩
            case measure => simp [intOf]; omega
          · have HJ3 := Lib.hid hJx'
            clear hJx' hR hy
            gi_wp2_with fail
            refine bodyPost_ret (results_none rfl _ _ _) rfl ?_
            refine ⟨⟨_, rfl⟩, .inr ⟨ys ++ [⟨x, HX.out⟩], ?_, HJ3.out⟩⟩
            have e2 := filter_pref (fun k => decide (least ≤ k)) L (k + 1)
            rw [HFT.out, if_pos (by simpa using hge), ← HYS.out] at e2
            exact pref_cast e2 (valsOf_snoc ys ⟨x, HX.out⟩).symm HO.out.symm
        · have hge2 : ¬ (least : Int) ≤ (x : Int) := by omega
          gi_wp2_with fail
          refine ⟨fun _ h => (by cases h), ?_⟩
          gi_wp2_with fail
          go_roundw
          case rel => exact ⟨k + 1, ys, by omega, by go_num, Lib.hid (by rw [HFT.out, if_neg (by simpa using hge)]; exact HYS.out), HJy, HB2, HBW⟩
          case measure => simp [intOf]; omega
      · have hkk : k = L.length := by omega
        subst hkk
        gi_wp2
        go_end0
        refine ⟨⟨_, rfl⟩, .inl ⟨ys, ?_, HJy.out⟩⟩
        have := HYS.out
        rw [List.take_length] at this
        exact this.trans HO.out.symm

theorem of_stops (n : Nat) (hn : 1 ≤ n) (Bs B0 : Nat) (v : Value) (S : List (List Nat)) (node least : Nat) (hnode : node < S.length) (hS63 : S.length ≤ 1000000000) (hl63 : (S.getD node []).length ≤ 1000000000) (w : World)
    (h0 : Boxed w Bs 53 v) (h1 : Boxed w (Bs + 1) 3 (natC node)) (h2 : Boxed w (Bs + 1 + 1) 3 (natC least)) (hR : RowsOf B0 v S w) (hB0 : B0 ≤ w.heap.size) :
    SeqStopsK Fence.wide n Try.prog 64 #[.pointer (some ⟨Bs, 0, none⟩), .pointer (some ⟨Bs + 1, 0, none⟩), .pointer (some ⟨Bs + 1 + 1, 0, none⟩)] (encOf (S := S) (node := node) (least := least)) (KpB (Bs + 1 + 1) B0)
      (fun ys => valsOf ys = ofL S node least) (fun pre => valsOf pre <+: ofL S node least) (ofL S node least).length w := fun l J Jx W hW hJ _ hY hj =>
  of1_in n hn l Bs B0 v S node least J Jx W hnode hS63 hl63 hJ hY ((hW.block _ h0.lt).trans h0) ((hW.block _ h1.lt).trans h1) ((hW.block _ h2.lt).trans h2) (hR.below hW hB0) hj
end Go.Proofs.Ytlcgbkeggmaljaa

namespace Go.Proofs.Ytlcgbkeggmaljaa
set_option linter.unusedVariables false
set_option linter.unusedSimpArgs false
open Go Go.RowKit

theorem own_ne {W : World} {B B' e e' n n' s s' : Nat} {v v' : Value} {xs xs' : List Value} (h : W.ownsRow B e s v n xs) (h' : W.ownsRow B' e' s' v' n' xs') (he : e ≠ e') : v.ownBlock = none ∨ v.ownBlock ≠ v'.ownBlock := by
  rcases h.2 with ⟨rfl, _⟩ | ⟨g, cap, cur, rfl, _, hg, _⟩
  · exact .inl rfl
  · right
    rcases h'.2 with ⟨rfl, _⟩ | ⟨g', cap', cur', rfl, _, hg', _⟩
    · simp [Value.ownBlock]
    · intro h3
      simp [Value.ownBlock] at h3
      subst h3
      rw [hg] at hg'
      simp at hg'
      exact he hg'.2
theorem blk_ne {W : World} {b B e s n t : Nat} {cs : Array Value} {f : Nat × Nat} {v : Value} {xs : List Value} (hb : W.heap[b]? = some (.cells cs t f)) (h : W.ownsRow B e s v n xs) (ht : t ≠ e) : some b ≠ v.ownBlock := by
  rcases h.2 with ⟨rfl, _⟩ | ⟨g, cap, cur, rfl, _, hg, _⟩
  · simp [Value.ownBlock]
  · intro h3
    simp [Value.ownBlock] at h3
    subst h3
    rw [hb] at hg
    simp at hg
    exact ht hg.2.1
theorem own_far {W W' : World} {B e n s : Nat} {v : Value} {xs : List Value} (h : W.ownsRow B e s v n xs) (hk : ∀ k, v.ownBlock = some k → W'.heap[k]? = W.heap[k]?) : W'.ownsRow B e s v n xs := by
  refine ⟨h.1, ?_⟩
  rcases h.2 with h2 | ⟨g, cap, cur, rfl, hb, hg, r⟩
  · exact .inl h2
  · exact .inr ⟨g, cap, cur, rfl, hb, (hk g rfl).trans hg, r⟩
/-- what a row holds is read off its cells. -/
theorem own_cell {W : World} {B e n g cap : Nat} {xs : List Value} (h : W.ownsRow B e 1 (.slice (some ⟨g, 0, none⟩) n cap) n xs) (i : Nat) (x : Value) (hx : xs[i]? = some x) : W.cell? ⟨g, i, none⟩ = some x := by
  have hl := h.1
  have hi : i < xs.length := (List.getElem?_eq_some_iff.1 hx).1
  rw [h.cellAt i (by omega), hx]
theorem own_shape {W : World} {B e n : Nat} {v : Value} {xs : List Value} (h : W.ownsRow B e 1 v n xs) (hn : 0 < n) : ∃ g cap, v = .slice (some ⟨g, 0, none⟩) n cap ∧ B ≤ g ∧ g < W.heap.size ∧ n ≤ cap := by
  rcases h.2 with ⟨_, h0⟩ | ⟨g, cap, cur, hv, hb, hg, hc, _⟩
  · omega
  · exact ⟨g, cap, hv, hb, (Array.getElem?_eq_some_iff.1 hg).1, hc⟩
theorem own_row {α : Type} {enc : α → Value} {W : World} {B e n : Nat} {v : Value} {l : List α} (h : W.ownsRow B e 1 v n (l.map enc)) : n = l.length ∧ RowOf enc W.heap.size v l W := by
  have hl : n = l.length := by have := h.1; simp at this; omega
  subst hl
  refine ⟨rfl, ?_⟩
  rcases h.2 with ⟨rfl, h0⟩ | ⟨g, cap, cur, rfl, hb, hg, hc, _⟩
  · exact .inl ⟨List.length_eq_zero_iff.1 h0, _, _, rfl⟩
  · refine .inr ⟨g, 0, cap, rfl, (Array.getElem?_eq_some_iff.1 hg).1, fun i x hx => ?_⟩
    rw [Nat.zero_add]
    exact own_cell h i _ (by rw [List.getElem?_map, hx]; rfl)

/-- a slice of slices: its headers vs, its rows L. -/
structure Grid (B : Nat) (v : Value) (vs : List Value) (L : List (List Value)) (W : World) : Prop where
  top : W.ownsRow B 26 1 v L.length vs
  row : ∀ (i : Nat) (u : Value) (l : List Value), vs[i]? = some u → L[i]? = some l → W.ownsRow B 3 1 u l.length l
  apart : ∀ (i j : Nat) (u u' : Value) (b : Nat), vs[i]? = some u → vs[j]? = some u' → u.ownBlock = some b → u'.ownBlock = some b → i = j
  base : B ≤ W.heap.size

theorem Grid.len {B : Nat} {v : Value} {vs : List Value} {L : List (List Value)} {W : World} (h : Grid B v vs L W) : vs.length = L.length := by have := h.top.1; omega
theorem Grid.below {B : Nat} {v : Value} {vs : List Value} {L : List (List Value)} {W W' : World} (h : Grid B v vs L W) (hb : Below W.heap.size W W') : Grid B v vs L W' :=
  ⟨own_far h.top (fun k hk => hb.block k (h.top.lt k hk).2), fun i u l hu hl => own_far (h.row i u l hu hl) (fun k hk => hb.block k ((h.row i u l hu hl).lt k hk).2), h.apart, by have := h.base; have := hb.size; omega⟩
/-- what turns none of its blocks. -/
theorem Grid.keep {B : Nat} {v : Value} {vs : List Value} {L : List (List Value)} {W W' : World} (h : Grid B v vs L W) (hs : W.heap.size ≤ W'.heap.size) (ht : ∀ k, v.ownBlock = some k → W'.heap[k]? = W.heap[k]?)
    (hr : ∀ (i : Nat) (u : Value) (k : Nat), vs[i]? = some u → u.ownBlock = some k → W'.heap[k]? = W.heap[k]?) : Grid B v vs L W' :=
  ⟨own_far h.top ht, fun i u l hu hl => own_far (h.row i u l hu hl) (fun k hk => hr i u k hu hk), h.apart, by have := h.base; omega⟩
theorem Grid.made (B n : Nat) (W : World) (hB : B ≤ W.heap.size) (hn : n ≤ maxLen) (W' : World) (v : Value) (hv : W'.ownsRow B 26 1 v n (List.replicate n (.slice none 0 0))) (hs : W.heap.size ≤ W'.heap.size) :
    Grid B v (List.replicate n (.slice none 0 0)) (List.replicate n []) W' := by
  refine ⟨by rw [List.length_replicate]; exact hv, fun i u l hu hl => ?_, fun i j u u' b hu _ hb _ => ?_, by omega⟩
  · obtain rfl := (List.eq_of_mem_replicate (List.mem_of_getElem? hu))
    obtain rfl := (List.eq_of_mem_replicate (List.mem_of_getElem? hl))
    exact World.ownsRow_nil _ _ _ _
  · obtain rfl := (List.eq_of_mem_replicate (List.mem_of_getElem? hu))
    simp [Value.ownBlock] at hb

/-- a row's header is written anew, behind what has turned that row alone. -/
theorem Grid.put {B g n cap : Nat} {vs : List Value} {L : List (List Value)} {W W1 : World} (h : Grid B (.slice (some ⟨g, 0, none⟩) n cap) vs L W) (i : Nat) (u u' : Value) (l l' : List Value) (hn : n = L.length) (hu : vs[i]? = some u) (hl : L[i]? = some l)
    (hgrow : W.grownBy W1 u.ownBlock) (hown : W1.ownsRow B 3 1 u' l'.length l') (hat : u'.ownBlock = u.ownBlock ∨ ∀ k, u'.ownBlock = some k → W.heap.size ≤ k) :
    Grid B (.slice (some ⟨g, 0, none⟩) n cap) (vs.set i u') (L.set i l') (W1.setCell ⟨g, i, none⟩ u') := by
  subst hn
  have hlen := h.len
  have hi : i < vs.length := (List.getElem?_eq_some_iff.1 hu).1
  have hri := h.row i u l hu hl
  have htop1 : W1.ownsRow B 26 1 (.slice (some ⟨g, 0, none⟩) L.length cap) L.length vs := h.top.kept hgrow (own_ne h.top hri (by decide))
  have hst := htop1.stored i u'
  have hsz : W1.heap.size ≤ (W1.setCell ⟨g, i, none⟩ u').heap.size := by simp
  refine ⟨by rw [List.length_set]; exact hst.1, fun j v l2 hv hl2 => ?_, fun j k v v' b hv hv' hb hb' => ?_, by have := h.base; have := hgrow.size; omega⟩
  · by_cases hij : j = i
    · subst hij
      rw [List.getElem?_set_self (by omega)] at hv hl2
      cases hv; cases hl2
      exact hown.kept hst.2 (by have := own_ne hown htop1 (by decide); simpa [Value.ownBlock] using this)
    · rw [List.getElem?_set_ne (Ne.symm hij)] at hv hl2
      have hr := h.row j v l2 hv hl2
      have hr1 : W1.ownsRow B 3 1 v l2.length l2 := hr.kept hgrow (by
        cases hb : v.ownBlock with
        | none => exact .inl rfl
        | some b =>
          right
          intro hb'
          exact hij (h.apart j i v u b hv hu hb hb'.symm))
      exact hr1.kept hst.2 (by have := own_ne hr1 htop1 (by decide); simpa [Value.ownBlock] using this)
  · have key : ∀ (j : Nat) (v : Value) (b : Nat), j ≠ i → (vs.set i u')[j]? = some v → v.ownBlock = some b → u'.ownBlock = some b → False := by
      intro j v b hji hv hb hb'
      rw [List.getElem?_set_ne (Ne.symm hji)] at hv
      rcases hat with hat | hat
      · exact hji (h.apart j i v u b hv hu hb (hat ▸ hb'))
      · have hjl : j < L.length := by have := (List.getElem?_eq_some_iff.1 hv).1; omega
        have := ((h.row j v L[j] hv (by simp [hjl])).lt b hb).2
        have := hat b hb'
        omega
    by_cases hj : j = i
    · by_cases hk : k = i
      · omega
      · subst hj
        rw [List.getElem?_set_self (by omega)] at hv
        cases hv
        exact (key k v' b hk hv' hb' hb).elim
    · by_cases hk : k = i
      · subst hk
        rw [List.getElem?_set_self (by omega)] at hv'
        cases hv'
        exact (key j v b hj hv hb hb').elim
      · rw [List.getElem?_set_ne (Ne.symm hj)] at hv
        rw [List.getElem?_set_ne (Ne.symm hk)] at hv'
        exact h.apart j k v v' b hv hv' hb hb'
/-- a row is turned in place. -/
theorem Grid.turn {B : Nat} {v : Value} {vs : List Value} {L : List (List Value)} {W W1 : World} (h : Grid B v vs L W) (i : Nat) (u : Value) (l l' : List Value) (hu : vs[i]? = some u) (hl : L[i]? = some l)
    (hgrow : W.grownBy W1 u.ownBlock) (hown : W1.ownsRow B 3 1 u l'.length l') : Grid B v vs (L.set i l') W1 := by
  have hlen := h.len
  have hi : i < vs.length := (List.getElem?_eq_some_iff.1 hu).1
  have hri := h.row i u l hu hl
  refine ⟨by rw [List.length_set]; exact h.top.kept hgrow (own_ne h.top hri (by decide)), fun j v l2 hv hl2 => ?_, h.apart, by have := h.base; have := hgrow.size; omega⟩
  by_cases hij : j = i
  · subst hij
    rw [List.getElem?_set_self (by omega)] at hl2
    cases hl2
    rw [hu] at hv
    cases hv
    exact hown
  · rw [List.getElem?_set_ne (Ne.symm hij)] at hl2
    exact (h.row j v l2 hv hl2).kept hgrow (by
      cases hb : v.ownBlock with
      | none => exact .inl rfl
      | some b =>
        right
        intro hb'
        exact hij (h.apart j i v u b hv hu hb hb'.symm))
/-- a slice of slices reads as its rows. -/
theorem Grid.rows {B : Nat} {v : Value} {vs : List Value} {S : List (List Nat)} {W : World} (h : Grid B v vs (S.map (·.map natC)) W) : RowsOf W.heap.size v S W := by
  have hlen := h.len
  simp only [List.length_map] at hlen
  rcases h.top.2 with ⟨rfl, h0⟩ | ⟨g, cap, cur, rfl, hb, hg, hc, _⟩
  · simp only [List.length_map] at h0
    exact .inl ⟨List.length_eq_zero_iff.1 h0, _, _, rfl⟩
  · refine .inr ⟨g, 0, cap, by rw [List.length_map], (Array.getElem?_eq_some_iff.1 hg).1, fun i l hl => ?_⟩
    have hi : i < vs.length := by have := (List.getElem?_eq_some_iff.1 hl).1; omega
    refine ⟨vs[i], ?_, ?_⟩
    · rw [Nat.zero_add]
      exact own_cell h.top i _ (by simp [hi])
    · exact (own_row (h.row i vs[i] (l.map natC) (by simp [hi]) (by rw [List.getElem?_map, hl]; rfl))).2
theorem Grid.shape {B : Nat} {v : Value} {vs : List Value} {L : List (List Value)} {W : World} (h : Grid B v vs L W) : ∃ a c, v = .slice a L.length c := by
  rcases h.top.2 with ⟨rfl, h0⟩ | ⟨g, cap, cur, rfl, _⟩
  · exact ⟨none, 0, by rw [h0]⟩
  · exact ⟨_, _, rfl⟩
-- grid_shape
end Go.Proofs.Ytlcgbkeggmaljaa

namespace Go.Proofs.Ytlcgbkeggmaljaa
set_option linter.unusedVariables false
set_option linter.unusedSimpArgs false
open Go.Lib

/-- the successors of a node in increasing order. -/
def sucL (n : Nat) (es : List (Int × Int)) (i : Nat) : List Nat := (List.range n).filter fun k => es.contains ((i : Int), (k : Int))
/-- the successors of all nodes. -/
def sucs (n : Nat) (es : List (Int × Int)) : List (List Nat) := (List.range n).map (sucL n es)
/-- the ends of the edges that begin at a node, in their order. -/
def rawL (es : List (Int × Int)) (i : Nat) : List Int := (es.filter fun e => e.1 == (i : Int)).map (·.2)
/-- a graph is valid. -/
def validG (n : Nat) (es : List (Int × Int)) : Bool := decide (n ≤ 1024) && decide (es.length ≤ 4096) && es.all fun e => decide (0 ≤ e.1 ∧ e.1 < n ∧ 0 ≤ e.2 ∧ e.2 < n)

theorem sucs_length (n : Nat) (es : List (Int × Int)) : (sucs n es).length = n := by simp [sucs]
theorem sucs_get (n : Nat) (es : List (Int × Int)) (i : Nat) (h : i < n) : (sucs n es)[i]? = some (sucL n es i) := by simp [sucs, h]
theorem sucs_getD (n : Nat) (es : List (Int × Int)) (i : Nat) (h : i < n) : (sucs n es).getD i [] = sucL n es i := by rw [List.getD_eq_getElem?_getD, sucs_get n es i h]; rfl
theorem mem_sucL {n : Nat} {es : List (Int × Int)} {i k : Nat} : k ∈ sucL n es i ↔ k < n ∧ ((i : Int), (k : Int)) ∈ es := by simp [sucL]
theorem sucL_length (n : Nat) (es : List (Int × Int)) (i : Nat) : (sucL n es i).length ≤ n := by
  unfold sucL
  have := List.length_filter_le (fun k : Nat => es.contains ((i : Int), (k : Int))) (List.range n)
  simpa using this
theorem sucL_sorted (n : Nat) (es : List (Int × Int)) (i : Nat) : (sucL n es i).Pairwise (· < ·) := List.Pairwise.filter _ List.pairwise_lt_range

theorem rawL_snoc (es : List (Int × Int)) (e : Int × Int) (i : Nat) : rawL (es ++ [e]) i = if e.1 = (i : Int) then rawL es i ++ [e.2] else rawL es i := by
  unfold rawL
  rw [List.filter_append]
  by_cases h : e.1 = (i : Int) <;> simp [h]
theorem mem_rawL {es : List (Int × Int)} {i : Nat} {x : Int} : x ∈ rawL es i ↔ ((i : Int), x) ∈ es := by
  unfold rawL
  rw [List.mem_map]
  constructor
  · rintro ⟨⟨a, b⟩, h, rfl⟩
    rw [List.mem_filter] at h
    have : a = (i : Int) := by simpa using h.2
    subst this
    exact h.1
  · intro h
    exact ⟨((i : Int), x), List.mem_filter.2 ⟨h, by simp⟩, rfl⟩

/-- two lists that increase and have the same members are one. -/
theorem incr_ext : ∀ {a b : List Int}, a.Pairwise (· < ·) → b.Pairwise (· < ·) → (∀ x, x ∈ a ↔ x ∈ b) → a = b
  | [], [], _, _, _ => rfl
  | [], y :: b, _, _, h => by have := (h y).2 (by simp); simp at this
  | x :: a, [], _, _, h => by have := (h x).1 (by simp); simp at this
  | x :: a, y :: b, ha, hb, h => by
    rw [List.pairwise_cons] at ha hb
    have hxy : x = y := by
      have h1 := (h x).1 (by simp)
      have h2 := (h y).2 (by simp)
      rcases List.mem_cons.1 h1 with h1 | h1
      · exact h1
      · rcases List.mem_cons.1 h2 with h2 | h2
        · exact h2.symm
        · have := hb.1 x h1
          have := ha.1 y h2
          omega
    subst hxy
    congr 1
    refine incr_ext ha.2 hb.2 fun z => ?_
    have := h z
    constructor
    · intro hz
      rcases List.mem_cons.1 (this.1 (by simp [hz])) with e | e
      · have := ha.1 z hz; omega
      · exact e
    · intro hz
      rcases List.mem_cons.1 (this.2 (by simp [hz])) with e | e
      · have := hb.1 z hz; omega
      · exact e

/-- what is sorted increases, once compacted. -/
theorem compactUpTo_incr (d : Array Int) (hs : ∀ i j, i ≤ j → j < d.size → d[i]! ≤ d[j]!) : ∀ m, m ≤ d.size →
    (compactUpTo d m).Pairwise (· < ·) ∧ (∀ x ∈ compactUpTo d m, ∃ j, j < m ∧ d[j]! = x) ∧ (∀ j, j < m → d[j]! ∈ compactUpTo d m)
  | 0, _ => by simp [compactUpTo]
  | m + 1, hm => by
    obtain ⟨h1, h2, h3⟩ := compactUpTo_incr d hs m (by omega)
    rw [compactUpTo_succ]
    by_cases hk : keeps d m = true
    · rw [if_pos hk]
      refine ⟨?_, ?_, ?_⟩
      · rw [List.pairwise_append]
        refine ⟨h1, by simp, fun x hx y hy => ?_⟩
        obtain ⟨j, hj, rfl⟩ := h2 x hx
        rw [List.mem_singleton] at hy
        subst hy
        unfold keeps at hk
        simp only [decide_eq_true_eq] at hk
        have h0 : d[m]! ≠ d[m - 1]! := by rcases hk with hk | hk
                                          · omega
                                          · exact hk
        have ha := hs j (m - 1) (by omega) (by omega)
        have hb := hs (m - 1) m (by omega) (by omega)
        omega
      · intro x hx
        rcases List.mem_append.1 hx with hx | hx
        · obtain ⟨j, hj, e⟩ := h2 x hx; exact ⟨j, by omega, e⟩
        · rw [List.mem_singleton] at hx; exact ⟨m, by omega, hx.symm⟩
      · intro j hj
        by_cases e : j = m
        · subst e; simp
        · exact List.mem_append_left _ (h3 j (by omega))
    · rw [if_neg hk, List.append_nil]
      refine ⟨h1, fun x hx => ?_, fun j hj => ?_⟩
      · obtain ⟨j, hj, e⟩ := h2 x hx; exact ⟨j, by omega, e⟩
      · by_cases e : j = m
        · subst e
          unfold keeps at hk
          simp only [decide_eq_true_eq, not_or, ne_eq, Decidable.not_not] at hk
          rw [hk.2]
          exact h3 (j - 1) (by omega)
        · exact h3 j (by omega)

theorem compact_sort (l : List Int) (t : List Int) (ht : t.Pairwise (· < ·)) (hm : ∀ x, x ∈ t ↔ x ∈ l) : compact (l.mergeSort fun x y => decide (x ≤ y)) = t := by
  have hp := List.mergeSort_perm l (fun x y => decide (x ≤ y))
  have hs := List.pairwise_mergeSort (le := fun (x y : Int) => decide (x ≤ y)) (fun a b c h1 h2 => by simp at *; omega) (fun a b => by simp; omega) l
  generalize l.mergeSort (fun x y => decide (x ≤ y)) = s at *
  have hsz : s.toArray.size = s.length := by simp
  have key := compactUpTo_incr s.toArray (fun i j hij hj => by
    have hj' : j < s.length := by simpa using hj
    rw [getElem!_pos s.toArray i (by simp; omega), getElem!_pos s.toArray j (by simpa using hj')]
    simp only [List.getElem_toArray]
    by_cases e : i = j
    · subst e; exact Int.le_refl _
    · have := List.pairwise_iff_getElem.1 hs i j (by omega) hj' (by omega)
      simpa using this) s.length (by simp)
  unfold compact
  refine incr_ext key.1 ht fun x => ?_
  rw [hm, ← hp.mem_iff]
  constructor
  · intro hx
    obtain ⟨j, hj, e⟩ := key.2.1 x hx
    rw [getElem!_pos s.toArray j (by simpa using hj)] at e
    simp only [List.getElem_toArray] at e
    rw [← e]
    exact List.getElem_mem hj
  · intro hx
    obtain ⟨j, hj, e⟩ := List.getElem_of_mem hx
    have := key.2.2 j hj
    rw [getElem!_pos s.toArray j (by simpa using hj)] at this
    simp only [List.getElem_toArray] at this
    rwa [e] at this

theorem validG_edge {n : Nat} {es : List (Int × Int)} (h : validG n es = true) {e : Int × Int} (he : e ∈ es) : 0 ≤ e.1 ∧ e.1 < n ∧ 0 ≤ e.2 ∧ e.2 < n := by
  unfold validG at h
  simp only [Bool.and_eq_true, List.all_eq_true, decide_eq_true_eq] at h
  exact h.2 e he
theorem validG_n {n : Nat} {es : List (Int × Int)} (h : validG n es = true) : n ≤ 1024 ∧ es.length ≤ 4096 := by
  unfold validG at h
  simp only [Bool.and_eq_true, decide_eq_true_eq] at h
  exact h.1
/-- sorted and compacted, the ends are the successors. -/
theorem compact_raw {n : Nat} {es : List (Int × Int)} (h : validG n es = true) (i : Nat) : compact ((rawL es i).mergeSort fun x y => decide (x ≤ y)) = ((sucL n es i).map Int.ofNat) := by
  refine compact_sort _ _ ?_ fun x => ?_
  · rw [List.pairwise_map]
    exact (sucL_sorted n es i).imp fun h => Int.ofNat_lt.2 h
  · rw [mem_rawL, List.mem_map]
    constructor
    · rintro ⟨k, hk, rfl⟩
      exact (mem_sucL.1 hk).2
    · intro hx
      have := validG_edge h hx
      have e : ((x.toNat : Nat) : Int) = x := by omega
      refine ⟨x.toNat, mem_sucL.2 ⟨by omega, ?_⟩, e⟩
      rw [e]
      exact hx
end Go.Proofs.Ytlcgbkeggmaljaa

namespace Go.Proofs.Ytlcgbkeggmaljaa
set_option linter.unusedVariables false
set_option linter.unusedSimpArgs false
open Go Go.RowKit Go.Sort

/-- the cells of some integers. -/
abbrev intC (x : Int) : Value := .int .i64 x

theorem sort_row (B : Nat) (v : Value) (l : List Int) (w : World) (h : w.ownsRow B 3 1 v l.length (l.map intC)) (hl : l.length ≤ 1000000000) :
    Calls Try.prog 57 #[v] w fun e w' => e = .returned (.tuple #[]) ∧ w.grownBy w' v.ownBlock ∧ w'.ownsRow B 3 1 v (l.mergeSort fun x y => decide (x ≤ y)).length ((l.mergeSort fun x y => decide (x ≤ y)).map intC) := by
  have hlen : (l.mergeSort fun x y => decide (x ≤ y)).length = l.length := List.length_mergeSort l
  rcases h.2 with ⟨rfl, h0⟩ | ⟨g, cap, cur, rfl, hb, hg, hc, hcm, hcs, ht⟩
  · obtain rfl : l = [] := List.length_eq_zero_iff.1 h0
    refine (Try.slices_Sort_int_none none 0 w).mono ?_
    rintro e w' ⟨rfl, rfl⟩
    exact ⟨rfl, World.grownBy.refl _ _, by simpa using World.ownsRow_nil _ _ _ _⟩
  · refine (Try.slices_Sort_int g 0 cap l w (holds_of_blockI hg (by simpa using ht)) (Array.getElem?_eq_some_iff.1 hg).1 (by omega)).mono ?_
    rintro e w' ⟨rfl, n, os, rfl⟩
    refine ⟨rfl, grownBy_sortedI _, ?_⟩
    rw [hlen]
    exact ownsRow_sortedI hlen hb hg hc hcm hcs

theorem compact_row (B : Nat) (v : Value) (l : List Int) (w : World) (h : w.ownsRow B 3 1 v l.length (l.map intC)) (hl : l.length ≤ 1000000000) :
    Calls Try.prog 63 #[v] w fun e w' => ∃ v', e = .returned v' ∧ v'.ownBlock = v.ownBlock ∧ (∃ a m c, v' = .slice a m c) ∧ w.grownBy w' v.ownBlock ∧ w'.ownsRow B 3 1 v' (Lib.compact l).length ((Lib.compact l).map intC) := by
  rcases h.2 with ⟨rfl, h0⟩ | ⟨g, cap, cur, rfl, hb, hg, hc, hcm, hcs, ht⟩
  · obtain rfl : l = [] := List.length_eq_zero_iff.1 h0
    refine (Try.slices_Compact_int_empty none 0 w).mono ?_
    rintro e w' ⟨rfl, rfl⟩
    exact ⟨_, rfl, rfl, ⟨_, _, _, rfl⟩, World.grownBy.refl _ _, World.ownsRow_nil _ _ _ _⟩
  · have hlc : (Lib.compact l).length ≤ l.length := Lib.compact_length_le l
    refine (Try.slices_Compact_int g 0 cap l w (holds_of_blockI hg (by simpa using ht)) (by omega) hc).mono ?_
    rintro e w' ⟨rfl, q, rfl⟩
    have e1 : ∀ d : Array Int, putRow (Value.int .i64) (Sort.ahead w q) g 0 d = grow (putRow (Value.int .i64) (Sort.ahead w q) g 0 d) #[] := fun d => (grow_empty _).symm
    rw [e1]
    have hpl : (Lib.compact l ++ List.replicate (l.length - (Lib.compact l).length) 0).length = l.length := by simp; omega
    have hown := ownsRow_sortedI (n := q) (os := #[]) (base := B) (ss := l) hpl hb hg hc hcm hcs
    refine ⟨_, rfl, rfl, ⟨_, _, _, rfl⟩, grownBy_sortedI _, ?_⟩
    rcases hown.2 with ⟨h1, _⟩ | ⟨g2, cap2, cur2, h1, h2, h3, h4, h5, h6, h7⟩
    · cases h1
    · cases h1
      refine ⟨by simp, .inr ⟨g, cap, cur2, rfl, h2, h3, by omega, h5, h6, ?_⟩⟩
      have h8 := congrArg (List.take (Lib.compact l).length) h7
      rw [List.take_take, Nat.mul_one, Nat.min_eq_left hlc, List.map_append, List.take_append_of_le_length (by simp), List.take_of_length_le (l := List.map _ _) (by simp)] at h8
      rw [Nat.mul_one]
      exact h8
end Go.Proofs.Ytlcgbkeggmaljaa

namespace Go.Proofs.Ytlcgbkeggmaljaa
set_option linter.unusedVariables false
set_option linter.unusedSimpArgs false
open Go Go.RowKit Go.Sort

/-- a slice of edges that reads as a list of pairs. -/
def EdgesOf (B : Nat) (v : Value) (es : List (Int × Int)) (W : World) : Prop :=
  ∃ ao cap, v = .slice ao es.length cap ∧ ∀ i x, es[i]? = some x → ∃ b off, ao = some ⟨b, off, none⟩ ∧ b < B ∧ W.cell? ⟨b, off + i * 2, none⟩ = some (intC x.1) ∧ W.cell? ⟨b, off + i * 2 + 1, none⟩ = some (intC x.2)
theorem EdgesOf.below {B B' : Nat} {v : Value} {es : List (Int × Int)} {W W' : World} (h : EdgesOf B v es W) (hb : Below B' W W') (hB : B ≤ B') : EdgesOf B v es W' := by
  obtain ⟨ao, cap, rfl, h⟩ := h
  refine ⟨ao, cap, rfl, fun i x hx => ?_⟩
  obtain ⟨b, off, rfl, hlt, h1, h2⟩ := h i x hx
  exact ⟨b, off, rfl, hlt, (hb.cell (p := ⟨b, off + i * 2, none⟩) (by simp; omega)).trans h1, (hb.cell (p := ⟨b, off + i * 2 + 1, none⟩) (by simp; omega)).trans h2⟩
theorem EdgesOf.mono {B B' : Nat} {v : Value} {es : List (Int × Int)} {W : World} (h : EdgesOf B v es W) (hB : B ≤ B') : EdgesOf B' v es W := by
  obtain ⟨ao, cap, rfl, h⟩ := h
  refine ⟨ao, cap, rfl, fun i x hx => ?_⟩
  obtain ⟨b, off, rfl, hlt, h1, h2⟩ := h i x hx
  exact ⟨b, off, rfl, by omega, h1, h2⟩

theorem made_rep (z : Value) (n : Nat) : madeCells #[z] n = Array.replicate n z := by
  have := toList_madeCells_one z n
  rw [← Array.toList_replicate] at this
  exact Array.toList_inj.1 this
theorem info_ints : (Try.prog.info? 3).map (fun i => (i.zero, i.size, i.bytes)) = some (some (.int .i64 0), 1, 8) := by kernel_rfl
/-- make with a length that is a variable. -/
theorem make_ints (n : Nat) (hn : n ≤ 1000000000) (w : World) : (Instr.makeSlice 26 (.int .i64 (n : Int)) (.int .i64 (n : Int))).run Try.prog w = .ok (.slice (some ⟨w.heap.size, 0, none⟩) n n) (w.alloc (.cells (Array.replicate n (.int .i64 0)) 3)) := by
  have h := run_make_row' (P := Try.prog) 26 3 (.int .i64 0) 8 Try.underlying26 info_ints rfl .i64 .i64 n (by omega) (by omega) w
  rw [h, made_rep]
theorem info_rows : (Try.prog.info? 26).map (fun i => (i.zero, i.size, i.bytes)) = some (some (.slice none 0 0), 1, 24) := by kernel_rfl
/-- make with a length that is a variable. -/
theorem make_rows (n : Nat) (hn : n ≤ 1000000000) (w : World) : (Instr.makeSlice 43 (.int .i64 (n : Int)) (.int .i64 (n : Int))).run Try.prog w = .ok (.slice (some ⟨w.heap.size, 0, none⟩) n n) (w.alloc (.cells (Array.replicate n (.slice none 0 0)) 26)) := by
  have h := run_make_row' (P := Try.prog) 43 26 (.slice none 0 0) 24 Try.underlying43 info_rows rfl .i64 .i64 n (by omega) (by omega) w
  rw [h, made_rep]
theorem info_bools : (Try.prog.info? 4).map (fun i => (i.zero, i.size, i.bytes)) = some (some (.bool false), 1, 1) := by kernel_rfl
/-- make with a length that is a variable. -/
theorem make_bools (n : Nat) (hn : n ≤ 1000000000) (w : World) : (Instr.makeSlice 55 (.int .i64 (n : Int)) (.int .i64 (n : Int))).run Try.prog w = .ok (.slice (some ⟨w.heap.size, 0, none⟩) n n) (w.alloc (.cells (Array.replicate n (.bool false)) 4)) := by
  have h := run_make_row' (P := Try.prog) 55 4 (.bool false) 1 Try.underlying55 info_bools rfl .i64 .i64 n (by omega) (by omega) w
  rw [h, made_rep]
theorem make_sucs (n : Nat) (hn : n ≤ 1000000000) (w : World) : (Instr.makeSlice 53 (.int .i64 (n : Int)) (.int .i64 (n : Int))).run Try.prog w = .ok (.slice (some ⟨w.heap.size, 0, none⟩) n n) (w.alloc (.cells (Array.replicate n (.slice none 0 0)) 26)) := by
  have h := run_make_row' (P := Try.prog) 53 26 (.slice none 0 0) 24 Try.underlying53 info_rows rfl .i64 .i64 n (by omega) (by omega) w
  rw [h, made_rep]
/-- a row that has just been laid. -/
theorem own_made (B e n : Nat) (xs : List Value) (w : World) (hB : B ≤ w.heap.size) (hn : n ≤ maxLen) (hx : xs.length = n) : (w.alloc (.cells xs.toArray e)).ownsRow B e 1 (.slice (some ⟨w.heap.size, 0, none⟩) n n) n xs := by
  subst hx
  have := World.ownsRow_lit (base := B) (e := e) (size := 1) w xs.toArray xs.length hB hn (by simp)
  simpa using this

/-- the rows behind k edges. -/
def rawRows (N : Nat) (es : List (Int × Int)) : List (List Value) := (List.range N).map fun i => (rawL es i).map intC
theorem rawRows_length (N : Nat) (es : List (Int × Int)) : (rawRows N es).length = N := by simp [rawRows]
theorem rawRows_get (N : Nat) (es : List (Int × Int)) (i : Nat) (h : i < N) : (rawRows N es)[i]? = some ((rawL es i).map intC) := by simp [rawRows, h]
theorem rawRows_nil (N : Nat) : rawRows N [] = List.replicate N [] := by
  apply List.ext_getElem (by simp [rawRows])
  intro i h1 h2
  simp [rawRows, rawL]
theorem rawRows_snoc (N : Nat) (es : List (Int × Int)) (i : Nat) (y : Int) (h : i < N) : rawRows N (es ++ [((i : Int), y)]) = (rawRows N es).set i ((rawL es i).map intC ++ [intC y]) := by
  apply List.ext_getElem (by simp [rawRows])
  intro j h1 h2
  have hj : j < N := by simpa [rawRows] using h1
  rw [List.getElem_set]
  simp only [rawRows, List.getElem_map, List.getElem_range, rawL_snoc]
  by_cases e : i = j
  · subst e; simp
  · rw [if_neg (by omega), if_neg e]

/-- the rows of which k have been sorted and compacted. -/
def mixRows (N : Nat) (es : List (Int × Int)) (k : Nat) : List (List Value) := (List.range N).map fun i => if i < k then (sucL N es i).map natC else (rawL es i).map intC
theorem mixRows_length (N : Nat) (es : List (Int × Int)) (k : Nat) : (mixRows N es k).length = N := by simp [mixRows]
theorem mixRows_zero (N : Nat) (es : List (Int × Int)) : mixRows N es 0 = rawRows N es := by simp [mixRows, rawRows]
theorem mixRows_get (N : Nat) (es : List (Int × Int)) (k : Nat) (h : k < N) : (mixRows N es k)[k]? = some ((rawL es k).map intC) := by simp [mixRows, h]
theorem mixRows_succ (N : Nat) (es : List (Int × Int)) (k : Nat) : mixRows N es (k + 1) = (mixRows N es k).set k ((sucL N es k).map natC) := by
  apply List.ext_getElem (by simp [mixRows])
  intro j h1 h2
  rw [List.getElem_set]
  simp only [mixRows, List.getElem_map, List.getElem_range]
  by_cases e : k = j
  · subst e; simp
  · by_cases h : j < k
    · rw [if_pos (by omega), if_neg e, if_pos h]
    · rw [if_neg (by omega), if_neg e, if_neg h]
theorem mixRows_all (N : Nat) (es : List (Int × Int)) : mixRows N es N = (sucs N es).map (·.map natC) := by
  unfold mixRows sucs
  rw [List.map_map]
  apply List.map_congr_left
  intro i hi
  rw [List.mem_range] at hi
  rw [if_pos hi]
  rfl

set_option maxRecDepth 100000 in
set_option maxHeartbeats 4000000 in
theorem newSucc_any (na : Option Addr) (nc N : Nat) (ev : Value) (es : List (Int × Int)) (w : World) (hE : EdgesOf w.heap.size ev es w) (hv : validG N es = true) :
    Calls Try.prog 40 #[.agg #[.slice na N nc, ev]] w fun e w' => ∃ v vs, e = .returned v ∧ Grid w.heap.size v vs ((sucs N es).map (·.map natC)) w' ∧ Below w.heap.size w w' := by
  obtain ⟨hN, hes⟩ := validG_n hv
  obtain ⟨ao, ec, rfl, hE⟩ := hE
  have HV := Lib.hid hv
  have HE := Lib.hid hE
  clear hv hE
  have hmk := make_sucs N (by omega)
  obtain ⟨B, hB⟩ : ∃ B, B = w.heap.size := ⟨_, rfl⟩
  have HBB := Lib.hid hB
  have hB2 : B ≤ w.heap.size := by omega
  clear hB
  have HG0 : Hid (Grid B (.slice (some ⟨w.heap.size + 1, 0, none⟩) N N) (List.replicate N (.slice none 0 0)) (rawRows N []) ((w.alloc (.cells #[.slice na N nc, .slice ao es.length ec] 25)).alloc (.cells (Array.replicate N (.slice none 0 0)) 26))) := Lib.hid (by
    rw [rawRows_nil]
    have := own_made B 26 N (List.replicate N (.slice none 0 0)) (w.alloc (.cells #[.slice na N nc, .slice ao es.length ec] 25)) (by simp; omega) (by unfold maxLen; omega) (by simp)
    rw [World.size_alloc] at this
    exact Grid.made B N w hB2 (by unfold maxLen; omega) _ _ this (by simp; omega))
  have HB0 : Hid (Below B w ((w.alloc (.cells #[.slice na N nc, .slice ao es.length ec] 25)).alloc (.cells (Array.replicate N (.slice none 0 0)) 26))) := Lib.hid (((Below.refl _ w).alloc hB2 _).alloc (by simp; omega) _)
  go_enter Try.func40, Try.ntmps40
  go_wp2_with fail
  clear hmk
  go_loopw [14] (fun p wr => ∃ (k : Nat) (vs : List Value), k ≤ es.length ∧ p = .int .i64 k ∧ Hid (Grid B (.slice (some ⟨w.heap.size + 1, 0, none⟩) N N) vs (rawRows N (es.take k)) wr) ∧ Hid (Below B w wr) ∧ Hid (w.heap.size + 2 ≤ wr.heap.size)) (fun p _ => es.length - (intOf p).toNat)
  case atStart => exact ⟨0, _, by omega, rfl, HG0, HB0, Lib.hid (by simp)⟩
  case round =>
    clear HG0 HB0
    obtain ⟨k, vs, hk, rfl, HG, HB, HS⟩ := hrel
    by_cases hlt : k < es.length
    · obtain ⟨b, off, rfl, hb, hc1, hc2⟩ := HE.out k es[k] (by simp [hlt])
      have hc1 := (HB.out.cell (p := ⟨b, off + k * 2, none⟩) (by simp; have := HBB.out; omega)).trans hc1
      have hc2 := (HB.out.cell (p := ⟨b, off + k * 2 + 1, none⟩) (by simp; have := HBB.out; omega)).trans hc2
      have HT : Hid (es.take (k + 1) = es.take k ++ [es[k]]) := Lib.hid (List.take_succ_eq_append_getElem hlt)
      have hed := validG_edge HV.out (List.getElem_mem hlt)
      obtain ⟨⟨x1, x2⟩, hx⟩ : ∃ x, x = es[k] := ⟨_, rfl⟩
      rw [← hx] at hc1 hc2 hed HT
      clear hx
      obtain ⟨i, rfl⟩ : ∃ i : Nat, x1 = (i : Int) := ⟨x1.toNat, by simp at hed; omega⟩
      obtain ⟨j, rfl⟩ : ∃ j : Nat, x2 = (j : Int) := ⟨x2.toNat, by simp at hed; omega⟩
      simp only at hc1 hc2 hed
      obtain ⟨hi0, hi1, hj0, hj1⟩ := hed
      have hiN : i < N := by omega
      have hvl : vs.length = N := by have := HG.out.len; rw [rawRows_length] at this; exact this
      have hu : vs[i]? = some (vs[i]'(by omega)) := by simp
      generalize vs[i]'(by omega) = u at hu
      have hl := rawRows_get N (es.take k) i hiN
      have hown := HG.out.row i u _ hu hl
      have hfu := HG.out.top
      rw [rawRows_length] at hfu
      have hcu := own_cell hfu i u hu
      have hfu := hfu.frozenAt i
      have hsz := HS.out
      have hlen : (rawL (es.take k) i).length ≤ 4096 := by
        unfold rawL
        have := List.length_filter_le (fun e : Int × Int => e.1 == (i : Int)) (es.take k)
        simp at this ⊢
        omega
      have hne : w.heap.size + 1 ≠ wr.heap.size := by omega
      have hne2 : wr.heap.size ≠ w.heap.size + 1 := by omega
      have hob : ∀ b, u.ownBlock = some b → b < wr.heap.size ∧ b ≠ w.heap.size + 1 := fun b hb => ⟨(hown.lt b hb).2, fun e => by
        have := own_ne HG.out.top hown (by decide)
        rw [hb, e] at this
        simp [Value.ownBlock] at this⟩
      have HN : Hid (∀ W1, (((wr.alloc (.cells #[intC i, intC j] 39)).alloc (.cells #[intC j] 3)).drew).grownBy W1 u.ownBlock → (W1.cell? ⟨w.heap.size + 1, i, none⟩ = some u ∧ W1.frozen? ⟨w.heap.size + 1, i, none⟩ = false) ∧
          (W1.cell? ⟨wr.heap.size, 0, none⟩ = some (intC i) ∧ W1.cell? ⟨wr.heap.size, 1, none⟩ = some (intC j)) ∧ wr.heap.size + 2 ≤ W1.heap.size) := Lib.hid (fun W1 hg => by
        have a1 : some (w.heap.size + 1) ≠ u.ownBlock := fun e => (hob _ e.symm).2 rfl
        have a2 : some wr.heap.size ≠ u.ownBlock := fun e => by have := (hob _ e.symm).1; omega
        have hs := hg.size
        have f1 := frozA (.cells #[intC i, intC j] 39) hcu hfu
        have c1 := cellA (.cells #[intC i, intC j] 39) hcu
        refine ⟨⟨?_, ?_⟩, ⟨?_, ?_⟩, by simpa using hs⟩
        · rw [hg.cell_far _ (by show w.heap.size + 1 < _; simp; omega) a1]
          exact cellA (.cells #[intC j] 3) c1
        · rw [hg.frozen_far _ (by show w.heap.size + 1 < _; simp; omega) a1]
          exact frozA (.cells #[intC j] 3) c1 f1
        · rw [hg.cell_far _ (by show wr.heap.size < _; simp; omega) a2]
          exact cellA (.cells #[intC j] 3) (cell_of_row _ _ _ _ _ _ (World.alloc_heap_new wr _))
        · rw [hg.cell_far _ (by show wr.heap.size < _; simp; omega) a2]
          exact cellA (.cells #[intC j] 3) (cell_of_row _ _ _ _ _ _ (World.alloc_heap_new wr _)))
      have hcu1 := cellA (.cells #[.int .i64 (i : Int), .int .i64 (j : Int)] 39) hcu
      have hcu2 := cellA (.cells #[.int .i64 (j : Int)] 3) hcu1
      obtain ⟨i0, hi0', hz0, hz1, hz2⟩ := info_parts info_ints
      have HOWN := Lib.hid hown
      have HOB := Lib.hid hob
      have HU := Lib.hid hu
      have HL := Lib.hid hl
      have HFU := Lib.hid hfu
      have HCU := Lib.hid hcu
      clear hown hob hu hl hfu
      go_wp2_with fail
      refine wp_region_noPanic ?_
      refine region_plain_split (S := HeldR ⟨wr.heap.size, 0, none⟩ ⟨wr.heap.size, 1, none⟩ ⟨w.heap.size + 1, i, none⟩ (intC i) (intC j) u) 12 (by kernel_rfl) (by kernel_rfl) ?_
      simp only [List.take_succ_cons, List.take_zero]
      have hS0 : HeldR ⟨wr.heap.size, 0, none⟩ ⟨wr.heap.size, 1, none⟩ ⟨w.heap.size + 1, i, none⟩ (intC i) (intC j) u (wr.alloc (.cells #[intC i, intC j] 39)).drew := ⟨cell_of_row _ _ 0 _ _ _ (World.alloc_heap_new wr _), cell_of_row _ _ 1 _ _ _ (World.alloc_heap_new wr _), cellA _ HCU.out⟩
      (refine wpAnyH_take (i := 0) (v := ?_) rfl (by kernel_rfl) (by kernel_rfl) (by kernel_rfl) (fun _ _ _ h => h) (Or.inl ⟨by rfl, ?_⟩) (by assumption) ?_; rotate_left; (· (intro w hSw; obtain ⟨c0, c1, c2⟩ := hSw; go_simp; try with_reducible rfl)); (try simp only [List.getElem_toArray, List.getElem_cons_zero, List.getElem_cons_succ, Act.put, List.setIfInBounds_toArray, List.set_cons_zero, List.set_cons_succ]))
      (refine wpAnyH_take (i := 1) (v := ?_) rfl (by kernel_rfl) (by kernel_rfl) (by kernel_rfl) (fun _ _ _ h => h) (Or.inl ⟨by rfl, ?_⟩) (by assumption) ?_; rotate_left; (· (intro w hSw; obtain ⟨c0, c1, c2⟩ := hSw; go_simp; try with_reducible rfl)); (try simp only [List.getElem_toArray, List.getElem_cons_zero, List.getElem_cons_succ, Act.put, List.setIfInBounds_toArray, List.set_cons_zero, List.set_cons_succ]))
      (refine wpAnyH_take (i := 2) (v := ?_) rfl (by kernel_rfl) (by kernel_rfl) (by kernel_rfl) (fun _ _ _ h => h) (Or.inl ⟨by rfl, ?_⟩) (by assumption) ?_; rotate_left; (· (intro w hSw; obtain ⟨c0, c1, c2⟩ := hSw; go_simp; try with_reducible rfl)); (try simp only [List.getElem_toArray, List.getElem_cons_zero, List.getElem_cons_succ, Act.put, List.setIfInBounds_toArray, List.set_cons_zero, List.set_cons_succ]))
      (refine wpAnyH_take (i := 3) (v := ?_) rfl (by kernel_rfl) (by kernel_rfl) (by kernel_rfl) (fun _ _ _ h => h) (Or.inl ⟨by rfl, ?_⟩) (by assumption) ?_; rotate_left; (· (intro w hSw; obtain ⟨c0, c1, c2⟩ := hSw; go_simp; try with_reducible rfl)); (try simp only [List.getElem_toArray, List.getElem_cons_zero, List.getElem_cons_succ, Act.put, List.setIfInBounds_toArray, List.set_cons_zero, List.set_cons_succ]))
      (refine wpAnyH_take (i := 4) (v := ?_) rfl (by kernel_rfl) (by kernel_rfl) (by kernel_rfl) (fun _ _ _ h => h) (Or.inl ⟨by rfl, ?_⟩) (by assumption) ?_; rotate_left; (· (intro w hSw; obtain ⟨c0, c1, c2⟩ := hSw; go_simp; try with_reducible rfl)); (try simp only [List.getElem_toArray, List.getElem_cons_zero, List.getElem_cons_succ, Act.put, List.setIfInBounds_toArray, List.set_cons_zero, List.set_cons_succ]))
      (refine wpAnyH_take (i := 5) (v := ?_) rfl (by kernel_rfl) (by kernel_rfl) (by kernel_rfl) (fun _ _ _ h => h) (Or.inl ⟨by rfl, ?_⟩) (by assumption) ?_; rotate_left; (· (intro w hSw; obtain ⟨c0, c1, c2⟩ := hSw; go_simp; try with_reducible rfl)); (try simp only [List.getElem_toArray, List.getElem_cons_zero, List.getElem_cons_succ, Act.put, List.setIfInBounds_toArray, List.set_cons_zero, List.set_cons_succ]))
      (refine wpAnyH_take (i := 6) (v := ?_) rfl (by kernel_rfl) (by kernel_rfl) (by kernel_rfl) (fun _ _ _ h => h) (Or.inl ⟨by rfl, ?_⟩) (by assumption) ?_; rotate_left; (· (intro w hSw; obtain ⟨c0, c1, c2⟩ := hSw; go_simp; try with_reducible rfl)); (try simp only [List.getElem_toArray, List.getElem_cons_zero, List.getElem_cons_succ, Act.put, List.setIfInBounds_toArray, List.set_cons_zero, List.set_cons_succ]))
      (refine wpAnyH_take (i := 7) (v := ?_) rfl (by kernel_rfl) (by kernel_rfl) (by kernel_rfl) (fun _ _ _ h => h) (Or.inl ⟨by rfl, ?_⟩) (by assumption) ?_; rotate_left; (· (intro w hSw; obtain ⟨c0, c1, c2⟩ := hSw; go_simp; try with_reducible rfl)); (try simp only [List.getElem_toArray, List.getElem_cons_zero, List.getElem_cons_succ, Act.put, List.setIfInBounds_toArray, List.set_cons_zero, List.set_cons_succ]))
      (refine wpAnyH_take (i := 8) (v := ?_) rfl (by kernel_rfl) (by kernel_rfl) (by kernel_rfl) (fun _ _ _ h => h) (Or.inl ⟨by rfl, ?_⟩) (by assumption) ?_; rotate_left; (· (intro w hSw; obtain ⟨c0, c1, c2⟩ := hSw; go_simp; try with_reducible rfl)); (try simp only [List.getElem_toArray, List.getElem_cons_zero, List.getElem_cons_succ, Act.put, List.setIfInBounds_toArray, List.set_cons_zero, List.set_cons_succ]))
      (refine wpAnyH_take (i := 9) (v := ?_) rfl (by kernel_rfl) (by kernel_rfl) (by kernel_rfl) (fun _ _ _ h => h) (Or.inl ⟨by rfl, ?_⟩) (by assumption) ?_; rotate_left; (· (intro w hSw; obtain ⟨c0, c1, c2⟩ := hSw; go_simp; try with_reducible rfl)); (try simp only [List.getElem_toArray, List.getElem_cons_zero, List.getElem_cons_succ, Act.put, List.setIfInBounds_toArray, List.set_cons_zero, List.set_cons_succ]))
      refine wpAnyH_ready (rs := [10]) (by kernel_rfl) (by simp) (AllReadyH.cons rfl (fun K hK => ?_) AllReadyH.nil)
      go_simp
      refine hK.out _ _ ⟨cellA _ hS0.1, cellA _ hS0.2.1, cellA _ hS0.2.2⟩ (fun _ => ?_)
      clear hK K hS0
      (try simp only [List.getElem_toArray, List.getElem_cons_zero, List.getElem_cons_succ, Act.put, List.setIfInBounds_toArray, List.set_cons_zero, List.set_cons_succ])
      refine wpAnyH_ready (rs := [11]) (by kernel_rfl) (by simp) (AllReadyH.cons rfl (fun K hK => ?_) AllReadyH.nil)
      refine step_append_lies _ (by rfl) _ _ _ (by rfl) B 3 i0 _ 1 8 Try.underlying26 hi0' hz0 hz1 hz2 rfl (by omega) u _ _ (by rfl) (((HOWN.out.alloc _).alloc _).drew)
            ⟨wr.heap.size + 1, 0, none⟩ 1 1 [intC j] (by rfl) (by rfl) (World.news_of_block (cs := #[intC j]) (t := 3) (fr := (0, 0)) (by have := heap_alloc_new (wr.alloc (.cells #[intC i, intC j] 39)) (.cells #[intC j] 3); rw [World.size_alloc] at this; exact this)) (by simp [Value.oneCell'])
            (by omega) (by unfold maxLen; rw [List.length_map]; omega) (by rw [List.length_map]; omega) (by simp; have := HG.out.base; omega) (wr.heap.size + 2) (by simp) ?_
      intro gg cap w1 hown1 hgrow hat hlt1
      obtain ⟨⟨hcw, hfw⟩, ⟨hcw0, hcw1⟩, hsw⟩ := HN.out _ hgrow
      have hS1 : HeldR ⟨wr.heap.size, 0, none⟩ ⟨wr.heap.size, 1, none⟩ ⟨w.heap.size + 1, i, none⟩ (intC i) (intC j) u w1 := ⟨hcw0, hcw1, hcw⟩
      refine hK.out _ _ hS1 (fun _ => ?_)
      clear hK K hS1
      (try simp only [List.getElem_toArray, List.getElem_cons_zero, List.getElem_cons_succ, Act.put, List.setIfInBounds_toArray, List.set_cons_zero, List.set_cons_succ])
      refine wpAnyH_done (by kernel_rfl) ?_ _
      show wpList _ _ _ _ _ _
      simp only [List.drop_succ_cons, List.drop_zero]
      go_wp2_with fail
      refine NoPanic.normal ?_
      all_goals go_wp2_with fail
      all_goals
        go_roundw
        case rel =>
          refine ⟨k + 1, vs.set i (.slice (some ⟨gg, 0, none⟩) ((rawL (es.take k) i).length + 1) cap), by omega, by go_num, Lib.hid ?_, Lib.hid ?_, Lib.hid (by simp; omega)⟩
          · rw [HT.out, rawRows_snoc _ _ _ _ hiN]
            have g1 : wr.grownBy w1 u.ownBlock := (grownD ((World.grownBy_alloc wr _ _).trans (World.grownBy_alloc _ _ _))).trans hgrow
            have := HG.out.put i u _ _ ((rawL (es.take k) i).map intC ++ [intC j]) (by rw [rawRows_length]) HU.out HL.out g1 (by simpa using hown1) (by
              rcases hat with h | h
              · exact .inl (by rw [h]; rfl)
              · refine .inr fun k' hk' => ?_
                simp [Value.ownBlock] at hk'
                omega)
            exact this
          · have hgs := HG.out.base
            have g2 : Below B wr w1 := ((((Below.refl B wr).alloc hgs _).alloc (by simp; omega) _).drew).grown hgrow (by simp; omega) (fun b hb => (HOWN.out.lt b hb).1)
            exact (HB.out.trans g2).setCell (by show B ≤ w.heap.size + 1; omega) _
        case measure => simp [intOf]; omega
    · have hkk : k = es.length := by omega
      subst hkk
      rw [List.take_length] at HG
      go_wp2_with fail
      go_loopw [34] (fun p wr => ∃ (k : Nat) (vs : List Value), k ≤ N ∧ p = .int .i64 k ∧ Hid (Grid B (.slice (some ⟨w.heap.size + 1, 0, none⟩) N N) vs (mixRows N es k) wr) ∧ Hid (Below B w wr) ∧ Hid (w.heap.size + 2 ≤ wr.heap.size)) (fun p _ => N - (intOf p).toNat)
      case atStart => exact ⟨0, vs, by omega, rfl, Lib.hid (by rw [mixRows_zero]; exact HG.out), HB, HS⟩
      case round =>
        clear HG HB HS
        obtain ⟨k, vs, hk, rfl, HG, HB, HS⟩ := hrel
        by_cases hlt : k < N
        · have hx1 : (k : Int) < (N : Int) := by omega
          have hvl : vs.length = N := by have := HG.out.len; rw [mixRows_length] at this; exact this
          have hu : vs[k]? = some (vs[k]'(by omega)) := by simp
          generalize vs[k]'(by omega) = u at hu
          have hl := mixRows_get N es k hlt
          have hown := HG.out.row k u _ hu hl
          have hfu := HG.out.top
          rw [mixRows_length] at hfu
          have hcu := own_cell hfu k u hu
          have hlen : (rawL es k).length ≤ 4096 := by
            unfold rawL
            have := List.length_filter_le (fun e : Int × Int => e.1 == (k : Int)) es
            simp at this ⊢
            omega
          have hne := own_ne hfu hown (by decide)
          rw [List.length_map] at hown
          have HOWN := Lib.hid hown
          have HU := Lib.hid hu
          have HL := Lib.hid hl
          have HFU := Lib.hid hfu
          have HNE := Lib.hid hne
          have HGB := Lib.hid HG.out.base
          clear hown hu hl hfu hne
          go_wp2_with fail
          refine (sort_row B u _ wr HOWN.out (by omega)).mono ?_
          rintro e w1 ⟨rfl, hg1, ho1⟩
          have hlm : ((rawL es k).mergeSort fun x y => decide (x ≤ y)).length = (rawL es k).length := List.length_mergeSort _
          have hfu1 := HFU.out.kept hg1 HNE.out
          have hcu1 := own_cell hfu1 k u HU.out
          have HG1 := Lib.hid hg1
          have HO1 := Lib.hid ho1
          have HFU1 := Lib.hid hfu1
          have HCS := Lib.hid (compact_raw HV.out k)
          clear hg1 ho1 hfu1
          go_wp2_with fail
          refine (compact_row B u _ w1 HO1.out (by omega)).mono ?_
          rintro e w2 ⟨v', rfl, hob, ⟨a', m', c', rfl⟩, hg2, ho2⟩
          have hfu2 := HFU1.out.kept hg2 HNE.out
          have hcu2 := own_cell hfu2 k u HU.out
          have hfz2 := hfu2.frozenAt k
          rw [HCS.out] at ho2
          have HG2 := Lib.hid (HG1.out.trans hg2)
          have HO2 := Lib.hid ho2
          have HOB := Lib.hid hob
          clear hg2 ho2 hfu2 hob HO1 HFU1 hlm
          go_wp2_with fail
          go_roundw
          case rel =>
            refine ⟨k + 1, vs.set k (.slice a' m' c'), by omega, by go_num, Lib.hid ?_, Lib.hid ?_, Lib.hid (by have := HG2.out.size; have := HS.out; simp; omega)⟩
            · rw [mixRows_succ]
              exact HG.out.put k u _ _ ((sucL N es k).map natC) (by rw [mixRows_length]) HU.out HL.out HG2.out (by
                have := HO2.out
                rw [List.length_map] at this ⊢
                rwa [List.map_map] at this) (.inl HOB.out)
            · have g2 : Below B wr w2 := (Below.refl B wr).grown HG2.out HGB.out (fun b hb => (HOWN.out.lt b hb).1)
              exact (HB.out.trans g2).setCell (by show B ≤ w.heap.size + 1; omega) _
          case measure => simp [intOf]; omega
        · have hkk : k = N := by omega
          subst hkk
          go_wp2_with fail
          go_ret
          refine ⟨_, vs, rfl, ?_, ?_⟩
          · have := HG.out
            rw [mixRows_all, HBB.out] at this
            exact this
          · have := HB.out
            rw [HBB.out] at this
            exact this
end Go.Proofs.Ytlcgbkeggmaljaa
