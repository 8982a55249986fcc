/- Ranges over a function inside a loop: the marks that pile up, and a loop by a count of rounds. -/
import Derived.Test.YtlcgbkeggmaljaaGBase
import Derived.RangeFuncLeaves
namespace Go.Proofs.Ytlcgbkeggmaljaa
set_option linter.unusedVariables false
set_option linter.unusedSimpArgs false
open Go Go.RowKit

/-- a loop whose rounds are counted. -/
theorem wpIn_loop_gas {F : Fence} {n : Nat} {P : Program} {Q : Exit → Act → World → Prop} {a : Act} {w : World} {c : Code} (I : Nat → Act → World → Prop) (m : Nat) (h0 : I m a w)
    (round : ∀ j a w, I j a w → c.wpIn F n P (Exit.then (fun a' w' => ∃ j', j' < j ∧ I j' a' w') Q) a w) : (Code.loop c).wpIn F n P Q a w := by
  have key : ∀ k j a w, j < k → I j a w → Code.roundsIn F n P c Q k a w := by
    intro k
    induction k with
    | zero => intro j a w h; omega
    | succ k ih =>
      intro j a w hj hI
      rw [roundsIn_succ]
      refine Code.wpIn_mono (fun e a' w' q => ?_) (round j a w hI)
      cases e <;> first | exact q | (obtain ⟨j', h1, h2⟩ := q; exact ih j' a' w' (by omega) h2)
  exact wpIn_loop_rounds (m + 1) (key _ _ _ _ (Nat.lt_succ_self m) h0)

/-- the marks of the ranges over a function that have ended. -/
def Marks (B : Nat) : List Deferred → World → Prop
  | [], _ => True
  | d :: ds, W => (∃ D, d = { target := .collected D, args := #[] } ∧ B ≤ D ∧ W.heap[D]? = some (.deferred (some [])) ∧ ∀ d' ∈ ds, ∀ D', d' = { target := .collected D', args := #[] } → D' < D) ∧ Marks B ds W
/-- whatever is no cells, from B on, is as it was. -/
def NoCells (B : Nat) (W W' : World) : Prop := ∀ k, B ≤ k → (∃ o : Obj, W.heap[k]? = some o ∧ o.isCells = false) → W'.heap[k]? = W.heap[k]?
theorem NoCells.of_keeps {B : Nat} {W W' : World} (h : KeepsFrom B W W') : NoCells B W W' := fun k hk ⟨o, ho, hc⟩ => (h.same k o hk ho hc).trans ho.symm
theorem Marks.keep {B : Nat} : ∀ {ds : List Deferred} {W W' : World}, Marks B ds W → NoCells B W W' → Marks B ds W'
  | [], _, _, _, _ => trivial
  | _ :: _, _, _, ⟨⟨D, h1, h2, h3, h4⟩, hr⟩, hk => ⟨⟨D, h1, h2, (hk D h2 ⟨_, h3, rfl⟩).trans h3, h4⟩, hr.keep hk⟩
theorem Marks.grown {B : Nat} {ds : List Deferred} {W W' : World} {row : Option Nat} (h : Marks B ds W) (hg : W.grownBy W' row) (hr : ∀ r, row = some r → ∃ o : Obj, W.heap[r]? = some o ∧ o.isCells = true) : Marks B ds W' :=
  h.keep (fun k _ ⟨o, ho, hc⟩ => hg.block k (Array.getElem?_eq_some_iff.1 ho).1 (fun e => by
    obtain ⟨o', ho', hc'⟩ := hr k e.symm
    rw [ho] at ho'
    cases ho'
    rw [hc] at hc'
    cases hc'))
theorem Marks.lt {B : Nat} : ∀ {ds : List Deferred} {W : World}, Marks B ds W → ∀ d ∈ ds, ∀ D, d = { target := .collected D, args := #[] } → D < W.heap.size
  | [], _, _, d, hd, _, _ => by cases hd
  | _ :: _, W, ⟨⟨D0, h1, _, h3, _⟩, hr⟩, d, hd, D, e => by
    rcases List.mem_cons.1 hd with rfl | hd
    · have e2 := h1.symm.trans e
      simp at e2
      subst e2
      exact (Array.getElem?_eq_some_iff.1 h3).1
    · exact hr.lt d hd D e
theorem Marks.push {B B2 D : Nat} {ds : List Deferred} {W W0 : World} (h : Marks B ds W) (h0 : Marks B ds W0) (hB : B ≤ B2) (hB2 : W0.heap.size ≤ B2) (hD : B2 ≤ D) (hK : W.heap[D]? = some (.deferred (some []))) : Marks B ({ target := .collected D, args := #[] } :: ds) W :=
  ⟨⟨D, rfl, by omega, hK, fun d hd D' e => by have := h0.lt d hd D' e; omega⟩, h⟩
theorem Marks.turn {B : Nat} : ∀ {ds : List Deferred} {Wl X Y : World} {row : Option Nat}, Marks B ds Wl → Marks B ds X → X.grownBy Y row → (∀ r, row = some r → Wl.heap.size ≤ r) → Marks B ds Y
  | [], _, _, _, _, _, _, _, _ => trivial
  | _ :: _, _, _, _, _, ⟨⟨D0, e0, _, h0, _⟩, hl⟩, ⟨⟨D, h1, h2, h3, h4⟩, hr⟩, hg, hrow => by
    refine ⟨⟨D, h1, h2, (hg.block D (Array.getElem?_eq_some_iff.1 h3).1 (fun e => ?_)).trans h3, h4⟩, Marks.turn hl hr hg hrow⟩
    have := hrow D e.symm
    have e2 := e0.symm.trans h1
    simp at e2
    subst e2
    have := (Array.getElem?_eq_some_iff.1 h0).1
    omega
/-- what the function's return does: the marks' blocks are shut, nothing else is turned. -/
structure Shut (B : Nat) (W W' : World) : Prop where
  os : W'.os = W.os
  tape : W'.tape = W.tape
  output : W'.output = W.output
  size : W'.heap.size = W.heap.size
  low : ∀ k, k < B → W'.heap[k]? = W.heap[k]?
  cells : ∀ (k : Nat) (o : Obj), W.heap[k]? = some o → o.isCells = true → W'.heap[k]? = some o
theorem Shut.refl (B : Nat) (W : World) : Shut B W W := ⟨rfl, rfl, rfl, rfl, fun _ _ => rfl, fun _ _ h _ => h⟩
theorem Shut.below {B B' : Nat} {W W' : World} (h : Shut B W W') (hB : B' ≤ B) : Below B' W W' := ⟨h.os, h.tape, h.output, by rw [h.size]; exact Nat.le_refl _, fun k hk => h.low k (by omega)⟩
theorem Shut.blk {B b t : Nat} {W W' : World} {cs : Array Value} {f : Nat × Nat} (h : Shut B W W') (hb : W.heap[b]? = some (.cells cs t f)) : W'.heap[b]? = some (.cells cs t f) := h.cells b _ hb rfl
theorem leave_marks {F : Fence} {n : Nat} {P : Program} {fn : Func} {tmps : Array Value} {R : Ending → World → Prop} {B : Nat} : ∀ {ds : List Deferred} {W W0 : World}, Marks B ds W → Shut B W0 W → (∀ W', Shut B W0 W' → ∃ v, (results fn tmps).run P W' = .ok v W' ∧ R (.returned v) W') → LeavesInM F n P fn tmps R ds .returning W
  | [], W, W0, _, hs, h => h W hs
  | d :: ds, W, W0, ⟨⟨D, hd, hB, hK, hu⟩, hr⟩, hs, h => by
    refine ⟨by simp, .inl ⟨D, _, by rw [hd], run_takeDeferred hK, ?_⟩⟩
    have hr2 : Marks B ds (W.putObj D (.deferred none)) := by
      have : ∀ (l : List Deferred), (∀ d' ∈ l, ∀ D', d' = { target := .collected D', args := #[] } → D' < D) → Marks B l W → Marks B l (W.putObj D (.deferred none)) := by
        intro l
        induction l with
        | nil => intro _ _; trivial
        | cons x l ih =>
          rintro hl ⟨⟨D1, h1, h2, h3, h4⟩, hm⟩
          have := hl x (by simp) D1 h1
          exact ⟨⟨D1, h1, h2, (World.putObj_heap_other (by omega)).trans h3, h4⟩, ih (fun d' hd' => hl d' (by simp [hd'])) hm⟩
      exact this ds hu hr
    refine leave_marks hr2 ⟨hs.os, hs.tape, hs.output, ?_, fun k hk => ?_, fun k o ho hc => ?_⟩ h
    · rw [← hs.size]; simp [World.putObj]
    · rw [World.putObj_heap_other (by omega)]; exact hs.low k hk
    · have h1 := hs.cells k o ho hc
      rw [World.putObj_heap_other (fun e => by subst e; rw [hK] at h1; cases h1; cases hc)]
      exact h1
end Go.Proofs.Ytlcgbkeggmaljaa
