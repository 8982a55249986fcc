/- Graphs, plain: the shortest cycle as the program finds it. -/
import Derived.Test.YtlcgbkeggmaljaaGPlainPath
namespace Go.Proofs.Ytlcgbkeggmaljaa
set_option linter.unusedVariables false
set_option linter.unusedSimpArgs false

/-- the nearest successor so far, and its distance. -/
def cstep (far : List Int) (st : Int × Int) (k : Nat) : Int × Int := if 0 ≤ gD far k ∧ (st.1 < 0 ∨ gD far k < st.2) then ((k : Int), gD far k) else st
/-- the distances to a node over nodes that are not less. -/
def cfar (N : Nat) (es : List (Int × Int)) (first : Nat) : List Int := bfsD (sucs N (es.map swapE)) first first
/-- the best cycle so far. -/
def cycStep (N : Nat) (es : List (Int × Int)) (best : List Nat) (first : Nat) : List Nat :=
  let st := (ofP (sucs N es) first first).foldl (cstep (cfar N es first)) (-1, 0)
  if st.1 < 0 ∨ (best ≠ [] ∧ (best.length : Int) ≤ st.2 + 1) then best
  else if st.1 = (first : Int) then [first] else first :: (descP (sucs N es) (cfar N es first) (gD (cfar N es first) st.1.toNat).toNat st.1.toNat).dropLast
def cycF (N : Nat) (es : List (Int × Int)) (k : Nat) : List Nat := (List.range k).foldl (cycStep N es) []
theorem cycF_succ (N : Nat) (es : List (Int × Int)) (k : Nat) : cycF N es (k + 1) = cycStep N es (cycF N es k) k := by
  unfold cycF
  rw [List.range_succ, List.foldl_append]
  rfl
theorem descP_length (S : List (List Nat)) (far : List Int) : ∀ (m n : Nat), (descP S far m n).length ≤ m + 1
  | 0, n => by simp [descP]
  | m + 1, n => by
    unfold descP
    split
    · have := descP_length S far m ‹_›
      simp
      omega
    · simp
theorem descP_pos (S : List (List Nat)) (far : List Int) (m n : Nat) : 0 < (descP S far m n).length := by cases m <;> simp [descP]
/-- what is known of the nearest successor. -/
theorem cstep_ok {far : List Int} : ∀ (l : List Nat) (st : Int × Int), (st.1 < 0 ∨ (0 ≤ st.2 ∧ ∃ k : Nat, st.1 = (k : Int) ∧ gD far k = st.2)) →
    ((l.foldl (cstep far) st).1 < 0 ∨ (0 ≤ (l.foldl (cstep far) st).2 ∧ ∃ k : Nat, (l.foldl (cstep far) st).1 = (k : Int) ∧ gD far k = (l.foldl (cstep far) st).2))
  | [], st, h => h
  | k :: l, st, h => by
    refine cstep_ok l (cstep far st k) ?_
    unfold cstep
    split
    · rename_i hc
      exact .inr ⟨hc.1, k, rfl, rfl⟩
    · exact h
end Go.Proofs.Ytlcgbkeggmaljaa
