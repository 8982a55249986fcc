/- Graphs, plain: the components in order. -/
import Derived.Test.YtlcgbkeggmaljaaGPlainBfs
namespace Go.Proofs.Ytlcgbkeggmaljaa
set_option linter.unusedVariables false
set_option linter.unusedSimpArgs false

abbrev bD (d : List Bool) (a : Nat) : Bool := d.getD a false
/-- a row whose nodes are all done. -/
def lrdy (S : List (List Nat)) (done : List Bool) (k : Nat) : Bool := !bD done k && !((S.getD k []).any fun j => !bD done j)
/-- the first node that is ready; 0 if there is none. -/
def lpick (S : List (List Nat)) (done : List Bool) : Nat := ((List.range S.length).find? (lrdy S done)).getD 0
def lstep (S : List (List Nat)) (st : List Bool × List Nat) : List Bool × List Nat := (st.1.set (lpick S st.1) true, st.2 ++ [lpick S st.1])
def lrun (S : List (List Nat)) : Nat → List Bool × List Nat
  | 0 => (List.replicate S.length false, [])
  | k + 1 => lstep S (lrun S k)
def listF (S : List (List Nat)) : List Nat := (lrun S S.length).2
theorem lrun_len (S : List (List Nat)) : ∀ k, (lrun S k).1.length = S.length ∧ (lrun S k).2.length = k
  | 0 => by simp [lrun]
  | k + 1 => by
    obtain ⟨h1, h2⟩ := lrun_len S k
    unfold lrun lstep
    simp [h1, h2]
theorem lpick_lt (S : List (List Nat)) (done : List Bool) (h : 0 < S.length) : lpick S done < S.length := by
  unfold lpick
  cases e : (List.range S.length).find? (lrdy S done) with
  | none => exact h
  | some x => exact List.mem_range.1 (List.mem_of_find?_eq_some e)
theorem lrun_lt (S : List (List Nat)) : ∀ k, k ≤ S.length → ∀ x ∈ (lrun S k).2, x < S.length
  | 0, _, x, hx => by simp [lrun] at hx
  | k + 1, hk, x, hx => by
    unfold lrun lstep at hx
    simp only [List.mem_append, List.mem_singleton] at hx
    rcases hx with hx | rfl
    · exact lrun_lt S k (by omega) x hx
    · exact lpick_lt S _ (by omega)
theorem listF_length (S : List (List Nat)) : (listF S).length = S.length := (lrun_len S _).2
theorem listF_lt (S : List (List Nat)) : ∀ x ∈ listF S, x < S.length := lrun_lt S _ (Nat.le_refl _)
/-- none of the first k is ready. -/
def NoneRdy (S : List (List Nat)) (done : List Bool) (k : Nat) : Prop := ∀ j, j < k → lrdy S done j = false
theorem lpick_at {S : List (List Nat)} {done : List Bool} {k : Nat} (hk : k < S.length) (hn : NoneRdy S done k) (hr : lrdy S done k = true) : lpick S done = k := by
  unfold lpick
  have : (List.range S.length).find? (lrdy S done) = some k := by
    rw [List.find?_eq_some_iff_append]
    refine ⟨hr, List.range k, (List.range (S.length - k - 1)).map (· + (k + 1)), ?_, fun a ha => ?_⟩
    · have e : S.length = k + (1 + (S.length - k - 1)) := by omega
      rw [e, List.range_add, List.range_add]
      have e2 : k + (1 + (S.length - k - 1)) - k - 1 = S.length - k - 1 := by omega
      simp [List.range_succ, Function.comp_def, Nat.add_comm, Nat.add_left_comm]
    · rw [hn a (List.mem_range.1 ha)]; rfl
  rw [this]; rfl
theorem lpick_none {S : List (List Nat)} {done : List Bool} (hn : NoneRdy S done S.length) : lpick S done = 0 := by
  unfold lpick
  have : (List.range S.length).find? (lrdy S done) = none := by
    rw [List.find?_eq_none]
    intro x hx
    rw [hn x (List.mem_range.1 hx)]; simp
  rw [this]; rfl
end Go.Proofs.Ytlcgbkeggmaljaa
