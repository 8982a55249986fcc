/- Contract of the reference's Parse. -/
import Derived.Test.YtbpgbbdebhmlkaaDoorVPlainRef
import Derived.Test.YtbpgbbdebhmlkaaDoorVValid
import Derived.Test.YtbpgbbdebhmlkaaDoorOwnInts
import Derived.Test.YtbpgbbdebhmlkaaDoorVCompare
import Derived.RegionTactic
namespace Go.Proofs.YtbpgbbdebhmlkaaDoor
open Go Go.RowKit

/-- the values of some parts. -/
def wVs (l : List (List UInt8)) : List Value := l.map fun x => .int .i64 (wordV x : Int)
/-- where the reference's reader stands: the parts that are done, and the part that it reads. -/
def RdS (s : ByteArray) (k : Nat) (done : List (List UInt8)) (cur : List UInt8) : Prop :=
  ∃ h t, dotsL (s.data.toList.drop k) = h :: t ∧ dotsL s.data.toList = done ++ (cur ++ h) :: t ∧ (∀ x ∈ done, wordOk x = true) ∧ AccW cur ∧ done.length + cur.length ≤ k
theorem RdS.start (s : ByteArray) : RdS s 0 [] [] := by
  cases e : dotsL s.data.toList with
  | nil => exact absurd e (dotsL_ne _)
  | cons h t => exact ⟨h, t, by rw [List.drop_zero, e], by simp [e], by simp, acc_nil, by simp⟩
theorem drop_at (s : ByteArray) (k : Nat) (h : k < s.size) : s.data.toList.drop k = s[k] :: s.data.toList.drop (k + 1) := by
  have hl : k < s.data.toList.length := by rw [← Lib.size_eq]; exact h
  rw [List.drop_eq_getElem_cons hl]; simp; rfl
theorem RdS.dot {s : ByteArray} {k : Nat} {done : List (List UInt8)} {cur : List UInt8} (h : RdS s k done cur) (hk : k < s.size) (hc : s[k] = 46) :
    (cur = [] → parseV s.data.toList = ((0, 0, 0), 3)) ∧ (cur ≠ [] → RdS s (k + 1) (done ++ [cur]) []) := by
  obtain ⟨h1, t1, e1, e2, e3, e4, e5⟩ := h
  rw [drop_at s k hk, hc, dotsL_dot] at e1
  obtain ⟨rfl, rfl⟩ := List.cons.inj e1
  rw [List.append_nil] at e2
  refine ⟨fun h0 => parse_bad _ cur (by rw [e2]; simp) (by rw [h0]; decide), fun h0 => ?_⟩
  cases e : dotsL (s.data.toList.drop (k + 1)) with
  | nil => exact absurd e (dotsL_ne _)
  | cons h t =>
    refine ⟨h, t, e, ?_, ?_, acc_nil, ?_⟩
    · rw [e2, e]; simp
    · intro x hx
      rcases List.mem_append.1 hx with hx | hx
      · exact e3 x hx
      · rw [List.mem_singleton.1 hx]; exact (wordOk_iff _).2 ⟨h0, e4⟩
    · simp; omega
theorem RdS.char {s : ByteArray} {k : Nat} {done : List (List UInt8)} {cur : List UInt8} (h : RdS s k done cur) (hk : k < s.size) (hc : s[k] ≠ 46) :
    ((dgB s[k] = false ∨ cur.length = 3 ∨ (cur ≠ [] ∧ wordV cur = 0)) → parseV s.data.toList = ((0, 0, 0), 3)) ∧
    (dgB s[k] = true → cur.length ≠ 3 → (cur = [] ∨ wordV cur ≠ 0) → RdS s (k + 1) done (cur ++ [s[k]])) := by
  obtain ⟨h1, t1, e1, e2, e3, e4, e5⟩ := h
  rw [drop_at s k hk] at e1
  cases e : dotsL (s.data.toList.drop (k + 1)) with
  | nil => exact absurd e (dotsL_ne _)
  | cons h t =>
    rw [dotsL_other _ _ h t hc e] at e1
    obtain ⟨rfl, rfl⟩ := List.cons.inj e1
    refine ⟨fun h0 => parse_bad _ (cur ++ s[k] :: h) (by rw [e2]; simp) ?_, fun g1 g2 g3 => ⟨h, t, e, by rw [e2]; simp, e3, acc_snoc _ _ e4 g1 (by have := e4.2.1; omega) g3, by simp; omega⟩⟩
    rcases h0 with h0 | h0 | ⟨h0, h2⟩
    · exact bad_char _ _ _ h0
    · exact bad_long _ _ _ h0
    · exact bad_zero _ _ _ h0 e4.1 h2
theorem RdS.stop {s : ByteArray} {done : List (List UInt8)} {cur : List UInt8} (h : RdS s s.size done cur) :
    (cur = [] → parseV s.data.toList = ((0, 0, 0), 3)) ∧ (cur ≠ [] → dotsL s.data.toList = done ++ [cur] ∧ ∀ x ∈ dotsL s.data.toList, wordOk x = true) := by
  obtain ⟨h1, t1, e1, e2, e3, e4, e5⟩ := h
  rw [List.drop_eq_nil_iff.2 (by rw [← Lib.size_eq]; exact Nat.le_refl _)] at e1
  obtain ⟨rfl, rfl⟩ := List.cons.inj (show [[]] = h1 :: t1 from e1)
  rw [List.append_nil] at e2
  refine ⟨fun h0 => parse_bad _ cur (by rw [e2]; simp) (by rw [h0]; decide), fun h0 => ⟨e2, fun x hx => ?_⟩⟩
  rw [e2] at hx
  rcases List.mem_append.1 hx with hx | hx
  · exact e3 x hx
  · rw [List.mem_singleton.1 hx]; exact (wordOk_iff _).2 ⟨h0, e4⟩
end Go.Proofs.YtbpgbbdebhmlkaaDoor
