/- Plain facts on positions: line and column of an offset. -/
import Derived.Lib.LastIndexByte
import Derived.Lib.Bytealg
import Derived.Lib.Strings
namespace Go.Proofs.YtmlfoffahfbalaaDoor
open Go

/-- line and column behind some bytes. -/
def lineL (l : List UInt8) : Int := 1 + (l.count 10 : Nat)
def colL (l : List UInt8) : Int := l.foldl (fun c b => if b = 10 then 1 else c + 1) 1

theorem lineL_snoc (l : List UInt8) (b : UInt8) : lineL (l ++ [b]) = if b = 10 then lineL l + 1 else lineL l := by
  unfold lineL
  rw [List.count_append]
  by_cases h : b = 10
  · subst h; simp; omega
  · simp [h]
theorem colL_snoc (l : List UInt8) (b : UInt8) : colL (l ++ [b]) = if b = 10 then 1 else colL l + 1 := by
  unfold colL
  rw [List.foldl_append]; rfl
theorem colL_none (l : List UInt8) (c : Int) (h : ∀ b ∈ l, b ≠ 10) : l.foldl (fun c b => if b = 10 then 1 else c + 1) c = c + l.length := by
  induction l generalizing c with
  | nil => simp
  | cons b l ih =>
    rw [List.foldl_cons, if_neg (h b (by simp)), ih _ (fun x hx => h x (by simp [hx]))]
    simp; omega
theorem colL_last (a r : List UInt8) (h : ∀ b ∈ r, b ≠ 10) : colL (a ++ 10 :: r) = 1 + r.length := by
  unfold colL
  rw [List.foldl_append, List.foldl_cons, if_pos rfl, colL_none r 1 h]
theorem colL_pos (l : List UInt8) : 1 ≤ colL l ∧ colL l ≤ 1 + l.length := by
  rcases List.eq_nil_or_concat l with rfl | ⟨m, b, rfl⟩
  · simp [colL]
  · have ih := colL_pos m
    rw [List.concat_eq_append, colL_snoc]
    split <;> simp <;> omega
termination_by l.length
decreasing_by subst_vars; simp

theorem data_bang (s : ByteArray) (j : Nat) (h : j < s.size) : s.data[j]! = s.data.toList[j]'(by simpa using h) := by
  rw [getElem!_pos s.data j h]; simp

/-- the column, as the code reckons it. -/
theorem col_code (s : ByteArray) : (s.size : Int) - Lib.lastIndexByte s 10 = colL s.data.toList := by
  have hl : s.data.toList.length = s.size := (Lib.size_eq s).symm
  have conv : ∀ j (hj : j < s.size), ((s.data[j]!).toNat : Int) ≠ 10 → s.data.toList[j]'(by omega) ≠ 10 := by
    intro j hj h e
    rw [data_bang s j hj, e] at h
    exact h rfl
  rcases Lib.lastIndexByte_spec s 10 with ⟨h1, h2⟩ | ⟨i, hi, h1, h2, h3⟩
  · rw [h1]
    unfold colL
    rw [colL_none _ _ (fun b hb => ?_)]
    · omega
    · obtain ⟨j, hj, rfl⟩ := List.getElem_of_mem hb
      exact conv j (by omega) (h2 j (by omega))
  · rw [h1]
    have e1 : s.data.toList[i]'(by omega) = 10 := by
      rw [data_bang s i hi] at h2
      exact UInt8.toNat_inj.1 (by have : ((10 : UInt8).toNat) = 10 := rfl; omega)
    have e2 : s.data.toList = s.data.toList.take i ++ 10 :: s.data.toList.drop (i + 1) := by
      rw [← e1, List.getElem_cons_drop, List.take_append_drop]
    rw [e2, colL_last _ _ (fun b hb => ?_)]
    · simp; omega
    · obtain ⟨j, hj, rfl⟩ := List.getElem_of_mem hb
      rw [List.getElem_drop]
      simp at hj
      exact conv (i + 1 + j) (by omega) (h3 (i + 1 + j) (by omega) (by omega))
end Go.Proofs.YtmlfoffahfbalaaDoor
