/- Plain facts: how long the sources of the statement on returns are. -/
import Derived.Test.YtmlfoffahfbalaaDoorPlainGap2
namespace Go.Proofs.YtmlfoffahfbalaaDoor
open Go

theorem run_sum (s : ByteArray) : ∀ (ys : List Yld) (a b : Nat), Runs s a ys b → (ys.map (fun y => (writtenL y.kind y.text.data.toList).length)).sum + 4 * a ≤ 4 * b
  | [], a, b, h => by have h : a = b := h; simp; omega
  | y :: ys, a, b, h => by
    obtain ⟨h1, h2, h3, h4⟩ := run_head s y ys a b h
    have ih := run_sum s ys _ b h3
    rw [List.map_cons, List.sum_cons]
    rcases h4 with ⟨g1, _, g3⟩ | ⟨g1, _, _, _, g3⟩
    · have e : (writtenL y.kind y.text.data.toList).length ≤ 4 * y.text.size + 2 := by
        unfold writtenL
        rw [if_pos g1, quote_len]
        have := flat_len y.text.data.toList
        rw [← Lib.size_eq] at this
        omega
      omega
    · have e : (writtenL y.kind y.text.data.toList).length = y.text.size := by unfold writtenL; rw [if_neg g1, Lib.size_eq]
      omega
theorem plain_len (ts : List (Int × List UInt8)) : (plainL ts).length = (ts.map (fun t => (writtenL t.1 t.2).length)).sum + ts.length := by
  induction ts with
  | nil => rfl
  | cons t r ih =>
    have e : plainL (t :: r) = (writtenL t.1 t.2 ++ [32]) ++ plainL r := rfl
    rw [e, List.length_append, List.length_append, ih, List.map_cons, List.sum_cons]
    simp only [List.length_cons, List.length_nil]
    omega
theorem gap5_len (k : Nat) : (gap5 k).length ≤ 11 := by unfold gap5; split <;> simp
theorem other_len (ts : List (Nat × Int × List UInt8)) : (otherL ts).length ≤ (ts.map (fun t => (writtenL t.2.1 t.2.2).length)).sum + 11 * ts.length := by
  induction ts with
  | nil => simp [otherL]
  | cons t r ih =>
    obtain ⟨k, t⟩ := t
    have := gap5_len k
    simp only [otherL, List.length_append, List.map_cons, List.sum_cons, List.length_cons]
    omega
theorem run_text (s : ByteArray) : ∀ (ys : List Yld) (a b : Nat), Runs s a ys b → ∀ y ∈ ys, y.text.size ≤ b
  | [], _, _, _, y, hy => by cases hy
  | x :: ys, a, b, h, y, hy => by
    obtain ⟨h1, h2, h3, h4⟩ := run_head s x ys a b h
    rcases List.mem_cons.1 hy with rfl | hy
    · have := Runs.len h3
      rcases h4 with ⟨_, _, g3⟩ | ⟨_, _, _, _, g3⟩ <;> omega
    · exact run_text s ys _ b h3 y hy
theorem written_le (k : Int) (t : List UInt8) : (writtenL k t).length ≤ 4 * t.length + 2 := by
  unfold writtenL
  split
  · rw [quote_len]; have := flat_len t; omega
  · omega
theorem otherL_append (a b : List (Nat × Int × List UInt8)) : otherL (a ++ b) = otherL a ++ otherL b := by
  induction a with
  | nil => rfl
  | cons x r ih => obtain ⟨k, t⟩ := x; simp [otherL, ih]
theorem plain_take (ts : List (Int × List UInt8)) (k : Nat) : (plainL (ts.take k)).length ≤ (plainL ts).length := by
  have e : plainL ts = plainL (ts.take k) ++ plainL (ts.drop k) := by
    unfold plainL
    rw [← List.flatMap_append, List.take_append_drop]
  rw [e, List.length_append]; omega
theorem other_take (ts : List (Nat × Int × List UInt8)) (k : Nat) : (otherL (ts.take k)).length ≤ (otherL ts).length := by
  have e : otherL ts = otherL (ts.take k) ++ otherL (ts.drop k) := by rw [← otherL_append, List.take_append_drop]
  rw [e, List.length_append]; omega
/-- the number of a gap. -/
def kNum (ks : List UInt8) (j : Nat) : Nat := match ks[j]? with
  | some c => c.toNat % 5
  | none => 0
def zipK (ks : List UInt8) (ts : List (Int × List UInt8)) : List (Nat × Int × List UInt8) := ts.mapIdx fun j t => (kNum ks j, t)
theorem zipK_get (ks : List UInt8) (ts : List (Int × List UInt8)) (j : Nat) (t : Int × List UInt8) (h : ts[j]? = some t) : (zipK ks ts)[j]? = some (kNum ks j, t) := by
  unfold zipK; rw [List.getElem?_mapIdx, h]; rfl
theorem zipK_map (ks : List UInt8) (ts : List (Int × List UInt8)) : (zipK ks ts).map (·.2) = ts := by
  apply List.ext_getElem?
  intro j
  rw [List.getElem?_map]
  cases h : ts[j]? with
  | none =>
    have : (zipK ks ts)[j]? = none := by unfold zipK; rw [List.getElem?_mapIdx, h]; rfl
    rw [this]; rfl
  | some t => rw [zipK_get ks ts j t h]; rfl
theorem zipK_length (ks : List UInt8) (ts : List (Int × List UInt8)) : (zipK ks ts).length = ts.length := by unfold zipK; simp
theorem take_snoc {α : Type} (l : List α) (j : Nat) (t : α) (h : l[j]? = some t) : l.take (j + 1) = l.take j ++ [t] := by rw [List.take_add_one, h]; rfl
end Go.Proofs.YtmlfoffahfbalaaDoor
