/- The example of minimal version selection, in memory. -/
import Derived.Test.YtenfkejbndifdaaGreatDoorXB
namespace Go.Proofs.YtenfkejbndifdaaGreatDoor
set_option linter.unusedVariables false
set_option linter.unusedSimpArgs false
open Go Go.RowKit

theorem reqs_lit1 {W : World} {g : Nat} {t : TypeId} {p1 : ByteArray} {s1 : Value} {l1 : List (Int × Int)} (h : W.heap[g]? = some (.cells #[.string p1, s1] t (0, 0))) (h1 : SpansOf W.heap.size s1 l1 W) : ReqsOf W.heap.size (.slice (some ⟨g, 0, none⟩) 1 1) [(p1, l1)] W := by
  have hg := (Array.getElem?_eq_some_iff.1 h).1
  refine ⟨_, _, rfl, fun i q hq => ?_⟩
  match i, hq with
  | 0, hq => cases hq; exact ⟨g, 0, s1, rfl, hg, cell_of_row _ _ 0 _ _ _ h, cell_of_row _ _ 1 _ _ _ h, h1⟩
  | i + 1, hq => simp at hq
theorem reqs_lit2 {W : World} {g : Nat} {t : TypeId} {p1 p2 : ByteArray} {s1 s2 : Value} {l1 l2 : List (Int × Int)} (h : W.heap[g]? = some (.cells #[.string p1, s1, .string p2, s2] t (0, 0))) (h1 : SpansOf W.heap.size s1 l1 W) (h2 : SpansOf W.heap.size s2 l2 W) : ReqsOf W.heap.size (.slice (some ⟨g, 0, none⟩) 2 2) [(p1, l1), (p2, l2)] W := by
  have hg := (Array.getElem?_eq_some_iff.1 h).1
  refine ⟨_, _, rfl, fun i q hq => ?_⟩
  match i, hq with
  | 0, hq => cases hq; exact ⟨g, 0, s1, rfl, hg, cell_of_row _ _ 0 _ _ _ h, cell_of_row _ _ 1 _ _ _ h, h1⟩
  | 1, hq => cases hq; exact ⟨g, 0, s2, rfl, hg, cell_of_row _ _ 2 _ _ _ h, cell_of_row _ _ 3 _ _ _ h, h2⟩
  | i + 2, hq => simp at hq
theorem reqs_nil (B : Nat) (W : World) : ReqsOf B (.slice none 0 0) [] W := ⟨_, _, rfl, fun i q hq => by simp at hq⟩
set_option maxRecDepth 100000 in
theorem rels_ex {W : World} {g : Nat} {t : TypeId} {r0 r5 : Value} (h : W.heap[g]? = some (.cells #[.string bA, .int .i64 1, .int .i64 0, .int .i64 0, r0, .string ⟨#[]⟩, .string ⟨#[]⟩, .string ⟨#[]⟩, .bool false, .string bB, .int .i64 1, .int .i64 0, .int .i64 0, .slice none 0 0, .string ⟨#[]⟩, .string ⟨#[]⟩, .string ⟨#[]⟩, .bool false, .string bB, .int .i64 1, .int .i64 1, .int .i64 0, .slice none 0 0, .string ⟨#[]⟩, .string ⟨#[]⟩, .string ⟨#[]⟩, .bool false, .string bB, .int .i64 1, .int .i64 2, .int .i64 0, .slice none 0 0, .string ⟨#[]⟩, .string ⟨#[]⟩, .string ⟨#[]⟩, .bool false, .string bB, .int .i64 1, .int .i64 3, .int .i64 0, .slice none 0 0, .string ⟨#[]⟩, .string ⟨#[]⟩, .string ⟨#[]⟩, .bool false, .string bC, .int .i64 1, .int .i64 0, .int .i64 0, r5, .string ⟨#[]⟩, .string ⟨#[]⟩, .string ⟨#[]⟩, .bool false] t (0, 0))) (h0 : ReqsOf W.heap.size r0 [needQ bB 1000, needQ bC 0] W) (h5 : ReqsOf W.heap.size r5 [needQ bB 2000] W) : RelsOf W.heap.size (.slice (some ⟨g, 0, none⟩) 6 6) exX W := by
  have hg := (Array.getElem?_eq_some_iff.1 h).1
  refine ⟨_, _, rfl, fun i x hx => ?_⟩
  match i, hx with
  | 0, hx => cases hx; exact ⟨g, 0, rfl, hg, r0, cell_of_row _ _ 0 _ _ _ h, cell_of_row _ _ 1 _ _ _ h, cell_of_row _ _ 2 _ _ _ h, cell_of_row _ _ 3 _ _ _ h, cell_of_row _ _ 4 _ _ _ h, cell_of_row _ _ 5 _ _ _ h, cell_of_row _ _ 6 _ _ _ h, cell_of_row _ _ 7 _ _ _ h, cell_of_row _ _ 8 _ _ _ h, h0⟩
  | 1, hx => cases hx; exact ⟨g, 0, rfl, hg, (.slice none 0 0), cell_of_row _ _ 9 _ _ _ h, cell_of_row _ _ 10 _ _ _ h, cell_of_row _ _ 11 _ _ _ h, cell_of_row _ _ 12 _ _ _ h, cell_of_row _ _ 13 _ _ _ h, cell_of_row _ _ 14 _ _ _ h, cell_of_row _ _ 15 _ _ _ h, cell_of_row _ _ 16 _ _ _ h, cell_of_row _ _ 17 _ _ _ h, (reqs_nil _ _)⟩
  | 2, hx => cases hx; exact ⟨g, 0, rfl, hg, (.slice none 0 0), cell_of_row _ _ 18 _ _ _ h, cell_of_row _ _ 19 _ _ _ h, cell_of_row _ _ 20 _ _ _ h, cell_of_row _ _ 21 _ _ _ h, cell_of_row _ _ 22 _ _ _ h, cell_of_row _ _ 23 _ _ _ h, cell_of_row _ _ 24 _ _ _ h, cell_of_row _ _ 25 _ _ _ h, cell_of_row _ _ 26 _ _ _ h, (reqs_nil _ _)⟩
  | 3, hx => cases hx; exact ⟨g, 0, rfl, hg, (.slice none 0 0), cell_of_row _ _ 27 _ _ _ h, cell_of_row _ _ 28 _ _ _ h, cell_of_row _ _ 29 _ _ _ h, cell_of_row _ _ 30 _ _ _ h, cell_of_row _ _ 31 _ _ _ h, cell_of_row _ _ 32 _ _ _ h, cell_of_row _ _ 33 _ _ _ h, cell_of_row _ _ 34 _ _ _ h, cell_of_row _ _ 35 _ _ _ h, (reqs_nil _ _)⟩
  | 4, hx => cases hx; exact ⟨g, 0, rfl, hg, (.slice none 0 0), cell_of_row _ _ 36 _ _ _ h, cell_of_row _ _ 37 _ _ _ h, cell_of_row _ _ 38 _ _ _ h, cell_of_row _ _ 39 _ _ _ h, cell_of_row _ _ 40 _ _ _ h, cell_of_row _ _ 41 _ _ _ h, cell_of_row _ _ 42 _ _ _ h, cell_of_row _ _ 43 _ _ _ h, cell_of_row _ _ 44 _ _ _ h, (reqs_nil _ _)⟩
  | 5, hx => cases hx; exact ⟨g, 0, rfl, hg, r5, cell_of_row _ _ 45 _ _ _ h, cell_of_row _ _ 46 _ _ _ h, cell_of_row _ _ 47 _ _ _ h, cell_of_row _ _ 48 _ _ _ h, cell_of_row _ _ 49 _ _ _ h, cell_of_row _ _ 50 _ _ _ h, cell_of_row _ _ 51 _ _ _ h, cell_of_row _ _ 52 _ _ _ h, cell_of_row _ _ 53 _ _ _ h, h5⟩
  | i + 6, hx => simp [exX] at hx
theorem ex_bd : ∀ x ∈ exX, RelBd x := fun x hx => by
  have h : (exX.all fun x => decide (x.path.size ≤ 1000000) && (decide (x.reqs.length ≤ 1000000) && x.reqs.all fun q => decide (q.1.size ≤ 1000000) && decide (q.2.length ≤ 1000000))) = true := by decide +kernel
  have h1 := List.all_eq_true.1 h x hx
  simp only [Bool.and_eq_true, decide_eq_true_eq, List.all_eq_true] at h1
  exact ⟨h1.1, h1.2.1, fun q hq => h1.2.2 q hq⟩
theorem ex_rbd : ReqsBd exT := fun q hq => by
  have h : (exT.all fun q => decide (q.1.size ≤ 1000000) && decide (q.2.length ≤ 1000000)) = true := by decide +kernel
  have h1 := List.all_eq_true.1 h q hq
  simpa only [Bool.and_eq_true, decide_eq_true_eq] using h1
theorem sels_lit3 {W : World} {g : Nat} {t : TypeId} (x y z : SelL) (h : W.heap[g]? = some (.cells #[.string x.1, .int .i64 x.2.1, .int .i64 x.2.2.1, .int .i64 x.2.2.2, .string y.1, .int .i64 y.2.1, .int .i64 y.2.2.1, .int .i64 y.2.2.2, .string z.1, .int .i64 z.2.1, .int .i64 z.2.2.1, .int .i64 z.2.2.2] t (0, 0))) : SelsOf W.heap.size (.slice (some ⟨g, 0, none⟩) 3 3) [x, y, z] W := by
  have hg := (Array.getElem?_eq_some_iff.1 h).1
  refine ⟨_, _, rfl, fun i q hq => ?_⟩
  match i, hq with
  | 0, hq => cases hq; exact ⟨g, 0, rfl, hg, cell_of_row _ _ 0 _ _ _ h, cell_of_row _ _ 1 _ _ _ h, cell_of_row _ _ 2 _ _ _ h, cell_of_row _ _ 3 _ _ _ h⟩
  | 1, hq => cases hq; exact ⟨g, 0, rfl, hg, cell_of_row _ _ 4 _ _ _ h, cell_of_row _ _ 5 _ _ _ h, cell_of_row _ _ 6 _ _ _ h, cell_of_row _ _ 7 _ _ _ h⟩
  | 2, hq => cases hq; exact ⟨g, 0, rfl, hg, cell_of_row _ _ 8 _ _ _ h, cell_of_row _ _ 9 _ _ _ h, cell_of_row _ _ 10 _ _ _ h, cell_of_row _ _ 11 _ _ _ h⟩
  | i + 3, hq => simp at hq
end Go.Proofs.YtenfkejbndifdaaGreatDoor
