/- The example of the chapter, plain. -/
import Derived.Test.YtlcgbkeggmaljaaGSame
namespace Go.Proofs.Ytlcgbkeggmaljaa
set_option linter.unusedVariables false
set_option linter.unusedSimpArgs false
open Go Go.RowKit

def es0 : List (Int × Int) := [(0, 1), (1, 2), (2, 1), (2, 3), (4, 3)]
def ns0 : List ByteArray := List.replicate 5 ⟨#[]⟩
theorem ns0_len : ns0.length = 5 := by simp [ns0]
theorem val0 : validG 5 es0 = true := by decide
theorem suc0 : sucs 5 es0 = [[1], [2], [1, 3], [], [3]] := by decide
theorem tar0 : ((tarG 5 es0).co, (tarG 5 es0).ct) = ([2, 1, 1, 0, 3], 4) := by
  unfold tarG
  rw [suc0]
  decide
theorem num0 : Numbered 5 es0 := by
  have h := tar0
  simp only [Prod.mk.injEq] at h
  intro n hn
  rw [h.1, h.2]
  match n, hn with
  | 0, _ => decide
  | 1, _ => decide
  | 2, _ => decide
  | 3, _ => decide
  | 4, _ => decide
  | n + 5, h => omega
theorem nodes0 : crun [2, 1, 1, 0, 3] 4 5 = ([2, 1, 0, 3], [[0], [1, 2], [3], [4]]) := by decide
theorem nodesG0 : nodesG 5 es0 = [[0], [1, 2], [3], [4]] := by
  have h := tar0
  simp only [Prod.mk.injEq] at h
  unfold nodesG
  rw [h.1, h.2, nodes0]
theorem condG0 : condG 5 es0 = [[1], [2], [], [2]] := by
  have h := tar0
  simp only [Prod.mk.injEq] at h
  unfold condG
  rw [nodesG0, h.1, h.2, nodes0, suc0]
  decide
theorem list0 : listF [[1], [2], [], [2]] = [2, 1, 0, 3] := by decide
theorem comps0 : compsG 5 es0 = [[3], [1, 2], [0], [4]] := by
  unfold compsG
  rw [condG0, nodesG0, list0]
  rfl
theorem lev0 : (lvrun [[1], [2], [], [2]] [[0], [1, 2], [3], [4]] [2, 1, 0, 3]).2 = [[3], [1, 2, 4], [0]] := by decide
theorem sort_id (r : List Nat) (h : (r.map fun n : Nat => (n : Int)).Pairwise fun x y => decide (x ≤ y) = true) : sortN r = r := by
  unfold sortN
  rw [List.mergeSort_of_pairwise h, List.map_map]
  have : (Int.toNat ∘ fun n : Nat => (n : Int)) = id := by funext n; rfl
  rw [this, List.map_id]
theorem levels0 : levelsG 5 es0 = [[3], [1, 2, 4], [0]] := by
  unfold levelsG
  rw [condG0, nodesG0, list0, lev0]
  simp only [List.map_cons, List.map_nil]
  rw [sort_id [3] (by decide), sort_id [1, 2, 4] (by decide), sort_id [0] (by decide)]
theorem path0 : pathF 5 es0 0 3 = [0, 1, 2, 3] := by decide
theorem cyc0 : cycF 5 es0 5 = [1, 2] := by decide
end Go.Proofs.Ytlcgbkeggmaljaa
