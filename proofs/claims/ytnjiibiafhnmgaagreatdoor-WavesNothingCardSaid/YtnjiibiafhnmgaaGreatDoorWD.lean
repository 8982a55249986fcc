/- An index without requirements, in memory. -/
import Derived.Test.YtnjiibiafhnmgaaGreatDoorZT
namespace Go.Proofs.YtnjiibiafhnmgaaGreatDoor
open Go Go.RowKit

def freeR (x : RelL) : RelL := ⟨x.path, x.ver, [], x.ar, x.ifc, x.cert, x.yk⟩
def freeC (x : RelL) : List Value := [.string x.path, intC x.ver.1, intC x.ver.2.1, intC x.ver.2.2, .slice none 0 0, .string x.ar, .string x.ifc, .string x.cert, .bool x.yk]
def freeCells (l : List RelL) : List Value := l.flatMap freeC
theorem freeCells_len : ∀ l : List RelL, (freeCells l).length = l.length * 9
  | [] => rfl
  | y :: l => by
    have ih := freeCells_len l
    unfold freeCells at ih ⊢
    rw [List.flatMap_cons, List.length_append, ih, List.length_cons]
    simp [freeC]
    omega
theorem freeCells_at : ∀ {l : List RelL} {i j : Nat}, i < l.length → j < 9 → (freeCells l)[i * 9 + j]? = (freeC (l.getD i default))[j]?
  | y :: l, 0, j, hi, hj => by
    unfold freeCells
    rw [List.flatMap_cons, Nat.zero_mul, Nat.zero_add, List.getElem?_append_left (by simp [freeC]; omega)]
    rfl
  | y :: l, i + 1, j, hi, hj => by
    have ih := freeCells_at (l := l) (i := i) (j := j) (by simpa using hi) hj
    unfold freeCells at ih ⊢
    rw [List.flatMap_cons, List.getElem?_append_right (by simp [freeC]; omega), show (i + 1) * 9 + j - (freeC y).length = i * 9 + j by simp [freeC]; omega, ih]
    rfl
theorem freeCells_snoc (l : List RelL) (y : RelL) : freeCells (l ++ [y]) = freeCells l ++ freeC y := by
  unfold freeCells
  rw [List.flatMap_append]
  simp
theorem own_free {W : World} {B : Nat} {v : Value} {l : List RelL} (h : W.ownsRow B 69 9 v l.length (freeCells l)) : RelsOf W.heap.size v (l.map freeR) W := by
  have hxl := freeCells_len l
  have hat := @freeCells_at l
  generalize freeCells l = xs at *
  obtain ⟨hl, ⟨rfl, h0⟩ | ⟨g, cap, cur, rfl, h1, h2, h3, h4, h5, h6⟩⟩ := h
  · obtain rfl := List.length_eq_zero_iff.1 h0
    exact ⟨none, 0, rfl, fun i q hq => by simp at hq⟩
  · refine ⟨_, cap, by rw [List.length_map], fun i q hq => ?_⟩
    obtain ⟨x, hx, rfl⟩ := List.getElem?_map .. ▸ hq |> fun h => Option.map_eq_some_iff.1 h
    have hi := (List.getElem?_eq_some_iff.1 hx).1
    have hqd : l.getD i default = x := by rw [List.getD_eq_getElem?_getD, hx]; rfl
    have key : ∀ j u, j < 9 → (freeC x)[j]? = some u → W.cell? ⟨g, 0 + i * 9 + j, none⟩ = some u := fun j u hj hu => by
      have hu2 := hat hi hj
      rw [hqd, hu] at hu2
      have hj2 := (List.getElem?_eq_some_iff.1 hu2).1
      rw [cell_of_row _ _ _ _ _ _ h2, ← hu2, ← h6, List.getElem?_take, if_pos (by omega)]
      simp
    exact ⟨g, 0, rfl, (Array.getElem?_eq_some_iff.1 h2).1, .slice none 0 0, key 0 _ (by omega) rfl, key 1 _ (by omega) rfl, key 2 _ (by omega) rfl, key 3 _ (by omega) rfl, key 4 _ (by omega) rfl, key 5 _ (by omega) rfl, key 6 _ (by omega) rfl, key 7 _ (by omega) rfl, key 8 _ (by omega) rfl, ⟨none, 0, rfl, fun i q hq => by simp [freeR] at hq⟩⟩
structure FreJ (w3 : World) (g : Nat) (l : List RelL) (pv : Value) (W : World) : Prop where
  bel : Below g w3 W
  lo : g < w3.heap.size
  mid : ∀ k, k < w3.heap.size → k ≠ g → W.heap[k]? = w3.heap[k]?
  out : W.heap[g]? = some (.cells #[pv, .slice none 0 0] 25 (0, 0))
  row : W.ownsRow w3.heap.size 69 9 pv l.length (freeCells l)
section
variable {w3 W W' : World} {g : Nat} {l : List RelL} {pv : Value}
theorem FreJ.below (h : FreJ w3 g l pv W) (hb : Below W.heap.size W W') : FreJ w3 g l pv W' := by
  obtain ⟨h1, h2, h3, h4, h5⟩ := h
  have hs := h1.size
  exact ⟨h1.trans (hb.mono (by omega)), h2, fun k hk hn => (hb.block k (by omega)).trans (h3 k hk hn), (hb.block g (by omega)).trans h4, own_on h5 hb⟩
theorem FreJ.keep {W6 : World} (h : FreJ w3 g l pv W) (hg : W.grownBy W6 pv.ownBlock) : W6.heap[g]? = some (.cells #[pv, .slice none 0 0] 25 (0, 0)) := by
  have hs := h.bel.size
  have h2 := h.lo
  exact (hg.block g (by omega) (fun e => by have := (own_lo h.row _ e.symm).1; omega)).trans h.out
theorem FreJ.push {W6 : World} {pv' : Value} {x : RelL} (h : FreJ w3 g l pv W) (hown : W6.ownsRow w3.heap.size 69 9 pv' (l.length + 1) (freeCells l ++ freeC x)) (hg : W.grownBy W6 pv.ownBlock) : FreJ w3 g (l ++ [x]) pv' (W6.setCell ⟨g, 0, none⟩ pv') := by
  have hk := h.keep hg
  obtain ⟨h1, h2, h3, h4, h5⟩ := h
  have hs := h1.size
  have lo : ∀ b, some b = pv.ownBlock → w3.heap.size ≤ b := fun b hb => (own_lo h5 b hb.symm).1
  have g2 := grownBy_setC W6 g 0 pv'
  refine ⟨(h1.grown hg (by omega) (fun b hb => by have := lo b hb.symm; omega)).setCell (Nat.le_refl _) _, h2, fun k hk hn => ?_, heap_setCell_same _ _ 0 _ _ pv' hk, ?_⟩
  · have hk6 := hg.size
    exact (g2.block k (by omega) (fun e => hn (by injection e))).trans ((hg.block k (by omega) (fun e => by have := lo _ e; omega)).trans (h3 k hk hn))
  · rw [List.length_append, freeCells_snoc]
    exact own_farM hown g2 (by omega)
theorem FreJ.start (w : World) (g : Nat) (hg : w.heap.size = g) : FreJ (w.alloc (.cells #[.slice none 0 0, .slice none 0 0] 25)) g [] (.slice none 0 0) (w.alloc (.cells #[.slice none 0 0, .slice none 0 0] 25)) := by
  subst hg
  exact ⟨Below.refl _ _, by simp, fun _ _ _ => rfl, World.alloc_heap_new w _, World.ownsRow_nil _ _ _ _⟩
end
theorem free_none (X : List RelL) (y : SelL) : reqsOf (X.map freeR) y = [] := by
  unfold reqsOf
  cases h : findR (X.map freeR) y with
  | none => rfl
  | some r =>
    have := List.mem_of_find?_eq_some h
    obtain ⟨x, _, rfl⟩ := List.mem_map.1 this
    rfl
theorem free_bd {X : List RelL} (h : ∀ x ∈ X, RelBd x) : ∀ x ∈ X.map freeR, RelBd x := fun x hx => by
  obtain ⟨y, hy, rfl⟩ := List.mem_map.1 hx
  exact ⟨(h y hy).path, by simp [freeR], fun q hq => by simp [freeR] at hq⟩
end Go.Proofs.YtnjiibiafhnmgaaGreatDoor
