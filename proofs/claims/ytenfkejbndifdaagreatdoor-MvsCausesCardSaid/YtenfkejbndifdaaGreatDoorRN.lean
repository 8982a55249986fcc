/- The law MvsSatisfies returns true. Minimal version selection, plain: what MvsCauses asks. -/
import Derived.Test.YtenfkejbndifdaaGreatDoorRM
import Derived.Test.YtenfkejbndifdaaGreatDoorQP
namespace Go.Proofs.YtenfkejbndifdaaGreatDoor
set_option linter.unusedVariables false
set_option linter.unusedSimpArgs false
open Go Go.RowKit

structure LawB (w : World) (v iv : Value) (W : World) : Prop where
  bel : Below w.heap.size w W
  idx : W.heap[w.heap.size]? = some (.cells #[v, iv] 25 (0, 0))
theorem LawB.lt {w : World} {v iv : Value} {W : World} (h : LawB w v iv W) : w.heap.size < W.heap.size := (Array.getElem?_eq_some_iff.1 h.idx).1
theorem LawB.below {w : World} {v iv : Value} {W W' : World} (h : LawB w v iv W) (hb : Below W.heap.size W W') : LawB w v iv W' := ⟨h.bel.trans (hb.mono h.bel.size), (hb.block _ h.lt).trans h.idx⟩
theorem LawB.start (w : World) (v iv : Value) : LawB w v iv (w.alloc (.cells #[v, iv] 25)) := ⟨belQ _ _, World.alloc_heap_new w _⟩
theorem LawB.c0 {w : World} {v iv : Value} {W : World} (h : LawB w v iv W) : W.cell? ⟨w.heap.size, 0, none⟩ = some v := cell_of_row _ _ 0 _ _ _ h.idx
theorem LawB.c1 {w : World} {v iv : Value} {W : World} (h : LawB w v iv W) : W.cell? ⟨w.heap.size, 1, none⟩ = some iv := cell_of_row _ _ 1 _ _ _ h.idx
theorem FewR.bd {X : List RelL} {m : Nat} (h : FewR X m) : ∀ x ∈ X, RelBd x := fun x hx => by
  obtain ⟨h1, _, _, _, h5⟩ := h.all x hx
  exact ⟨by omega, by have := h5.len; omega, fun q hq => by have := h5.all q hq; omega⟩
theorem FewQ.bd {l : List ReqL} (h : FewQ l) : ReqsBd l := fun q hq => by have := h.all q hq; omega
theorem selM_zero {nw : Bool} {X : List RelL} {roots : List ReqL} (h : (selM nw X roots).2 = 0) : PlainP X roots ∧ AllM nw X roots := by
  by_cases hp : PlainP X roots
  · by_cases ha : AllM nw X roots
    · exact ⟨hp, ha⟩
    · rw [selM_not hp ha] at h; cases h
  · rw [selM_arg hp] at h; cases h
theorem selM_mem {nw : Bool} {X : List RelL} {roots : List ReqL} {y : SelL} (h : y ∈ (selM nw X roots).1) : PlainP X roots ∧ ∃ i, i ∈ topM nw X roots ∧ keyL (X.getD i default) = y := by
  by_cases hp : PlainP X roots
  · by_cases ha : AllM nw X roots
    · rw [selM_ok hp ha] at h
      exact ⟨hp, selL_mem.1 h⟩
    · rw [selM_not hp ha] at h; cases h
  · rw [selM_arg hp] at h; cases h
def GeOk (a b : SelL) : Prop := ¬ b.2.2.1 < a.2.2.1 ∧ ¬ (b.2.2.1 = a.2.2.1 ∧ b.2.2.2 < a.2.2.2)
end Go.Proofs.YtenfkejbndifdaaGreatDoor

namespace Go.Proofs.YtenfkejbndifdaaGreatDoor
set_option linter.unusedVariables false
set_option linter.unusedSimpArgs false
open Go

def path0 (p : ByteArray) : ByteArray := p ++ ⟨#[48]⟩
theorem path0_ne (p : ByteArray) : p ≠ path0 p := fun e => by
  have h := congrArg ByteArray.size e
  unfold path0 at h
  rw [ByteArray.size_append] at h
  have h1 : (⟨#[48]⟩ : ByteArray).size = 1 := rfl
  omega
theorem why_empty {X : List RelL} {roots : List ReqL} (hp : PlainP X roots) (ha : AllM false X roots) : whyV X roots ⟨#[]⟩ = ((⟨#[]⟩, 0, []), 6) := by
  refine whyV_none hp ha ?_
  unfold tgtM
  rw [List.find?_eq_none]
  intro i hi
  have h1 := ((idx_ok hp.idx).rel i (topM_mem.1 hi).1.lt.1).line
  intro h2
  have h2 := of_decide_eq_true h2
  rw [h2] at h1
  exact absurd h1 (by decide +kernel)
theorem cause_checks {X : List RelL} {roots : List ReqL} (hp : PlainP X roots) (ha : AllM false X roots) {y : SelL} (hy : y ∈ (selM false X roots).1) :
    ∃ (r n : Nat) (ch : List SelL), whyV X roots y.1 = ((y.1, (r : Int), ch), 0) ∧ r < roots.length ∧ ch.length = n + 1 ∧ ch[n]? = some y ∧ checkV X roots (y.1, (r : Int), ch) = true ∧ checkV X roots (y.1, (r : Int), ch.take n) = false ∧
      checkV X roots (path0 y.1, (r : Int), ch) = false ∧ checkV X roots (y.1, (roots.length : Int), ch) = false := by
  have hm : selM false X roots = (selL false X roots, 0) := selM_ok hp ha
  have h0 : (selM false X roots).2 = 0 := by rw [hm]
  rw [hm] at hy
  have hyL : y ∈ selL false X roots := hy
  obtain ⟨t, ht, rfl⟩ := selL_mem.1 hyL
  obtain ⟨r, n, ch, h1, h2, h3, h4, h5, h6⟩ := cause_ok hp ha ht
  have hne : ch ≠ [] := fun e => by rw [e] at h4; simp at h4
  refine ⟨r, n, ch, h1, h2, h4, ?_, ?_, ?_, ?_, ?_⟩
  · rw [List.getLast?_eq_getElem?, h4] at h3
    exact h3
  · rw [checkV_last (r := r) h0 rfl h2 h3]
    simp only [Bool.and_eq_true, decide_eq_true_eq]
    exact ⟨by trivial, by rw [hm]; exact hyL, h5⟩
  · have hd : ch.take n = ch.dropLast := by rw [List.dropLast_eq_take, h4]; rfl
    rw [hd]
    cases hz : ch.dropLast.getLast? with
    | none =>
      refine checkV_nil ?_
      exact List.getLast?_eq_none_iff.1 hz
    | some z =>
      have hzn := h6 z hz
      rw [checkV_last (c := ((keyL (X.getD t default)).1, (r : Int), ch.dropLast)) (r := r) h0 rfl h2 hz]
      by_cases hzp : z.1 = (X.getD t default).path
      · by_cases hzs : z ∈ (selM false X roots).1
        · exfalso
          rw [hm] at hzs
          obtain ⟨i, hi, hik⟩ := selL_mem.1 (show z ∈ selL false X roots from hzs)
          have hip : (X.getD i default).path = (X.getD t default).path := by rw [← hzp, ← hik]; rfl
          have := top_one hi ht hip
          subst this
          exact hzn hik.symm
        · have hd2 : @decide (z ∈ (selM false X roots).1) (Classical.propDecidable _) = false := @decide_eq_false _ (Classical.propDecidable _) hzs
          rw [hd2]
          simp
      · have hzp2 : ¬ z.1 = (keyL (X.getD t default)).1 := hzp
        simp only
        rw [decide_eq_false hzp2]
        rfl
  · rw [checkV_last (c := (path0 (keyL (X.getD t default)).1, (r : Int), ch)) (r := r) h0 rfl h2 h3, decide_eq_false (path0_ne _)]
    rfl
  · exact checkV_root (fun h => by have := h.2; simp only at this; omega)
end Go.Proofs.YtenfkejbndifdaaGreatDoor
