/- What one node reaches, and whether another is among it. -/
import Derived.Test.YtlcgbkeggmaljaaPJ
import Derived.Test.YtlcgbkeggmaljaaPK
namespace Go.Proofs.Ytlcgbkeggmaljaa
set_option linter.unusedVariables false
set_option linter.unusedSimpArgs false
open Go Go.RowKit

/-- whether a node reaches another. -/
noncomputable def rchB (N : Nat) (es : List (Int × Int)) (a b : Nat) : Bool := @decide (b < N ∧ Rch (sucs N es) a b) (Classical.propDecidable _)
theorem rchB_iff {N : Nat} {es : List (Int × Int)} {a b : Nat} : rchB N es a b = true ↔ b < N ∧ Rch (sucs N es) a b := by
  unfold rchB
  exact @decide_eq_true_iff _ (_)
theorem rch_swap {N : Nat} {es : List (Int × Int)} {a b : Nat} (h : Rch (sucs N es) a b) : Rch (sucs N (es.map swapE)) b a := by
  induction h with
  | refl a => exact .refl a
  | @step a j b hj _ ih =>
    obtain ⟨h1, h2, h3⟩ := mem_sucs.1 hj
    exact ih.trans (.step (mem_sucs.2 ⟨h2, h1, mem_swap.2 h3⟩) (.refl a))
theorem swap_swap (es : List (Int × Int)) : (es.map swapE).map swapE = es := by
  rw [List.map_map]
  conv => rhs; rw [← List.map_id es]
  exact List.map_congr_left fun x _ => rfl
theorem rchB_swap {N : Nat} {es : List (Int × Int)} {a b : Nat} (ha : a < N) (hb : b < N) : rchB N (es.map swapE) b a = rchB N es a b := by
  rw [Bool.eq_iff_iff, rchB_iff, rchB_iff]
  refine ⟨fun h => ⟨hb, ?_⟩, fun h => ⟨ha, rch_swap h.2⟩⟩
  have := rch_swap h.2
  rwa [swap_swap] at this
/-- a call of Reach at one node, and what slices.Contains says of its result from then on. -/
theorem reach1_any (a : Option Addr) (N c : Nat) (ev : Value) (es : List (Int × Int)) (x : Nat) (w : World) (hE : EdgesOf w.heap.size ev es w) (hv : validG N es = true) (hx : x < N) :
    Calls Try.prog 13 #[.agg #[.slice a N c, ev], .slice (some ⟨w.heap.size, 0, none⟩) 1 1] (w.alloc (.cells #[.int .i64 (x : Int)] 3)) fun e w' => ∃ ra rl rc, e = .returned (.slice ra rl rc) ∧ Below w.heap.size w w' ∧
      ∀ (W : World) (k : Nat), Below w'.heap.size w' W → Calls Try.prog 32 #[.slice ra rl rc, .int .i64 (k : Int)] W fun e W' => e = .returned (.bool (rchB N es x k)) ∧ W' = W := by
  obtain ⟨hN, _⟩ := validG_n hv
  have hb : Below w.heap.size w (w.alloc (.cells #[.int .i64 (x : Int)] 3)) := bel_alloc _ _
  have hrow : RowOf intC (w.alloc (.cells #[.int .i64 (x : Int)] 3)).heap.size (.slice (some ⟨w.heap.size, 0, none⟩) 1 1) ([x].map Int.ofNat) (w.alloc (.cells #[.int .i64 (x : Int)] 3)) := .inr ⟨w.heap.size, 0, 1, rfl, by simp, fun i y hy => by
    match i, hy with
    | 0, hy =>
      cases hy
      exact cell_of_row _ _ 0 _ _ _ (World.alloc_heap_new w _)
    | i + 1, hy => simp at hy⟩
  refine (Reach_yes a N c ev (.slice (some ⟨w.heap.size, 0, none⟩) 1 1) es [x] _ ((hE.below hb (Nat.le_refl _)).mono (by simp)) (by simp) hrow hv (by simpa using hx)).mono ?_
  rintro e w' ⟨v, lr, rfl, hrs, hown, hb'⟩
  have hlr := reachS_len hrs
  have hrow' := row_of_own hown
  obtain ⟨ra, rc, rfl⟩ := own_any hown
  refine ⟨ra, lr.length, rc, rfl, hb.trans (hb'.mono (by simp)), fun W k hW => ?_⟩
  refine (Contains_ints _ _ (k : Int) w'.heap.size W (by rw [List.length_map]; omega) (hrow'.below hW (Nat.le_refl _))).mono ?_
  rintro e W' ⟨rfl, rfl⟩
  refine ⟨?_, rfl⟩
  congr 2
  rw [Bool.eq_iff_iff, decide_eq_true_iff, rchB_iff, List.mem_map]
  constructor
  · rintro ⟨y, hy, e⟩
    have : y = k := by omega
    subst this
    obtain ⟨h1, z, hz, h2⟩ := (hrs.2 y).1 hy
    have hz : z = x := by have := List.mem_singleton.1 hz; exact Int.ofNat.inj this
    exact ⟨h1, hz ▸ h2⟩
  · rintro ⟨h1, h2⟩
    exact ⟨k, (hrs.2 k).2 ⟨h1, x, by simp, h2⟩, rfl⟩
end Go.Proofs.Ytlcgbkeggmaljaa
