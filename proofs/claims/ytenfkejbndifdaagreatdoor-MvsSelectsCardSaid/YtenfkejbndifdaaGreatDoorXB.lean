/- Contract of the index's Solves. Minimal version selection's laws: need, the example's releases, few, satisfied. -/
import Derived.Test.YtenfkejbndifdaaGreatDoorWQ
import Derived.Test.YtenfkejbndifdaaGreatDoorXA
import Derived.Test.YtenfkejbndifdaaGreatDoorWJ
namespace Go.Proofs.YtenfkejbndifdaaGreatDoor
set_option linter.unusedVariables false
set_option linter.unusedSimpArgs false
open Go Go.RowKit Go.Maps

def SolveR (w : World) (X : List RelL) (roots : List ReqL) (s : List SelL) (e : Ending) (w' : World) : Prop :=
  Below w.heap.size w w' ∧ ∃ E, e = .returned (.int .i64 E) ∧ ((E = 0 ∨ E = 8) ↔ SatP X roots s) ∧ (E = 0 → ∀ y ∈ s, Need X roots s y.1)
end Go.Proofs.YtenfkejbndifdaaGreatDoor

namespace Go.Proofs.YtenfkejbndifdaaGreatDoor
set_option linter.unusedVariables false
set_option linter.unusedSimpArgs false
open Go Go.RowKit

set_option maxRecDepth 100000 in
theorem need34_any (p : ByteArray) (m : Int) (w : World) (hm : 0 ≤ m ∧ m ≤ 999) :
    Calls Tryz.prog 47 #[.string p, .int .i64 m] w fun e w' => ∃ sv, e = .returned (.agg #[.string p, sv]) ∧ SpansOf w'.heap.size sv [(1000 * m, 1000000)] w' ∧ Below w.heap.size w w' := by
  have hw1 : IntKind.i64.wrap (1000 * m) = 1000 * m := by rw [IntWalk.i64_in _ (by omega)]
  have hw2 : wrap64 (1000 * m) = 1000 * m := by unfold wrap64; omega
  have hbn := World.alloc_heap_new (w.alloc (.cells #[.string p, .slice (some ⟨w.heap.size + 1, 0, none⟩) 1 1] 58)) (.cells #[.int .i64 (1000 * m), .int .i64 1000000] 133)
  rw [World.size_alloc] at hbn
  have HN := Lib.hid hbn
  have HR : Hid (((w.alloc (.cells #[.string p, .slice (some ⟨w.heap.size + 1, 0, none⟩) 1 1] 58)).alloc (.cells #[.int .i64 (1000 * m), .int .i64 1000000] 133)).heap[w.heap.size]? = some (.cells #[.string p, .slice (some ⟨w.heap.size + 1, 0, none⟩) 1 1] 58 (0, 0))) := Lib.hid ((Below.heap_alloc _ _ _ (by simp)).trans (World.alloc_heap_new w _))
  clear hbn
  go_enter Tryz.func47, Tryz.ntmps47
  go_wp2_with fail
  refine bodyPost_ret (results_cell_row rfl _ _ w.heap.size _ _ _ _ rfl HR.out Tryz.underlying58 rfl (by kernel_rfl)) rfl ?_
  refine ⟨_, rfl, ⟨_, _, rfl, fun i x hx => ?_⟩, (by repeat (first | exact Below.refl _ _ | refine Below.drew ?_ | refine Below.alloc ?_ (by simp <;> omega) _ | refine Below.setCell ?_ (by simp <;> omega) _))⟩
  match i, hx with
  | 0, hx => cases hx; exact ⟨w.heap.size + 1, 0, rfl, by simp, cell_of_row _ _ 0 _ _ _ HN.out, cell_of_row _ _ 1 _ _ _ HN.out⟩
  | i + 1, hx => simp at hx
set_option maxRecDepth 100000 in
theorem rel34_any (p : ByteArray) (m : Int) (ra : Option Addr) (rn rc : Nat) (l : List ReqL) (w : World) :
    Calls Tryz.prog 46 #[.string p, .int .i64 m, .slice ra rn rc] w fun e w' => e = .returned (.agg (relC (exR p m l) (.slice ra rn rc))) ∧ Below w.heap.size w w' := by
  unfold relC exR
  simp only
  go_enter Tryz.func46, Tryz.ntmps46
  go_wp2_with fail
  refine bodyPost_ret (results_cell_row rfl _ _ w.heap.size _ _ _ _ rfl (World.alloc_heap_new w _) Tryz.underlying71 rfl (by kernel_rfl)) rfl ?_
  exact ⟨rfl, (by repeat (first | exact Below.refl _ _ | refine Below.drew ?_ | refine Below.alloc ?_ (by simp <;> omega) _ | refine Below.setCell ?_ (by simp <;> omega) _))⟩
set_option maxRecDepth 100000 in
set_option maxHeartbeats 4000000 in
theorem few34_any (a : Option Addr) (c : Nat) (iv rov : Value) (X : List RelL) (roots : List ReqL) (w : World) (hX : X.length ≤ 9223372036854775807) (hXr : ∀ x ∈ X, x.reqs.length ≤ 9223372036854775807) (hR : RelsOf w.heap.size (.slice a X.length c) X w)
    (hro : roots.length ≤ 9223372036854775807) (hRo : ReqsOf w.heap.size rov roots w) :
    Calls Tryz.prog 12 #[.agg #[.slice a X.length c, iv], rov] w fun e w' => ∃ b : Bool, e = .returned (.bool b) ∧ (b = true → FewR X 20 ∧ FewQ roots) ∧ Below w.heap.size w w' := by
  have HR := Lib.hid hR
  have HRo := Lib.hid hRo
  obtain ⟨ra, rc, rfl⟩ : ∃ ra rc, rov = .slice ra roots.length rc := by obtain ⟨a, c, e, _⟩ := hRo; exact ⟨a, c, e⟩
  clear hR hRo
  have HB0 : Hid (Below w.heap.size w (w.alloc (.cells #[.slice a X.length c, iv] 25))) := Lib.hid (belQ _ _)
  have HI0 : Hid ((w.alloc (.cells #[.slice a X.length c, iv] 25)).heap[w.heap.size]? = some (.cells #[.slice a X.length c, iv] 25 (0, 0))) := Lib.hid (World.alloc_heap_new w _)
  go_enter Tryz.func12, Tryz.ntmps12
  go_upto_region 1 with fail
  generalize w.alloc (.cells #[.slice a X.length c, iv] 25) = W at *
  have HF1 := Lib.hid (FewR_any (.slice a X.length c) X 20 W (by omega) hX hXr ((HR.out.below HB0.out (Nat.le_refl _)).mono HB0.out.size))
  have HF2 := Lib.hid (FewQ_any (.slice ra roots.length rc) roots W hro ((HRo.out.below HB0.out (Nat.le_refl _)).mono HB0.out.size))
  have c0 : W.cell? ⟨w.heap.size, 0, none⟩ = some (.slice a X.length c) := cell_of_row _ _ 0 _ _ _ HI0.out
  go_wp2_with fail
  refine HF1.out.mono ?_
  rintro e w2 ⟨b1, rfl, hb1, hww⟩
  obtain rfl : W = w2 := hww.symm
  cases b1 with
  | false =>
    go_wp2_with fail
    go_ret
    exact ⟨false, rfl, (fun h => by cases h), HB0.out⟩
  | true =>
    have HFR := Lib.hid (hb1 rfl)
    clear hb1
    go_wp2_with fail
    refine HF2.out.mono ?_
    rintro e w2 ⟨b2, rfl, hb2, hww⟩
    obtain rfl : W = w2 := hww.symm
    have HFQ := Lib.hid hb2
    clear hb2
    go_wp2_with fail
    go_ret
    exact ⟨b2, rfl, fun h => ⟨HFR.out, HFQ.out h⟩, HB0.out⟩
end Go.Proofs.YtenfkejbndifdaaGreatDoor
