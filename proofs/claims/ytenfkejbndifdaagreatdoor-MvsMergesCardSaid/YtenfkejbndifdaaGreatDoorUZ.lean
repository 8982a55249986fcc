/- Contract of the index's Solves. Minimal version selection's laws: need, the example's releases, few, satisfied. -/
import Derived.Test.YtenfkejbndifdaaGreatDoorUN
import Derived.Test.YtenfkejbndifdaaGreatDoorUV
import Derived.Test.YtenfkejbndifdaaGreatDoorUI
namespace Go.Proofs.YtenfkejbndifdaaGreatDoor
set_option linter.unusedVariables false
set_option linter.unusedSimpArgs false
open Go Go.RowKit Go.Maps

def SolveR (w : World) (X : List RelL) (roots : List ReqL) (s : List SelL) (e : Ending) (w' : World) : Prop :=
  Below w.heap.size w w' ∧ ∃ E, e = .returned (.int .i64 E) ∧ ((E = 0 ∨ E = 8) ↔ SatP X roots s) ∧ (E = 0 → ∀ y ∈ s, Need X roots s y.1)
end Go.Proofs.YtenfkejbndifdaaGreatDoor

namespace Go.Proofs.YtenfkejbndifdaaGreatDoor
set_option linter.unusedVariables false
set_option linter.unusedSimpArgs false
open Go Go.RowKit

set_option maxRecDepth 100000 in
theorem need34_any (p : ByteArray) (m : Int) (w : World) (hm : 0 ≤ m ∧ m ≤ 999) :
    Calls Tryz.prog 47 #[.string p, .int .i64 m] w fun e w' => ∃ sv, e = .returned (.agg #[.string p, sv]) ∧ SpansOf w'.heap.size sv [(1000 * m, 1000000)] w' ∧ Below w.heap.size w w' := by
  have hw1 : IntKind.i64.wrap (1000 * m) = 1000 * m := by rw [IntWalk.i64_in _ (by omega)]
  have hw2 : wrap64 (1000 * m) = 1000 * m := by unfold wrap64; omega
  have hbn := World.alloc_heap_new (w.alloc (.cells #[.string p, .slice (some ⟨w.heap.size + 1, 0, none⟩) 1 1] 58)) (.cells #[.int .i64 (1000 * m), .int .i64 1000000] 133)
  rw [World.size_alloc] at hbn
  have HN := Lib.hid hbn
  have HR : Hid (((w.alloc (.cells #[.string p, .slice (some ⟨w.heap.size + 1, 0, none⟩) 1 1] 58)).alloc (.cells #[.int .i64 (1000 * m), .int .i64 1000000] 133)).heap[w.heap.size]? = some (.cells #[.string p, .slice (some ⟨w.heap.size + 1, 0, none⟩) 1 1] 58 (0, 0))) := Lib.hid ((Below.heap_alloc _ _ _ (by simp)).trans (World.alloc_heap_new w _))
  clear hbn
  go_enter Tryz.func47, Tryz.ntmps47
  go_wp2_with fail
  refine bodyPost_ret (results_cell_row rfl _ _ w.heap.size _ _ _ _ rfl HR.out Tryz.underlying58 rfl (by kernel_rfl)) rfl ?_
  refine ⟨_, rfl, ⟨_, _, rfl, fun i x hx => ?_⟩, (by repeat (first | exact Below.refl _ _ | refine Below.drew ?_ | refine Below.alloc ?_ (by simp <;> omega) _ | refine Below.setCell ?_ (by simp <;> omega) _))⟩
  match i, hx with
  | 0, hx => cases hx; exact ⟨w.heap.size + 1, 0, rfl, by simp, cell_of_row _ _ 0 _ _ _ HN.out, cell_of_row _ _ 1 _ _ _ HN.out⟩
  | i + 1, hx => simp at hx
set_option maxRecDepth 100000 in
theorem rel34_any (p : ByteArray) (m : Int) (ra : Option Addr) (rn rc : Nat) (l : List ReqL) (w : World) :
    Calls Tryz.prog 46 #[.string p, .int .i64 m, .slice ra rn rc] w fun e w' => e = .returned (.agg (relC (exR p m l) (.slice ra rn rc))) ∧ Below w.heap.size w w' := by
  unfold relC exR
  simp only
  go_enter Tryz.func46, Tryz.ntmps46
  go_wp2_with fail
  refine bodyPost_ret (results_cell_row rfl _ _ w.heap.size _ _ _ _ rfl (World.alloc_heap_new w _) Tryz.underlying71 rfl (by kernel_rfl)) rfl ?_
  exact ⟨rfl, (by repeat (first | exact Below.refl _ _ | refine Below.drew ?_ | refine Below.alloc ?_ (by simp <;> omega) _ | refine Below.setCell ?_ (by simp <;> omega) _))⟩
set_option maxRecDepth 100000 in
set_option maxHeartbeats 4000000 in
theorem few34_any (a : Option Addr) (c : Nat) (iv rov : Value) (X : List RelL) (roots : List ReqL) (w : World) (hX : X.length ≤ 9223372036854775807) (hXr : ∀ x ∈ X, x.reqs.length ≤ 9223372036854775807) (hR : RelsOf w.heap.size (.slice a X.length c) X w)
    (hro : roots.length ≤ 9223372036854775807) (hRo : ReqsOf w.heap.size rov roots w) :
    Calls Tryz.prog 12 #[.agg #[.slice a X.length c, iv], rov] w fun e w' => ∃ b : Bool, e = .returned (.bool b) ∧ (b = true → FewR X 20 ∧ FewQ roots) ∧ Below w.heap.size w w' := by
  have HR := Lib.hid hR
  have HRo := Lib.hid hRo
  obtain ⟨ra, rc, rfl⟩ : ∃ ra rc, rov = .slice ra roots.length rc := by obtain ⟨a, c, e, _⟩ := hRo; exact ⟨a, c, e⟩
  clear hR hRo
  have HB0 : Hid (Below w.heap.size w (w.alloc (.cells #[.slice a X.length c, iv] 25))) := Lib.hid (belQ _ _)
  have HI0 : Hid ((w.alloc (.cells #[.slice a X.length c, iv] 25)).heap[w.heap.size]? = some (.cells #[.slice a X.length c, iv] 25 (0, 0))) := Lib.hid (World.alloc_heap_new w _)
  go_enter Tryz.func12, Tryz.ntmps12
  go_upto_region 1 with fail
  generalize w.alloc (.cells #[.slice a X.length c, iv] 25) = W at *
  have HF1 := Lib.hid (FewR_any (.slice a X.length c) X 20 W (by omega) hX hXr ((HR.out.below HB0.out (Nat.le_refl _)).mono HB0.out.size))
  have HF2 := Lib.hid (FewQ_any (.slice ra roots.length rc) roots W hro ((HRo.out.below HB0.out (Nat.le_refl _)).mono HB0.out.size))
  have c0 : W.cell? ⟨w.heap.size, 0, none⟩ = some (.slice a X.length c) := cell_of_row _ _ 0 _ _ _ HI0.out
  go_wp2_with fail
  refine HF1.out.mono ?_
  rintro e w2 ⟨b1, rfl, hb1, hww⟩
  obtain rfl : W = w2 := hww.symm
  cases b1 with
  | false =>
    go_wp2_with fail
    go_ret
    exact ⟨false, rfl, (fun h => by cases h), HB0.out⟩
  | true =>
    have HFR := Lib.hid (hb1 rfl)
    clear hb1
    go_wp2_with fail
    refine HF2.out.mono ?_
    rintro e w2 ⟨b2, rfl, hb2, hww⟩
    obtain rfl : W = w2 := hww.symm
    have HFQ := Lib.hid hb2
    clear hb2
    go_wp2_with fail
    go_ret
    exact ⟨b2, rfl, fun h => ⟨HFR.out, HFQ.out h⟩, HB0.out⟩
end Go.Proofs.YtenfkejbndifdaaGreatDoor

namespace Go.Proofs.YtenfkejbndifdaaGreatDoor
set_option linter.unusedVariables false
set_option linter.unusedSimpArgs false
open Go Go.RowKit

theorem reqs_lit1 {W : World} {g : Nat} {t : TypeId} {p1 : ByteArray} {s1 : Value} {l1 : List (Int × Int)} (h : W.heap[g]? = some (.cells #[.string p1, s1] t (0, 0))) (h1 : SpansOf W.heap.size s1 l1 W) : ReqsOf W.heap.size (.slice (some ⟨g, 0, none⟩) 1 1) [(p1, l1)] W := by
  have hg := (Array.getElem?_eq_some_iff.1 h).1
  refine ⟨_, _, rfl, fun i q hq => ?_⟩
  match i, hq with
  | 0, hq => cases hq; exact ⟨g, 0, s1, rfl, hg, cell_of_row _ _ 0 _ _ _ h, cell_of_row _ _ 1 _ _ _ h, h1⟩
  | i + 1, hq => simp at hq
theorem reqs_lit2 {W : World} {g : Nat} {t : TypeId} {p1 p2 : ByteArray} {s1 s2 : Value} {l1 l2 : List (Int × Int)} (h : W.heap[g]? = some (.cells #[.string p1, s1, .string p2, s2] t (0, 0))) (h1 : SpansOf W.heap.size s1 l1 W) (h2 : SpansOf W.heap.size s2 l2 W) : ReqsOf W.heap.size (.slice (some ⟨g, 0, none⟩) 2 2) [(p1, l1), (p2, l2)] W := by
  have hg := (Array.getElem?_eq_some_iff.1 h).1
  refine ⟨_, _, rfl, fun i q hq => ?_⟩
  match i, hq with
  | 0, hq => cases hq; exact ⟨g, 0, s1, rfl, hg, cell_of_row _ _ 0 _ _ _ h, cell_of_row _ _ 1 _ _ _ h, h1⟩
  | 1, hq => cases hq; exact ⟨g, 0, s2, rfl, hg, cell_of_row _ _ 2 _ _ _ h, cell_of_row _ _ 3 _ _ _ h, h2⟩
  | i + 2, hq => simp at hq
theorem reqs_nil (B : Nat) (W : World) : ReqsOf B (.slice none 0 0) [] W := ⟨_, _, rfl, fun i q hq => by simp at hq⟩
set_option maxRecDepth 100000 in
theorem rels_ex {W : World} {g : Nat} {t : TypeId} {r0 r5 : Value} (h : W.heap[g]? = some (.cells #[.string bA, .int .i64 1, .int .i64 0, .int .i64 0, r0, .string ⟨#[]⟩, .string ⟨#[]⟩, .string ⟨#[]⟩, .bool false, .string bB, .int .i64 1, .int .i64 0, .int .i64 0, .slice none 0 0, .string ⟨#[]⟩, .string ⟨#[]⟩, .string ⟨#[]⟩, .bool false, .string bB, .int .i64 1, .int .i64 1, .int .i64 0, .slice none 0 0, .string ⟨#[]⟩, .string ⟨#[]⟩, .string ⟨#[]⟩, .bool false, .string bB, .int .i64 1, .int .i64 2, .int .i64 0, .slice none 0 0, .string ⟨#[]⟩, .string ⟨#[]⟩, .string ⟨#[]⟩, .bool false, .string bB, .int .i64 1, .int .i64 3, .int .i64 0, .slice none 0 0, .string ⟨#[]⟩, .string ⟨#[]⟩, .string ⟨#[]⟩, .bool false, .string bC, .int .i64 1, .int .i64 0, .int .i64 0, r5, .string ⟨#[]⟩, .string ⟨#[]⟩, .string ⟨#[]⟩, .bool false] t (0, 0))) (h0 : ReqsOf W.heap.size r0 [needQ bB 1000, needQ bC 0] W) (h5 : ReqsOf W.heap.size r5 [needQ bB 2000] W) : RelsOf W.heap.size (.slice (some ⟨g, 0, none⟩) 6 6) exX W := by
  have hg := (Array.getElem?_eq_some_iff.1 h).1
  refine ⟨_, _, rfl, fun i x hx => ?_⟩
  match i, hx with
  | 0, hx => cases hx; exact ⟨g, 0, rfl, hg, r0, cell_of_row _ _ 0 _ _ _ h, cell_of_row _ _ 1 _ _ _ h, cell_of_row _ _ 2 _ _ _ h, cell_of_row _ _ 3 _ _ _ h, cell_of_row _ _ 4 _ _ _ h, cell_of_row _ _ 5 _ _ _ h, cell_of_row _ _ 6 _ _ _ h, cell_of_row _ _ 7 _ _ _ h, cell_of_row _ _ 8 _ _ _ h, h0⟩
  | 1, hx => cases hx; exact ⟨g, 0, rfl, hg, (.slice none 0 0), cell_of_row _ _ 9 _ _ _ h, cell_of_row _ _ 10 _ _ _ h, cell_of_row _ _ 11 _ _ _ h, cell_of_row _ _ 12 _ _ _ h, cell_of_row _ _ 13 _ _ _ h, cell_of_row _ _ 14 _ _ _ h, cell_of_row _ _ 15 _ _ _ h, cell_of_row _ _ 16 _ _ _ h, cell_of_row _ _ 17 _ _ _ h, (reqs_nil _ _)⟩
  | 2, hx => cases hx; exact ⟨g, 0, rfl, hg, (.slice none 0 0), cell_of_row _ _ 18 _ _ _ h, cell_of_row _ _ 19 _ _ _ h, cell_of_row _ _ 20 _ _ _ h, cell_of_row _ _ 21 _ _ _ h, cell_of_row _ _ 22 _ _ _ h, cell_of_row _ _ 23 _ _ _ h, cell_of_row _ _ 24 _ _ _ h, cell_of_row _ _ 25 _ _ _ h, cell_of_row _ _ 26 _ _ _ h, (reqs_nil _ _)⟩
  | 3, hx => cases hx; exact ⟨g, 0, rfl, hg, (.slice none 0 0), cell_of_row _ _ 27 _ _ _ h, cell_of_row _ _ 28 _ _ _ h, cell_of_row _ _ 29 _ _ _ h, cell_of_row _ _ 30 _ _ _ h, cell_of_row _ _ 31 _ _ _ h, cell_of_row _ _ 32 _ _ _ h, cell_of_row _ _ 33 _ _ _ h, cell_of_row _ _ 34 _ _ _ h, cell_of_row _ _ 35 _ _ _ h, (reqs_nil _ _)⟩
  | 4, hx => cases hx; exact ⟨g, 0, rfl, hg, (.slice none 0 0), cell_of_row _ _ 36 _ _ _ h, cell_of_row _ _ 37 _ _ _ h, cell_of_row _ _ 38 _ _ _ h, cell_of_row _ _ 39 _ _ _ h, cell_of_row _ _ 40 _ _ _ h, cell_of_row _ _ 41 _ _ _ h, cell_of_row _ _ 42 _ _ _ h, cell_of_row _ _ 43 _ _ _ h, cell_of_row _ _ 44 _ _ _ h, (reqs_nil _ _)⟩
  | 5, hx => cases hx; exact ⟨g, 0, rfl, hg, r5, cell_of_row _ _ 45 _ _ _ h, cell_of_row _ _ 46 _ _ _ h, cell_of_row _ _ 47 _ _ _ h, cell_of_row _ _ 48 _ _ _ h, cell_of_row _ _ 49 _ _ _ h, cell_of_row _ _ 50 _ _ _ h, cell_of_row _ _ 51 _ _ _ h, cell_of_row _ _ 52 _ _ _ h, cell_of_row _ _ 53 _ _ _ h, h5⟩
  | i + 6, hx => simp [exX] at hx
theorem ex_bd : ∀ x ∈ exX, RelBd x := fun x hx => by
  have h : (exX.all fun x => decide (x.path.size ≤ 1000000) && (decide (x.reqs.length ≤ 1000000) && x.reqs.all fun q => decide (q.1.size ≤ 1000000) && decide (q.2.length ≤ 1000000))) = true := by decide +kernel
  have h1 := List.all_eq_true.1 h x hx
  simp only [Bool.and_eq_true, decide_eq_true_eq, List.all_eq_true] at h1
  exact ⟨h1.1, h1.2.1, fun q hq => h1.2.2 q hq⟩
theorem ex_rbd : ReqsBd exT := fun q hq => by
  have h : (exT.all fun q => decide (q.1.size ≤ 1000000) && decide (q.2.length ≤ 1000000)) = true := by decide +kernel
  have h1 := List.all_eq_true.1 h q hq
  simpa only [Bool.and_eq_true, decide_eq_true_eq] using h1
theorem sels_lit3 {W : World} {g : Nat} {t : TypeId} (x y z : SelL) (h : W.heap[g]? = some (.cells #[.string x.1, .int .i64 x.2.1, .int .i64 x.2.2.1, .int .i64 x.2.2.2, .string y.1, .int .i64 y.2.1, .int .i64 y.2.2.1, .int .i64 y.2.2.2, .string z.1, .int .i64 z.2.1, .int .i64 z.2.2.1, .int .i64 z.2.2.2] t (0, 0))) : SelsOf W.heap.size (.slice (some ⟨g, 0, none⟩) 3 3) [x, y, z] W := by
  have hg := (Array.getElem?_eq_some_iff.1 h).1
  refine ⟨_, _, rfl, fun i q hq => ?_⟩
  match i, hq with
  | 0, hq => cases hq; exact ⟨g, 0, rfl, hg, cell_of_row _ _ 0 _ _ _ h, cell_of_row _ _ 1 _ _ _ h, cell_of_row _ _ 2 _ _ _ h, cell_of_row _ _ 3 _ _ _ h⟩
  | 1, hq => cases hq; exact ⟨g, 0, rfl, hg, cell_of_row _ _ 4 _ _ _ h, cell_of_row _ _ 5 _ _ _ h, cell_of_row _ _ 6 _ _ _ h, cell_of_row _ _ 7 _ _ _ h⟩
  | 2, hq => cases hq; exact ⟨g, 0, rfl, hg, cell_of_row _ _ 8 _ _ _ h, cell_of_row _ _ 9 _ _ _ h, cell_of_row _ _ 10 _ _ _ h, cell_of_row _ _ 11 _ _ _ h⟩
  | i + 3, hq => simp at hq
end Go.Proofs.YtenfkejbndifdaaGreatDoor
