/- The example of the chapter of waves, in memory. -/
import Derived.Test.YtnjiibiafhnmgaaGreatDoorZQ
import Derived.Laws.ResultCell
namespace Go.Proofs.YtnjiibiafhnmgaaGreatDoor
open Go Go.RowKit

set_option maxRecDepth 100000 in
theorem ver44_any (m : Int) (w : World) :
    Calls Tryz.prog 67 #[.int .i64 m] w fun e w' => e = .returned (.agg #[.int .i64 1, .int .i64 m, .int .i64 0]) ∧ Below w.heap.size w w' := by
  go_enter Tryz.func67, Tryz.ntmps67
  go_wp2_with fail
  refine bodyPost_ret (results_cell_row rfl _ _ w.heap.size _ _ _ _ rfl (World.alloc_heap_new w _) Tryz.underlying51 rfl (by kernel_rfl)) rfl ?_
  exact ⟨rfl, (by repeat (first | exact Below.refl _ _ | refine Below.drew ?_ | refine Below.alloc ?_ (by simp <;> omega) _ | refine Below.setCell ?_ (by simp <;> omega) _))⟩
set_option maxRecDepth 100000 in
theorem only44_any (m : Int) (w : World) (hm : 0 ≤ m ∧ m ≤ 999) :
    Calls Tryz.prog 68 #[.int .i64 m] w fun e w' => ∃ g, e = .returned (.slice (some ⟨g, 0, none⟩) 1 1) ∧ w'.heap[g]? = some (.cells #[.int .i64 (1000 * m), .int .i64 (1000 * m + 1)] 111 (0, 0)) ∧ w.heap.size ≤ g ∧ Below w.heap.size w w' := by
  have hw1 : IntKind.i64.wrap (1000 * m) = 1000 * m := by rw [IntWalk.i64_in _ (by omega)]
  have hw2 : wrap64 (1000 * m) = 1000 * m := by unfold wrap64; omega
  have hw3 : IntKind.i64.wrap (1000 * m + 1) = 1000 * m + 1 := by rw [IntWalk.i64_in _ (by omega)]
  have hw4 : wrap64 (1000 * m + 1) = 1000 * m + 1 := by unfold wrap64; omega
  go_enter Tryz.func68, Tryz.ntmps68
  go_wp2_with fail
  go_ret
  exact ⟨_, rfl, World.alloc_heap_new w _, Nat.le_refl _, (by repeat (first | exact Below.refl _ _ | refine Below.drew ?_ | refine Below.alloc ?_ (by simp <;> omega) _ | refine Below.setCell ?_ (by simp <;> omega) _))⟩
structure ExB (B : Nat) (gs1 gq1 gs2 gs3 gq2 gr gf gt : Nat) (W : World) : Prop where
  lS1 : B < gs1
  S1 : W.heap[gs1]? = some (.cells #[.int .i64 (1000 * 0), .int .i64 (1000 * 0 + 1)] 111 (0, 0))
  lQ1 : B < gq1
  Q1 : W.heap[gq1]? = some (.cells #[.string ⟨#[98, 47, 118, 49]⟩, .slice (some ⟨gs1, 0, none⟩) 1 1] 100 (0, 0))
  lS2 : B < gs2
  S2 : W.heap[gs2]? = some (.cells #[.int .i64 (1000 * 1), .int .i64 (1000 * 1 + 1)] 111 (0, 0))
  lS3 : B < gs3
  S3 : W.heap[gs3]? = some (.cells #[.int .i64 0, .int .i64 1000000] 111 (0, 0))
  lQ2 : B < gq2
  Q2 : W.heap[gq2]? = some (.cells #[.string ⟨#[98, 47, 118, 49]⟩, .slice (some ⟨gs2, 0, none⟩) 1 1, .string ⟨#[99, 47, 118, 49]⟩, .slice (some ⟨gs3, 0, none⟩) 1 1] 100 (0, 0))
  lR : B < gr
  R : W.heap[gr]? = some (.cells (.string ⟨#[97, 47, 118, 49]⟩ :: .int .i64 1 :: .int .i64 0 :: .int .i64 0 :: .slice (some ⟨gq1, 0, none⟩) 1 1 :: .string ⟨#[]⟩ :: .string ⟨#[]⟩ :: .string ⟨#[]⟩ :: .bool false :: .string ⟨#[97, 47, 118, 49]⟩ :: .int .i64 1 :: .int .i64 1 :: .int .i64 0 :: .slice (some ⟨gq2, 0, none⟩) 2 2 :: .string ⟨#[]⟩ :: .string ⟨#[]⟩ :: .string ⟨#[]⟩ :: .bool false :: .string ⟨#[98, 47, 118, 49]⟩ :: .int .i64 1 :: .int .i64 0 :: .int .i64 0 :: .slice none 0 0 :: .string ⟨#[]⟩ :: .string ⟨#[]⟩ :: .string ⟨#[]⟩ :: .bool false :: .string ⟨#[98, 47, 118, 49]⟩ :: .int .i64 1 :: .int .i64 1 :: .int .i64 0 :: .slice none 0 0 :: .string ⟨#[]⟩ :: .string ⟨#[]⟩ :: .string ⟨#[]⟩ :: .bool false :: .string ⟨#[99, 47, 118, 49]⟩ :: .int .i64 1 :: .int .i64 0 :: .int .i64 0 :: .slice none 0 0 :: .string ⟨#[]⟩ :: .string ⟨#[]⟩ :: .string ⟨#[]⟩ :: .bool false :: []).toArray 69 (0, 0))
  lF : B < gf
  F : W.heap[gf]? = some (.cells #[.string ⟨#[97, 47, 118, 49]⟩, .int .i64 1, .int .i64 0, .int .i64 0, .string ⟨#[98, 47, 118, 49]⟩, .int .i64 1, .int .i64 0, .int .i64 0] 53 (0, 0))
  lT : B < gt
  T : W.heap[gt]? = some (.cells #[.string ⟨#[97, 47, 118, 49]⟩, .int .i64 1, .int .i64 1, .int .i64 0, .string ⟨#[98, 47, 118, 49]⟩, .int .i64 1, .int .i64 1, .int .i64 0, .string ⟨#[99, 47, 118, 49]⟩, .int .i64 1, .int .i64 0, .int .i64 0] 53 (0, 0))
theorem spans_lit1 {W : World} {g : Nat} {t : TypeId} {a b : Int} (h : W.heap[g]? = some (.cells #[.int .i64 a, .int .i64 b] t (0, 0))) : SpansOf W.heap.size (.slice (some ⟨g, 0, none⟩) 1 1) [(a, b)] W := by
  have hg := (Array.getElem?_eq_some_iff.1 h).1
  refine ⟨_, _, rfl, fun i q hq => ?_⟩
  match i, hq with
  | 0, hq => cases hq; exact ⟨g, 0, rfl, hg, cell_of_row _ _ 0 _ _ _ h, cell_of_row _ _ 1 _ _ _ h⟩
  | i + 1, hq => simp at hq
theorem reqs_lit1W {W : World} {g : Nat} {t : TypeId} {p1 : ByteArray} {s1 : Value} {l1 : List (Int × Int)} (h : W.heap[g]? = some (.cells #[.string p1, s1] t (0, 0))) (h1 : SpansOf W.heap.size s1 l1 W) : ReqsOf W.heap.size (.slice (some ⟨g, 0, none⟩) 1 1) [(p1, l1)] W := by
  have hg := (Array.getElem?_eq_some_iff.1 h).1
  refine ⟨_, _, rfl, fun i q hq => ?_⟩
  match i, hq with
  | 0, hq => cases hq; exact ⟨g, 0, s1, rfl, hg, cell_of_row _ _ 0 _ _ _ h, cell_of_row _ _ 1 _ _ _ h, h1⟩
  | i + 1, hq => simp at hq
theorem reqs_lit2W {W : World} {g : Nat} {t : TypeId} {p1 p2 : ByteArray} {s1 s2 : Value} {l1 l2 : List (Int × Int)} (h : W.heap[g]? = some (.cells #[.string p1, s1, .string p2, s2] t (0, 0))) (h1 : SpansOf W.heap.size s1 l1 W) (h2 : SpansOf W.heap.size s2 l2 W) : ReqsOf W.heap.size (.slice (some ⟨g, 0, none⟩) 2 2) [(p1, l1), (p2, l2)] W := by
  have hg := (Array.getElem?_eq_some_iff.1 h).1
  refine ⟨_, _, rfl, fun i q hq => ?_⟩
  match i, hq with
  | 0, hq => cases hq; exact ⟨g, 0, s1, rfl, hg, cell_of_row _ _ 0 _ _ _ h, cell_of_row _ _ 1 _ _ _ h, h1⟩
  | 1, hq => cases hq; exact ⟨g, 0, s2, rfl, hg, cell_of_row _ _ 2 _ _ _ h, cell_of_row _ _ 3 _ _ _ h, h2⟩
  | i + 2, hq => simp at hq
theorem reqs_nilW (B : Nat) (W : World) : ReqsOf B (.slice none 0 0) [] W := ⟨_, _, rfl, fun i q hq => by simp at hq⟩
theorem ExB.sf {B gs1 gq1 gs2 gs3 gq2 gr gf gt : Nat} {W : World} (h : ExB B gs1 gq1 gs2 gs3 gq2 gr gf gt W) : SelsOf W.heap.size (.slice (some ⟨gf, 0, none⟩) 2 2) wF W := by
  have hg := (Array.getElem?_eq_some_iff.1 h.F).1
  refine ⟨_, _, rfl, fun i q hq => ?_⟩
  match i, hq with
  | 0, hq => cases hq; exact ⟨gf, 0, rfl, hg, cell_of_row _ _ 0 _ _ _ h.F, cell_of_row _ _ 1 _ _ _ h.F, cell_of_row _ _ 2 _ _ _ h.F, cell_of_row _ _ 3 _ _ _ h.F⟩
  | 1, hq => cases hq; exact ⟨gf, 0, rfl, hg, cell_of_row _ _ 4 _ _ _ h.F, cell_of_row _ _ 5 _ _ _ h.F, cell_of_row _ _ 6 _ _ _ h.F, cell_of_row _ _ 7 _ _ _ h.F⟩
  | i + 2, hq => simp [wF] at hq
theorem ExB.st {B gs1 gq1 gs2 gs3 gq2 gr gf gt : Nat} {W : World} (h : ExB B gs1 gq1 gs2 gs3 gq2 gr gf gt W) : SelsOf W.heap.size (.slice (some ⟨gt, 0, none⟩) 3 3) wT W := by
  have hg := (Array.getElem?_eq_some_iff.1 h.T).1
  refine ⟨_, _, rfl, fun i q hq => ?_⟩
  match i, hq with
  | 0, hq => cases hq; exact ⟨gt, 0, rfl, hg, cell_of_row _ _ 0 _ _ _ h.T, cell_of_row _ _ 1 _ _ _ h.T, cell_of_row _ _ 2 _ _ _ h.T, cell_of_row _ _ 3 _ _ _ h.T⟩
  | 1, hq => cases hq; exact ⟨gt, 0, rfl, hg, cell_of_row _ _ 4 _ _ _ h.T, cell_of_row _ _ 5 _ _ _ h.T, cell_of_row _ _ 6 _ _ _ h.T, cell_of_row _ _ 7 _ _ _ h.T⟩
  | 2, hq => cases hq; exact ⟨gt, 0, rfl, hg, cell_of_row _ _ 8 _ _ _ h.T, cell_of_row _ _ 9 _ _ _ h.T, cell_of_row _ _ 10 _ _ _ h.T, cell_of_row _ _ 11 _ _ _ h.T⟩
  | i + 3, hq => simp [wT] at hq
set_option maxRecDepth 100000 in
theorem ExB.rels {B gs1 gq1 gs2 gs3 gq2 gr gf gt : Nat} {W : World} (h : ExB B gs1 gq1 gs2 gs3 gq2 gr gf gt W) : RelsOf W.heap.size (.slice (some ⟨gr, 0, none⟩) 5 5) wX W := by
  have hg := (Array.getElem?_eq_some_iff.1 h.R).1
  have h0 : ReqsOf W.heap.size (.slice (some ⟨gq1, 0, none⟩) 1 1) [onlyQ wB 0] W := reqs_lit1W h.Q1 (spans_lit1 h.S1)
  have h1 : ReqsOf W.heap.size (.slice (some ⟨gq2, 0, none⟩) 2 2) [onlyQ wB 1, allQ wC] W := reqs_lit2W h.Q2 (spans_lit1 h.S2) (spans_lit1 h.S3)
  refine ⟨_, _, rfl, fun i x hx => ?_⟩
  match i, hx with
  | 0, hx => cases hx; exact ⟨gr, 0, rfl, hg, (.slice (some ⟨gq1, 0, none⟩) 1 1), cell_of_row _ _ 0 _ _ _ h.R, cell_of_row _ _ 1 _ _ _ h.R, cell_of_row _ _ 2 _ _ _ h.R, cell_of_row _ _ 3 _ _ _ h.R, cell_of_row _ _ 4 _ _ _ h.R, cell_of_row _ _ 5 _ _ _ h.R, cell_of_row _ _ 6 _ _ _ h.R, cell_of_row _ _ 7 _ _ _ h.R, cell_of_row _ _ 8 _ _ _ h.R, h0⟩
  | 1, hx => cases hx; exact ⟨gr, 0, rfl, hg, (.slice (some ⟨gq2, 0, none⟩) 2 2), cell_of_row _ _ 9 _ _ _ h.R, cell_of_row _ _ 10 _ _ _ h.R, cell_of_row _ _ 11 _ _ _ h.R, cell_of_row _ _ 12 _ _ _ h.R, cell_of_row _ _ 13 _ _ _ h.R, cell_of_row _ _ 14 _ _ _ h.R, cell_of_row _ _ 15 _ _ _ h.R, cell_of_row _ _ 16 _ _ _ h.R, cell_of_row _ _ 17 _ _ _ h.R, h1⟩
  | 2, hx => cases hx; exact ⟨gr, 0, rfl, hg, (.slice none 0 0), cell_of_row _ _ 18 _ _ _ h.R, cell_of_row _ _ 19 _ _ _ h.R, cell_of_row _ _ 20 _ _ _ h.R, cell_of_row _ _ 21 _ _ _ h.R, cell_of_row _ _ 22 _ _ _ h.R, cell_of_row _ _ 23 _ _ _ h.R, cell_of_row _ _ 24 _ _ _ h.R, cell_of_row _ _ 25 _ _ _ h.R, cell_of_row _ _ 26 _ _ _ h.R, (reqs_nilW _ _)⟩
  | 3, hx => cases hx; exact ⟨gr, 0, rfl, hg, (.slice none 0 0), cell_of_row _ _ 27 _ _ _ h.R, cell_of_row _ _ 28 _ _ _ h.R, cell_of_row _ _ 29 _ _ _ h.R, cell_of_row _ _ 30 _ _ _ h.R, cell_of_row _ _ 31 _ _ _ h.R, cell_of_row _ _ 32 _ _ _ h.R, cell_of_row _ _ 33 _ _ _ h.R, cell_of_row _ _ 34 _ _ _ h.R, cell_of_row _ _ 35 _ _ _ h.R, (reqs_nilW _ _)⟩
  | 4, hx => cases hx; exact ⟨gr, 0, rfl, hg, (.slice none 0 0), cell_of_row _ _ 36 _ _ _ h.R, cell_of_row _ _ 37 _ _ _ h.R, cell_of_row _ _ 38 _ _ _ h.R, cell_of_row _ _ 39 _ _ _ h.R, cell_of_row _ _ 40 _ _ _ h.R, cell_of_row _ _ 41 _ _ _ h.R, cell_of_row _ _ 42 _ _ _ h.R, cell_of_row _ _ 43 _ _ _ h.R, cell_of_row _ _ 44 _ _ _ h.R, (reqs_nilW _ _)⟩
  | i + 5, hx => simp [wX] at hx
structure ExP (w : World) (gs1 gq1 gs2 gs3 gq2 gr gx : Nat) (W : World) : Prop where
  bel : Below w.heap.size w W
  hz : w.heap.size < W.heap.size
  lS1 : w.heap.size < gs1
  S1 : W.heap[gs1]? = some (.cells #[.int .i64 (1000 * 0), .int .i64 (1000 * 0 + 1)] 111 (0, 0))
  lQ1 : w.heap.size < gq1
  Q1 : W.heap[gq1]? = some (.cells #[.string ⟨#[98, 47, 118, 49]⟩, .slice (some ⟨gs1, 0, none⟩) 1 1] 100 (0, 0))
  lS2 : w.heap.size < gs2
  S2 : W.heap[gs2]? = some (.cells #[.int .i64 (1000 * 1), .int .i64 (1000 * 1 + 1)] 111 (0, 0))
  lS3 : w.heap.size < gs3
  S3 : W.heap[gs3]? = some (.cells #[.int .i64 0, .int .i64 1000000] 111 (0, 0))
  lQ2 : w.heap.size < gq2
  Q2 : W.heap[gq2]? = some (.cells #[.string ⟨#[98, 47, 118, 49]⟩, .slice (some ⟨gs2, 0, none⟩) 1 1, .string ⟨#[99, 47, 118, 49]⟩, .slice (some ⟨gs3, 0, none⟩) 1 1] 100 (0, 0))
  lR : w.heap.size < gr
  R : W.heap[gr]? = some (.cells (.string ⟨#[97, 47, 118, 49]⟩ :: .int .i64 1 :: .int .i64 0 :: .int .i64 0 :: .slice (some ⟨gq1, 0, none⟩) 1 1 :: .string ⟨#[]⟩ :: .string ⟨#[]⟩ :: .string ⟨#[]⟩ :: .bool false :: .string ⟨#[97, 47, 118, 49]⟩ :: .int .i64 1 :: .int .i64 1 :: .int .i64 0 :: .slice (some ⟨gq2, 0, none⟩) 2 2 :: .string ⟨#[]⟩ :: .string ⟨#[]⟩ :: .string ⟨#[]⟩ :: .bool false :: .string ⟨#[98, 47, 118, 49]⟩ :: .int .i64 1 :: .int .i64 0 :: .int .i64 0 :: .slice none 0 0 :: .string ⟨#[]⟩ :: .string ⟨#[]⟩ :: .string ⟨#[]⟩ :: .bool false :: .string ⟨#[98, 47, 118, 49]⟩ :: .int .i64 1 :: .int .i64 1 :: .int .i64 0 :: .slice none 0 0 :: .string ⟨#[]⟩ :: .string ⟨#[]⟩ :: .string ⟨#[]⟩ :: .bool false :: .string ⟨#[99, 47, 118, 49]⟩ :: .int .i64 1 :: .int .i64 0 :: .int .i64 0 :: .slice none 0 0 :: .string ⟨#[]⟩ :: .string ⟨#[]⟩ :: .string ⟨#[]⟩ :: .bool false :: []).toArray 69 (0, 0))
  lX : w.heap.size < gx
  X : W.heap[gx]? = some (.cells #[.slice (some ⟨gr, 0, none⟩) 5 5, .slice none 0 0] 25 (0, 0))
theorem ExP.on {w : World} {gs1 gq1 gs2 gs3 gq2 gr gx : Nat} {W W' : World} (h : ExP w gs1 gq1 gs2 gs3 gq2 gr gx W) (hb : Below W.heap.size W W') : ExP w gs1 gq1 gs2 gs3 gq2 gr gx W' :=
  ⟨h.bel.trans (hb.mono h.bel.size), Nat.lt_of_lt_of_le h.hz hb.size, h.lS1, (hb.block _ (Array.getElem?_eq_some_iff.1 h.S1).1).trans h.S1, h.lQ1, (hb.block _ (Array.getElem?_eq_some_iff.1 h.Q1).1).trans h.Q1, h.lS2, (hb.block _ (Array.getElem?_eq_some_iff.1 h.S2).1).trans h.S2, h.lS3, (hb.block _ (Array.getElem?_eq_some_iff.1 h.S3).1).trans h.S3, h.lQ2, (hb.block _ (Array.getElem?_eq_some_iff.1 h.Q2).1).trans h.Q2, h.lR, (hb.block _ (Array.getElem?_eq_some_iff.1 h.R).1).trans h.R, h.lX, (hb.block _ (Array.getElem?_eq_some_iff.1 h.X).1).trans h.X⟩
theorem set_keep {W : World} {g k : Nat} {x y : Value} {o : Obj} (hne : k ≠ g) (h : W.heap[k]? = some o) : ((W.setCell ⟨g, 0, none⟩ x).setCell ⟨g, 1, none⟩ y).heap[k]? = some o := (heap_setCell_other _ _ _ _ hne).trans ((heap_setCell_other _ _ _ _ hne).trans h)
theorem ExP.set {w : World} {gs1 gq1 gs2 gs3 gq2 gr gx : Nat} {W : World} (h : ExP w gs1 gq1 gs2 gs3 gq2 gr gx W) (x y : Value) : ExP w gs1 gq1 gs2 gs3 gq2 gr gx ((W.setCell ⟨w.heap.size, 0, none⟩ x).setCell ⟨w.heap.size, 1, none⟩ y) :=
  ⟨(h.bel.setCell (Nat.le_refl _) x).setCell (Nat.le_refl _) y, by have := h.hz; simpa using this, h.lS1, set_keep (Nat.ne_of_gt h.lS1) h.S1, h.lQ1, set_keep (Nat.ne_of_gt h.lQ1) h.Q1, h.lS2, set_keep (Nat.ne_of_gt h.lS2) h.S2, h.lS3, set_keep (Nat.ne_of_gt h.lS3) h.S3, h.lQ2, set_keep (Nat.ne_of_gt h.lQ2) h.Q2, h.lR, set_keep (Nat.ne_of_gt h.lR) h.R, h.lX, set_keep (Nat.ne_of_gt h.lX) h.X⟩
theorem results_cell_tmp2 {fn : Func} {p u v : Tmp} {ty : TypeId} (h : fn.results = #[.cell p ty, .tmp u, .tmp v]) (tmps : Array Value) (w : World) (g : Nat) (cs : Array Value)
    (hp : tmps.getD p undef = .pointer (some ⟨g, 0, none⟩)) (hl : (loadVar ty ⟨g, 0, none⟩).run Tryz.prog w = .ok (.agg cs) w) :
    (results fn tmps).run Tryz.prog w = .ok (.tuple #[.agg cs, tmps.getD u undef, tmps.getD v undef]) w := by
  have hp' : tmps[p]?.getD undef = .pointer (some ⟨g, 0, none⟩) := by simpa using hp
  simp [results, h, hp', asAddr, Result.andThen, hl]
set_option maxRecDepth 100000 in
set_option maxHeartbeats 16000000 in
theorem example44_any (w : World) :
    Calls Tryz.prog 39 #[] w fun e w' => ∃ gs1 gq1 gs2 gs3 gq2 gr gf gt, e = .returned (.tuple #[.agg #[.slice (some ⟨gr, 0, none⟩) 5 5, .slice none 0 0], .slice (some ⟨gf, 0, none⟩) 2 2, .slice (some ⟨gt, 0, none⟩) 3 3]) ∧ ExB w.heap.size gs1 gq1 gs2 gs3 gq2 gr gf gt w' ∧ Below w.heap.size w w' := by
  have HV := Lib.hid ver44_any
  have HN := Lib.hid only44_any
  have HG0 := Lib.hid (World.alloc_heap_new w (.cells #[.slice none 0 0, .slice none 0 0] 25))
  have HB := Lib.hid (belQ w (.cells #[.slice none 0 0, .slice none 0 0] 25))
  have hz := World.size_alloc w (.cells #[.slice none 0 0, .slice none 0 0] 25)
  have HZ : Hid (w.heap.size < (w.alloc (.cells #[.slice none 0 0, .slice none 0 0] 25)).heap.size) := Lib.hid (by omega)
  clear hz
  go_enter Tryz.func39, Tryz.ntmps39
  go_wp2_with fail
  generalize w.alloc (.cells #[.slice none 0 0, .slice none 0 0] 25) = w0 at *
  refine (HV.out 0 _).mono ?_
  rintro e w1 ⟨rfl, hbx⟩
  replace HG0 := Lib.hid ((hbx.block _ (Array.getElem?_eq_some_iff.1 HG0.out).1).trans HG0.out)
  replace HZ := Lib.hid (Nat.lt_of_lt_of_le HZ.out hbx.size)
  replace HB := Lib.hid (HB.out.trans (hbx.mono HB.out.size))
  clear hbx
  go_wp2_with fail
  refine (HN.out 0 _ (by omega)).mono ?_
  rintro e w2 ⟨gs1, rfl, hsS1, hlS1, hbx⟩
  have LS1 := Lib.hid (Nat.lt_of_lt_of_le HZ.out hlS1)
  replace HG0 := Lib.hid ((hbx.block _ (Array.getElem?_eq_some_iff.1 HG0.out).1).trans HG0.out)
  replace HZ := Lib.hid (Nat.lt_of_lt_of_le HZ.out hbx.size)
  replace HB := Lib.hid (HB.out.trans (hbx.mono HB.out.size))
  have HS1 := Lib.hid hsS1
  clear hbx hsS1 hlS1
  go_wp2_with fail
  have hbx := belQ w2 (.cells #[.string ⟨#[98, 47, 118, 49]⟩, .slice (some ⟨gs1, 0, none⟩) 1 1] 100)
  have hnx := World.alloc_heap_new w2 (.cells #[.string ⟨#[98, 47, 118, 49]⟩, .slice (some ⟨gs1, 0, none⟩) 1 1] 100)
  have LQ1 := HZ
  replace HG0 := Lib.hid ((hbx.block _ (Array.getElem?_eq_some_iff.1 HG0.out).1).trans HG0.out)
  replace HS1 := Lib.hid ((hbx.block _ (Array.getElem?_eq_some_iff.1 HS1.out).1).trans HS1.out)
  replace HZ := Lib.hid (Nat.lt_of_lt_of_le HZ.out hbx.size)
  replace HB := Lib.hid (HB.out.trans (hbx.mono HB.out.size))
  have HQ1 := Lib.hid hnx
  clear hbx hnx
  generalize w2.alloc (.cells #[.string ⟨#[98, 47, 118, 49]⟩, .slice (some ⟨gs1, 0, none⟩) 1 1] 100) = w3 at *
  generalize w2.heap.size = gq1 at *
  refine (HV.out 1 _).mono ?_
  rintro e w4 ⟨rfl, hbx⟩
  replace HG0 := Lib.hid ((hbx.block _ (Array.getElem?_eq_some_iff.1 HG0.out).1).trans HG0.out)
  replace HS1 := Lib.hid ((hbx.block _ (Array.getElem?_eq_some_iff.1 HS1.out).1).trans HS1.out)
  replace HQ1 := Lib.hid ((hbx.block _ (Array.getElem?_eq_some_iff.1 HQ1.out).1).trans HQ1.out)
  replace HZ := Lib.hid (Nat.lt_of_lt_of_le HZ.out hbx.size)
  replace HB := Lib.hid (HB.out.trans (hbx.mono HB.out.size))
  clear hbx
  go_wp2_with fail
  refine (HN.out 1 _ (by omega)).mono ?_
  rintro e w5 ⟨gs2, rfl, hsS2, hlS2, hbx⟩
  have LS2 := Lib.hid (Nat.lt_of_lt_of_le HZ.out hlS2)
  replace HG0 := Lib.hid ((hbx.block _ (Array.getElem?_eq_some_iff.1 HG0.out).1).trans HG0.out)
  replace HS1 := Lib.hid ((hbx.block _ (Array.getElem?_eq_some_iff.1 HS1.out).1).trans HS1.out)
  replace HQ1 := Lib.hid ((hbx.block _ (Array.getElem?_eq_some_iff.1 HQ1.out).1).trans HQ1.out)
  replace HZ := Lib.hid (Nat.lt_of_lt_of_le HZ.out hbx.size)
  replace HB := Lib.hid (HB.out.trans (hbx.mono HB.out.size))
  have HS2 := Lib.hid hsS2
  clear hbx hsS2 hlS2
  go_wp2_with fail
  have hbx := belQ w5 (.cells #[.int .i64 0, .int .i64 1000000] 111)
  have hnx := World.alloc_heap_new w5 (.cells #[.int .i64 0, .int .i64 1000000] 111)
  have z := World.size_alloc w5 (.cells #[.int .i64 0, .int .i64 1000000] 111)
  have LS3 := HZ
  replace HG0 := Lib.hid ((hbx.block _ (Array.getElem?_eq_some_iff.1 HG0.out).1).trans HG0.out)
  replace HS1 := Lib.hid ((hbx.block _ (Array.getElem?_eq_some_iff.1 HS1.out).1).trans HS1.out)
  replace HQ1 := Lib.hid ((hbx.block _ (Array.getElem?_eq_some_iff.1 HQ1.out).1).trans HQ1.out)
  replace HS2 := Lib.hid ((hbx.block _ (Array.getElem?_eq_some_iff.1 HS2.out).1).trans HS2.out)
  replace HZ := Lib.hid (Nat.lt_of_lt_of_le HZ.out hbx.size)
  replace HB := Lib.hid (HB.out.trans (hbx.mono HB.out.size))
  have HS3 := Lib.hid hnx
  clear hbx hnx
  generalize w5.alloc (.cells #[.int .i64 0, .int .i64 1000000] 111) = w6 at *
  generalize w5.heap.size = gs3 at *
  have hbx := belQ w6 (.cells #[.string ⟨#[98, 47, 118, 49]⟩, .slice (some ⟨gs2, 0, none⟩) 1 1, .string ⟨#[99, 47, 118, 49]⟩, .slice (some ⟨gs3, 0, none⟩) 1 1] 100)
  have hnx := World.alloc_heap_new w6 (.cells #[.string ⟨#[98, 47, 118, 49]⟩, .slice (some ⟨gs2, 0, none⟩) 1 1, .string ⟨#[99, 47, 118, 49]⟩, .slice (some ⟨gs3, 0, none⟩) 1 1] 100)
  have LQ2 := HZ
  replace HG0 := Lib.hid ((hbx.block _ (Array.getElem?_eq_some_iff.1 HG0.out).1).trans HG0.out)
  replace HS1 := Lib.hid ((hbx.block _ (Array.getElem?_eq_some_iff.1 HS1.out).1).trans HS1.out)
  replace HQ1 := Lib.hid ((hbx.block _ (Array.getElem?_eq_some_iff.1 HQ1.out).1).trans HQ1.out)
  replace HS2 := Lib.hid ((hbx.block _ (Array.getElem?_eq_some_iff.1 HS2.out).1).trans HS2.out)
  replace HS3 := Lib.hid ((hbx.block _ (Array.getElem?_eq_some_iff.1 HS3.out).1).trans HS3.out)
  replace HZ := Lib.hid (Nat.lt_of_lt_of_le HZ.out hbx.size)
  replace HB := Lib.hid (HB.out.trans (hbx.mono HB.out.size))
  have HQ2 := Lib.hid hnx
  clear hbx hnx
  generalize w6.alloc (.cells #[.string ⟨#[98, 47, 118, 49]⟩, .slice (some ⟨gs2, 0, none⟩) 1 1, .string ⟨#[99, 47, 118, 49]⟩, .slice (some ⟨gs3, 0, none⟩) 1 1] 100) = w7 at *
  rw [z] at HQ2 LQ2
  clear z
  generalize gs3 + 1 = gq2 at *
  refine (HV.out 0 _).mono ?_
  rintro e w8 ⟨rfl, hbx⟩
  replace HG0 := Lib.hid ((hbx.block _ (Array.getElem?_eq_some_iff.1 HG0.out).1).trans HG0.out)
  replace HS1 := Lib.hid ((hbx.block _ (Array.getElem?_eq_some_iff.1 HS1.out).1).trans HS1.out)
  replace HQ1 := Lib.hid ((hbx.block _ (Array.getElem?_eq_some_iff.1 HQ1.out).1).trans HQ1.out)
  replace HS2 := Lib.hid ((hbx.block _ (Array.getElem?_eq_some_iff.1 HS2.out).1).trans HS2.out)
  replace HS3 := Lib.hid ((hbx.block _ (Array.getElem?_eq_some_iff.1 HS3.out).1).trans HS3.out)
  replace HQ2 := Lib.hid ((hbx.block _ (Array.getElem?_eq_some_iff.1 HQ2.out).1).trans HQ2.out)
  replace HZ := Lib.hid (Nat.lt_of_lt_of_le HZ.out hbx.size)
  replace HB := Lib.hid (HB.out.trans (hbx.mono HB.out.size))
  clear hbx
  go_wp2_with fail
  refine (HV.out 1 _).mono ?_
  rintro e w9 ⟨rfl, hbx⟩
  replace HG0 := Lib.hid ((hbx.block _ (Array.getElem?_eq_some_iff.1 HG0.out).1).trans HG0.out)
  replace HS1 := Lib.hid ((hbx.block _ (Array.getElem?_eq_some_iff.1 HS1.out).1).trans HS1.out)
  replace HQ1 := Lib.hid ((hbx.block _ (Array.getElem?_eq_some_iff.1 HQ1.out).1).trans HQ1.out)
  replace HS2 := Lib.hid ((hbx.block _ (Array.getElem?_eq_some_iff.1 HS2.out).1).trans HS2.out)
  replace HS3 := Lib.hid ((hbx.block _ (Array.getElem?_eq_some_iff.1 HS3.out).1).trans HS3.out)
  replace HQ2 := Lib.hid ((hbx.block _ (Array.getElem?_eq_some_iff.1 HQ2.out).1).trans HQ2.out)
  replace HZ := Lib.hid (Nat.lt_of_lt_of_le HZ.out hbx.size)
  replace HB := Lib.hid (HB.out.trans (hbx.mono HB.out.size))
  clear hbx
  go_wp2_with fail
  refine (HV.out 0 _).mono ?_
  rintro e w10 ⟨rfl, hbx⟩
  replace HG0 := Lib.hid ((hbx.block _ (Array.getElem?_eq_some_iff.1 HG0.out).1).trans HG0.out)
  replace HS1 := Lib.hid ((hbx.block _ (Array.getElem?_eq_some_iff.1 HS1.out).1).trans HS1.out)
  replace HQ1 := Lib.hid ((hbx.block _ (Array.getElem?_eq_some_iff.1 HQ1.out).1).trans HQ1.out)
  replace HS2 := Lib.hid ((hbx.block _ (Array.getElem?_eq_some_iff.1 HS2.out).1).trans HS2.out)
  replace HS3 := Lib.hid ((hbx.block _ (Array.getElem?_eq_some_iff.1 HS3.out).1).trans HS3.out)
  replace HQ2 := Lib.hid ((hbx.block _ (Array.getElem?_eq_some_iff.1 HQ2.out).1).trans HQ2.out)
  replace HZ := Lib.hid (Nat.lt_of_lt_of_le HZ.out hbx.size)
  replace HB := Lib.hid (HB.out.trans (hbx.mono HB.out.size))
  clear hbx
  go_upto_region 4 with fail
  have hbx := belQ w10 (.cells (.string ⟨#[97, 47, 118, 49]⟩ :: .int .i64 1 :: .int .i64 0 :: .int .i64 0 :: .slice (some ⟨gq1, 0, none⟩) 1 1 :: .string ⟨#[]⟩ :: .string ⟨#[]⟩ :: .string ⟨#[]⟩ :: .bool false :: .string ⟨#[97, 47, 118, 49]⟩ :: .int .i64 1 :: .int .i64 1 :: .int .i64 0 :: .slice (some ⟨gq2, 0, none⟩) 2 2 :: .string ⟨#[]⟩ :: .string ⟨#[]⟩ :: .string ⟨#[]⟩ :: .bool false :: .string ⟨#[98, 47, 118, 49]⟩ :: .int .i64 1 :: .int .i64 0 :: .int .i64 0 :: .slice none 0 0 :: .string ⟨#[]⟩ :: .string ⟨#[]⟩ :: .string ⟨#[]⟩ :: .bool false :: .string ⟨#[98, 47, 118, 49]⟩ :: .int .i64 1 :: .int .i64 1 :: .int .i64 0 :: .slice none 0 0 :: .string ⟨#[]⟩ :: .string ⟨#[]⟩ :: .string ⟨#[]⟩ :: .bool false :: .string ⟨#[99, 47, 118, 49]⟩ :: .int .i64 1 :: .int .i64 0 :: .int .i64 0 :: .slice none 0 0 :: .string ⟨#[]⟩ :: .string ⟨#[]⟩ :: .string ⟨#[]⟩ :: .bool false :: []).toArray 69)
  have hnx := World.alloc_heap_new w10 (.cells (.string ⟨#[97, 47, 118, 49]⟩ :: .int .i64 1 :: .int .i64 0 :: .int .i64 0 :: .slice (some ⟨gq1, 0, none⟩) 1 1 :: .string ⟨#[]⟩ :: .string ⟨#[]⟩ :: .string ⟨#[]⟩ :: .bool false :: .string ⟨#[97, 47, 118, 49]⟩ :: .int .i64 1 :: .int .i64 1 :: .int .i64 0 :: .slice (some ⟨gq2, 0, none⟩) 2 2 :: .string ⟨#[]⟩ :: .string ⟨#[]⟩ :: .string ⟨#[]⟩ :: .bool false :: .string ⟨#[98, 47, 118, 49]⟩ :: .int .i64 1 :: .int .i64 0 :: .int .i64 0 :: .slice none 0 0 :: .string ⟨#[]⟩ :: .string ⟨#[]⟩ :: .string ⟨#[]⟩ :: .bool false :: .string ⟨#[98, 47, 118, 49]⟩ :: .int .i64 1 :: .int .i64 1 :: .int .i64 0 :: .slice none 0 0 :: .string ⟨#[]⟩ :: .string ⟨#[]⟩ :: .string ⟨#[]⟩ :: .bool false :: .string ⟨#[99, 47, 118, 49]⟩ :: .int .i64 1 :: .int .i64 0 :: .int .i64 0 :: .slice none 0 0 :: .string ⟨#[]⟩ :: .string ⟨#[]⟩ :: .string ⟨#[]⟩ :: .bool false :: []).toArray 69)
  have z := World.size_alloc w10 (.cells (.string ⟨#[97, 47, 118, 49]⟩ :: .int .i64 1 :: .int .i64 0 :: .int .i64 0 :: .slice (some ⟨gq1, 0, none⟩) 1 1 :: .string ⟨#[]⟩ :: .string ⟨#[]⟩ :: .string ⟨#[]⟩ :: .bool false :: .string ⟨#[97, 47, 118, 49]⟩ :: .int .i64 1 :: .int .i64 1 :: .int .i64 0 :: .slice (some ⟨gq2, 0, none⟩) 2 2 :: .string ⟨#[]⟩ :: .string ⟨#[]⟩ :: .string ⟨#[]⟩ :: .bool false :: .string ⟨#[98, 47, 118, 49]⟩ :: .int .i64 1 :: .int .i64 0 :: .int .i64 0 :: .slice none 0 0 :: .string ⟨#[]⟩ :: .string ⟨#[]⟩ :: .string ⟨#[]⟩ :: .bool false :: .string ⟨#[98, 47, 118, 49]⟩ :: .int .i64 1 :: .int .i64 1 :: .int .i64 0 :: .slice none 0 0 :: .string ⟨#[]⟩ :: .string ⟨#[]⟩ :: .string ⟨#[]⟩ :: .bool false :: .string ⟨#[99, 47, 118, 49]⟩ :: .int .i64 1 :: .int .i64 0 :: .int .i64 0 :: .slice none 0 0 :: .string ⟨#[]⟩ :: .string ⟨#[]⟩ :: .string ⟨#[]⟩ :: .bool false :: []).toArray 69)
  have LR := HZ
  replace HG0 := Lib.hid ((hbx.block _ (Array.getElem?_eq_some_iff.1 HG0.out).1).trans HG0.out)
  replace HS1 := Lib.hid ((hbx.block _ (Array.getElem?_eq_some_iff.1 HS1.out).1).trans HS1.out)
  replace HQ1 := Lib.hid ((hbx.block _ (Array.getElem?_eq_some_iff.1 HQ1.out).1).trans HQ1.out)
  replace HS2 := Lib.hid ((hbx.block _ (Array.getElem?_eq_some_iff.1 HS2.out).1).trans HS2.out)
  replace HS3 := Lib.hid ((hbx.block _ (Array.getElem?_eq_some_iff.1 HS3.out).1).trans HS3.out)
  replace HQ2 := Lib.hid ((hbx.block _ (Array.getElem?_eq_some_iff.1 HQ2.out).1).trans HQ2.out)
  replace HZ := Lib.hid (Nat.lt_of_lt_of_le HZ.out hbx.size)
  replace HB := Lib.hid (HB.out.trans (hbx.mono HB.out.size))
  have HR := Lib.hid hnx
  clear hbx hnx
  generalize w10.alloc (.cells (.string ⟨#[97, 47, 118, 49]⟩ :: .int .i64 1 :: .int .i64 0 :: .int .i64 0 :: .slice (some ⟨gq1, 0, none⟩) 1 1 :: .string ⟨#[]⟩ :: .string ⟨#[]⟩ :: .string ⟨#[]⟩ :: .bool false :: .string ⟨#[97, 47, 118, 49]⟩ :: .int .i64 1 :: .int .i64 1 :: .int .i64 0 :: .slice (some ⟨gq2, 0, none⟩) 2 2 :: .string ⟨#[]⟩ :: .string ⟨#[]⟩ :: .string ⟨#[]⟩ :: .bool false :: .string ⟨#[98, 47, 118, 49]⟩ :: .int .i64 1 :: .int .i64 0 :: .int .i64 0 :: .slice none 0 0 :: .string ⟨#[]⟩ :: .string ⟨#[]⟩ :: .string ⟨#[]⟩ :: .bool false :: .string ⟨#[98, 47, 118, 49]⟩ :: .int .i64 1 :: .int .i64 1 :: .int .i64 0 :: .slice none 0 0 :: .string ⟨#[]⟩ :: .string ⟨#[]⟩ :: .string ⟨#[]⟩ :: .bool false :: .string ⟨#[99, 47, 118, 49]⟩ :: .int .i64 1 :: .int .i64 0 :: .int .i64 0 :: .slice none 0 0 :: .string ⟨#[]⟩ :: .string ⟨#[]⟩ :: .string ⟨#[]⟩ :: .bool false :: []).toArray 69) = w11 at *
  generalize w10.heap.size = gr at *
  have LX := HZ
  have hbx := belQ w11 (.cells #[.slice (some ⟨gr, 0, none⟩) 5 5, .slice none 0 0] 25)
  have hnx := World.alloc_heap_new w11 (.cells #[.slice (some ⟨gr, 0, none⟩) 5 5, .slice none 0 0] 25)
  replace HG0 := Lib.hid ((hbx.block _ (Array.getElem?_eq_some_iff.1 HG0.out).1).trans HG0.out)
  replace HS1 := Lib.hid ((hbx.block _ (Array.getElem?_eq_some_iff.1 HS1.out).1).trans HS1.out)
  replace HQ1 := Lib.hid ((hbx.block _ (Array.getElem?_eq_some_iff.1 HQ1.out).1).trans HQ1.out)
  replace HS2 := Lib.hid ((hbx.block _ (Array.getElem?_eq_some_iff.1 HS2.out).1).trans HS2.out)
  replace HS3 := Lib.hid ((hbx.block _ (Array.getElem?_eq_some_iff.1 HS3.out).1).trans HS3.out)
  replace HQ2 := Lib.hid ((hbx.block _ (Array.getElem?_eq_some_iff.1 HQ2.out).1).trans HQ2.out)
  replace HR := Lib.hid ((hbx.block _ (Array.getElem?_eq_some_iff.1 HR.out).1).trans HR.out)
  replace HZ := Lib.hid (Nat.lt_of_lt_of_le HZ.out hbx.size)
  replace HB := Lib.hid (HB.out.trans (hbx.mono HB.out.size))
  have HX := Lib.hid hnx
  clear hbx hnx
  generalize w11.alloc (.cells #[.slice (some ⟨gr, 0, none⟩) 5 5, .slice none 0 0] 25) = w12 at *
  rw [z] at HX LX
  clear z
  generalize gr + 1 = gx at *
  have hbx : Below w12.heap.size w12 w12.drew := (Below.refl _ _).drew
  replace HG0 := Lib.hid ((hbx.block _ (Array.getElem?_eq_some_iff.1 HG0.out).1).trans HG0.out)
  replace HS1 := Lib.hid ((hbx.block _ (Array.getElem?_eq_some_iff.1 HS1.out).1).trans HS1.out)
  replace HQ1 := Lib.hid ((hbx.block _ (Array.getElem?_eq_some_iff.1 HQ1.out).1).trans HQ1.out)
  replace HS2 := Lib.hid ((hbx.block _ (Array.getElem?_eq_some_iff.1 HS2.out).1).trans HS2.out)
  replace HS3 := Lib.hid ((hbx.block _ (Array.getElem?_eq_some_iff.1 HS3.out).1).trans HS3.out)
  replace HQ2 := Lib.hid ((hbx.block _ (Array.getElem?_eq_some_iff.1 HQ2.out).1).trans HQ2.out)
  replace HR := Lib.hid ((hbx.block _ (Array.getElem?_eq_some_iff.1 HR.out).1).trans HR.out)
  replace HX := Lib.hid ((hbx.block _ (Array.getElem?_eq_some_iff.1 HX.out).1).trans HX.out)
  replace HZ := Lib.hid (Nat.lt_of_lt_of_le HZ.out hbx.size)
  replace HB := Lib.hid (HB.out.trans (hbx.mono HB.out.size))
  clear hbx
  have HP : Hid (ExP w gs1 gq1 gs2 gs3 gq2 gr gx w12.drew) := Lib.hid ⟨HB.out, HZ.out, LS1.out, HS1.out, LQ1.out, HQ1.out, LS2.out, HS2.out, LS3.out, HS3.out, LQ2.out, HQ2.out, LR.out, HR.out, LX.out, HX.out⟩
  clear HB HZ LS1 HS1 LQ1 HQ1 LS2 HS2 LS3 HS3 LQ2 HQ2 LR HR LX HX
  refine wp_region_noPanic ?_
  refine wp_region_held_drew (S := HeldX gx (.slice (some ⟨gr, 0, none⟩) 5 5) (.slice none 0 0)) (by kernel_rfl) ((⟨blk0 HP.out.X, blk1 HP.out.X⟩ : HeldX gx (.slice (some ⟨gr, 0, none⟩) 5 5) (.slice none 0 0) _)) (fun hS0 => ?_)
  (refine zl3 0 ?_ rfl ?_ ?_; rotate_left; (· (rintro w ⟨d0, d1⟩; go_simp; try with_reducible rfl)); (try simp only [zl1]))
  (refine zl3 1 ?_ rfl ?_ ?_; rotate_left; (· (rintro w ⟨d0, d1⟩; go_simp; try with_reducible rfl)); (try simp only [zl1]))
  (refine zl3 4 ?_ rfl ?_ ?_; rotate_left; (· (rintro w ⟨d0, d1⟩; go_simp; try with_reducible rfl)); (try simp only [zl1]))
  (refine zl3 8 ?_ rfl ?_ ?_; rotate_left; (· (rintro w ⟨d0, d1⟩; go_simp; try with_reducible rfl)); (try simp only [zl1]))
  (refine zl3 11 ?_ rfl ?_ ?_; rotate_left; (· (rintro w ⟨d0, d1⟩; go_simp; try with_reducible rfl)); (try simp only [zl1]))
  (refine zl3 14 ?_ rfl ?_ ?_; rotate_left; (· (rintro w ⟨d0, d1⟩; go_simp; try with_reducible rfl)); (try simp only [zl1]))
  refine wpAnyH_ready (rs := [2]) (by kernel_rfl) (by simp) (AllReadyH.cons rfl (fun K hK => ?_) AllReadyH.nil)
  go_simp
  refine (HV.out 0 _).mono ?_
  rintro e w13 ⟨rfl, hbx⟩
  replace HG0 := Lib.hid ((hbx.block _ (Array.getElem?_eq_some_iff.1 HG0.out).1).trans HG0.out)
  replace HP := Lib.hid (HP.out.on hbx)
  clear hS0
  have hS0 := (⟨blk0 HP.out.X, blk1 HP.out.X⟩ : HeldX gx (.slice (some ⟨gr, 0, none⟩) 5 5) (.slice none 0 0) _)
  refine hK.out _ _ hS0 (fun _ => ?_)
  clear hK K hbx
  (try simp only [zl1])
  (refine zl3 3 ?_ rfl ?_ ?_; rotate_left; (· (rintro w ⟨d0, d1⟩; go_simp; try with_reducible rfl)); (try simp only [zl1]))
  refine wpAnyH_ready (rs := [5]) (by kernel_rfl) (by simp) (AllReadyH.cons rfl (fun K hK => ?_) AllReadyH.nil)
  go_simp
  refine (HV.out 0 _).mono ?_
  rintro e w14 ⟨rfl, hbx⟩
  replace HG0 := Lib.hid ((hbx.block _ (Array.getElem?_eq_some_iff.1 HG0.out).1).trans HG0.out)
  replace HP := Lib.hid (HP.out.on hbx)
  clear hS0
  have hS0 := (⟨blk0 HP.out.X, blk1 HP.out.X⟩ : HeldX gx (.slice (some ⟨gr, 0, none⟩) 5 5) (.slice none 0 0) _)
  refine hK.out _ _ hS0 (fun _ => ?_)
  clear hK K hbx
  (try simp only [zl1])
  (refine zl3 6 ?_ rfl ?_ ?_; rotate_left; (· (rintro w ⟨d0, d1⟩; go_simp; try with_reducible rfl)); (try simp only [zl1]))
  refine wpAnyH_ready (rs := [7, 9]) (by kernel_rfl) (by simp) (AllReadyH.cons rfl (fun K hK => ?_) (AllReadyH.cons rfl (fun K hK => ?_) AllReadyH.nil))
  · skip
    go_simp
    have hbx := belQ w14 (.cells #[.string ⟨#[97, 47, 118, 49]⟩, .int .i64 1, .int .i64 0, .int .i64 0, .string ⟨#[98, 47, 118, 49]⟩, .int .i64 1, .int .i64 0, .int .i64 0] 53)
    have hnx := World.alloc_heap_new w14 (.cells #[.string ⟨#[97, 47, 118, 49]⟩, .int .i64 1, .int .i64 0, .int .i64 0, .string ⟨#[98, 47, 118, 49]⟩, .int .i64 1, .int .i64 0, .int .i64 0] 53)
    have LF := Lib.hid HP.out.hz
    replace HG0 := Lib.hid ((hbx.block _ (Array.getElem?_eq_some_iff.1 HG0.out).1).trans HG0.out)
    replace HP := Lib.hid (HP.out.on hbx)
    have HF := Lib.hid hnx
    clear hbx hnx
    generalize w14.alloc (.cells #[.string ⟨#[97, 47, 118, 49]⟩, .int .i64 1, .int .i64 0, .int .i64 0, .string ⟨#[98, 47, 118, 49]⟩, .int .i64 1, .int .i64 0, .int .i64 0] 53) = w21 at *
    generalize w14.heap.size = gf at *
    clear hS0
    have hS0 : HeldX gx (.slice (some ⟨gr, 0, none⟩) 5 5) (.slice none 0 0) w21 := (⟨blk0 HP.out.X, blk1 HP.out.X⟩ : HeldX gx (.slice (some ⟨gr, 0, none⟩) 5 5) (.slice none 0 0) _)
    refine hK.out _ _ hS0 (fun _ => ?_)
    clear hK K
    (try simp only [zl1])
    refine wpAnyH_ready (rs := [9]) (by kernel_rfl) (by simp) (AllReadyH.cons rfl (fun K hK => ?_) AllReadyH.nil)
    go_simp
    refine (HV.out 1 _).mono ?_
    rintro e w22 ⟨rfl, hbx⟩
    replace HG0 := Lib.hid ((hbx.block _ (Array.getElem?_eq_some_iff.1 HG0.out).1).trans HG0.out)
    replace HP := Lib.hid (HP.out.on hbx)
    replace HF := Lib.hid ((hbx.block _ (Array.getElem?_eq_some_iff.1 HF.out).1).trans HF.out)
    clear hS0
    have hS0 := (⟨blk0 HP.out.X, blk1 HP.out.X⟩ : HeldX gx (.slice (some ⟨gr, 0, none⟩) 5 5) (.slice none 0 0) _)
    refine hK.out _ _ hS0 (fun _ => ?_)
    clear hK K hbx
    (try simp only [zl1])
    (refine zl3 10 ?_ rfl ?_ ?_; rotate_left; (· (rintro w ⟨d0, d1⟩; go_simp; try with_reducible rfl)); (try simp only [zl1]))
    refine wpAnyH_ready (rs := [12]) (by kernel_rfl) (by simp) (AllReadyH.cons rfl (fun K hK => ?_) AllReadyH.nil)
    go_simp
    refine (HV.out 1 _).mono ?_
    rintro e w23 ⟨rfl, hbx⟩
    replace HG0 := Lib.hid ((hbx.block _ (Array.getElem?_eq_some_iff.1 HG0.out).1).trans HG0.out)
    replace HP := Lib.hid (HP.out.on hbx)
    replace HF := Lib.hid ((hbx.block _ (Array.getElem?_eq_some_iff.1 HF.out).1).trans HF.out)
    clear hS0
    have hS0 := (⟨blk0 HP.out.X, blk1 HP.out.X⟩ : HeldX gx (.slice (some ⟨gr, 0, none⟩) 5 5) (.slice none 0 0) _)
    refine hK.out _ _ hS0 (fun _ => ?_)
    clear hK K hbx
    (try simp only [zl1])
    (refine zl3 13 ?_ rfl ?_ ?_; rotate_left; (· (rintro w ⟨d0, d1⟩; go_simp; try with_reducible rfl)); (try simp only [zl1]))
    refine wpAnyH_ready (rs := [15]) (by kernel_rfl) (by simp) (AllReadyH.cons rfl (fun K hK => ?_) AllReadyH.nil)
    go_simp
    refine (HV.out 0 _).mono ?_
    rintro e w24 ⟨rfl, hbx⟩
    replace HG0 := Lib.hid ((hbx.block _ (Array.getElem?_eq_some_iff.1 HG0.out).1).trans HG0.out)
    replace HP := Lib.hid (HP.out.on hbx)
    replace HF := Lib.hid ((hbx.block _ (Array.getElem?_eq_some_iff.1 HF.out).1).trans HF.out)
    clear hS0
    have hS0 := (⟨blk0 HP.out.X, blk1 HP.out.X⟩ : HeldX gx (.slice (some ⟨gr, 0, none⟩) 5 5) (.slice none 0 0) _)
    refine hK.out _ _ hS0 (fun _ => ?_)
    clear hK K hbx
    (try simp only [zl1])
    (refine zl3 16 ?_ rfl ?_ ?_; rotate_left; (· (rintro w ⟨d0, d1⟩; go_simp; try with_reducible rfl)); (try simp only [zl1]))
    refine wpAnyH_ready (rs := [17, 18]) (by kernel_rfl) (by simp) (AllReadyH.cons rfl (fun K hK => ?_) (AllReadyH.cons rfl (fun K hK => ?_) AllReadyH.nil))
    · skip
      go_simp
      have hbx := belQ w24 (.cells #[.string ⟨#[97, 47, 118, 49]⟩, .int .i64 1, .int .i64 1, .int .i64 0, .string ⟨#[98, 47, 118, 49]⟩, .int .i64 1, .int .i64 1, .int .i64 0, .string ⟨#[99, 47, 118, 49]⟩, .int .i64 1, .int .i64 0, .int .i64 0] 53)
      have hnx := World.alloc_heap_new w24 (.cells #[.string ⟨#[97, 47, 118, 49]⟩, .int .i64 1, .int .i64 1, .int .i64 0, .string ⟨#[98, 47, 118, 49]⟩, .int .i64 1, .int .i64 1, .int .i64 0, .string ⟨#[99, 47, 118, 49]⟩, .int .i64 1, .int .i64 0, .int .i64 0] 53)
      have LT := Lib.hid HP.out.hz
      replace HG0 := Lib.hid ((hbx.block _ (Array.getElem?_eq_some_iff.1 HG0.out).1).trans HG0.out)
      replace HP := Lib.hid (HP.out.on hbx)
      replace HF := Lib.hid ((hbx.block _ (Array.getElem?_eq_some_iff.1 HF.out).1).trans HF.out)
      have HT := Lib.hid hnx
      clear hbx hnx
      generalize w24.alloc (.cells #[.string ⟨#[97, 47, 118, 49]⟩, .int .i64 1, .int .i64 1, .int .i64 0, .string ⟨#[98, 47, 118, 49]⟩, .int .i64 1, .int .i64 1, .int .i64 0, .string ⟨#[99, 47, 118, 49]⟩, .int .i64 1, .int .i64 0, .int .i64 0] 53) = w25 at *
      generalize w24.heap.size = gt at *
      clear hS0
      have hS0 : HeldX gx (.slice (some ⟨gr, 0, none⟩) 5 5) (.slice none 0 0) w25 := (⟨blk0 HP.out.X, blk1 HP.out.X⟩ : HeldX gx (.slice (some ⟨gr, 0, none⟩) 5 5) (.slice none 0 0) _)
      refine hK.out _ _ hS0 (fun _ => ?_)
      clear hK K
      (try simp only [zl1])
      refine wpAnyH_ready (rs := [18]) (by kernel_rfl) (by simp) (AllReadyH.cons rfl (fun K hK => ?_) AllReadyH.nil)
      have f0 := frozen_of_row _ _ 0 _ _ HG0.out
      have f1 := frozen_of_row _ _ 1 _ _ HG0.out
      have k0 := blk0 HG0.out
      have k1 := blk1 HG0.out
      go_simp
      have hset := set_twoS (x' := .slice (some ⟨gr, 0, none⟩) 5 5) (y' := .slice none 0 0) HG0.out
      clear f0 f1 k0 k1
      replace HP := Lib.hid (HP.out.set (.slice (some ⟨gr, 0, none⟩) 5 5) (.slice none 0 0))
      replace HF := Lib.hid (set_keep (x := .slice (some ⟨gr, 0, none⟩) 5 5) (y := .slice none 0 0) (Nat.ne_of_gt LF.out) HF.out)
      replace HT := Lib.hid (set_keep (x := .slice (some ⟨gr, 0, none⟩) 5 5) (y := .slice none 0 0) (Nat.ne_of_gt LT.out) HT.out)
      replace HG0 := Lib.hid hset
      clear hset
      generalize (w25.setCell ⟨w.heap.size, 0, none⟩ (.slice (some ⟨gr, 0, none⟩) 5 5)).setCell ⟨w.heap.size, 1, none⟩ (.slice none 0 0) = w26 at *
      clear hS0
      have hS0 : HeldX gx (.slice (some ⟨gr, 0, none⟩) 5 5) (.slice none 0 0) w26 := (⟨blk0 HP.out.X, blk1 HP.out.X⟩ : HeldX gx (.slice (some ⟨gr, 0, none⟩) 5 5) (.slice none 0 0) _)
      refine hK.out _ _ hS0 (fun _ => ?_)
      clear hK K
      (try simp only [zl1])
      (refine zl3 19 ?_ rfl ?_ ?_; rotate_left; (· (rintro w ⟨d0, d1⟩; go_simp; try with_reducible rfl)); (try simp only [zl1]))
      (refine zl3 20 ?_ rfl ?_ ?_; rotate_left; (· (rintro w ⟨d0, d1⟩; go_simp; try with_reducible rfl)); (try simp only [zl1]))
      refine wpAnyH_done (by kernel_rfl) ?_ _
      refine NoPanic.normal ?_
      go_wp2_with fail
      refine bodyPost_ret (results_cell_tmp2 rfl _ _ w.heap.size _ rfl (run_loadVar_row _ _ _ _ _ _ _ HG0.out Tryz.underlying25 (by rfl) (by kernel_rfl))) rfl ?_
      exact ⟨gs1, gq1, gs2, gs3, gq2, gr, gf, gt, rfl, ⟨HP.out.lS1, HP.out.S1, HP.out.lQ1, HP.out.Q1, HP.out.lS2, HP.out.S2, HP.out.lS3, HP.out.S3, HP.out.lQ2, HP.out.Q2, HP.out.lR, HP.out.R, LF.out, HF.out, LT.out, HT.out⟩, HP.out.bel⟩
    · skip
      have f0 := frozen_of_row _ _ 0 _ _ HG0.out
      have f1 := frozen_of_row _ _ 1 _ _ HG0.out
      have k0 := blk0 HG0.out
      have k1 := blk1 HG0.out
      go_simp
      have hset := set_twoS (x' := .slice (some ⟨gr, 0, none⟩) 5 5) (y' := .slice none 0 0) HG0.out
      clear f0 f1 k0 k1
      replace HP := Lib.hid (HP.out.set (.slice (some ⟨gr, 0, none⟩) 5 5) (.slice none 0 0))
      replace HF := Lib.hid (set_keep (x := .slice (some ⟨gr, 0, none⟩) 5 5) (y := .slice none 0 0) (Nat.ne_of_gt LF.out) HF.out)
      replace HG0 := Lib.hid hset
      clear hset
      generalize (w24.setCell ⟨w.heap.size, 0, none⟩ (.slice (some ⟨gr, 0, none⟩) 5 5)).setCell ⟨w.heap.size, 1, none⟩ (.slice none 0 0) = w27 at *
      clear hS0
      have hS0 : HeldX gx (.slice (some ⟨gr, 0, none⟩) 5 5) (.slice none 0 0) w27 := (⟨blk0 HP.out.X, blk1 HP.out.X⟩ : HeldX gx (.slice (some ⟨gr, 0, none⟩) 5 5) (.slice none 0 0) _)
      refine hK.out _ _ hS0 (fun _ => ?_)
      clear hK K
      (try simp only [zl1])
      (refine zl3 19 ?_ rfl ?_ ?_; rotate_left; (· (rintro w ⟨d0, d1⟩; go_simp; try with_reducible rfl)); (try simp only [zl1]))
      refine wpAnyH_ready (rs := [17]) (by kernel_rfl) (by simp) (AllReadyH.cons rfl (fun K hK => ?_) AllReadyH.nil)
      go_simp
      have hbx := belQ w27 (.cells #[.string ⟨#[97, 47, 118, 49]⟩, .int .i64 1, .int .i64 1, .int .i64 0, .string ⟨#[98, 47, 118, 49]⟩, .int .i64 1, .int .i64 1, .int .i64 0, .string ⟨#[99, 47, 118, 49]⟩, .int .i64 1, .int .i64 0, .int .i64 0] 53)
      have hnx := World.alloc_heap_new w27 (.cells #[.string ⟨#[97, 47, 118, 49]⟩, .int .i64 1, .int .i64 1, .int .i64 0, .string ⟨#[98, 47, 118, 49]⟩, .int .i64 1, .int .i64 1, .int .i64 0, .string ⟨#[99, 47, 118, 49]⟩, .int .i64 1, .int .i64 0, .int .i64 0] 53)
      have LT := Lib.hid HP.out.hz
      replace HG0 := Lib.hid ((hbx.block _ (Array.getElem?_eq_some_iff.1 HG0.out).1).trans HG0.out)
      replace HP := Lib.hid (HP.out.on hbx)
      replace HF := Lib.hid ((hbx.block _ (Array.getElem?_eq_some_iff.1 HF.out).1).trans HF.out)
      have HT := Lib.hid hnx
      clear hbx hnx
      generalize w27.alloc (.cells #[.string ⟨#[97, 47, 118, 49]⟩, .int .i64 1, .int .i64 1, .int .i64 0, .string ⟨#[98, 47, 118, 49]⟩, .int .i64 1, .int .i64 1, .int .i64 0, .string ⟨#[99, 47, 118, 49]⟩, .int .i64 1, .int .i64 0, .int .i64 0] 53) = w28 at *
      generalize w27.heap.size = gt at *
      clear hS0
      have hS0 : HeldX gx (.slice (some ⟨gr, 0, none⟩) 5 5) (.slice none 0 0) w28 := (⟨blk0 HP.out.X, blk1 HP.out.X⟩ : HeldX gx (.slice (some ⟨gr, 0, none⟩) 5 5) (.slice none 0 0) _)
      refine hK.out _ _ hS0 (fun _ => ?_)
      clear hK K
      (try simp only [zl1])
      (refine zl3 20 ?_ rfl ?_ ?_; rotate_left; (· (rintro w ⟨d0, d1⟩; go_simp; try with_reducible rfl)); (try simp only [zl1]))
      refine wpAnyH_done (by kernel_rfl) ?_ _
      refine NoPanic.normal ?_
      go_wp2_with fail
      refine bodyPost_ret (results_cell_tmp2 rfl _ _ w.heap.size _ rfl (run_loadVar_row _ _ _ _ _ _ _ HG0.out Tryz.underlying25 (by rfl) (by kernel_rfl))) rfl ?_
      exact ⟨gs1, gq1, gs2, gs3, gq2, gr, gf, gt, rfl, ⟨HP.out.lS1, HP.out.S1, HP.out.lQ1, HP.out.Q1, HP.out.lS2, HP.out.S2, HP.out.lS3, HP.out.S3, HP.out.lQ2, HP.out.Q2, HP.out.lR, HP.out.R, LF.out, HF.out, LT.out, HT.out⟩, HP.out.bel⟩
  · skip
    go_simp
    refine (HV.out 1 _).mono ?_
    rintro e w29 ⟨rfl, hbx⟩
    replace HG0 := Lib.hid ((hbx.block _ (Array.getElem?_eq_some_iff.1 HG0.out).1).trans HG0.out)
    replace HP := Lib.hid (HP.out.on hbx)
    clear hS0
    have hS0 := (⟨blk0 HP.out.X, blk1 HP.out.X⟩ : HeldX gx (.slice (some ⟨gr, 0, none⟩) 5 5) (.slice none 0 0) _)
    refine hK.out _ _ hS0 (fun _ => ?_)
    clear hK K hbx
    (try simp only [zl1])
    (refine zl3 10 ?_ rfl ?_ ?_; rotate_left; (· (rintro w ⟨d0, d1⟩; go_simp; try with_reducible rfl)); (try simp only [zl1]))
    refine wpAnyH_ready (rs := [7, 12]) (by kernel_rfl) (by simp) (AllReadyH.cons rfl (fun K hK => ?_) (AllReadyH.cons rfl (fun K hK => ?_) AllReadyH.nil))
    · skip
      go_simp
      have hbx := belQ w29 (.cells #[.string ⟨#[97, 47, 118, 49]⟩, .int .i64 1, .int .i64 0, .int .i64 0, .string ⟨#[98, 47, 118, 49]⟩, .int .i64 1, .int .i64 0, .int .i64 0] 53)
      have hnx := World.alloc_heap_new w29 (.cells #[.string ⟨#[97, 47, 118, 49]⟩, .int .i64 1, .int .i64 0, .int .i64 0, .string ⟨#[98, 47, 118, 49]⟩, .int .i64 1, .int .i64 0, .int .i64 0] 53)
      have LF := Lib.hid HP.out.hz
      replace HG0 := Lib.hid ((hbx.block _ (Array.getElem?_eq_some_iff.1 HG0.out).1).trans HG0.out)
      replace HP := Lib.hid (HP.out.on hbx)
      have HF := Lib.hid hnx
      clear hbx hnx
      generalize w29.alloc (.cells #[.string ⟨#[97, 47, 118, 49]⟩, .int .i64 1, .int .i64 0, .int .i64 0, .string ⟨#[98, 47, 118, 49]⟩, .int .i64 1, .int .i64 0, .int .i64 0] 53) = w30 at *
      generalize w29.heap.size = gf at *
      clear hS0
      have hS0 : HeldX gx (.slice (some ⟨gr, 0, none⟩) 5 5) (.slice none 0 0) w30 := (⟨blk0 HP.out.X, blk1 HP.out.X⟩ : HeldX gx (.slice (some ⟨gr, 0, none⟩) 5 5) (.slice none 0 0) _)
      refine hK.out _ _ hS0 (fun _ => ?_)
      clear hK K
      (try simp only [zl1])
      refine wpAnyH_ready (rs := [12]) (by kernel_rfl) (by simp) (AllReadyH.cons rfl (fun K hK => ?_) AllReadyH.nil)
      go_simp
      refine (HV.out 1 _).mono ?_
      rintro e w31 ⟨rfl, hbx⟩
      replace HG0 := Lib.hid ((hbx.block _ (Array.getElem?_eq_some_iff.1 HG0.out).1).trans HG0.out)
      replace HP := Lib.hid (HP.out.on hbx)
      replace HF := Lib.hid ((hbx.block _ (Array.getElem?_eq_some_iff.1 HF.out).1).trans HF.out)
      clear hS0
      have hS0 := (⟨blk0 HP.out.X, blk1 HP.out.X⟩ : HeldX gx (.slice (some ⟨gr, 0, none⟩) 5 5) (.slice none 0 0) _)
      refine hK.out _ _ hS0 (fun _ => ?_)
      clear hK K hbx
      (try simp only [zl1])
      (refine zl3 13 ?_ rfl ?_ ?_; rotate_left; (· (rintro w ⟨d0, d1⟩; go_simp; try with_reducible rfl)); (try simp only [zl1]))
      refine wpAnyH_ready (rs := [15]) (by kernel_rfl) (by simp) (AllReadyH.cons rfl (fun K hK => ?_) AllReadyH.nil)
      go_simp
      refine (HV.out 0 _).mono ?_
      rintro e w32 ⟨rfl, hbx⟩
      replace HG0 := Lib.hid ((hbx.block _ (Array.getElem?_eq_some_iff.1 HG0.out).1).trans HG0.out)
      replace HP := Lib.hid (HP.out.on hbx)
      replace HF := Lib.hid ((hbx.block _ (Array.getElem?_eq_some_iff.1 HF.out).1).trans HF.out)
      clear hS0
      have hS0 := (⟨blk0 HP.out.X, blk1 HP.out.X⟩ : HeldX gx (.slice (some ⟨gr, 0, none⟩) 5 5) (.slice none 0 0) _)
      refine hK.out _ _ hS0 (fun _ => ?_)
      clear hK K hbx
      (try simp only [zl1])
      (refine zl3 16 ?_ rfl ?_ ?_; rotate_left; (· (rintro w ⟨d0, d1⟩; go_simp; try with_reducible rfl)); (try simp only [zl1]))
      refine wpAnyH_ready (rs := [17, 18]) (by kernel_rfl) (by simp) (AllReadyH.cons rfl (fun K hK => ?_) (AllReadyH.cons rfl (fun K hK => ?_) AllReadyH.nil))
      · skip
        go_simp
        have hbx := belQ w32 (.cells #[.string ⟨#[97, 47, 118, 49]⟩, .int .i64 1, .int .i64 1, .int .i64 0, .string ⟨#[98, 47, 118, 49]⟩, .int .i64 1, .int .i64 1, .int .i64 0, .string ⟨#[99, 47, 118, 49]⟩, .int .i64 1, .int .i64 0, .int .i64 0] 53)
        have hnx := World.alloc_heap_new w32 (.cells #[.string ⟨#[97, 47, 118, 49]⟩, .int .i64 1, .int .i64 1, .int .i64 0, .string ⟨#[98, 47, 118, 49]⟩, .int .i64 1, .int .i64 1, .int .i64 0, .string ⟨#[99, 47, 118, 49]⟩, .int .i64 1, .int .i64 0, .int .i64 0] 53)
        have LT := Lib.hid HP.out.hz
        replace HG0 := Lib.hid ((hbx.block _ (Array.getElem?_eq_some_iff.1 HG0.out).1).trans HG0.out)
        replace HP := Lib.hid (HP.out.on hbx)
        replace HF := Lib.hid ((hbx.block _ (Array.getElem?_eq_some_iff.1 HF.out).1).trans HF.out)
        have HT := Lib.hid hnx
        clear hbx hnx
        generalize w32.alloc (.cells #[.string ⟨#[97, 47, 118, 49]⟩, .int .i64 1, .int .i64 1, .int .i64 0, .string ⟨#[98, 47, 118, 49]⟩, .int .i64 1, .int .i64 1, .int .i64 0, .string ⟨#[99, 47, 118, 49]⟩, .int .i64 1, .int .i64 0, .int .i64 0] 53) = w33 at *
        generalize w32.heap.size = gt at *
        clear hS0
        have hS0 : HeldX gx (.slice (some ⟨gr, 0, none⟩) 5 5) (.slice none 0 0) w33 := (⟨blk0 HP.out.X, blk1 HP.out.X⟩ : HeldX gx (.slice (some ⟨gr, 0, none⟩) 5 5) (.slice none 0 0) _)
        refine hK.out _ _ hS0 (fun _ => ?_)
        clear hK K
        (try simp only [zl1])
        refine wpAnyH_ready (rs := [18]) (by kernel_rfl) (by simp) (AllReadyH.cons rfl (fun K hK => ?_) AllReadyH.nil)
        have f0 := frozen_of_row _ _ 0 _ _ HG0.out
        have f1 := frozen_of_row _ _ 1 _ _ HG0.out
        have k0 := blk0 HG0.out
        have k1 := blk1 HG0.out
        go_simp
        have hset := set_twoS (x' := .slice (some ⟨gr, 0, none⟩) 5 5) (y' := .slice none 0 0) HG0.out
        clear f0 f1 k0 k1
        replace HP := Lib.hid (HP.out.set (.slice (some ⟨gr, 0, none⟩) 5 5) (.slice none 0 0))
        replace HF := Lib.hid (set_keep (x := .slice (some ⟨gr, 0, none⟩) 5 5) (y := .slice none 0 0) (Nat.ne_of_gt LF.out) HF.out)
        replace HT := Lib.hid (set_keep (x := .slice (some ⟨gr, 0, none⟩) 5 5) (y := .slice none 0 0) (Nat.ne_of_gt LT.out) HT.out)
        replace HG0 := Lib.hid hset
        clear hset
        generalize (w33.setCell ⟨w.heap.size, 0, none⟩ (.slice (some ⟨gr, 0, none⟩) 5 5)).setCell ⟨w.heap.size, 1, none⟩ (.slice none 0 0) = w34 at *
        clear hS0
        have hS0 : HeldX gx (.slice (some ⟨gr, 0, none⟩) 5 5) (.slice none 0 0) w34 := (⟨blk0 HP.out.X, blk1 HP.out.X⟩ : HeldX gx (.slice (some ⟨gr, 0, none⟩) 5 5) (.slice none 0 0) _)
        refine hK.out _ _ hS0 (fun _ => ?_)
        clear hK K
        (try simp only [zl1])
        (refine zl3 19 ?_ rfl ?_ ?_; rotate_left; (· (rintro w ⟨d0, d1⟩; go_simp; try with_reducible rfl)); (try simp only [zl1]))
        (refine zl3 20 ?_ rfl ?_ ?_; rotate_left; (· (rintro w ⟨d0, d1⟩; go_simp; try with_reducible rfl)); (try simp only [zl1]))
        refine wpAnyH_done (by kernel_rfl) ?_ _
        refine NoPanic.normal ?_
        go_wp2_with fail
        refine bodyPost_ret (results_cell_tmp2 rfl _ _ w.heap.size _ rfl (run_loadVar_row _ _ _ _ _ _ _ HG0.out Tryz.underlying25 (by rfl) (by kernel_rfl))) rfl ?_
        exact ⟨gs1, gq1, gs2, gs3, gq2, gr, gf, gt, rfl, ⟨HP.out.lS1, HP.out.S1, HP.out.lQ1, HP.out.Q1, HP.out.lS2, HP.out.S2, HP.out.lS3, HP.out.S3, HP.out.lQ2, HP.out.Q2, HP.out.lR, HP.out.R, LF.out, HF.out, LT.out, HT.out⟩, HP.out.bel⟩
      · skip
        have f0 := frozen_of_row _ _ 0 _ _ HG0.out
        have f1 := frozen_of_row _ _ 1 _ _ HG0.out
        have k0 := blk0 HG0.out
        have k1 := blk1 HG0.out
        go_simp
        have hset := set_twoS (x' := .slice (some ⟨gr, 0, none⟩) 5 5) (y' := .slice none 0 0) HG0.out
        clear f0 f1 k0 k1
        replace HP := Lib.hid (HP.out.set (.slice (some ⟨gr, 0, none⟩) 5 5) (.slice none 0 0))
        replace HF := Lib.hid (set_keep (x := .slice (some ⟨gr, 0, none⟩) 5 5) (y := .slice none 0 0) (Nat.ne_of_gt LF.out) HF.out)
        replace HG0 := Lib.hid hset
        clear hset
        generalize (w32.setCell ⟨w.heap.size, 0, none⟩ (.slice (some ⟨gr, 0, none⟩) 5 5)).setCell ⟨w.heap.size, 1, none⟩ (.slice none 0 0) = w35 at *
        clear hS0
        have hS0 : HeldX gx (.slice (some ⟨gr, 0, none⟩) 5 5) (.slice none 0 0) w35 := (⟨blk0 HP.out.X, blk1 HP.out.X⟩ : HeldX gx (.slice (some ⟨gr, 0, none⟩) 5 5) (.slice none 0 0) _)
        refine hK.out _ _ hS0 (fun _ => ?_)
        clear hK K
        (try simp only [zl1])
        (refine zl3 19 ?_ rfl ?_ ?_; rotate_left; (· (rintro w ⟨d0, d1⟩; go_simp; try with_reducible rfl)); (try simp only [zl1]))
        refine wpAnyH_ready (rs := [17]) (by kernel_rfl) (by simp) (AllReadyH.cons rfl (fun K hK => ?_) AllReadyH.nil)
        go_simp
        have hbx := belQ w35 (.cells #[.string ⟨#[97, 47, 118, 49]⟩, .int .i64 1, .int .i64 1, .int .i64 0, .string ⟨#[98, 47, 118, 49]⟩, .int .i64 1, .int .i64 1, .int .i64 0, .string ⟨#[99, 47, 118, 49]⟩, .int .i64 1, .int .i64 0, .int .i64 0] 53)
        have hnx := World.alloc_heap_new w35 (.cells #[.string ⟨#[97, 47, 118, 49]⟩, .int .i64 1, .int .i64 1, .int .i64 0, .string ⟨#[98, 47, 118, 49]⟩, .int .i64 1, .int .i64 1, .int .i64 0, .string ⟨#[99, 47, 118, 49]⟩, .int .i64 1, .int .i64 0, .int .i64 0] 53)
        have LT := Lib.hid HP.out.hz
        replace HG0 := Lib.hid ((hbx.block _ (Array.getElem?_eq_some_iff.1 HG0.out).1).trans HG0.out)
        replace HP := Lib.hid (HP.out.on hbx)
        replace HF := Lib.hid ((hbx.block _ (Array.getElem?_eq_some_iff.1 HF.out).1).trans HF.out)
        have HT := Lib.hid hnx
        clear hbx hnx
        generalize w35.alloc (.cells #[.string ⟨#[97, 47, 118, 49]⟩, .int .i64 1, .int .i64 1, .int .i64 0, .string ⟨#[98, 47, 118, 49]⟩, .int .i64 1, .int .i64 1, .int .i64 0, .string ⟨#[99, 47, 118, 49]⟩, .int .i64 1, .int .i64 0, .int .i64 0] 53) = w36 at *
        generalize w35.heap.size = gt at *
        clear hS0
        have hS0 : HeldX gx (.slice (some ⟨gr, 0, none⟩) 5 5) (.slice none 0 0) w36 := (⟨blk0 HP.out.X, blk1 HP.out.X⟩ : HeldX gx (.slice (some ⟨gr, 0, none⟩) 5 5) (.slice none 0 0) _)
        refine hK.out _ _ hS0 (fun _ => ?_)
        clear hK K
        (try simp only [zl1])
        (refine zl3 20 ?_ rfl ?_ ?_; rotate_left; (· (rintro w ⟨d0, d1⟩; go_simp; try with_reducible rfl)); (try simp only [zl1]))
        refine wpAnyH_done (by kernel_rfl) ?_ _
        refine NoPanic.normal ?_
        go_wp2_with fail
        refine bodyPost_ret (results_cell_tmp2 rfl _ _ w.heap.size _ rfl (run_loadVar_row _ _ _ _ _ _ _ HG0.out Tryz.underlying25 (by rfl) (by kernel_rfl))) rfl ?_
        exact ⟨gs1, gq1, gs2, gs3, gq2, gr, gf, gt, rfl, ⟨HP.out.lS1, HP.out.S1, HP.out.lQ1, HP.out.Q1, HP.out.lS2, HP.out.S2, HP.out.lS3, HP.out.S3, HP.out.lQ2, HP.out.Q2, HP.out.lR, HP.out.R, LF.out, HF.out, LT.out, HT.out⟩, HP.out.bel⟩
    · skip
      go_simp
      refine (HV.out 1 _).mono ?_
      rintro e w37 ⟨rfl, hbx⟩
      replace HG0 := Lib.hid ((hbx.block _ (Array.getElem?_eq_some_iff.1 HG0.out).1).trans HG0.out)
      replace HP := Lib.hid (HP.out.on hbx)
      clear hS0
      have hS0 := (⟨blk0 HP.out.X, blk1 HP.out.X⟩ : HeldX gx (.slice (some ⟨gr, 0, none⟩) 5 5) (.slice none 0 0) _)
      refine hK.out _ _ hS0 (fun _ => ?_)
      clear hK K hbx
      (try simp only [zl1])
      (refine zl3 13 ?_ rfl ?_ ?_; rotate_left; (· (rintro w ⟨d0, d1⟩; go_simp; try with_reducible rfl)); (try simp only [zl1]))
      refine wpAnyH_ready (rs := [7, 15]) (by kernel_rfl) (by simp) (AllReadyH.cons rfl (fun K hK => ?_) (AllReadyH.cons rfl (fun K hK => ?_) AllReadyH.nil))
      · skip
        go_simp
        have hbx := belQ w37 (.cells #[.string ⟨#[97, 47, 118, 49]⟩, .int .i64 1, .int .i64 0, .int .i64 0, .string ⟨#[98, 47, 118, 49]⟩, .int .i64 1, .int .i64 0, .int .i64 0] 53)
        have hnx := World.alloc_heap_new w37 (.cells #[.string ⟨#[97, 47, 118, 49]⟩, .int .i64 1, .int .i64 0, .int .i64 0, .string ⟨#[98, 47, 118, 49]⟩, .int .i64 1, .int .i64 0, .int .i64 0] 53)
        have LF := Lib.hid HP.out.hz
        replace HG0 := Lib.hid ((hbx.block _ (Array.getElem?_eq_some_iff.1 HG0.out).1).trans HG0.out)
        replace HP := Lib.hid (HP.out.on hbx)
        have HF := Lib.hid hnx
        clear hbx hnx
        generalize w37.alloc (.cells #[.string ⟨#[97, 47, 118, 49]⟩, .int .i64 1, .int .i64 0, .int .i64 0, .string ⟨#[98, 47, 118, 49]⟩, .int .i64 1, .int .i64 0, .int .i64 0] 53) = w38 at *
        generalize w37.heap.size = gf at *
        clear hS0
        have hS0 : HeldX gx (.slice (some ⟨gr, 0, none⟩) 5 5) (.slice none 0 0) w38 := (⟨blk0 HP.out.X, blk1 HP.out.X⟩ : HeldX gx (.slice (some ⟨gr, 0, none⟩) 5 5) (.slice none 0 0) _)
        refine hK.out _ _ hS0 (fun _ => ?_)
        clear hK K
        (try simp only [zl1])
        refine wpAnyH_ready (rs := [15]) (by kernel_rfl) (by simp) (AllReadyH.cons rfl (fun K hK => ?_) AllReadyH.nil)
        go_simp
        refine (HV.out 0 _).mono ?_
        rintro e w39 ⟨rfl, hbx⟩
        replace HG0 := Lib.hid ((hbx.block _ (Array.getElem?_eq_some_iff.1 HG0.out).1).trans HG0.out)
        replace HP := Lib.hid (HP.out.on hbx)
        replace HF := Lib.hid ((hbx.block _ (Array.getElem?_eq_some_iff.1 HF.out).1).trans HF.out)
        clear hS0
        have hS0 := (⟨blk0 HP.out.X, blk1 HP.out.X⟩ : HeldX gx (.slice (some ⟨gr, 0, none⟩) 5 5) (.slice none 0 0) _)
        refine hK.out _ _ hS0 (fun _ => ?_)
        clear hK K hbx
        (try simp only [zl1])
        (refine zl3 16 ?_ rfl ?_ ?_; rotate_left; (· (rintro w ⟨d0, d1⟩; go_simp; try with_reducible rfl)); (try simp only [zl1]))
        refine wpAnyH_ready (rs := [17, 18]) (by kernel_rfl) (by simp) (AllReadyH.cons rfl (fun K hK => ?_) (AllReadyH.cons rfl (fun K hK => ?_) AllReadyH.nil))
        · skip
          go_simp
          have hbx := belQ w39 (.cells #[.string ⟨#[97, 47, 118, 49]⟩, .int .i64 1, .int .i64 1, .int .i64 0, .string ⟨#[98, 47, 118, 49]⟩, .int .i64 1, .int .i64 1, .int .i64 0, .string ⟨#[99, 47, 118, 49]⟩, .int .i64 1, .int .i64 0, .int .i64 0] 53)
          have hnx := World.alloc_heap_new w39 (.cells #[.string ⟨#[97, 47, 118, 49]⟩, .int .i64 1, .int .i64 1, .int .i64 0, .string ⟨#[98, 47, 118, 49]⟩, .int .i64 1, .int .i64 1, .int .i64 0, .string ⟨#[99, 47, 118, 49]⟩, .int .i64 1, .int .i64 0, .int .i64 0] 53)
          have LT := Lib.hid HP.out.hz
          replace HG0 := Lib.hid ((hbx.block _ (Array.getElem?_eq_some_iff.1 HG0.out).1).trans HG0.out)
          replace HP := Lib.hid (HP.out.on hbx)
          replace HF := Lib.hid ((hbx.block _ (Array.getElem?_eq_some_iff.1 HF.out).1).trans HF.out)
          have HT := Lib.hid hnx
          clear hbx hnx
          generalize w39.alloc (.cells #[.string ⟨#[97, 47, 118, 49]⟩, .int .i64 1, .int .i64 1, .int .i64 0, .string ⟨#[98, 47, 118, 49]⟩, .int .i64 1, .int .i64 1, .int .i64 0, .string ⟨#[99, 47, 118, 49]⟩, .int .i64 1, .int .i64 0, .int .i64 0] 53) = w40 at *
          generalize w39.heap.size = gt at *
          clear hS0
          have hS0 : HeldX gx (.slice (some ⟨gr, 0, none⟩) 5 5) (.slice none 0 0) w40 := (⟨blk0 HP.out.X, blk1 HP.out.X⟩ : HeldX gx (.slice (some ⟨gr, 0, none⟩) 5 5) (.slice none 0 0) _)
          refine hK.out _ _ hS0 (fun _ => ?_)
          clear hK K
          (try simp only [zl1])
          refine wpAnyH_ready (rs := [18]) (by kernel_rfl) (by simp) (AllReadyH.cons rfl (fun K hK => ?_) AllReadyH.nil)
          have f0 := frozen_of_row _ _ 0 _ _ HG0.out
          have f1 := frozen_of_row _ _ 1 _ _ HG0.out
          have k0 := blk0 HG0.out
          have k1 := blk1 HG0.out
          go_simp
          have hset := set_twoS (x' := .slice (some ⟨gr, 0, none⟩) 5 5) (y' := .slice none 0 0) HG0.out
          clear f0 f1 k0 k1
          replace HP := Lib.hid (HP.out.set (.slice (some ⟨gr, 0, none⟩) 5 5) (.slice none 0 0))
          replace HF := Lib.hid (set_keep (x := .slice (some ⟨gr, 0, none⟩) 5 5) (y := .slice none 0 0) (Nat.ne_of_gt LF.out) HF.out)
          replace HT := Lib.hid (set_keep (x := .slice (some ⟨gr, 0, none⟩) 5 5) (y := .slice none 0 0) (Nat.ne_of_gt LT.out) HT.out)
          replace HG0 := Lib.hid hset
          clear hset
          generalize (w40.setCell ⟨w.heap.size, 0, none⟩ (.slice (some ⟨gr, 0, none⟩) 5 5)).setCell ⟨w.heap.size, 1, none⟩ (.slice none 0 0) = w41 at *
          clear hS0
          have hS0 : HeldX gx (.slice (some ⟨gr, 0, none⟩) 5 5) (.slice none 0 0) w41 := (⟨blk0 HP.out.X, blk1 HP.out.X⟩ : HeldX gx (.slice (some ⟨gr, 0, none⟩) 5 5) (.slice none 0 0) _)
          refine hK.out _ _ hS0 (fun _ => ?_)
          clear hK K
          (try simp only [zl1])
          (refine zl3 19 ?_ rfl ?_ ?_; rotate_left; (· (rintro w ⟨d0, d1⟩; go_simp; try with_reducible rfl)); (try simp only [zl1]))
          (refine zl3 20 ?_ rfl ?_ ?_; rotate_left; (· (rintro w ⟨d0, d1⟩; go_simp; try with_reducible rfl)); (try simp only [zl1]))
          refine wpAnyH_done (by kernel_rfl) ?_ _
          refine NoPanic.normal ?_
          go_wp2_with fail
          refine bodyPost_ret (results_cell_tmp2 rfl _ _ w.heap.size _ rfl (run_loadVar_row _ _ _ _ _ _ _ HG0.out Tryz.underlying25 (by rfl) (by kernel_rfl))) rfl ?_
          exact ⟨gs1, gq1, gs2, gs3, gq2, gr, gf, gt, rfl, ⟨HP.out.lS1, HP.out.S1, HP.out.lQ1, HP.out.Q1, HP.out.lS2, HP.out.S2, HP.out.lS3, HP.out.S3, HP.out.lQ2, HP.out.Q2, HP.out.lR, HP.out.R, LF.out, HF.out, LT.out, HT.out⟩, HP.out.bel⟩
        · skip
          have f0 := frozen_of_row _ _ 0 _ _ HG0.out
          have f1 := frozen_of_row _ _ 1 _ _ HG0.out
          have k0 := blk0 HG0.out
          have k1 := blk1 HG0.out
          go_simp
          have hset := set_twoS (x' := .slice (some ⟨gr, 0, none⟩) 5 5) (y' := .slice none 0 0) HG0.out
          clear f0 f1 k0 k1
          replace HP := Lib.hid (HP.out.set (.slice (some ⟨gr, 0, none⟩) 5 5) (.slice none 0 0))
          replace HF := Lib.hid (set_keep (x := .slice (some ⟨gr, 0, none⟩) 5 5) (y := .slice none 0 0) (Nat.ne_of_gt LF.out) HF.out)
          replace HG0 := Lib.hid hset
          clear hset
          generalize (w39.setCell ⟨w.heap.size, 0, none⟩ (.slice (some ⟨gr, 0, none⟩) 5 5)).setCell ⟨w.heap.size, 1, none⟩ (.slice none 0 0) = w42 at *
          clear hS0
          have hS0 : HeldX gx (.slice (some ⟨gr, 0, none⟩) 5 5) (.slice none 0 0) w42 := (⟨blk0 HP.out.X, blk1 HP.out.X⟩ : HeldX gx (.slice (some ⟨gr, 0, none⟩) 5 5) (.slice none 0 0) _)
          refine hK.out _ _ hS0 (fun _ => ?_)
          clear hK K
          (try simp only [zl1])
          (refine zl3 19 ?_ rfl ?_ ?_; rotate_left; (· (rintro w ⟨d0, d1⟩; go_simp; try with_reducible rfl)); (try simp only [zl1]))
          refine wpAnyH_ready (rs := [17]) (by kernel_rfl) (by simp) (AllReadyH.cons rfl (fun K hK => ?_) AllReadyH.nil)
          go_simp
          have hbx := belQ w42 (.cells #[.string ⟨#[97, 47, 118, 49]⟩, .int .i64 1, .int .i64 1, .int .i64 0, .string ⟨#[98, 47, 118, 49]⟩, .int .i64 1, .int .i64 1, .int .i64 0, .string ⟨#[99, 47, 118, 49]⟩, .int .i64 1, .int .i64 0, .int .i64 0] 53)
          have hnx := World.alloc_heap_new w42 (.cells #[.string ⟨#[97, 47, 118, 49]⟩, .int .i64 1, .int .i64 1, .int .i64 0, .string ⟨#[98, 47, 118, 49]⟩, .int .i64 1, .int .i64 1, .int .i64 0, .string ⟨#[99, 47, 118, 49]⟩, .int .i64 1, .int .i64 0, .int .i64 0] 53)
          have LT := Lib.hid HP.out.hz
          replace HG0 := Lib.hid ((hbx.block _ (Array.getElem?_eq_some_iff.1 HG0.out).1).trans HG0.out)
          replace HP := Lib.hid (HP.out.on hbx)
          replace HF := Lib.hid ((hbx.block _ (Array.getElem?_eq_some_iff.1 HF.out).1).trans HF.out)
          have HT := Lib.hid hnx
          clear hbx hnx
          generalize w42.alloc (.cells #[.string ⟨#[97, 47, 118, 49]⟩, .int .i64 1, .int .i64 1, .int .i64 0, .string ⟨#[98, 47, 118, 49]⟩, .int .i64 1, .int .i64 1, .int .i64 0, .string ⟨#[99, 47, 118, 49]⟩, .int .i64 1, .int .i64 0, .int .i64 0] 53) = w43 at *
          generalize w42.heap.size = gt at *
          clear hS0
          have hS0 : HeldX gx (.slice (some ⟨gr, 0, none⟩) 5 5) (.slice none 0 0) w43 := (⟨blk0 HP.out.X, blk1 HP.out.X⟩ : HeldX gx (.slice (some ⟨gr, 0, none⟩) 5 5) (.slice none 0 0) _)
          refine hK.out _ _ hS0 (fun _ => ?_)
          clear hK K
          (try simp only [zl1])
          (refine zl3 20 ?_ rfl ?_ ?_; rotate_left; (· (rintro w ⟨d0, d1⟩; go_simp; try with_reducible rfl)); (try simp only [zl1]))
          refine wpAnyH_done (by kernel_rfl) ?_ _
          refine NoPanic.normal ?_
          go_wp2_with fail
          refine bodyPost_ret (results_cell_tmp2 rfl _ _ w.heap.size _ rfl (run_loadVar_row _ _ _ _ _ _ _ HG0.out Tryz.underlying25 (by rfl) (by kernel_rfl))) rfl ?_
          exact ⟨gs1, gq1, gs2, gs3, gq2, gr, gf, gt, rfl, ⟨HP.out.lS1, HP.out.S1, HP.out.lQ1, HP.out.Q1, HP.out.lS2, HP.out.S2, HP.out.lS3, HP.out.S3, HP.out.lQ2, HP.out.Q2, HP.out.lR, HP.out.R, LF.out, HF.out, LT.out, HT.out⟩, HP.out.bel⟩
      · skip
        go_simp
        refine (HV.out 0 _).mono ?_
        rintro e w44 ⟨rfl, hbx⟩
        replace HG0 := Lib.hid ((hbx.block _ (Array.getElem?_eq_some_iff.1 HG0.out).1).trans HG0.out)
        replace HP := Lib.hid (HP.out.on hbx)
        clear hS0
        have hS0 := (⟨blk0 HP.out.X, blk1 HP.out.X⟩ : HeldX gx (.slice (some ⟨gr, 0, none⟩) 5 5) (.slice none 0 0) _)
        refine hK.out _ _ hS0 (fun _ => ?_)
        clear hK K hbx
        (try simp only [zl1])
        (refine zl3 16 ?_ rfl ?_ ?_; rotate_left; (· (rintro w ⟨d0, d1⟩; go_simp; try with_reducible rfl)); (try simp only [zl1]))
        refine wpAnyH_ready (rs := [7, 17, 18]) (by kernel_rfl) (by simp) (AllReadyH.cons rfl (fun K hK => ?_) (AllReadyH.cons rfl (fun K hK => ?_) (AllReadyH.cons rfl (fun K hK => ?_) AllReadyH.nil)))
        · skip
          go_simp
          have hbx := belQ w44 (.cells #[.string ⟨#[97, 47, 118, 49]⟩, .int .i64 1, .int .i64 0, .int .i64 0, .string ⟨#[98, 47, 118, 49]⟩, .int .i64 1, .int .i64 0, .int .i64 0] 53)
          have hnx := World.alloc_heap_new w44 (.cells #[.string ⟨#[97, 47, 118, 49]⟩, .int .i64 1, .int .i64 0, .int .i64 0, .string ⟨#[98, 47, 118, 49]⟩, .int .i64 1, .int .i64 0, .int .i64 0] 53)
          have LF := Lib.hid HP.out.hz
          replace HG0 := Lib.hid ((hbx.block _ (Array.getElem?_eq_some_iff.1 HG0.out).1).trans HG0.out)
          replace HP := Lib.hid (HP.out.on hbx)
          have HF := Lib.hid hnx
          clear hbx hnx
          generalize w44.alloc (.cells #[.string ⟨#[97, 47, 118, 49]⟩, .int .i64 1, .int .i64 0, .int .i64 0, .string ⟨#[98, 47, 118, 49]⟩, .int .i64 1, .int .i64 0, .int .i64 0] 53) = w45 at *
          generalize w44.heap.size = gf at *
          clear hS0
          have hS0 : HeldX gx (.slice (some ⟨gr, 0, none⟩) 5 5) (.slice none 0 0) w45 := (⟨blk0 HP.out.X, blk1 HP.out.X⟩ : HeldX gx (.slice (some ⟨gr, 0, none⟩) 5 5) (.slice none 0 0) _)
          refine hK.out _ _ hS0 (fun _ => ?_)
          clear hK K
          (try simp only [zl1])
          refine wpAnyH_ready (rs := [17, 18]) (by kernel_rfl) (by simp) (AllReadyH.cons rfl (fun K hK => ?_) (AllReadyH.cons rfl (fun K hK => ?_) AllReadyH.nil))
          · skip
            go_simp
            have hbx := belQ w45 (.cells #[.string ⟨#[97, 47, 118, 49]⟩, .int .i64 1, .int .i64 1, .int .i64 0, .string ⟨#[98, 47, 118, 49]⟩, .int .i64 1, .int .i64 1, .int .i64 0, .string ⟨#[99, 47, 118, 49]⟩, .int .i64 1, .int .i64 0, .int .i64 0] 53)
            have hnx := World.alloc_heap_new w45 (.cells #[.string ⟨#[97, 47, 118, 49]⟩, .int .i64 1, .int .i64 1, .int .i64 0, .string ⟨#[98, 47, 118, 49]⟩, .int .i64 1, .int .i64 1, .int .i64 0, .string ⟨#[99, 47, 118, 49]⟩, .int .i64 1, .int .i64 0, .int .i64 0] 53)
            have LT := Lib.hid HP.out.hz
            replace HG0 := Lib.hid ((hbx.block _ (Array.getElem?_eq_some_iff.1 HG0.out).1).trans HG0.out)
            replace HP := Lib.hid (HP.out.on hbx)
            replace HF := Lib.hid ((hbx.block _ (Array.getElem?_eq_some_iff.1 HF.out).1).trans HF.out)
            have HT := Lib.hid hnx
            clear hbx hnx
            generalize w45.alloc (.cells #[.string ⟨#[97, 47, 118, 49]⟩, .int .i64 1, .int .i64 1, .int .i64 0, .string ⟨#[98, 47, 118, 49]⟩, .int .i64 1, .int .i64 1, .int .i64 0, .string ⟨#[99, 47, 118, 49]⟩, .int .i64 1, .int .i64 0, .int .i64 0] 53) = w46 at *
            generalize w45.heap.size = gt at *
            clear hS0
            have hS0 : HeldX gx (.slice (some ⟨gr, 0, none⟩) 5 5) (.slice none 0 0) w46 := (⟨blk0 HP.out.X, blk1 HP.out.X⟩ : HeldX gx (.slice (some ⟨gr, 0, none⟩) 5 5) (.slice none 0 0) _)
            refine hK.out _ _ hS0 (fun _ => ?_)
            clear hK K
            (try simp only [zl1])
            refine wpAnyH_ready (rs := [18]) (by kernel_rfl) (by simp) (AllReadyH.cons rfl (fun K hK => ?_) AllReadyH.nil)
            have f0 := frozen_of_row _ _ 0 _ _ HG0.out
            have f1 := frozen_of_row _ _ 1 _ _ HG0.out
            have k0 := blk0 HG0.out
            have k1 := blk1 HG0.out
            go_simp
            have hset := set_twoS (x' := .slice (some ⟨gr, 0, none⟩) 5 5) (y' := .slice none 0 0) HG0.out
            clear f0 f1 k0 k1
            replace HP := Lib.hid (HP.out.set (.slice (some ⟨gr, 0, none⟩) 5 5) (.slice none 0 0))
            replace HF := Lib.hid (set_keep (x := .slice (some ⟨gr, 0, none⟩) 5 5) (y := .slice none 0 0) (Nat.ne_of_gt LF.out) HF.out)
            replace HT := Lib.hid (set_keep (x := .slice (some ⟨gr, 0, none⟩) 5 5) (y := .slice none 0 0) (Nat.ne_of_gt LT.out) HT.out)
            replace HG0 := Lib.hid hset
            clear hset
            generalize (w46.setCell ⟨w.heap.size, 0, none⟩ (.slice (some ⟨gr, 0, none⟩) 5 5)).setCell ⟨w.heap.size, 1, none⟩ (.slice none 0 0) = w47 at *
            clear hS0
            have hS0 : HeldX gx (.slice (some ⟨gr, 0, none⟩) 5 5) (.slice none 0 0) w47 := (⟨blk0 HP.out.X, blk1 HP.out.X⟩ : HeldX gx (.slice (some ⟨gr, 0, none⟩) 5 5) (.slice none 0 0) _)
            refine hK.out _ _ hS0 (fun _ => ?_)
            clear hK K
            (try simp only [zl1])
            (refine zl3 19 ?_ rfl ?_ ?_; rotate_left; (· (rintro w ⟨d0, d1⟩; go_simp; try with_reducible rfl)); (try simp only [zl1]))
            (refine zl3 20 ?_ rfl ?_ ?_; rotate_left; (· (rintro w ⟨d0, d1⟩; go_simp; try with_reducible rfl)); (try simp only [zl1]))
            refine wpAnyH_done (by kernel_rfl) ?_ _
            refine NoPanic.normal ?_
            go_wp2_with fail
            refine bodyPost_ret (results_cell_tmp2 rfl _ _ w.heap.size _ rfl (run_loadVar_row _ _ _ _ _ _ _ HG0.out Tryz.underlying25 (by rfl) (by kernel_rfl))) rfl ?_
            exact ⟨gs1, gq1, gs2, gs3, gq2, gr, gf, gt, rfl, ⟨HP.out.lS1, HP.out.S1, HP.out.lQ1, HP.out.Q1, HP.out.lS2, HP.out.S2, HP.out.lS3, HP.out.S3, HP.out.lQ2, HP.out.Q2, HP.out.lR, HP.out.R, LF.out, HF.out, LT.out, HT.out⟩, HP.out.bel⟩
          · skip
            have f0 := frozen_of_row _ _ 0 _ _ HG0.out
            have f1 := frozen_of_row _ _ 1 _ _ HG0.out
            have k0 := blk0 HG0.out
            have k1 := blk1 HG0.out
            go_simp
            have hset := set_twoS (x' := .slice (some ⟨gr, 0, none⟩) 5 5) (y' := .slice none 0 0) HG0.out
            clear f0 f1 k0 k1
            replace HP := Lib.hid (HP.out.set (.slice (some ⟨gr, 0, none⟩) 5 5) (.slice none 0 0))
            replace HF := Lib.hid (set_keep (x := .slice (some ⟨gr, 0, none⟩) 5 5) (y := .slice none 0 0) (Nat.ne_of_gt LF.out) HF.out)
            replace HG0 := Lib.hid hset
            clear hset
            generalize (w45.setCell ⟨w.heap.size, 0, none⟩ (.slice (some ⟨gr, 0, none⟩) 5 5)).setCell ⟨w.heap.size, 1, none⟩ (.slice none 0 0) = w48 at *
            clear hS0
            have hS0 : HeldX gx (.slice (some ⟨gr, 0, none⟩) 5 5) (.slice none 0 0) w48 := (⟨blk0 HP.out.X, blk1 HP.out.X⟩ : HeldX gx (.slice (some ⟨gr, 0, none⟩) 5 5) (.slice none 0 0) _)
            refine hK.out _ _ hS0 (fun _ => ?_)
            clear hK K
            (try simp only [zl1])
            (refine zl3 19 ?_ rfl ?_ ?_; rotate_left; (· (rintro w ⟨d0, d1⟩; go_simp; try with_reducible rfl)); (try simp only [zl1]))
            refine wpAnyH_ready (rs := [17]) (by kernel_rfl) (by simp) (AllReadyH.cons rfl (fun K hK => ?_) AllReadyH.nil)
            go_simp
            have hbx := belQ w48 (.cells #[.string ⟨#[97, 47, 118, 49]⟩, .int .i64 1, .int .i64 1, .int .i64 0, .string ⟨#[98, 47, 118, 49]⟩, .int .i64 1, .int .i64 1, .int .i64 0, .string ⟨#[99, 47, 118, 49]⟩, .int .i64 1, .int .i64 0, .int .i64 0] 53)
            have hnx := World.alloc_heap_new w48 (.cells #[.string ⟨#[97, 47, 118, 49]⟩, .int .i64 1, .int .i64 1, .int .i64 0, .string ⟨#[98, 47, 118, 49]⟩, .int .i64 1, .int .i64 1, .int .i64 0, .string ⟨#[99, 47, 118, 49]⟩, .int .i64 1, .int .i64 0, .int .i64 0] 53)
            have LT := Lib.hid HP.out.hz
            replace HG0 := Lib.hid ((hbx.block _ (Array.getElem?_eq_some_iff.1 HG0.out).1).trans HG0.out)
            replace HP := Lib.hid (HP.out.on hbx)
            replace HF := Lib.hid ((hbx.block _ (Array.getElem?_eq_some_iff.1 HF.out).1).trans HF.out)
            have HT := Lib.hid hnx
            clear hbx hnx
            generalize w48.alloc (.cells #[.string ⟨#[97, 47, 118, 49]⟩, .int .i64 1, .int .i64 1, .int .i64 0, .string ⟨#[98, 47, 118, 49]⟩, .int .i64 1, .int .i64 1, .int .i64 0, .string ⟨#[99, 47, 118, 49]⟩, .int .i64 1, .int .i64 0, .int .i64 0] 53) = w49 at *
            generalize w48.heap.size = gt at *
            clear hS0
            have hS0 : HeldX gx (.slice (some ⟨gr, 0, none⟩) 5 5) (.slice none 0 0) w49 := (⟨blk0 HP.out.X, blk1 HP.out.X⟩ : HeldX gx (.slice (some ⟨gr, 0, none⟩) 5 5) (.slice none 0 0) _)
            refine hK.out _ _ hS0 (fun _ => ?_)
            clear hK K
            (try simp only [zl1])
            (refine zl3 20 ?_ rfl ?_ ?_; rotate_left; (· (rintro w ⟨d0, d1⟩; go_simp; try with_reducible rfl)); (try simp only [zl1]))
            refine wpAnyH_done (by kernel_rfl) ?_ _
            refine NoPanic.normal ?_
            go_wp2_with fail
            refine bodyPost_ret (results_cell_tmp2 rfl _ _ w.heap.size _ rfl (run_loadVar_row _ _ _ _ _ _ _ HG0.out Tryz.underlying25 (by rfl) (by kernel_rfl))) rfl ?_
            exact ⟨gs1, gq1, gs2, gs3, gq2, gr, gf, gt, rfl, ⟨HP.out.lS1, HP.out.S1, HP.out.lQ1, HP.out.Q1, HP.out.lS2, HP.out.S2, HP.out.lS3, HP.out.S3, HP.out.lQ2, HP.out.Q2, HP.out.lR, HP.out.R, LF.out, HF.out, LT.out, HT.out⟩, HP.out.bel⟩
        · skip
          go_simp
          have hbx := belQ w44 (.cells #[.string ⟨#[97, 47, 118, 49]⟩, .int .i64 1, .int .i64 1, .int .i64 0, .string ⟨#[98, 47, 118, 49]⟩, .int .i64 1, .int .i64 1, .int .i64 0, .string ⟨#[99, 47, 118, 49]⟩, .int .i64 1, .int .i64 0, .int .i64 0] 53)
          have hnx := World.alloc_heap_new w44 (.cells #[.string ⟨#[97, 47, 118, 49]⟩, .int .i64 1, .int .i64 1, .int .i64 0, .string ⟨#[98, 47, 118, 49]⟩, .int .i64 1, .int .i64 1, .int .i64 0, .string ⟨#[99, 47, 118, 49]⟩, .int .i64 1, .int .i64 0, .int .i64 0] 53)
          have LT := Lib.hid HP.out.hz
          replace HG0 := Lib.hid ((hbx.block _ (Array.getElem?_eq_some_iff.1 HG0.out).1).trans HG0.out)
          replace HP := Lib.hid (HP.out.on hbx)
          have HT := Lib.hid hnx
          clear hbx hnx
          generalize w44.alloc (.cells #[.string ⟨#[97, 47, 118, 49]⟩, .int .i64 1, .int .i64 1, .int .i64 0, .string ⟨#[98, 47, 118, 49]⟩, .int .i64 1, .int .i64 1, .int .i64 0, .string ⟨#[99, 47, 118, 49]⟩, .int .i64 1, .int .i64 0, .int .i64 0] 53) = w50 at *
          generalize w44.heap.size = gt at *
          clear hS0
          have hS0 : HeldX gx (.slice (some ⟨gr, 0, none⟩) 5 5) (.slice none 0 0) w50 := (⟨blk0 HP.out.X, blk1 HP.out.X⟩ : HeldX gx (.slice (some ⟨gr, 0, none⟩) 5 5) (.slice none 0 0) _)
          refine hK.out _ _ hS0 (fun _ => ?_)
          clear hK K
          (try simp only [zl1])
          refine wpAnyH_ready (rs := [7, 18]) (by kernel_rfl) (by simp) (AllReadyH.cons rfl (fun K hK => ?_) (AllReadyH.cons rfl (fun K hK => ?_) AllReadyH.nil))
          · skip
            go_simp
            have hbx := belQ w50 (.cells #[.string ⟨#[97, 47, 118, 49]⟩, .int .i64 1, .int .i64 0, .int .i64 0, .string ⟨#[98, 47, 118, 49]⟩, .int .i64 1, .int .i64 0, .int .i64 0] 53)
            have hnx := World.alloc_heap_new w50 (.cells #[.string ⟨#[97, 47, 118, 49]⟩, .int .i64 1, .int .i64 0, .int .i64 0, .string ⟨#[98, 47, 118, 49]⟩, .int .i64 1, .int .i64 0, .int .i64 0] 53)
            have LF := Lib.hid HP.out.hz
            replace HG0 := Lib.hid ((hbx.block _ (Array.getElem?_eq_some_iff.1 HG0.out).1).trans HG0.out)
            replace HP := Lib.hid (HP.out.on hbx)
            replace HT := Lib.hid ((hbx.block _ (Array.getElem?_eq_some_iff.1 HT.out).1).trans HT.out)
            have HF := Lib.hid hnx
            clear hbx hnx
            generalize w50.alloc (.cells #[.string ⟨#[97, 47, 118, 49]⟩, .int .i64 1, .int .i64 0, .int .i64 0, .string ⟨#[98, 47, 118, 49]⟩, .int .i64 1, .int .i64 0, .int .i64 0] 53) = w51 at *
            generalize w50.heap.size = gf at *
            clear hS0
            have hS0 : HeldX gx (.slice (some ⟨gr, 0, none⟩) 5 5) (.slice none 0 0) w51 := (⟨blk0 HP.out.X, blk1 HP.out.X⟩ : HeldX gx (.slice (some ⟨gr, 0, none⟩) 5 5) (.slice none 0 0) _)
            refine hK.out _ _ hS0 (fun _ => ?_)
            clear hK K
            (try simp only [zl1])
            refine wpAnyH_ready (rs := [18]) (by kernel_rfl) (by simp) (AllReadyH.cons rfl (fun K hK => ?_) AllReadyH.nil)
            have f0 := frozen_of_row _ _ 0 _ _ HG0.out
            have f1 := frozen_of_row _ _ 1 _ _ HG0.out
            have k0 := blk0 HG0.out
            have k1 := blk1 HG0.out
            go_simp
            have hset := set_twoS (x' := .slice (some ⟨gr, 0, none⟩) 5 5) (y' := .slice none 0 0) HG0.out
            clear f0 f1 k0 k1
            replace HP := Lib.hid (HP.out.set (.slice (some ⟨gr, 0, none⟩) 5 5) (.slice none 0 0))
            replace HT := Lib.hid (set_keep (x := .slice (some ⟨gr, 0, none⟩) 5 5) (y := .slice none 0 0) (Nat.ne_of_gt LT.out) HT.out)
            replace HF := Lib.hid (set_keep (x := .slice (some ⟨gr, 0, none⟩) 5 5) (y := .slice none 0 0) (Nat.ne_of_gt LF.out) HF.out)
            replace HG0 := Lib.hid hset
            clear hset
            generalize (w51.setCell ⟨w.heap.size, 0, none⟩ (.slice (some ⟨gr, 0, none⟩) 5 5)).setCell ⟨w.heap.size, 1, none⟩ (.slice none 0 0) = w52 at *
            clear hS0
            have hS0 : HeldX gx (.slice (some ⟨gr, 0, none⟩) 5 5) (.slice none 0 0) w52 := (⟨blk0 HP.out.X, blk1 HP.out.X⟩ : HeldX gx (.slice (some ⟨gr, 0, none⟩) 5 5) (.slice none 0 0) _)
            refine hK.out _ _ hS0 (fun _ => ?_)
            clear hK K
            (try simp only [zl1])
            (refine zl3 19 ?_ rfl ?_ ?_; rotate_left; (· (rintro w ⟨d0, d1⟩; go_simp; try with_reducible rfl)); (try simp only [zl1]))
            (refine zl3 20 ?_ rfl ?_ ?_; rotate_left; (· (rintro w ⟨d0, d1⟩; go_simp; try with_reducible rfl)); (try simp only [zl1]))
            refine wpAnyH_done (by kernel_rfl) ?_ _
            refine NoPanic.normal ?_
            go_wp2_with fail
            refine bodyPost_ret (results_cell_tmp2 rfl _ _ w.heap.size _ rfl (run_loadVar_row _ _ _ _ _ _ _ HG0.out Tryz.underlying25 (by rfl) (by kernel_rfl))) rfl ?_
            exact ⟨gs1, gq1, gs2, gs3, gq2, gr, gf, gt, rfl, ⟨HP.out.lS1, HP.out.S1, HP.out.lQ1, HP.out.Q1, HP.out.lS2, HP.out.S2, HP.out.lS3, HP.out.S3, HP.out.lQ2, HP.out.Q2, HP.out.lR, HP.out.R, LF.out, HF.out, LT.out, HT.out⟩, HP.out.bel⟩
          · skip
            have f0 := frozen_of_row _ _ 0 _ _ HG0.out
            have f1 := frozen_of_row _ _ 1 _ _ HG0.out
            have k0 := blk0 HG0.out
            have k1 := blk1 HG0.out
            go_simp
            have hset := set_twoS (x' := .slice (some ⟨gr, 0, none⟩) 5 5) (y' := .slice none 0 0) HG0.out
            clear f0 f1 k0 k1
            replace HP := Lib.hid (HP.out.set (.slice (some ⟨gr, 0, none⟩) 5 5) (.slice none 0 0))
            replace HT := Lib.hid (set_keep (x := .slice (some ⟨gr, 0, none⟩) 5 5) (y := .slice none 0 0) (Nat.ne_of_gt LT.out) HT.out)
            replace HG0 := Lib.hid hset
            clear hset
            generalize (w50.setCell ⟨w.heap.size, 0, none⟩ (.slice (some ⟨gr, 0, none⟩) 5 5)).setCell ⟨w.heap.size, 1, none⟩ (.slice none 0 0) = w53 at *
            clear hS0
            have hS0 : HeldX gx (.slice (some ⟨gr, 0, none⟩) 5 5) (.slice none 0 0) w53 := (⟨blk0 HP.out.X, blk1 HP.out.X⟩ : HeldX gx (.slice (some ⟨gr, 0, none⟩) 5 5) (.slice none 0 0) _)
            refine hK.out _ _ hS0 (fun _ => ?_)
            clear hK K
            (try simp only [zl1])
            refine wpAnyH_ready (rs := [7]) (by kernel_rfl) (by simp) (AllReadyH.cons rfl (fun K hK => ?_) AllReadyH.nil)
            go_simp
            have hbx := belQ w53 (.cells #[.string ⟨#[97, 47, 118, 49]⟩, .int .i64 1, .int .i64 0, .int .i64 0, .string ⟨#[98, 47, 118, 49]⟩, .int .i64 1, .int .i64 0, .int .i64 0] 53)
            have hnx := World.alloc_heap_new w53 (.cells #[.string ⟨#[97, 47, 118, 49]⟩, .int .i64 1, .int .i64 0, .int .i64 0, .string ⟨#[98, 47, 118, 49]⟩, .int .i64 1, .int .i64 0, .int .i64 0] 53)
            have LF := Lib.hid HP.out.hz
            replace HG0 := Lib.hid ((hbx.block _ (Array.getElem?_eq_some_iff.1 HG0.out).1).trans HG0.out)
            replace HP := Lib.hid (HP.out.on hbx)
            replace HT := Lib.hid ((hbx.block _ (Array.getElem?_eq_some_iff.1 HT.out).1).trans HT.out)
            have HF := Lib.hid hnx
            clear hbx hnx
            generalize w53.alloc (.cells #[.string ⟨#[97, 47, 118, 49]⟩, .int .i64 1, .int .i64 0, .int .i64 0, .string ⟨#[98, 47, 118, 49]⟩, .int .i64 1, .int .i64 0, .int .i64 0] 53) = w54 at *
            generalize w53.heap.size = gf at *
            clear hS0
            have hS0 : HeldX gx (.slice (some ⟨gr, 0, none⟩) 5 5) (.slice none 0 0) w54 := (⟨blk0 HP.out.X, blk1 HP.out.X⟩ : HeldX gx (.slice (some ⟨gr, 0, none⟩) 5 5) (.slice none 0 0) _)
            refine hK.out _ _ hS0 (fun _ => ?_)
            clear hK K
            (try simp only [zl1])
            (refine zl3 19 ?_ rfl ?_ ?_; rotate_left; (· (rintro w ⟨d0, d1⟩; go_simp; try with_reducible rfl)); (try simp only [zl1]))
            (refine zl3 20 ?_ rfl ?_ ?_; rotate_left; (· (rintro w ⟨d0, d1⟩; go_simp; try with_reducible rfl)); (try simp only [zl1]))
            refine wpAnyH_done (by kernel_rfl) ?_ _
            refine NoPanic.normal ?_
            go_wp2_with fail
            refine bodyPost_ret (results_cell_tmp2 rfl _ _ w.heap.size _ rfl (run_loadVar_row _ _ _ _ _ _ _ HG0.out Tryz.underlying25 (by rfl) (by kernel_rfl))) rfl ?_
            exact ⟨gs1, gq1, gs2, gs3, gq2, gr, gf, gt, rfl, ⟨HP.out.lS1, HP.out.S1, HP.out.lQ1, HP.out.Q1, HP.out.lS2, HP.out.S2, HP.out.lS3, HP.out.S3, HP.out.lQ2, HP.out.Q2, HP.out.lR, HP.out.R, LF.out, HF.out, LT.out, HT.out⟩, HP.out.bel⟩
        · skip
          have f0 := frozen_of_row _ _ 0 _ _ HG0.out
          have f1 := frozen_of_row _ _ 1 _ _ HG0.out
          have k0 := blk0 HG0.out
          have k1 := blk1 HG0.out
          go_simp
          have hset := set_twoS (x' := .slice (some ⟨gr, 0, none⟩) 5 5) (y' := .slice none 0 0) HG0.out
          clear f0 f1 k0 k1
          replace HP := Lib.hid (HP.out.set (.slice (some ⟨gr, 0, none⟩) 5 5) (.slice none 0 0))
          replace HG0 := Lib.hid hset
          clear hset
          generalize (w44.setCell ⟨w.heap.size, 0, none⟩ (.slice (some ⟨gr, 0, none⟩) 5 5)).setCell ⟨w.heap.size, 1, none⟩ (.slice none 0 0) = w55 at *
          clear hS0
          have hS0 : HeldX gx (.slice (some ⟨gr, 0, none⟩) 5 5) (.slice none 0 0) w55 := (⟨blk0 HP.out.X, blk1 HP.out.X⟩ : HeldX gx (.slice (some ⟨gr, 0, none⟩) 5 5) (.slice none 0 0) _)
          refine hK.out _ _ hS0 (fun _ => ?_)
          clear hK K
          (try simp only [zl1])
          refine wpAnyH_ready (rs := [7, 17]) (by kernel_rfl) (by simp) (AllReadyH.cons rfl (fun K hK => ?_) (AllReadyH.cons rfl (fun K hK => ?_) AllReadyH.nil))
          · skip
            go_simp
            have hbx := belQ w55 (.cells #[.string ⟨#[97, 47, 118, 49]⟩, .int .i64 1, .int .i64 0, .int .i64 0, .string ⟨#[98, 47, 118, 49]⟩, .int .i64 1, .int .i64 0, .int .i64 0] 53)
            have hnx := World.alloc_heap_new w55 (.cells #[.string ⟨#[97, 47, 118, 49]⟩, .int .i64 1, .int .i64 0, .int .i64 0, .string ⟨#[98, 47, 118, 49]⟩, .int .i64 1, .int .i64 0, .int .i64 0] 53)
            have LF := Lib.hid HP.out.hz
            replace HG0 := Lib.hid ((hbx.block _ (Array.getElem?_eq_some_iff.1 HG0.out).1).trans HG0.out)
            replace HP := Lib.hid (HP.out.on hbx)
            have HF := Lib.hid hnx
            clear hbx hnx
            generalize w55.alloc (.cells #[.string ⟨#[97, 47, 118, 49]⟩, .int .i64 1, .int .i64 0, .int .i64 0, .string ⟨#[98, 47, 118, 49]⟩, .int .i64 1, .int .i64 0, .int .i64 0] 53) = w56 at *
            generalize w55.heap.size = gf at *
            clear hS0
            have hS0 : HeldX gx (.slice (some ⟨gr, 0, none⟩) 5 5) (.slice none 0 0) w56 := (⟨blk0 HP.out.X, blk1 HP.out.X⟩ : HeldX gx (.slice (some ⟨gr, 0, none⟩) 5 5) (.slice none 0 0) _)
            refine hK.out _ _ hS0 (fun _ => ?_)
            clear hK K
            (try simp only [zl1])
            (refine zl3 19 ?_ rfl ?_ ?_; rotate_left; (· (rintro w ⟨d0, d1⟩; go_simp; try with_reducible rfl)); (try simp only [zl1]))
            refine wpAnyH_ready (rs := [17]) (by kernel_rfl) (by simp) (AllReadyH.cons rfl (fun K hK => ?_) AllReadyH.nil)
            go_simp
            have hbx := belQ w56 (.cells #[.string ⟨#[97, 47, 118, 49]⟩, .int .i64 1, .int .i64 1, .int .i64 0, .string ⟨#[98, 47, 118, 49]⟩, .int .i64 1, .int .i64 1, .int .i64 0, .string ⟨#[99, 47, 118, 49]⟩, .int .i64 1, .int .i64 0, .int .i64 0] 53)
            have hnx := World.alloc_heap_new w56 (.cells #[.string ⟨#[97, 47, 118, 49]⟩, .int .i64 1, .int .i64 1, .int .i64 0, .string ⟨#[98, 47, 118, 49]⟩, .int .i64 1, .int .i64 1, .int .i64 0, .string ⟨#[99, 47, 118, 49]⟩, .int .i64 1, .int .i64 0, .int .i64 0] 53)
            have LT := Lib.hid HP.out.hz
            replace HG0 := Lib.hid ((hbx.block _ (Array.getElem?_eq_some_iff.1 HG0.out).1).trans HG0.out)
            replace HP := Lib.hid (HP.out.on hbx)
            replace HF := Lib.hid ((hbx.block _ (Array.getElem?_eq_some_iff.1 HF.out).1).trans HF.out)
            have HT := Lib.hid hnx
            clear hbx hnx
            generalize w56.alloc (.cells #[.string ⟨#[97, 47, 118, 49]⟩, .int .i64 1, .int .i64 1, .int .i64 0, .string ⟨#[98, 47, 118, 49]⟩, .int .i64 1, .int .i64 1, .int .i64 0, .string ⟨#[99, 47, 118, 49]⟩, .int .i64 1, .int .i64 0, .int .i64 0] 53) = w57 at *
            generalize w56.heap.size = gt at *
            clear hS0
            have hS0 : HeldX gx (.slice (some ⟨gr, 0, none⟩) 5 5) (.slice none 0 0) w57 := (⟨blk0 HP.out.X, blk1 HP.out.X⟩ : HeldX gx (.slice (some ⟨gr, 0, none⟩) 5 5) (.slice none 0 0) _)
            refine hK.out _ _ hS0 (fun _ => ?_)
            clear hK K
            (try simp only [zl1])
            (refine zl3 20 ?_ rfl ?_ ?_; rotate_left; (· (rintro w ⟨d0, d1⟩; go_simp; try with_reducible rfl)); (try simp only [zl1]))
            refine wpAnyH_done (by kernel_rfl) ?_ _
            refine NoPanic.normal ?_
            go_wp2_with fail
            refine bodyPost_ret (results_cell_tmp2 rfl _ _ w.heap.size _ rfl (run_loadVar_row _ _ _ _ _ _ _ HG0.out Tryz.underlying25 (by rfl) (by kernel_rfl))) rfl ?_
            exact ⟨gs1, gq1, gs2, gs3, gq2, gr, gf, gt, rfl, ⟨HP.out.lS1, HP.out.S1, HP.out.lQ1, HP.out.Q1, HP.out.lS2, HP.out.S2, HP.out.lS3, HP.out.S3, HP.out.lQ2, HP.out.Q2, HP.out.lR, HP.out.R, LF.out, HF.out, LT.out, HT.out⟩, HP.out.bel⟩
          · skip
            go_simp
            have hbx := belQ w55 (.cells #[.string ⟨#[97, 47, 118, 49]⟩, .int .i64 1, .int .i64 1, .int .i64 0, .string ⟨#[98, 47, 118, 49]⟩, .int .i64 1, .int .i64 1, .int .i64 0, .string ⟨#[99, 47, 118, 49]⟩, .int .i64 1, .int .i64 0, .int .i64 0] 53)
            have hnx := World.alloc_heap_new w55 (.cells #[.string ⟨#[97, 47, 118, 49]⟩, .int .i64 1, .int .i64 1, .int .i64 0, .string ⟨#[98, 47, 118, 49]⟩, .int .i64 1, .int .i64 1, .int .i64 0, .string ⟨#[99, 47, 118, 49]⟩, .int .i64 1, .int .i64 0, .int .i64 0] 53)
            have LT := Lib.hid HP.out.hz
            replace HG0 := Lib.hid ((hbx.block _ (Array.getElem?_eq_some_iff.1 HG0.out).1).trans HG0.out)
            replace HP := Lib.hid (HP.out.on hbx)
            have HT := Lib.hid hnx
            clear hbx hnx
            generalize w55.alloc (.cells #[.string ⟨#[97, 47, 118, 49]⟩, .int .i64 1, .int .i64 1, .int .i64 0, .string ⟨#[98, 47, 118, 49]⟩, .int .i64 1, .int .i64 1, .int .i64 0, .string ⟨#[99, 47, 118, 49]⟩, .int .i64 1, .int .i64 0, .int .i64 0] 53) = w58 at *
            generalize w55.heap.size = gt at *
            clear hS0
            have hS0 : HeldX gx (.slice (some ⟨gr, 0, none⟩) 5 5) (.slice none 0 0) w58 := (⟨blk0 HP.out.X, blk1 HP.out.X⟩ : HeldX gx (.slice (some ⟨gr, 0, none⟩) 5 5) (.slice none 0 0) _)
            refine hK.out _ _ hS0 (fun _ => ?_)
            clear hK K
            (try simp only [zl1])
            refine wpAnyH_ready (rs := [7]) (by kernel_rfl) (by simp) (AllReadyH.cons rfl (fun K hK => ?_) AllReadyH.nil)
            go_simp
            have hbx := belQ w58 (.cells #[.string ⟨#[97, 47, 118, 49]⟩, .int .i64 1, .int .i64 0, .int .i64 0, .string ⟨#[98, 47, 118, 49]⟩, .int .i64 1, .int .i64 0, .int .i64 0] 53)
            have hnx := World.alloc_heap_new w58 (.cells #[.string ⟨#[97, 47, 118, 49]⟩, .int .i64 1, .int .i64 0, .int .i64 0, .string ⟨#[98, 47, 118, 49]⟩, .int .i64 1, .int .i64 0, .int .i64 0] 53)
            have LF := Lib.hid HP.out.hz
            replace HG0 := Lib.hid ((hbx.block _ (Array.getElem?_eq_some_iff.1 HG0.out).1).trans HG0.out)
            replace HP := Lib.hid (HP.out.on hbx)
            replace HT := Lib.hid ((hbx.block _ (Array.getElem?_eq_some_iff.1 HT.out).1).trans HT.out)
            have HF := Lib.hid hnx
            clear hbx hnx
            generalize w58.alloc (.cells #[.string ⟨#[97, 47, 118, 49]⟩, .int .i64 1, .int .i64 0, .int .i64 0, .string ⟨#[98, 47, 118, 49]⟩, .int .i64 1, .int .i64 0, .int .i64 0] 53) = w59 at *
            generalize w58.heap.size = gf at *
            clear hS0
            have hS0 : HeldX gx (.slice (some ⟨gr, 0, none⟩) 5 5) (.slice none 0 0) w59 := (⟨blk0 HP.out.X, blk1 HP.out.X⟩ : HeldX gx (.slice (some ⟨gr, 0, none⟩) 5 5) (.slice none 0 0) _)
            refine hK.out _ _ hS0 (fun _ => ?_)
            clear hK K
            (try simp only [zl1])
            (refine zl3 19 ?_ rfl ?_ ?_; rotate_left; (· (rintro w ⟨d0, d1⟩; go_simp; try with_reducible rfl)); (try simp only [zl1]))
            (refine zl3 20 ?_ rfl ?_ ?_; rotate_left; (· (rintro w ⟨d0, d1⟩; go_simp; try with_reducible rfl)); (try simp only [zl1]))
            refine wpAnyH_done (by kernel_rfl) ?_ _
            refine NoPanic.normal ?_
            go_wp2_with fail
            refine bodyPost_ret (results_cell_tmp2 rfl _ _ w.heap.size _ rfl (run_loadVar_row _ _ _ _ _ _ _ HG0.out Tryz.underlying25 (by rfl) (by kernel_rfl))) rfl ?_
            exact ⟨gs1, gq1, gs2, gs3, gq2, gr, gf, gt, rfl, ⟨HP.out.lS1, HP.out.S1, HP.out.lQ1, HP.out.Q1, HP.out.lS2, HP.out.S2, HP.out.lS3, HP.out.S3, HP.out.lQ2, HP.out.Q2, HP.out.lR, HP.out.R, LF.out, HF.out, LT.out, HT.out⟩, HP.out.bel⟩
end Go.Proofs.YtnjiibiafhnmgaaGreatDoor
