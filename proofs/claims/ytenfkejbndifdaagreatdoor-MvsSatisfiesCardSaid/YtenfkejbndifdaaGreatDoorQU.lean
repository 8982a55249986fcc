/- The index's Find. slices.Sort and slices.Compact at a row of the call's own. Contract of the graph's newSuccessors. Contracts of the graph's Valid; slices.ContainsFunc at edges. The graph's exist; slices.ContainsFunc at numbers. Contract of the graph's Reverse. -/
import Derived.Test.YtenfkejbndifdaaGreatDoorQT
import Derived.Test.YtenfkejbndifdaaGreatDoorQF
import Derived.Test.YtenfkejbndifdaaGreatDoorQG
import Derived.Test.YtenfkejbndifdaaGreatDoorShelf
import Derived.Test.YtenfkejbndifdaaGreatDoorQJ
import Derived.Deep.OwnRows
import Derived.Outline
import Derived.Shelf.GgClosure.Gives
import Derived.Test.YtenfkejbndifdaaGreatDoorQH
namespace Go.Proofs.YtenfkejbndifdaaGreatDoor
set_option linter.unusedVariables false
set_option linter.unusedSimpArgs false
open Go Go.RowKit Go.Maps

/-- what Find finds. -/
def findX (X : List RelL) (y : SelL) : Option RelL := if checkX X = 0 then findR X y else none
def tabX (X : List RelL) : List RelL := if checkX X = 0 then X else []
theorem tabX_ok (X : List RelL) : IdxOk (tabX X) := by
  unfold tabX
  split
  · rename_i h; exact idx_ok h
  · exact ⟨by simp, fun i hi => absurd hi (by simp), fun i j _ hj => absurd hj (by simp)⟩
theorem tabX_find (X : List RelL) (y : SelL) : findX X y = (lookK (tabX X) (tabX X).length y).map fun i => (tabX X).getD i default := by
  rw [← lookK_find (tabX_ok X) y]
  unfold findX tabX
  split
  · rfl
  · rfl
theorem tabX_mem {X : List RelL} {x : RelL} (h : x ∈ tabX X) : x ∈ X := by
  unfold tabX at h
  split at h
  · exact h
  · cases h
/-- what a look-up of a table gives. -/
theorem TabOf.look {W : World} {B m : Nat} {X : List RelL} (h : TabOf W B m (tabX X)) : ∃ (f : Lit → Option Value) (n : Nat), MapF Tryz.prog 43 W m n f ∧
    ∀ y, SelBd y → (findX X y = none ∧ f (keyS y) = none) ∨ ∃ x r, x ∈ X ∧ findX X y = some x ∧ f (keyS y) = some (.agg (relC x r)) ∧ ReqsOf B r x.reqs W := by
  obtain ⟨f, rv, n, h1, h2, h3⟩ := h
  refine ⟨f, n, h1, fun y hy => ?_⟩
  rw [tabX_find, h2 y hy]
  cases hk : lookK (tabX X) (tabX X).length y with
  | none => exact .inl ⟨rfl, rfl⟩
  | some i =>
    have hi := (lookK_some hk).1
    refine .inr ⟨(tabX X).getD i default, rv i, tabX_mem ?_, rfl, rfl, h3 i hi⟩
    rw [List.getD_eq_getElem?_getD, List.getElem?_eq_getElem hi]
    exact List.getElem_mem hi
/-- what Find returns. -/
def FindR (w : World) (o : Option RelL) (e : Ending) (w' : World) : Prop := ∃ r', e = .returned (.tuple #[.agg (relC (o.getD default) r'), .bool o.isSome]) ∧ ReqRows w.heap.size r' (o.getD default).reqs w' ∧ RowKit.Below w.heap.size w w'
/-- the zero of a release. -/
def zeroR : Value := .agg #[.string ⟨#[]⟩, .int .i64 0, .int .i64 0, .int .i64 0, .slice none 0 0, .string ⟨#[]⟩, .string ⟨#[]⟩, .string ⟨#[]⟩, .bool false]
set_option maxRecDepth 100000 in
set_option maxHeartbeats 8000000 in
theorem Find_any (v iv : Value) (X : List RelL) (y : SelL) (w : World) (hm : MaxOk w) (hX : X.length ≤ 1000000) (hq : ∀ x ∈ X, RelBd x) (hR : RelsOf w.heap.size v X w) (hy : SelBd y) :
    Calls Tryz.prog 44 #[.agg #[v, iv], .string y.1, .agg #[intC y.2.1, intC y.2.2.1, intC y.2.2.2]] w (FindR w (findX X y)) := by
  have HN := Lib.hid (fun W (hb : RowKit.Below w.heap.size w W) => newTable_any v iv X W (hm.below hb hm.pos) hX hq ((hR.below hb (Nat.le_refl _)).mono hb.size))
  have HQ := Lib.hid hq
  clear hm hR hq
  obtain ⟨o, ho⟩ : ∃ o, findX X y = o := ⟨_, rfl⟩
  have HO := Lib.hid ho
  rw [ho]
  clear ho
  have hget : ∀ (w : World) (o : Obj) (k : Nat), (w.alloc o).heap[k]? = if k = w.heap.size then some o else w.heap[k]? := fun w o k => by
    show (w.heap.push o)[k]? = _
    rw [Array.getElem?_push]
  have HG : Hid ((((w.alloc (.cells #[v, iv] 25)).alloc (.cells #[intC y.2.1, intC y.2.2.1, intC y.2.2.2] 41)).alloc (.cells #[.string ⟨#[]⟩, .int .i64 0, .int .i64 0, .int .i64 0, .slice none 0 0, .string ⟨#[]⟩, .string ⟨#[]⟩, .string ⟨#[]⟩, .bool false] 71)).heap[w.heap.size]? = some (.cells #[v, iv] 25 (0, 0)) ∧
      (((w.alloc (.cells #[v, iv] 25)).alloc (.cells #[intC y.2.1, intC y.2.2.1, intC y.2.2.2] 41)).alloc (.cells #[.string ⟨#[]⟩, .int .i64 0, .int .i64 0, .int .i64 0, .slice none 0 0, .string ⟨#[]⟩, .string ⟨#[]⟩, .string ⟨#[]⟩, .bool false] 71)).heap[w.heap.size + 1]? = some (.cells #[intC y.2.1, intC y.2.2.1, intC y.2.2.2] 41 (0, 0)) ∧
      BoxR (((w.alloc (.cells #[v, iv] 25)).alloc (.cells #[intC y.2.1, intC y.2.2.1, intC y.2.2.2] 41)).alloc (.cells #[.string ⟨#[]⟩, .int .i64 0, .int .i64 0, .int .i64 0, .slice none 0 0, .string ⟨#[]⟩, .string ⟨#[]⟩, .string ⟨#[]⟩, .bool false] 71)) (w.heap.size + 1 + 1) default (.slice none 0 0)) := Lib.hid (by
    refine ⟨?_, ?_, ?_⟩
    · simp only [hget, World.size_alloc]; repeat (first | rw [if_pos trivial] | rw [if_neg (by omega)] | rw [if_pos (by omega)])
    · simp only [hget, World.size_alloc]; repeat (first | rw [if_pos trivial] | rw [if_neg (by omega)] | rw [if_pos (by omega)])
    · unfold BoxR
      simp only [hget, World.size_alloc]; repeat (first | rw [if_pos trivial] | rw [if_neg (by omega)] | rw [if_pos (by omega)])
      rfl)
  have HBW : Hid (RowKit.Below w.heap.size w (((w.alloc (.cells #[v, iv] 25)).alloc (.cells #[intC y.2.1, intC y.2.2.1, intC y.2.2.2] 41)).alloc (.cells #[.string ⟨#[]⟩, .int .i64 0, .int .i64 0, .int .i64 0, .slice none 0 0, .string ⟨#[]⟩, .string ⟨#[]⟩, .string ⟨#[]⟩, .bool false] 71))) := Lib.hid (by repeat (first | exact Below.refl _ _ | refine Below.drew ?_ | refine Below.alloc ?_ (by simp <;> omega) _ | refine Below.setCell ?_ (by simp <;> omega) _))
  have hws : w.heap.size + 1 + 1 < (((w.alloc (.cells #[v, iv] 25)).alloc (.cells #[intC y.2.1, intC y.2.2.1, intC y.2.2.2] 41)).alloc (.cells #[.string ⟨#[]⟩, .int .i64 0, .int .i64 0, .int .i64 0, .slice none 0 0, .string ⟨#[]⟩, .string ⟨#[]⟩, .string ⟨#[]⟩, .bool false] 71)).heap.size := by simp only [World.size_alloc]; omega
  clear hget
  go_enter Tryz.func44, Tryz.ntmps44
  go_upto_region 1 with fail
  generalize ((w.alloc (.cells #[v, iv] 25)).alloc (.cells #[intC y.2.1, intC y.2.2.1, intC y.2.2.2] 41)).alloc (.cells #[.string ⟨#[]⟩, .int .i64 0, .int .i64 0, .int .i64 0, .slice none 0 0, .string ⟨#[]⟩, .string ⟨#[]⟩, .string ⟨#[]⟩, .bool false] 71) = W at *
  have c0 : W.cell? ⟨w.heap.size, 0, none⟩ = some v := cell_of_row _ _ 0 _ _ _ HG.out.1
  have c1 : W.cell? ⟨w.heap.size, 1, none⟩ = some iv := cell_of_row _ _ 1 _ _ _ HG.out.1
  go_wp2_with fail
  refine (HN.out _ HBW.out).mono ?_
  rintro e w1 ⟨m1, m2, rfl, hb1, hm1, ht1⟩
  have HB1 := Lib.hid (HBW.out.trans (hb1.mono HBW.out.size))
  have hs1 := hb1.size
  have HV1 := Lib.hid ((hb1.block (w.heap.size + 1) (by omega)).trans HG.out.2.1)
  have HZ1 := Lib.hid (HG.out.2.2.on hb1)
  have HT1 : Hid (TabOf w1 W.heap.size m1 (tabX X)) := Lib.hid ht1
  clear hb1 ht1 c0 c1 HG HBW
  have HT2 := Lib.hid (HT1.out.below (belQ w1 (.cells #[.map (some m1), .map (some m2)] 138)) hs1)
  have HN2 := Lib.hid (World.alloc_heap_new w1 (.cells #[.map (some m1), .map (some m2)] 138))
  have HV2 := Lib.hid (((belQ w1 (.cells #[.map (some m1), .map (some m2)] 138)).block (w.heap.size + 1) (by omega)).trans HV1.out)
  have HZ2 := Lib.hid (HZ1.out.on (belQ w1 (.cells #[.map (some m1), .map (some m2)] 138)))
  have HB2 := Lib.hid (HB1.out.trans ((belQ w1 (.cells #[.map (some m1), .map (some m2)] 138)).mono HB1.out.size))
  go_upto_region 2 with fail
  generalize hW2 : w1.alloc (.cells #[.map (some m1), .map (some m2)] 138) = W2 at *
  have hs2 : w1.heap.size < W2.heap.size := by rw [← hW2]; simp
  clear hW2
  have t0 : W2.cell? ⟨w1.heap.size, 0, none⟩ = some (.map (some m1)) := cell_of_row _ _ 0 _ _ _ HN2.out
  have v0 : W2.cell? ⟨w.heap.size + 1, 0, none⟩ = some (intC y.2.1) := cell_of_row _ _ 0 _ _ _ HV2.out
  have v1 : W2.cell? ⟨w.heap.size + 1, 1, none⟩ = some (intC y.2.2.1) := cell_of_row _ _ 1 _ _ _ HV2.out
  have v2 : W2.cell? ⟨w.heap.size + 1, 2, none⟩ = some (intC y.2.2.2) := cell_of_row _ _ 2 _ _ _ HV2.out
  obtain ⟨f, n, hmf, hlk⟩ := HT2.out.look
  have HLK := Lib.hid (hlk y hy)
  have HMF := Lib.hid hmf
  have HKY := Lib.hid (keyS_of hy)
  clear hlk hmf
  have HZR := Lib.hid (show ∀ W, (zeroValue 71).run Tryz.prog W = .ok zeroR W from Tryz.zeroValue71)
  obtain ⟨x, r, e1, e2, e3, e4, e5, e6⟩ : ∃ x r, (f (keyS y)).getD zeroR = .agg (relC x r) ∧ (f (keyS y)).isSome = o.isSome ∧ o.getD default = x ∧ ReqsOf W.heap.size r x.reqs W2 ∧ x.reqs.length ≤ 1000000 ∧ ∀ q ∈ x.reqs, q.2.length ≤ 1000000 := by
    rcases HLK.out with ⟨l1, l2⟩ | ⟨x, r, l1, l2, l3, l4⟩
    · rw [HO.out] at l1
      subst l1
      exact ⟨default, .slice none 0 0, by rw [l2]; rfl, by rw [l2]; rfl, rfl, ⟨none, 0, rfl, fun i q hq => by cases hq⟩, Nat.zero_le _, fun q hq => by cases hq⟩
    · rw [HO.out] at l2
      subst l2
      exact ⟨x, r, by rw [l3]; rfl, by rw [l3]; rfl, rfl, l4, (HQ.out x l1).len, fun q hq => ((HQ.out x l1).reqs q hq).2⟩
  have HE3 := Lib.hid e3
  obtain ⟨ob, hob⟩ : ∃ ob, o.isSome = ob := ⟨_, rfl⟩
  rw [hob] at e2
  have HOB := Lib.hid hob
  have hlt : W.heap.size ≤ W2.heap.size := by omega
  have HB3 := Lib.hid ((belQ W2 (.cells (relC x r) 71)))
  have HC := Lib.hid (clone_any x r (W2.alloc (.cells (relC x r) 71)) e5 e6 ((e4.below HB3.out hlt).mono (by simp; omega)))
  have HZ3 := Lib.hid (HZ2.out.on HB3.out)
  obtain ⟨ra, rc, rfl, _⟩ := e4
  clear e3 e5 e6 hob HLK
  simp only [relC_at] at e1 HC HZ3 HB3
  go_wp2_with (at_lookup; refine wpList_look_ok_F rfl _ _ 135 rfl 43 71 lawSel Tryz.underlying135 (HZR.out _) m1 n f (by rfl) HMF.out _ (keyS y) rfl HKY.out ?_; rw [e1, e2])
  refine HC.out.mono ?_
  rintro e w4 ⟨r', rfl, hr4, hb4⟩
  have HB4 := Lib.hid (HB2.out.trans ((HB3.out.trans (hb4.mono (by simp))).mono HB2.out.size))
  have HR4 := Lib.hid hr4
  have hbox := HZ3.out.on hb4
  have HBX := Lib.hid hbox
  obtain ⟨b0, b1, b2, b3, b4, b5, b6, b7, b8⟩ := hbox.cells
  have F : ∀ j, w4.frozen? ⟨w.heap.size + 1 + 1, j, none⟩ = false := fun j => frozen_of_row _ _ j _ _ hbox
  have f0 := F 0
  have f1 := F 1
  have f2 := F 2
  have f3 := F 3
  have f4 := F 4
  have f5 := F 5
  have f6 := F 6
  have f7 := F 7
  have f8 := F 8
  have hs4 := hb4.size
  clear F hbox hb4 t0 v0 v1 v2
  simp only [show (default : RelL).path = ⟨#[]⟩ from rfl, show (default : RelL).ver = (0, 0, 0) from rfl, show (default : RelL).ar = ⟨#[]⟩ from rfl, show (default : RelL).ifc = ⟨#[]⟩ from rfl, show (default : RelL).cert = ⟨#[]⟩ from rfl, show (default : RelL).yk = false from rfl] at b0 b1 b2 b3 b4 b5 b6 b7 b8
  obtain ⟨qa, qc, rfl, _⟩ := hr4.now
  have hg := setRel_grown w4 (w.heap.size + 1 + 1) x (.slice qa x.reqs.length qc)
  have hbx := setRel_box x (.slice qa x.reqs.length qc) HBX.out
  have hb5 : RowKit.Below w.heap.size w (setRel w4 (w.heap.size + 1 + 1) x (.slice qa x.reqs.length qc)) := HB4.out.grown hg HB4.out.size (fun b hb => by cases hb; omega)
  have hr5 : ReqRows w.heap.size (.slice qa x.reqs.length qc) x.reqs (setRel w4 (w.heap.size + 1 + 1) x (.slice qa x.reqs.length qc)) := (HR4.out.grown hg (fun g hg => .inl (by cases hg; simp; omega))).map (fun _ _ _ _ _ _ h => own_mono h (by simp; omega))
  have HS1 := Lib.hid hbx
  have HS2 := Lib.hid hb5
  have HS3 := Lib.hid hr5
  unfold setRel at HS1 HS2 HS3
  clear hg hbx hb5 hr5
  go_wp2_with fail
  refine bodyPost_ret (results_cell_tmp rfl _ _ (w.heap.size + 1 + 1) _ _ _ _ rfl HS1.out Tryz.underlying71 rfl (by kernel_rfl)) rfl ?_
  refine ⟨.slice qa x.reqs.length qc, by rw [HE3.out, HOB.out]; rfl, ?_, HS2.out⟩
  rw [HE3.out]
  exact HS3.out
end Go.Proofs.YtenfkejbndifdaaGreatDoor

namespace Go.Proofs.YtenfkejbndifdaaGreatDoor
set_option linter.unusedVariables false
set_option linter.unusedSimpArgs false
open Go Go.RowKit Go.Sort


theorem sort_row (B : Nat) (v : Value) (l : List Int) (w : World) (h : w.ownsRow B 3 1 v l.length (l.map intC)) (hl : l.length ≤ 1000000000) :
    Calls Tryz.prog 104 #[v] w fun e w' => e = .returned (.tuple #[]) ∧ w.grownBy w' v.ownBlock ∧ w'.ownsRow B 3 1 v (l.mergeSort fun x y => decide (x ≤ y)).length ((l.mergeSort fun x y => decide (x ≤ y)).map intC) := by
  have hlen : (l.mergeSort fun x y => decide (x ≤ y)).length = l.length := List.length_mergeSort l
  rcases h.2 with ⟨rfl, h0⟩ | ⟨g, cap, cur, rfl, hb, hg, hc, hcm, hcs, ht⟩
  · obtain rfl : l = [] := List.length_eq_zero_iff.1 h0
    refine (Tryz.slices_Sort_int_none none 0 w).mono ?_
    rintro e w' ⟨rfl, rfl⟩
    exact ⟨rfl, World.grownBy.refl _ _, by simpa using World.ownsRow_nil _ _ _ _⟩
  · refine (Tryz.slices_Sort_int g 0 cap l w (holds_of_blockI hg (by simpa using ht)) (Array.getElem?_eq_some_iff.1 hg).1 (by omega)).mono ?_
    rintro e w' ⟨rfl, n, os, rfl⟩
    refine ⟨rfl, grownBy_sortedI _, ?_⟩
    rw [hlen]
    exact ownsRow_sortedI hlen hb hg hc hcm hcs

end Go.Proofs.YtenfkejbndifdaaGreatDoor

namespace Go.Proofs.YtenfkejbndifdaaGreatDoor
set_option linter.unusedVariables false
set_option linter.unusedSimpArgs false
open Go Go.RowKit Go.Sort

/-- a slice of edges that reads as a list of pairs. -/
def EdgesOf (B : Nat) (v : Value) (es : List (Int × Int)) (W : World) : Prop :=
  ∃ ao cap, v = .slice ao es.length cap ∧ ∀ i x, es[i]? = some x → ∃ b off, ao = some ⟨b, off, none⟩ ∧ b < B ∧ W.cell? ⟨b, off + i * 2, none⟩ = some (intC x.1) ∧ W.cell? ⟨b, off + i * 2 + 1, none⟩ = some (intC x.2)
theorem EdgesOf.below {B B' : Nat} {v : Value} {es : List (Int × Int)} {W W' : World} (h : EdgesOf B v es W) (hb : Below B' W W') (hB : B ≤ B') : EdgesOf B v es W' := by
  obtain ⟨ao, cap, rfl, h⟩ := h
  refine ⟨ao, cap, rfl, fun i x hx => ?_⟩
  obtain ⟨b, off, rfl, hlt, h1, h2⟩ := h i x hx
  exact ⟨b, off, rfl, hlt, (hb.cell (p := ⟨b, off + i * 2, none⟩) (by simp; omega)).trans h1, (hb.cell (p := ⟨b, off + i * 2 + 1, none⟩) (by simp; omega)).trans h2⟩
theorem EdgesOf.mono {B B' : Nat} {v : Value} {es : List (Int × Int)} {W : World} (h : EdgesOf B v es W) (hB : B ≤ B') : EdgesOf B' v es W := by
  obtain ⟨ao, cap, rfl, h⟩ := h
  refine ⟨ao, cap, rfl, fun i x hx => ?_⟩
  obtain ⟨b, off, rfl, hlt, h1, h2⟩ := h i x hx
  exact ⟨b, off, rfl, by omega, h1, h2⟩

theorem made_rep (z : Value) (n : Nat) : madeCells #[z] n = Array.replicate n z := by
  have := toList_madeCells_one z n
  rw [← Array.toList_replicate] at this
  exact Array.toList_inj.1 this
theorem info_ints : (Tryz.prog.info? 3).map (fun i => (i.zero, i.size, i.bytes)) = some (some (.int .i64 0), 1, 8) := by kernel_rfl
/-- make with a length that is a variable. -/
theorem make_ints (n : Nat) (hn : n ≤ 1000000000) (w : World) : (Instr.makeSlice 79 (.int .i64 (n : Int)) (.int .i64 (n : Int))).run Tryz.prog w = .ok (.slice (some ⟨w.heap.size, 0, none⟩) n n) (w.alloc (.cells (Array.replicate n (.int .i64 0)) 3)) := by
  have h := run_make_row' (P := Tryz.prog) 79 3 (.int .i64 0) 8 Tryz.underlying79 info_ints rfl .i64 .i64 n (by omega) (by omega) w
  rw [h, made_rep]
theorem info_rows : (Tryz.prog.info? 79).map (fun i => (i.zero, i.size, i.bytes)) = some (some (.slice none 0 0), 1, 24) := by kernel_rfl
theorem info_bools : (Tryz.prog.info? 4).map (fun i => (i.zero, i.size, i.bytes)) = some (some (.bool false), 1, 1) := by kernel_rfl
/-- make with a length that is a variable. -/
theorem make_bools (n : Nat) (hn : n ≤ 1000000000) (w : World) : (Instr.makeSlice 155 (.int .i64 (n : Int)) (.int .i64 (n : Int))).run Tryz.prog w = .ok (.slice (some ⟨w.heap.size, 0, none⟩) n n) (w.alloc (.cells (Array.replicate n (.bool false)) 4)) := by
  have h := run_make_row' (P := Tryz.prog) 155 4 (.bool false) 1 Tryz.underlying155 info_bools rfl .i64 .i64 n (by omega) (by omega) w
  rw [h, made_rep]
/-- a row that has just been laid. -/
theorem own_made (B e n : Nat) (xs : List Value) (w : World) (hB : B ≤ w.heap.size) (hn : n ≤ maxLen) (hx : xs.length = n) : (w.alloc (.cells xs.toArray e)).ownsRow B e 1 (.slice (some ⟨w.heap.size, 0, none⟩) n n) n xs := by
  subst hx
  have := World.ownsRow_lit (base := B) (e := e) (size := 1) w xs.toArray xs.length hB hn (by simp)
  simpa using this

/-- the rows behind k edges. -/
def rawRows (N : Nat) (es : List (Int × Int)) : List (List Value) := (List.range N).map fun i => (rawL es i).map intC
theorem rawRows_length (N : Nat) (es : List (Int × Int)) : (rawRows N es).length = N := by simp [rawRows]
theorem rawRows_get (N : Nat) (es : List (Int × Int)) (i : Nat) (h : i < N) : (rawRows N es)[i]? = some ((rawL es i).map intC) := by simp [rawRows, h]
theorem rawRows_nil (N : Nat) : rawRows N [] = List.replicate N [] := by
  apply List.ext_getElem (by simp [rawRows])
  intro i h1 h2
  simp [rawRows, rawL]
theorem rawRows_snoc (N : Nat) (es : List (Int × Int)) (i : Nat) (y : Int) (h : i < N) : rawRows N (es ++ [((i : Int), y)]) = (rawRows N es).set i ((rawL es i).map intC ++ [intC y]) := by
  apply List.ext_getElem (by simp [rawRows])
  intro j h1 h2
  have hj : j < N := by simpa [rawRows] using h1
  rw [List.getElem_set]
  simp only [rawRows, List.getElem_map, List.getElem_range, rawL_snoc]
  by_cases e : i = j
  · subst e; simp
  · rw [if_neg (by omega), if_neg e]

/-- the rows of which k have been sorted and compacted. -/
def mixRows (N : Nat) (es : List (Int × Int)) (k : Nat) : List (List Value) := (List.range N).map fun i => if i < k then (sucL N es i).map natC else (rawL es i).map intC
theorem mixRows_length (N : Nat) (es : List (Int × Int)) (k : Nat) : (mixRows N es k).length = N := by simp [mixRows]
theorem mixRows_zero (N : Nat) (es : List (Int × Int)) : mixRows N es 0 = rawRows N es := by simp [mixRows, rawRows]
theorem mixRows_get (N : Nat) (es : List (Int × Int)) (k : Nat) (h : k < N) : (mixRows N es k)[k]? = some ((rawL es k).map intC) := by simp [mixRows, h]
theorem mixRows_succ (N : Nat) (es : List (Int × Int)) (k : Nat) : mixRows N es (k + 1) = (mixRows N es k).set k ((sucL N es k).map natC) := by
  apply List.ext_getElem (by simp [mixRows])
  intro j h1 h2
  rw [List.getElem_set]
  simp only [mixRows, List.getElem_map, List.getElem_range]
  by_cases e : k = j
  · subst e; simp
  · by_cases h : j < k
    · rw [if_pos (by omega), if_neg e, if_pos h]
    · rw [if_neg (by omega), if_neg e, if_neg h]
theorem mixRows_all (N : Nat) (es : List (Int × Int)) : mixRows N es N = (sucs N es).map (·.map natC) := by
  unfold mixRows sucs
  rw [List.map_map]
  apply List.map_congr_left
  intro i hi
  rw [List.mem_range] at hi
  rw [if_pos hi]
  rfl

end Go.Proofs.YtenfkejbndifdaaGreatDoor

namespace Go.Proofs.YtenfkejbndifdaaGreatDoor
set_option linter.unusedVariables false
set_option linter.unusedSimpArgs false
open Go Go.RowKit

/-- an edge as a value. -/
abbrev edgeV (x : Int × Int) : Value := .agg #[intC x.1, intC x.2]
/-- a predicate over edges that leaves what was there. -/
def PredE (g : Nat) (lb : Array Value) (es : List (Int × Int)) (p : Int × Int → Bool) (w : World) : Prop :=
  ∀ (W : World) (x : Int × Int), x ∈ es → Below w.heap.size w W → Calls Tryz.prog g (#[edgeV x] ++ lb) W fun e w' => e = .returned (.bool (p x)) ∧ Below w.heap.size w w'

/-- a node's number is one. -/
def nodeB (N : Nat) (i : Int) : Bool := decide (0 ≤ i ∧ i < N)
theorem validG_eq (N : Nat) (es : List (Int × Int)) : validG N es = (decide (N ≤ 1024) && (decide (es.length ≤ 4096) && !es.any fun x => !nodeB N x.1 || !nodeB N x.2)) := by
  unfold validG
  rw [Bool.and_assoc]
  congr 2
  rw [Bool.eq_iff_iff, List.all_eq_true, Bool.not_eq_true', ← Bool.not_eq_true, List.any_eq_true]
  unfold nodeB
  constructor
  · rintro h ⟨x, hx, hx2⟩
    have := h x hx
    simp at this hx2
    omega
  · intro h x hx
    have h2 : ¬ ((!decide (0 ≤ x.1 ∧ x.1 < (N : Int)) || !decide (0 ≤ x.2 ∧ x.2 < (N : Int))) = true) := fun h3 => h ⟨x, hx, h3⟩
    simp at h2 ⊢
    omega

end Go.Proofs.YtenfkejbndifdaaGreatDoor

namespace Go.Proofs.YtenfkejbndifdaaGreatDoor
set_option linter.unusedVariables false
set_option linter.unusedSimpArgs false
open Go Go.RowKit

theorem rowOf_open {α : Type} {enc : α → Value} {B : Nat} {v : Value} {l : List α} {W : World} (h : RowOf enc B v l W) :
    ∃ ao cap, v = .slice ao l.length cap ∧ ∀ i x, l[i]? = some x → ∃ b off, ao = some ⟨b, off, none⟩ ∧ b < B ∧ W.cell? ⟨b, off + i, none⟩ = some (enc x) := by
  rcases h with ⟨rfl, a, c, rfl⟩ | ⟨b, off, cap, rfl, hb, h⟩
  · exact ⟨a, c, rfl, fun i x hx => by simp at hx⟩
  · exact ⟨_, cap, rfl, fun i x hx => ⟨b, off, rfl, hb, h i x hx⟩⟩
theorem rowOf_mk {α : Type} {enc : α → Value} {B : Nat} {l : List α} {W : World} {ao : Option Addr} {cap : Nat} (h : ∀ i x, l[i]? = some x → ∃ b off, ao = some ⟨b, off, none⟩ ∧ b < B ∧ W.cell? ⟨b, off + i, none⟩ = some (enc x)) : RowOf enc B (.slice ao l.length cap) l W := by
  cases l with
  | nil => exact .inl ⟨rfl, _, _, rfl⟩
  | cons y l =>
    obtain ⟨b, off, rfl, hb, h0⟩ := h 0 y rfl
    refine .inr ⟨b, off, cap, rfl, hb, fun i x hx => ?_⟩
    obtain ⟨b', off', e, _, h1⟩ := h i x hx
    cases e
    exact h1

/-- a predicate over numbers that leaves what was there. -/
def PredI (g : Nat) (lb : Array Value) (es : List (Int)) (p : Int → Bool) (w : World) : Prop :=
  ∀ (W : World) (x : Int), x ∈ es → Below w.heap.size w W → Calls Tryz.prog g (#[intC x] ++ lb) W fun e w' => e = .returned (.bool (p x)) ∧ Below w.heap.size w w'

set_option maxRecDepth 100000 in
set_option maxHeartbeats 2000000 in
theorem idx_int (g : Nat) (lb : Array Value) (eg : ∀ args w, (callFunc g args).run Tryz.prog w = .ok (.enter g args) w) (p : Int → Bool) (v : Value) (es : List (Int)) (w : World) (hes : es.length ≤ 1000000000) (hE : RowOf intC w.heap.size v es w) (hp : PredI g lb es p w) :
    Calls Tryz.prog 52 #[v, .func (.func g) #[] lb] w fun e w' => ∃ r : Int, e = .returned (.int .i64 r) ∧ (0 ≤ r ↔ es.any p = true) ∧ Below w.heap.size w w' := by
  obtain ⟨ao, ec, rfl, hE2⟩ := rowOf_open hE
  have HE := Lib.hid hE2
  have HP := Lib.hid hp
  clear hE hE2 hp
  go_enter Tryz.func52, Tryz.ntmps52
  go_wp2
  go_loopw [8] (fun s wr => ∃ k : Nat, k ≤ es.length ∧ s = .int .i64 k ∧ Hid (Below w.heap.size w wr) ∧ Hid (∀ x ∈ es.take k, p x = false)) (fun s _ => es.length - (intOf s).toNat)
  case atStart => exact ⟨0, by omega, rfl, Lib.hid (Below.refl _ _), Lib.hid (by simp)⟩
  case round =>
    obtain ⟨k, hk, rfl, HB, HA⟩ := hrel
    by_cases hlt : k < es.length
    · have hlt2 : (k : Int) < (es.length : Int) := by omega
      obtain ⟨b, off, rfl, hb, hc1⟩ := HE.out k es[k] (by simp [hlt])
      have hc1 := (HB.out.cell (p := ⟨b, off + k, none⟩) hb).trans hc1
      have HT : Hid (es.take (k + 1) = es.take k ++ [es[k]]) := Lib.hid (List.take_succ_eq_append_getElem hlt)
      have hcall := HP.out wr es[k] (List.getElem_mem hlt) HB.out
      have HM : Hid (es[k] ∈ es) := Lib.hid (List.getElem_mem hlt)
      generalize es[k] = x at *
      cases hq : p x with
      | true =>
        rw [hq] at hcall
        have HQ := Lib.hid hq
        clear hq
        go_wp2_with (go_at_fn g; refine hcall.mono ?_; rintro e w' ⟨rfl, hb'⟩)
        go_ret
        exact ⟨_, rfl, ⟨fun _ => by rw [List.any_eq_true]; exact ⟨x, HM.out, HQ.out⟩, fun _ => by omega⟩, hb'⟩
      | false =>
        rw [hq] at hcall
        have HQ := Lib.hid hq
        clear hq
        go_wp2_with (go_at_fn g; refine hcall.mono ?_; rintro e w' ⟨rfl, hb'⟩)
        go_roundw
        case rel =>
          refine ⟨k + 1, by omega, by go_num, Lib.hid hb', Lib.hid ?_⟩
          rw [HT.out]
          intro y hy
          rcases List.mem_append.1 hy with hy | hy
          · exact HA.out y hy
          · rw [List.mem_singleton] at hy; rw [hy]; exact HQ.out
        case measure => simp [intOf]; omega
    · have hkk : k = es.length := by omega
      subst hkk
      rw [List.take_length] at HA
      go_wp2
      go_ret
      refine ⟨-1, rfl, ⟨fun h => by omega, fun h => ?_⟩, HB.out⟩
      rw [List.any_eq_true] at h
      obtain ⟨x, hx, hpx⟩ := h
      rw [HA.out x hx] at hpx
      cases hpx

theorem has_int (g : Nat) (lb : Array Value) (eg : ∀ args w, (callFunc g args).run Tryz.prog w = .ok (.enter g args) w) (p : Int → Bool) (v : Value) (es : List (Int)) (w : World) (hes : es.length ≤ 1000000000) (hE : RowOf intC w.heap.size v es w) (hp : PredI g lb es p w) :
    Calls Tryz.prog 55 #[v, .func (.func g) #[] lb] w fun e w' => e = .returned (.bool (es.any p)) ∧ Below w.heap.size w w' := by
  have hi := idx_int g lb eg p v es w hes hE hp
  generalize es.any p = q at hi ⊢
  have HI := Lib.hid hi
  obtain ⟨ao, ec, rfl, _⟩ := rowOf_open hE
  clear hp eg hi
  go_enter Tryz.func55, Tryz.ntmps55
  go_wp2_with fail
  refine HI.out.mono ?_
  rintro e w' ⟨r, rfl, hr, hb⟩
  cases q with
  | true =>
    have h0 : 0 ≤ r := hr.2 rfl
    clear hr
    go_wp2
    go_ret
    exact ⟨rfl, hb⟩
  | false =>
    have h0 : ¬ 0 ≤ r := fun h => by have := hr.1 h; cases this
    have h1 : decide (0 ≤ r) = false := decide_eq_false h0
    have h2 : r < 0 := by omega
    clear hr
    go_wp2
    go_ret
    exact ⟨rfl, hb⟩


theorem any_not {α : Type} (l : List α) (p : α → Bool) : (l.any fun x => !p x) = !l.all p := by
  induction l with
  | nil => rfl
  | cons x l ih => simp [ih, Bool.not_and]

end Go.Proofs.YtenfkejbndifdaaGreatDoor

namespace Go.Proofs.YtenfkejbndifdaaGreatDoor
set_option linter.unusedVariables false
set_option linter.unusedSimpArgs false
open Go Go.RowKit

/-- the edges of the reversed graph. -/
def revE (n : Nat) (es : List (Int × Int)) : List (Int × Int) := if validG n es = true then es.map swapE else []
def revN {α : Type} (ns : List α) (es : List (Int × Int)) : List α := if validG ns.length es = true then ns else []
/-- the cells of edges. -/
def edgeCells (es : List (Int × Int)) : List Value := es.flatMap fun x => [intC x.1, intC x.2]
theorem edgeCells_snoc (es : List (Int × Int)) (x : Int × Int) : edgeCells (es ++ [x]) = edgeCells es ++ [intC x.1, intC x.2] := by unfold edgeCells; rw [List.flatMap_append]; rfl
theorem edgeCells_length (es : List (Int × Int)) : (edgeCells es).length = es.length * 2 := by
  induction es with
  | nil => rfl
  | cons x es ih => show (intC x.1 :: intC x.2 :: edgeCells es).length = _; simp [ih]; omega
theorem edgeCells_get (es : List (Int × Int)) (i : Nat) (x : Int × Int) (h : es[i]? = some x) : (edgeCells es)[i * 2]? = some (intC x.1) ∧ (edgeCells es)[i * 2 + 1]? = some (intC x.2) := by
  induction es generalizing i with
  | nil => simp at h
  | cons y es ih =>
    cases i with
    | zero => simp at h; subst h; exact ⟨rfl, rfl⟩
    | succ i =>
      have := ih i (by simpa using h)
      have e : ∀ j, (edgeCells (y :: es))[j + 2]? = (edgeCells es)[j]? := fun j => rfl
      rw [show (i + 1) * 2 = i * 2 + 2 by omega, show i * 2 + 2 + 1 = (i * 2 + 1) + 2 by omega, e, e]
      exact this
theorem own_edges {W : World} {B n : Nat} {v : Value} {es : List (Int × Int)} (h : W.ownsRow B 149 2 v n (edgeCells es)) : EdgesOf W.heap.size v es W := by
  have hl : n = es.length := by have := h.1; rw [edgeCells_length] at this; omega
  subst hl
  rcases h.2 with ⟨rfl, h0⟩ | ⟨g, cap, cur, rfl, hb, hg, hc, _⟩
  · obtain rfl := List.length_eq_zero_iff.1 h0
    exact ⟨none, 0, rfl, fun i x hx => by simp at hx⟩
  · refine ⟨_, cap, rfl, fun i x hx => ⟨g, 0, rfl, (Array.getElem?_eq_some_iff.1 hg).1, ?_, ?_⟩⟩
    · have hi := (List.getElem?_eq_some_iff.1 hx).1
      rw [Nat.zero_add, h.cellAt (i * 2) (by omega)]
      exact (edgeCells_get es i x hx).1
    · have hi := (List.getElem?_eq_some_iff.1 hx).1
      rw [Nat.zero_add, h.cellAt (i * 2 + 1) (by omega)]
      exact (edgeCells_get es i x hx).2
theorem info_edges : (Tryz.prog.info? 149).map (fun i => (i.zero, i.size, i.bytes)) = some (some (.agg #[.int .i64 0, .int .i64 0]), 2, 16) := by kernel_rfl

theorem set_two {W : World} {g t : Nat} {x y x' y' : Value} (h : W.heap[g]? = some (.cells #[x, y] t (0, 0))) : ((W.setCell ⟨g, 0, none⟩ x').setCell ⟨g, 1, none⟩ y').heap[g]? = some (.cells #[x', y'] t (0, 0)) := by
  have h1 := heap_setCell_same W g 0 #[x, y] t x' h
  exact heap_setCell_same _ g 1 _ t y' h1
end Go.Proofs.YtenfkejbndifdaaGreatDoor
