/- The index's clone and Find. The index's Find. slices.Sort and slices.Compact at a row of the call's own. Contract of the graph's newSuccessors. -/
import Derived.Test.YtenfkejbndifdaaGreatDoorUK
import Derived.Test.YtenfkejbndifdaaGreatDoorUC
import Derived.Test.YtenfkejbndifdaaGreatDoorUD
import Derived.Test.YtenfkejbndifdaaGreatDoorQShelf
import Derived.Test.YtenfkejbndifdaaGreatDoorUF
import Derived.Deep.OwnRows
import Derived.Outline
import Derived.Shelf.GgClosure.Gives
import Derived.Test.YtenfkejbndifdaaGreatDoorUJ
namespace Go.Proofs.YtenfkejbndifdaaGreatDoor
set_option linter.unusedVariables false
set_option linter.unusedSimpArgs false
open Go Go.RowKit Go.Maps

theorem own_on {B : Nat} {e : TypeId} {c : Nat} {v : Value} {n : Nat} {xs : List Value} {W W' : World} (h : W.ownsRow B e c v n xs) (hb : RowKit.Below W.heap.size W W') : W'.ownsRow B e c v n xs := by
  obtain ⟨hl, h | ⟨g, cap, cur, rfl, h1, h2, h3⟩⟩ := h
  · exact ⟨hl, .inl h⟩
  · exact ⟨hl, .inr ⟨g, cap, cur, rfl, h1, (hb.block g (Array.getElem?_eq_some_iff.1 h2).1).trans h2, h3⟩⟩
theorem own_lo {B : Nat} {e : TypeId} {c : Nat} {v : Value} {n : Nat} {xs : List Value} {W : World} (h : W.ownsRow B e c v n xs) : ∀ b, v.ownBlock = some b → B ≤ b ∧ b < W.heap.size ∧ ∃ cs, W.heap[b]? = some (.cells cs e (0, 0)) := fun b hb => by
  obtain ⟨hl, ⟨rfl, _⟩ | ⟨g, cap, cur, rfl, h1, h2, h3⟩⟩ := h
  · cases hb
  · simp [Value.ownBlock] at hb
    subst hb
    exact ⟨h1, (Array.getElem?_eq_some_iff.1 h2).1, cur, h2⟩
theorem own_apart {B B' : Nat} {e e' : TypeId} {c c' : Nat} {v v' : Value} {n n' : Nat} {xs xs' : List Value} {W : World} (h : W.ownsRow B e c v n xs) (h' : W.ownsRow B' e' c' v' n' xs') (hne : e ≠ e') : v.ownBlock = none ∨ v.ownBlock ≠ v'.ownBlock := by
  cases hv : v.ownBlock with
  | none => exact .inl rfl
  | some b =>
    refine .inr fun hb => ?_
    obtain ⟨_, _, cs, h1⟩ := own_lo h b hv
    obtain ⟨_, _, cs', h2⟩ := own_lo h' b hb.symm
    rw [h1] at h2
    injection h2 with h2
    injection h2 with _ h2
    exact hne h2
def setRel (W : World) (g : Nat) (x : RelL) (r : Value) : World := ((((((((W.setCell ⟨g, 0, none⟩ (.string x.path)).setCell ⟨g, 1, none⟩ (.int .i64 x.ver.1)).setCell ⟨g, 2, none⟩ (.int .i64 x.ver.2.1)).setCell ⟨g, 3, none⟩ (.int .i64 x.ver.2.2)).setCell ⟨g, 4, none⟩ r).setCell ⟨g, 5, none⟩ (.string x.ar)).setCell ⟨g, 6, none⟩ (.string x.ifc)).setCell ⟨g, 7, none⟩ (.string x.cert)).setCell ⟨g, 8, none⟩ (.bool x.yk)
theorem setRel_box {W : World} {g : Nat} {t : TypeId} {c0 c1 c2 c3 c4 c5 c6 c7 c8 : Value} (x : RelL) (r : Value) (h0 : W.heap[g]? = some (.cells #[c0, c1, c2, c3, c4, c5, c6, c7, c8] t (0, 0))) : (setRel W g x r).heap[g]? = some (.cells (relC x r) t (0, 0)) := by
  have h1 := heap_setCell_same _ g 0 #[c0, c1, c2, c3, c4, c5, c6, c7, c8] t (.string x.path) h0
  have h2 := heap_setCell_same _ g 1 #[.string x.path, c1, c2, c3, c4, c5, c6, c7, c8] t (.int .i64 x.ver.1) h1
  have h3 := heap_setCell_same _ g 2 #[.string x.path, .int .i64 x.ver.1, c2, c3, c4, c5, c6, c7, c8] t (.int .i64 x.ver.2.1) h2
  have h4 := heap_setCell_same _ g 3 #[.string x.path, .int .i64 x.ver.1, .int .i64 x.ver.2.1, c3, c4, c5, c6, c7, c8] t (.int .i64 x.ver.2.2) h3
  have h5 := heap_setCell_same _ g 4 #[.string x.path, .int .i64 x.ver.1, .int .i64 x.ver.2.1, .int .i64 x.ver.2.2, c4, c5, c6, c7, c8] t (r) h4
  have h6 := heap_setCell_same _ g 5 #[.string x.path, .int .i64 x.ver.1, .int .i64 x.ver.2.1, .int .i64 x.ver.2.2, r, c5, c6, c7, c8] t (.string x.ar) h5
  have h7 := heap_setCell_same _ g 6 #[.string x.path, .int .i64 x.ver.1, .int .i64 x.ver.2.1, .int .i64 x.ver.2.2, r, .string x.ar, c6, c7, c8] t (.string x.ifc) h6
  have h8 := heap_setCell_same _ g 7 #[.string x.path, .int .i64 x.ver.1, .int .i64 x.ver.2.1, .int .i64 x.ver.2.2, r, .string x.ar, .string x.ifc, c7, c8] t (.string x.cert) h7
  have h9 := heap_setCell_same _ g 8 #[.string x.path, .int .i64 x.ver.1, .int .i64 x.ver.2.1, .int .i64 x.ver.2.2, r, .string x.ar, .string x.ifc, .string x.cert, c8] t (.bool x.yk) h8
  exact h9
theorem grownBy_setC (W : World) (g j : Nat) (v : Value) : W.grownBy (W.setCell ⟨g, j, none⟩ v) (some g) :=
  ⟨rfl, rfl, rfl, Nat.le_of_eq (World.size_setCell W _ v).symm, fun k _ hne => heap_setCell_other W ⟨g, j, none⟩ k v (fun e => hne (by rw [e]))⟩
theorem grownBy_tr {a b c : World} {r : Option Nat} (h : a.grownBy b r) (k : b.grownBy c r) : a.grownBy c r :=
  ⟨k.os.trans h.os, k.tape.trans h.tape, k.output.trans h.output, Nat.le_trans h.size k.size, fun i hi hne => (k.block i (Nat.lt_of_lt_of_le hi h.size) hne).trans (h.block i hi hne)⟩
theorem setRel_grown (W : World) (g : Nat) (x : RelL) (r : Value) : W.grownBy (setRel W g x r) (some g) := by
  exact grownBy_tr (grownBy_tr (grownBy_tr (grownBy_tr (grownBy_tr (grownBy_tr (grownBy_tr (grownBy_tr (grownBy_setC _ _ _ _) (grownBy_setC _ _ _ _)) (grownBy_setC _ _ _ _)) (grownBy_setC _ _ _ _)) (grownBy_setC _ _ _ _)) (grownBy_setC _ _ _ _)) (grownBy_setC _ _ _ _)) (grownBy_setC _ _ _ _)) (grownBy_setC _ _ _ _)
theorem rows_reqs {W : World} {B : Nat} {v : Value} {l : List ReqL} {xs : List Value} (h : W.ownsRow B 58 2 v l.length xs) (he : ReqXs W.heap.size l xs W) : ReqsOf W.heap.size v l W := by
  obtain ⟨hl, ⟨rfl, h0⟩ | ⟨g, cap, cur, rfl, h1, h2, h3, h4, h5, h6⟩⟩ := h
  · obtain rfl := List.length_eq_zero_iff.1 h0
    exact ⟨none, 0, rfl, fun i q hq => by simp at hq⟩
  · refine ⟨_, cap, rfl, fun i q hq => ?_⟩
    obtain ⟨r, g1, g2, g3⟩ := he i q hq
    have hi := (List.getElem?_eq_some_iff.1 hq).1
    have key : ∀ j u, xs[j]? = some u → W.cell? ⟨g, j, none⟩ = some u := fun j u hu => by
      have hj := (List.getElem?_eq_some_iff.1 hu).1
      rw [cell_of_row _ _ _ _ _ _ h2, ← hu, ← h6, List.getElem?_take, if_pos (by omega)]
      simp
    exact ⟨g, 0, r, rfl, (Array.getElem?_eq_some_iff.1 h2).1, by rw [Nat.zero_add]; exact key _ _ g1, by rw [Nat.zero_add]; exact key _ _ g2, g3⟩
def ReqRows (B : Nat) (v : Value) (l : List ReqL) (W : World) : Prop := ∃ xs, W.ownsRow B 58 2 v l.length xs ∧ ∀ i q, l[i]? = some q → ∃ sv, xs[i * 2]? = some (.string q.1) ∧ xs[i * 2 + 1]? = some sv ∧ W.ownsRow B 133 2 sv q.2.length (spanCells q.2)
theorem ReqRows.now {B : Nat} {v : Value} {l : List ReqL} {W : World} (h : ReqRows B v l W) : ReqsOf W.heap.size v l W := by
  obtain ⟨xs, h1, h2⟩ := h
  exact rows_reqs h1 (fun i q hq => by
    obtain ⟨sv, g1, g2, g3⟩ := h2 i q hq
    exact ⟨sv, g1, g2, own_spans g3⟩)
theorem ReqRows.map {B B' : Nat} {v : Value} {l : List ReqL} {W W' : World} (h : ReqRows B v l W) (k : ∀ e c v n xs, e = 58 ∨ e = 133 → W.ownsRow B e c v n xs → W'.ownsRow B' e c v n xs) : ReqRows B' v l W' := by
  obtain ⟨xs, h1, h2⟩ := h
  refine ⟨xs, k _ _ _ _ _ (.inl rfl) h1, fun i q hq => ?_⟩
  obtain ⟨sv, g1, g2, g3⟩ := h2 i q hq
  exact ⟨sv, g1, g2, k _ _ _ _ _ (.inr rfl) g3⟩
theorem ReqRows.grown {B : Nat} {v : Value} {l : List ReqL} {W W' : World} {row : Option Nat} (h : ReqRows B v l W) (hg : W.grownBy W' row) (hr : ∀ b, row = some b → b < B ∨ ∃ cs e, W.heap[b]? = some (.cells cs e (0, 0)) ∧ e ≠ 58 ∧ e ≠ 133) : ReqRows B v l W' := h.map fun e c v n xs he h => h.kept hg (by
  cases hv : v.ownBlock with
  | none => exact .inl rfl
  | some b =>
    refine .inr fun e2 => ?_
    obtain ⟨h1, _, cs, h2⟩ := own_lo h b hv
    rcases hr b e2.symm with h3 | ⟨cs', e', h3, h4, h5⟩
    · omega
    · rw [h2] at h3
      injection h3 with h3
      injection h3 with _ h3
      rcases he with rfl | rfl
      · exact h4 h3.symm
      · exact h5 h3.symm)
structure CloJ (w : World) (x : RelL) (k : Nat) (ov : Value) (xs : List Value) (W : World) : Prop where
  bel : RowKit.Below w.heap.size w W
  size : w.heap.size + 1 < W.heap.size
  box : BoxR W w.heap.size x ov
  res : BoxR W (w.heap.size + 1) default (.slice none 0 0)
  row : W.ownsRow (w.heap.size + 1 + 1) 58 2 ov k xs
  els : ∀ i q, i < k → x.reqs[i]? = some q → ∃ sv, xs[i * 2]? = some (.string q.1) ∧ xs[i * 2 + 1]? = some sv ∧ W.ownsRow (w.heap.size + 1 + 1) 133 2 sv q.2.length (spanCells q.2)
theorem CloJ.below {w : World} {x : RelL} {k : Nat} {ov : Value} {xs : List Value} {W W' : World} (h : CloJ w x k ov xs W) (hb : RowKit.Below W.heap.size W W') : CloJ w x k ov xs W' := by
  obtain ⟨h1, h2, h3, h4, h5, h6⟩ := h
  refine ⟨h1.trans (hb.mono h1.size), Nat.lt_of_lt_of_le h2 hb.size, h3.on hb, h4.on hb, own_on h5 hb, fun i q hi hq => ?_⟩
  obtain ⟨sv, g1, g2, g3⟩ := h6 i q hi hq
  exact ⟨sv, g1, g2, own_on g3 hb⟩
theorem own_mono {B B' : Nat} {e : TypeId} {c : Nat} {v : Value} {n : Nat} {xs : List Value} {W : World} (h : W.ownsRow B e c v n xs) (hB : B' ≤ B) : W.ownsRow B' e c v n xs := by
  obtain ⟨hl, h | ⟨g, cap, cur, rfl, h1, h2⟩⟩ := h
  · exact ⟨hl, .inl h⟩
  · exact ⟨hl, .inr ⟨g, cap, cur, rfl, by omega, h2⟩⟩
theorem own_farM {B : Nat} {e : TypeId} {c : Nat} {v : Value} {n : Nat} {xs : List Value} {W W' : World} {g : Nat} (h : W.ownsRow B e c v n xs) (hg : W.grownBy W' (some g)) (hB : g < B) : W'.ownsRow B e c v n xs := h.kept hg (by
  cases hv : v.ownBlock with
  | none => exact .inl rfl
  | some b => exact .inr (fun e2 => by have := (own_lo h b hv).1; injection e2 with e2; omega))
theorem CloJ.step {w : World} {x : RelL} {k : Nat} {ov v' sv : Value} {xs : List Value} {W5 W6 : World} {q : ReqL} (h : CloJ w x k ov xs W5) (hq : x.reqs[k]? = some q) (hn : W5.ownsRow (w.heap.size + 1 + 1) 133 2 sv q.2.length (spanCells q.2))
    (hown : W6.ownsRow (w.heap.size + 1 + 1) 58 2 v' (k + 1) (xs ++ [.string q.1, sv])) (hg : W5.grownBy W6 ov.ownBlock) : CloJ w x (k + 1) v' (xs ++ [.string q.1, sv]) (W6.setCell ⟨w.heap.size, 4, none⟩ v') := by
  obtain ⟨h1, h2, h3, h4, h5, h6⟩ := h
  have hl := h5.1
  have lo : ∀ b, some b = ov.ownBlock → w.heap.size + 1 < b := fun b hb => by have := (own_lo h5 b hb.symm).1; omega
  have g2 := grownBy_setC W6 w.heap.size 4 v'
  have keep : ∀ v n xs, W5.ownsRow (w.heap.size + 1 + 1) 133 2 v n xs → (W6.setCell ⟨w.heap.size, 4, none⟩ v').ownsRow (w.heap.size + 1 + 1) 133 2 v n xs := fun v n xs hr =>
    own_farM (hr.kept hg (own_apart hr h5 (by decide))) g2 (by omega)
  refine ⟨(h1.grown hg (by omega) (fun b hb => by have := lo b hb.symm; omega)).setCell (by simp) _, by rw [World.size_setCell]; exact Nat.lt_of_lt_of_le h2 hg.size, ?_, ?_, own_farM hown g2 (by omega), fun i q' hi hq' => ?_⟩
  · have hb := (hg.block w.heap.size (by omega) (fun e => by have := lo _ e; omega)).trans h3
    exact heap_setCell_same _ _ 4 _ _ v' hb
  · have hb := (hg.block (w.heap.size + 1) h2 (fun e => by have := lo _ e; omega)).trans h4
    exact (g2.block _ (Nat.lt_of_lt_of_le h2 hg.size) (fun e => by injection e with e; omega)).trans hb
  · by_cases hik : i = k
    · subst hik
      rw [hq] at hq'
      cases hq'
      refine ⟨sv, ?_, ?_, keep _ _ _ hn⟩
      · rw [List.getElem?_append_right (by omega), hl, Nat.sub_self]; rfl
      · rw [List.getElem?_append_right (by omega), hl, show i * 2 + 1 - i * 2 = 1 by omega]; rfl
    · obtain ⟨s0, e1, e2, e3⟩ := h6 i q' (by omega) hq'
      exact ⟨s0, by rw [List.getElem?_append_left (by omega)]; exact e1, by rw [List.getElem?_append_left (by omega)]; exact e2, keep _ _ _ e3⟩
theorem relC_at (x : RelL) (r : Value) : relC x r = #[.string x.path, intC x.ver.1, intC x.ver.2.1, intC x.ver.2.2, r, .string x.ar, .string x.ifc, .string x.cert, .bool x.yk] := rfl
set_option maxRecDepth 100000 in
set_option maxHeartbeats 8000000 in
theorem clone_any (x : RelL) (r : Value) (w : World) (hl : x.reqs.length ≤ 1000000) (hq : ∀ q ∈ x.reqs, q.2.length ≤ 1000000) (hR : ReqsOf w.heap.size r x.reqs w) :
    Calls Tryz.prog 101 #[.agg (relC x r)] w fun e w' => ∃ r', e = .returned (.agg (relC x r')) ∧ ReqRows w.heap.size r' x.reqs w' ∧ RowKit.Below w.heap.size w w' := by
  obtain ⟨ao, cap, rfl, hR⟩ := hR
  have HR := Lib.hid hR
  have HQ := Lib.hid hq
  clear hR hq
  have HB0 : Hid (CloJ w x 0 (.slice none 0 0) [] ((w.alloc (.cells (relC x (.slice none 0 0)) 71)).alloc (.cells (relC default (.slice none 0 0)) 71))) := Lib.hid (by
    refine ⟨((RowKit.Below.refl _ _).alloc (Nat.le_refl _) _).alloc (by simp) _, by simp only [World.size_alloc]; omega, (BoxR.made w x _).on (belQ _ _), ?_, World.ownsRow_nil _ _ _ _, fun i q hi => absurd hi (Nat.not_lt_zero _)⟩
    have := BoxR.made (w.alloc (.cells (relC x (.slice none 0 0)) 71)) default (.slice none 0 0)
    rwa [World.size_alloc] at this)
  have hz : ((default : RelL).path = ⟨#[]⟩ ∧ (default : RelL).ver = (0, 0, 0)) := ⟨rfl, rfl⟩
  simp only [relC_at, show (default : RelL).path = ⟨#[]⟩ from rfl, show (default : RelL).ver = (0, 0, 0) from rfl, show (default : RelL).ar = ⟨#[]⟩ from rfl, show (default : RelL).ifc = ⟨#[]⟩ from rfl, show (default : RelL).cert = ⟨#[]⟩ from rfl, show (default : RelL).yk = false from rfl] at HB0 ⊢
  clear hz
  obtain ⟨i0, hi0, hz0, hz1, hz2⟩ := info_parts info_reqs
  go_enter Tryz.func101, Tryz.ntmps101
  go_upto_region 4 with fail
  generalize (w.alloc (.cells #[.string x.path, intC x.ver.1, intC x.ver.2.1, intC x.ver.2.2, .slice none 0 0, .string x.ar, .string x.ifc, .string x.cert, .bool x.yk] 71)).alloc (.cells #[.string ⟨#[]⟩, .int .i64 0, .int .i64 0, .int .i64 0, .slice none 0 0, .string ⟨#[]⟩, .string ⟨#[]⟩, .string ⟨#[]⟩, .bool false] 71) = W0 at *
  go_loopw [11] (fun p wr => ∃ k : Nat, k ≤ x.reqs.length ∧ p = .int .i64 k ∧ Hid (∃ ov xs, CloJ w x k ov xs wr)) (fun p _ => x.reqs.length - (intOf p).toNat)
  case atStart => exact ⟨0, Nat.zero_le _, rfl, Lib.hid ⟨_, _, HB0.out⟩⟩
  case round =>
    obtain ⟨k, hk, rfl, HE⟩ := hrel
    obtain ⟨ov, xs, hj⟩ := HE.out
    have HJ := Lib.hid hj
    clear HE
    obtain ⟨a0, a1, a2, a3, a4, a5, a6, a7, a8⟩ := hj.box.cells
    clear hj
    by_cases hlt : k < x.reqs.length
    case neg =>
      have hk2 : k = x.reqs.length := by omega
      subst hk2
      obtain ⟨b0, b1, b2, b3, b4, b5, b6, b7, b8⟩ := HJ.out.res.cells
      have F : ∀ j, wr.frozen? ⟨w.heap.size + 1, j, none⟩ = false := fun j => frozen_of_row _ _ j _ _ HJ.out.res
      have f0 := F 0
      have f1 := F 1
      have f2 := F 2
      have f3 := F 3
      have f4 := F 4
      have f5 := F 5
      have f6 := F 6
      have f7 := F 7
      have f8 := F 8
      clear F
      simp only [show (default : RelL).path = ⟨#[]⟩ from rfl, show (default : RelL).ver = (0, 0, 0) from rfl, show (default : RelL).ar = ⟨#[]⟩ from rfl, show (default : RelL).ifc = ⟨#[]⟩ from rfl, show (default : RelL).cert = ⟨#[]⟩ from rfl, show (default : RelL).yk = false from rfl] at b0 b1 b2 b3 b4 b5 b6 b7 b8
      obtain ⟨oa, oc, rfl⟩ : ∃ oa oc, ov = .slice oa x.reqs.length oc := by
        obtain ⟨hl, ⟨rfl, h0⟩ | ⟨g, cap, cur, rfl, _⟩⟩ := HJ.out.row
        · exact ⟨none, 0, by rw [h0]⟩
        · exact ⟨_, _, rfl⟩
      go_wp2_with fail
      have hg := setRel_grown wr (w.heap.size + 1) x (.slice oa x.reqs.length oc)
      have hbox := setRel_box x (.slice oa x.reqs.length oc) HJ.out.res
      have hbel : RowKit.Below w.heap.size w (setRel wr (w.heap.size + 1) x (.slice oa x.reqs.length oc)) := HJ.out.bel.grown hg HJ.out.bel.size (fun b hb => by cases hb; omega)
      have ne : ∀ e c v n xs, wr.ownsRow (w.heap.size + 1 + 1) e c v n xs → (setRel wr (w.heap.size + 1) x (.slice oa x.reqs.length oc)).ownsRow (w.heap.size + 1 + 1) e c v n xs := fun e c v n xs h => h.kept hg (by
        cases hv : v.ownBlock with
        | none => exact .inl rfl
        | some b => exact .inr (fun e2 => by have := (own_lo h b hv).1; injection e2 with e2; omega))
      have hreq : ReqRows w.heap.size (.slice oa x.reqs.length oc) x.reqs (setRel wr (w.heap.size + 1) x (.slice oa x.reqs.length oc)) := by
        refine ⟨xs, own_mono (ne _ _ _ _ _ HJ.out.row) (by omega), fun i q hq => ?_⟩
        obtain ⟨sv, g1, g2, g3⟩ := HJ.out.els i q (List.getElem?_eq_some_iff.1 hq).1 hq
        exact ⟨sv, g1, g2, own_mono (ne _ _ _ _ _ g3) (by omega)⟩
      unfold setRel at hg hbox hbel hreq
      clear hg ne
      refine bodyPost_ret (results_cell_row rfl _ _ (w.heap.size + 1) _ _ _ _ rfl hbox Tryz.underlying71 rfl (by kernel_rfl)) rfl ?_
      exact ⟨.slice oa x.reqs.length oc, rfl, hreq, hbel⟩
    case pos =>
      obtain ⟨b, off, sv, rfl, hbl, d0, d1, hsp⟩ := HR.out k x.reqs[k] (by simp [hlt])
      have hql := HQ.out x.reqs[k] (List.getElem_mem hlt)
      have HXK : Hid (x.reqs[k]? = some x.reqs[k]) := Lib.hid (List.getElem?_eq_getElem hlt)
      generalize x.reqs[k] = q at *
      have HC := Lib.hid (fun W (hb : RowKit.Below w.heap.size w W) => CloneS_any sv q.2 W hql ((hsp.below hb (Nat.le_refl _)).mono hb.size))
      obtain ⟨sa, sc, rfl, _⟩ := hsp
      have hbw : b < wr.heap.size := Nat.lt_of_lt_of_le hbl HJ.out.bel.size
      have d0 := (HJ.out.bel.cell (p := ⟨b, off + k * 2, none⟩) hbl).trans d0
      have d1 := (HJ.out.bel.cell (p := ⟨b, off + k * 2 + 1, none⟩) hbl).trans d1
      have HB1 := Lib.hid (HJ.out.bel.trans ((belQ wr (.cells #[.string q.1, .slice sa q.2.length sc] 58)).mono HJ.out.bel.size))
      have HJ1 := Lib.hid (HJ.out.below (belQ wr (.cells #[.string q.1, .slice sa q.2.length sc] 58)))
      have HN1 := Lib.hid (World.alloc_heap_new wr (.cells #[.string q.1, .slice sa q.2.length sc] 58))
      have HL := Lib.hid hlt
      go_wp2_with fail
      refine (HC.out _ HB1.out).mono ?_
      rintro e w3 ⟨v3, rfl, hrow3, hb3⟩
      have HJ3 := Lib.hid (HJ1.out.below hb3)
      have HN3 := Lib.hid ((hb3.block wr.heap.size (by simp)).trans HN1.out)
      have HR3 := Lib.hid hrow3
      have hs3 := hb3.size
      simp only [World.size_alloc] at hs3
      obtain ⟨va, vc, rfl⟩ : ∃ va vc, v3 = .slice va q.2.length vc := by
        obtain ⟨hl, ⟨rfl, h0⟩ | ⟨g, cap, cur, rfl, _⟩⟩ := hrow3
        · exact ⟨none, 0, by rw [h0]⟩
        · exact ⟨_, _, rfl⟩
      have HG4 : Hid (w3.grownBy (w3.setCell ⟨wr.heap.size, 1, none⟩ (.slice va q.2.length vc)) (some wr.heap.size)) := Lib.hid (grownBy_setC _ _ _ _)
      have HN4 := Lib.hid (heap_setCell_same w3 wr.heap.size 1 _ _ (.slice va q.2.length vc) HN3.out)
      have hg0 : w.heap.size + 1 < wr.heap.size := HJ.out.size
      have F1 : w3.cell? ⟨wr.heap.size, 1, none⟩ = some (.slice sa q.2.length sc) := cell_of_row _ _ 1 _ _ _ HN3.out
      have F2 := frozen_of_row _ _ 1 _ _ HN3.out
      have HJ4 := Lib.hid (HJ.out.below (((belQ wr (.cells #[.string q.1, .slice sa q.2.length sc] 58)).trans (hb3.mono (by simp))).setCell (show wr.heap.size ≤ (⟨wr.heap.size, 1, none⟩ : Addr).block from Nat.le_refl _) (.slice va q.2.length vc)))
      have HR4 : Hid ((w3.setCell ⟨wr.heap.size, 1, none⟩ (.slice va q.2.length vc)).ownsRow (w.heap.size + 1 + 1) 133 2 (.slice va q.2.length vc) q.2.length (spanCells q.2)) := Lib.hid (own_mono (own_farM HR3.out HG4.out (by simp)) (by simp; omega))
      clear hb3 d0 d1 hbw a0 a1 a2 a3 a4 a5 a6 a7 a8
      generalize wr.heap.size = g5 at *
      obtain ⟨e0, e1, e2, e3, e4, e5, e6, e7, e8⟩ := HJ3.out.box.cells
      have F3 := HN4.out
      have F4 : (w3.setCell ⟨g5, 1, none⟩ (.slice va q.2.length vc)).cell? ⟨g5, 0, none⟩ = some (.string q.1) := cell_of_row _ _ 0 _ _ _ HN4.out
      have F5 : (w3.setCell ⟨g5, 1, none⟩ (.slice va q.2.length vc)).cell? ⟨g5, 1, none⟩ = some (.slice va q.2.length vc) := cell_of_row _ _ 1 _ _ _ HN4.out
      clear F3
      go_upto_region 7 with fail
      generalize w3.setCell ⟨g5, 1, none⟩ (.slice va q.2.length vc) = W4 at *
      clear F1 F2 e0 e1 e2 e3 e4 e5 e6 e7 e8
      obtain ⟨e0, e1, e2, e3, e4, e5, e6, e7, e8⟩ := HJ4.out.box.cells
      have f4 := frozen_of_row _ _ 4 _ _ HJ4.out.box
      have HJ5 := Lib.hid (HJ4.out.below (belQ W4 (.cells #[.string q.1, .slice va q.2.length vc] 58)))
      have HR5 := Lib.hid (own_on HR4.out (belQ W4 (.cells #[.string q.1, .slice va q.2.length vc] 58)))
      have HN5 := Lib.hid (World.alloc_heap_new W4 (.cells #[.string q.1, .slice va q.2.length vc] 58))
      have HBX : Hid (∀ w6, (W4.alloc (.cells #[.string q.1, .slice va q.2.length vc] 58)).grownBy w6 ov.ownBlock → BoxR w6 w.heap.size x ov) := Lib.hid (fun w6 hg => (hg.block w.heap.size HJ5.out.box.lt (fun e => by have := (own_lo HJ5.out.row _ e.symm).1; omega)).trans HJ5.out.box)
      have hz5 : w.heap.size + 1 + 1 ≤ (W4.alloc (.cells #[.string q.1, .slice va q.2.length vc] 58)).heap.size := HJ5.out.size
      go_wp2_with (at_builtin; refine wpList_append_own _ rfl _ _ 26 rfl (w.heap.size + 1 + 1) 58 i0 _ 2 40 Tryz.underlying26 hi0 hz0 hz1 hz2 rfl (by decide) ov k xs (by rfl) HJ5.out.row ⟨W4.heap.size, 0, none⟩ 1 1 [.string q.1, .slice va q.2.length vc] (by rfl) (by rfl) (World.news_of_block HN5.out) (by simp [Value.oneCell']) (by unfold maxLen; omega) (by omega) hz5 ?_; intro v' w6 hown' hgrow _; have HOW := Lib.hid hown'; have HGR := Lib.hid hgrow; have hbx := HBX.out _ hgrow; have hc6 : w6.cell? ⟨w.heap.size, 4, none⟩ = some ov := cell_of_row _ _ 4 _ _ _ hbx; have hf6 := frozen_of_row _ _ 4 _ _ hbx; clear hown' hgrow hbx; obtain ⟨gg, gc, rfl⟩ := ownsRow_succ HOW.out)
      go_roundw
      case rel => exact ⟨k + 1, by omega, by go_num, Lib.hid ⟨_, _, HJ5.out.step HXK.out HR5.out HOW.out HGR.out⟩⟩
      case measure => simp [intOf]; omega
end Go.Proofs.YtenfkejbndifdaaGreatDoor

namespace Go.Proofs.YtenfkejbndifdaaGreatDoor
set_option linter.unusedVariables false
set_option linter.unusedSimpArgs false
open Go Go.RowKit Go.Maps

def findX (X : List RelL) (y : SelL) : Option RelL := if checkX X = 0 then findR X y else none
def tabX (X : List RelL) : List RelL := if checkX X = 0 then X else []
theorem tabX_ok (X : List RelL) : IdxOk (tabX X) := by
  unfold tabX
  split
  · rename_i h; exact idx_ok h
  · exact ⟨by simp, fun i hi => absurd hi (by simp), fun i j _ hj => absurd hj (by simp)⟩
theorem tabX_find (X : List RelL) (y : SelL) : findX X y = (lookK (tabX X) (tabX X).length y).map fun i => (tabX X).getD i default := by
  rw [← lookK_find (tabX_ok X) y]
  unfold findX tabX
  split
  · rfl
  · rfl
theorem tabX_mem {X : List RelL} {x : RelL} (h : x ∈ tabX X) : x ∈ X := by
  unfold tabX at h
  split at h
  · exact h
  · cases h
theorem TabOf.look {W : World} {B m : Nat} {X : List RelL} (h : TabOf W B m (tabX X)) : ∃ (f : Lit → Option Value) (n : Nat), MapF Tryz.prog 43 W m n f ∧
    ∀ y, SelBd y → (findX X y = none ∧ f (keyS y) = none) ∨ ∃ x r, x ∈ X ∧ findX X y = some x ∧ f (keyS y) = some (.agg (relC x r)) ∧ ReqsOf B r x.reqs W := by
  obtain ⟨f, rv, n, h1, h2, h3⟩ := h
  refine ⟨f, n, h1, fun y hy => ?_⟩
  rw [tabX_find, h2 y hy]
  cases hk : lookK (tabX X) (tabX X).length y with
  | none => exact .inl ⟨rfl, rfl⟩
  | some i =>
    have hi := (lookK_some hk).1
    refine .inr ⟨(tabX X).getD i default, rv i, tabX_mem ?_, rfl, rfl, h3 i hi⟩
    rw [List.getD_eq_getElem?_getD, List.getElem?_eq_getElem hi]
    exact List.getElem_mem hi
def FindR (w : World) (o : Option RelL) (e : Ending) (w' : World) : Prop := ∃ r', e = .returned (.tuple #[.agg (relC (o.getD default) r'), .bool o.isSome]) ∧ ReqRows w.heap.size r' (o.getD default).reqs w' ∧ RowKit.Below w.heap.size w w'
def zeroR : Value := .agg #[.string ⟨#[]⟩, .int .i64 0, .int .i64 0, .int .i64 0, .slice none 0 0, .string ⟨#[]⟩, .string ⟨#[]⟩, .string ⟨#[]⟩, .bool false]
set_option maxRecDepth 100000 in
set_option maxHeartbeats 8000000 in
theorem Find_any (v iv : Value) (X : List RelL) (y : SelL) (w : World) (hm : MaxOk w) (hX : X.length ≤ 1000000) (hq : ∀ x ∈ X, RelBd x) (hR : RelsOf w.heap.size v X w) (hy : SelBd y) :
    Calls Tryz.prog 44 #[.agg #[v, iv], .string y.1, .agg #[intC y.2.1, intC y.2.2.1, intC y.2.2.2]] w (FindR w (findX X y)) := by
  have HN := Lib.hid (fun W (hb : RowKit.Below w.heap.size w W) => newTable_any v iv X W (hm.below hb hm.pos) hX hq ((hR.below hb (Nat.le_refl _)).mono hb.size))
  have HQ := Lib.hid hq
  clear hm hR hq
  obtain ⟨o, ho⟩ : ∃ o, findX X y = o := ⟨_, rfl⟩
  have HO := Lib.hid ho
  rw [ho]
  clear ho
  have hget : ∀ (w : World) (o : Obj) (k : Nat), (w.alloc o).heap[k]? = if k = w.heap.size then some o else w.heap[k]? := fun w o k => by
    show (w.heap.push o)[k]? = _
    rw [Array.getElem?_push]
  have HG : Hid ((((w.alloc (.cells #[v, iv] 25)).alloc (.cells #[intC y.2.1, intC y.2.2.1, intC y.2.2.2] 41)).alloc (.cells #[.string ⟨#[]⟩, .int .i64 0, .int .i64 0, .int .i64 0, .slice none 0 0, .string ⟨#[]⟩, .string ⟨#[]⟩, .string ⟨#[]⟩, .bool false] 71)).heap[w.heap.size]? = some (.cells #[v, iv] 25 (0, 0)) ∧
      (((w.alloc (.cells #[v, iv] 25)).alloc (.cells #[intC y.2.1, intC y.2.2.1, intC y.2.2.2] 41)).alloc (.cells #[.string ⟨#[]⟩, .int .i64 0, .int .i64 0, .int .i64 0, .slice none 0 0, .string ⟨#[]⟩, .string ⟨#[]⟩, .string ⟨#[]⟩, .bool false] 71)).heap[w.heap.size + 1]? = some (.cells #[intC y.2.1, intC y.2.2.1, intC y.2.2.2] 41 (0, 0)) ∧
      BoxR (((w.alloc (.cells #[v, iv] 25)).alloc (.cells #[intC y.2.1, intC y.2.2.1, intC y.2.2.2] 41)).alloc (.cells #[.string ⟨#[]⟩, .int .i64 0, .int .i64 0, .int .i64 0, .slice none 0 0, .string ⟨#[]⟩, .string ⟨#[]⟩, .string ⟨#[]⟩, .bool false] 71)) (w.heap.size + 1 + 1) default (.slice none 0 0)) := Lib.hid (by
    refine ⟨?_, ?_, ?_⟩
    · simp only [hget, World.size_alloc]; repeat (first | rw [if_pos trivial] | rw [if_neg (by omega)] | rw [if_pos (by omega)])
    · simp only [hget, World.size_alloc]; repeat (first | rw [if_pos trivial] | rw [if_neg (by omega)] | rw [if_pos (by omega)])
    · unfold BoxR
      simp only [hget, World.size_alloc]; repeat (first | rw [if_pos trivial] | rw [if_neg (by omega)] | rw [if_pos (by omega)])
      rfl)
  have HBW : Hid (RowKit.Below w.heap.size w (((w.alloc (.cells #[v, iv] 25)).alloc (.cells #[intC y.2.1, intC y.2.2.1, intC y.2.2.2] 41)).alloc (.cells #[.string ⟨#[]⟩, .int .i64 0, .int .i64 0, .int .i64 0, .slice none 0 0, .string ⟨#[]⟩, .string ⟨#[]⟩, .string ⟨#[]⟩, .bool false] 71))) := Lib.hid (by repeat (first | exact Below.refl _ _ | refine Below.drew ?_ | refine Below.alloc ?_ (by simp <;> omega) _ | refine Below.setCell ?_ (by simp <;> omega) _))
  have hws : w.heap.size + 1 + 1 < (((w.alloc (.cells #[v, iv] 25)).alloc (.cells #[intC y.2.1, intC y.2.2.1, intC y.2.2.2] 41)).alloc (.cells #[.string ⟨#[]⟩, .int .i64 0, .int .i64 0, .int .i64 0, .slice none 0 0, .string ⟨#[]⟩, .string ⟨#[]⟩, .string ⟨#[]⟩, .bool false] 71)).heap.size := by simp only [World.size_alloc]; omega
  clear hget
  go_enter Tryz.func44, Tryz.ntmps44
  go_upto_region 1 with fail
  generalize ((w.alloc (.cells #[v, iv] 25)).alloc (.cells #[intC y.2.1, intC y.2.2.1, intC y.2.2.2] 41)).alloc (.cells #[.string ⟨#[]⟩, .int .i64 0, .int .i64 0, .int .i64 0, .slice none 0 0, .string ⟨#[]⟩, .string ⟨#[]⟩, .string ⟨#[]⟩, .bool false] 71) = W at *
  have c0 : W.cell? ⟨w.heap.size, 0, none⟩ = some v := cell_of_row _ _ 0 _ _ _ HG.out.1
  have c1 : W.cell? ⟨w.heap.size, 1, none⟩ = some iv := cell_of_row _ _ 1 _ _ _ HG.out.1
  go_wp2_with fail
  refine (HN.out _ HBW.out).mono ?_
  rintro e w1 ⟨m1, m2, rfl, hb1, hm1, ht1⟩
  have HB1 := Lib.hid (HBW.out.trans (hb1.mono HBW.out.size))
  have hs1 := hb1.size
  have HV1 := Lib.hid ((hb1.block (w.heap.size + 1) (by omega)).trans HG.out.2.1)
  have HZ1 := Lib.hid (HG.out.2.2.on hb1)
  have HT1 : Hid (TabOf w1 W.heap.size m1 (tabX X)) := Lib.hid ht1
  clear hb1 ht1 c0 c1 HG HBW
  have HT2 := Lib.hid (HT1.out.below (belQ w1 (.cells #[.map (some m1), .map (some m2)] 138)) hs1)
  have HN2 := Lib.hid (World.alloc_heap_new w1 (.cells #[.map (some m1), .map (some m2)] 138))
  have HV2 := Lib.hid (((belQ w1 (.cells #[.map (some m1), .map (some m2)] 138)).block (w.heap.size + 1) (by omega)).trans HV1.out)
  have HZ2 := Lib.hid (HZ1.out.on (belQ w1 (.cells #[.map (some m1), .map (some m2)] 138)))
  have HB2 := Lib.hid (HB1.out.trans ((belQ w1 (.cells #[.map (some m1), .map (some m2)] 138)).mono HB1.out.size))
  go_upto_region 2 with fail
  generalize hW2 : w1.alloc (.cells #[.map (some m1), .map (some m2)] 138) = W2 at *
  have hs2 : w1.heap.size < W2.heap.size := by rw [← hW2]; simp
  clear hW2
  have t0 : W2.cell? ⟨w1.heap.size, 0, none⟩ = some (.map (some m1)) := cell_of_row _ _ 0 _ _ _ HN2.out
  have v0 : W2.cell? ⟨w.heap.size + 1, 0, none⟩ = some (intC y.2.1) := cell_of_row _ _ 0 _ _ _ HV2.out
  have v1 : W2.cell? ⟨w.heap.size + 1, 1, none⟩ = some (intC y.2.2.1) := cell_of_row _ _ 1 _ _ _ HV2.out
  have v2 : W2.cell? ⟨w.heap.size + 1, 2, none⟩ = some (intC y.2.2.2) := cell_of_row _ _ 2 _ _ _ HV2.out
  obtain ⟨f, n, hmf, hlk⟩ := HT2.out.look
  have HLK := Lib.hid (hlk y hy)
  have HMF := Lib.hid hmf
  have HKY := Lib.hid (keyS_of hy)
  clear hlk hmf
  have HZR := Lib.hid (show ∀ W, (zeroValue 71).run Tryz.prog W = .ok zeroR W from Tryz.zeroValue71)
  obtain ⟨x, r, e1, e2, e3, e4, e5, e6⟩ : ∃ x r, (f (keyS y)).getD zeroR = .agg (relC x r) ∧ (f (keyS y)).isSome = o.isSome ∧ o.getD default = x ∧ ReqsOf W.heap.size r x.reqs W2 ∧ x.reqs.length ≤ 1000000 ∧ ∀ q ∈ x.reqs, q.2.length ≤ 1000000 := by
    rcases HLK.out with ⟨l1, l2⟩ | ⟨x, r, l1, l2, l3, l4⟩
    · rw [HO.out] at l1
      subst l1
      exact ⟨default, .slice none 0 0, by rw [l2]; rfl, by rw [l2]; rfl, rfl, ⟨none, 0, rfl, fun i q hq => by cases hq⟩, Nat.zero_le _, fun q hq => by cases hq⟩
    · rw [HO.out] at l2
      subst l2
      exact ⟨x, r, by rw [l3]; rfl, by rw [l3]; rfl, rfl, l4, (HQ.out x l1).len, fun q hq => ((HQ.out x l1).reqs q hq).2⟩
  have HE3 := Lib.hid e3
  obtain ⟨ob, hob⟩ : ∃ ob, o.isSome = ob := ⟨_, rfl⟩
  rw [hob] at e2
  have HOB := Lib.hid hob
  have hlt : W.heap.size ≤ W2.heap.size := by omega
  have HB3 := Lib.hid ((belQ W2 (.cells (relC x r) 71)))
  have HC := Lib.hid (clone_any x r (W2.alloc (.cells (relC x r) 71)) e5 e6 ((e4.below HB3.out hlt).mono (by simp; omega)))
  have HZ3 := Lib.hid (HZ2.out.on HB3.out)
  obtain ⟨ra, rc, rfl, _⟩ := e4
  clear e3 e5 e6 hob HLK
  simp only [relC_at] at e1 HC HZ3 HB3
  go_wp2_with (at_lookup; refine wpList_look_ok_F rfl _ _ 135 rfl 43 71 lawSel Tryz.underlying135 (HZR.out _) m1 n f (by rfl) HMF.out _ (keyS y) rfl HKY.out ?_; rw [e1, e2])
  refine HC.out.mono ?_
  rintro e w4 ⟨r', rfl, hr4, hb4⟩
  have HB4 := Lib.hid (HB2.out.trans ((HB3.out.trans (hb4.mono (by simp))).mono HB2.out.size))
  have HR4 := Lib.hid hr4
  have hbox := HZ3.out.on hb4
  have HBX := Lib.hid hbox
  obtain ⟨b0, b1, b2, b3, b4, b5, b6, b7, b8⟩ := hbox.cells
  have F : ∀ j, w4.frozen? ⟨w.heap.size + 1 + 1, j, none⟩ = false := fun j => frozen_of_row _ _ j _ _ hbox
  have f0 := F 0
  have f1 := F 1
  have f2 := F 2
  have f3 := F 3
  have f4 := F 4
  have f5 := F 5
  have f6 := F 6
  have f7 := F 7
  have f8 := F 8
  have hs4 := hb4.size
  clear F hbox hb4 t0 v0 v1 v2
  simp only [show (default : RelL).path = ⟨#[]⟩ from rfl, show (default : RelL).ver = (0, 0, 0) from rfl, show (default : RelL).ar = ⟨#[]⟩ from rfl, show (default : RelL).ifc = ⟨#[]⟩ from rfl, show (default : RelL).cert = ⟨#[]⟩ from rfl, show (default : RelL).yk = false from rfl] at b0 b1 b2 b3 b4 b5 b6 b7 b8
  obtain ⟨qa, qc, rfl, _⟩ := hr4.now
  have hg := setRel_grown w4 (w.heap.size + 1 + 1) x (.slice qa x.reqs.length qc)
  have hbx := setRel_box x (.slice qa x.reqs.length qc) HBX.out
  have hb5 : RowKit.Below w.heap.size w (setRel w4 (w.heap.size + 1 + 1) x (.slice qa x.reqs.length qc)) := HB4.out.grown hg HB4.out.size (fun b hb => by cases hb; omega)
  have hr5 : ReqRows w.heap.size (.slice qa x.reqs.length qc) x.reqs (setRel w4 (w.heap.size + 1 + 1) x (.slice qa x.reqs.length qc)) := (HR4.out.grown hg (fun g hg => .inl (by cases hg; simp; omega))).map (fun _ _ _ _ _ _ h => own_mono h (by simp; omega))
  have HS1 := Lib.hid hbx
  have HS2 := Lib.hid hb5
  have HS3 := Lib.hid hr5
  unfold setRel at HS1 HS2 HS3
  clear hg hbx hb5 hr5
  go_wp2_with fail
  refine bodyPost_ret (results_cell_tmp rfl _ _ (w.heap.size + 1 + 1) _ _ _ _ rfl HS1.out Tryz.underlying71 rfl (by kernel_rfl)) rfl ?_
  refine ⟨.slice qa x.reqs.length qc, by rw [HE3.out, HOB.out]; rfl, ?_, HS2.out⟩
  rw [HE3.out]
  exact HS3.out
end Go.Proofs.YtenfkejbndifdaaGreatDoor

namespace Go.Proofs.YtenfkejbndifdaaGreatDoor
set_option linter.unusedVariables false
set_option linter.unusedSimpArgs false
open Go Go.RowKit Go.Sort


theorem sort_row (B : Nat) (v : Value) (l : List Int) (w : World) (h : w.ownsRow B 3 1 v l.length (l.map intC)) (hl : l.length ≤ 1000000000) :
    Calls Tryz.prog 104 #[v] w fun e w' => e = .returned (.tuple #[]) ∧ w.grownBy w' v.ownBlock ∧ w'.ownsRow B 3 1 v (l.mergeSort fun x y => decide (x ≤ y)).length ((l.mergeSort fun x y => decide (x ≤ y)).map intC) := by
  have hlen : (l.mergeSort fun x y => decide (x ≤ y)).length = l.length := List.length_mergeSort l
  rcases h.2 with ⟨rfl, h0⟩ | ⟨g, cap, cur, rfl, hb, hg, hc, hcm, hcs, ht⟩
  · obtain rfl : l = [] := List.length_eq_zero_iff.1 h0
    refine (Tryz.slices_Sort_int_none none 0 w).mono ?_
    rintro e w' ⟨rfl, rfl⟩
    exact ⟨rfl, World.grownBy.refl _ _, by simpa using World.ownsRow_nil _ _ _ _⟩
  · refine (Tryz.slices_Sort_int g 0 cap l w (holds_of_blockI hg (by simpa using ht)) (Array.getElem?_eq_some_iff.1 hg).1 (by omega)).mono ?_
    rintro e w' ⟨rfl, n, os, rfl⟩
    refine ⟨rfl, grownBy_sortedI _, ?_⟩
    rw [hlen]
    exact ownsRow_sortedI hlen hb hg hc hcm hcs

end Go.Proofs.YtenfkejbndifdaaGreatDoor

namespace Go.Proofs.YtenfkejbndifdaaGreatDoor
set_option linter.unusedVariables false
set_option linter.unusedSimpArgs false
open Go Go.RowKit Go.Sort

def EdgesOf (B : Nat) (v : Value) (es : List (Int × Int)) (W : World) : Prop :=
  ∃ ao cap, v = .slice ao es.length cap ∧ ∀ i x, es[i]? = some x → ∃ b off, ao = some ⟨b, off, none⟩ ∧ b < B ∧ W.cell? ⟨b, off + i * 2, none⟩ = some (intC x.1) ∧ W.cell? ⟨b, off + i * 2 + 1, none⟩ = some (intC x.2)
theorem made_rep (z : Value) (n : Nat) : madeCells #[z] n = Array.replicate n z := by
  have := toList_madeCells_one z n
  rw [← Array.toList_replicate] at this
  exact Array.toList_inj.1 this
theorem info_ints : (Tryz.prog.info? 3).map (fun i => (i.zero, i.size, i.bytes)) = some (some (.int .i64 0), 1, 8) := by kernel_rfl
theorem info_bools : (Tryz.prog.info? 4).map (fun i => (i.zero, i.size, i.bytes)) = some (some (.bool false), 1, 1) := by kernel_rfl
theorem make_bools (n : Nat) (hn : n ≤ 1000000000) (w : World) : (Instr.makeSlice 155 (.int .i64 (n : Int)) (.int .i64 (n : Int))).run Tryz.prog w = .ok (.slice (some ⟨w.heap.size, 0, none⟩) n n) (w.alloc (.cells (Array.replicate n (.bool false)) 4)) := by
  have h := run_make_row' (P := Tryz.prog) 155 4 (.bool false) 1 Tryz.underlying155 info_bools rfl .i64 .i64 n (by omega) (by omega) w
  rw [h, made_rep]
def rawRows (N : Nat) (es : List (Int × Int)) : List (List Value) := (List.range N).map fun i => (rawL es i).map intC
def mixRows (N : Nat) (es : List (Int × Int)) (k : Nat) : List (List Value) := (List.range N).map fun i => if i < k then (sucL N es i).map natC else (rawL es i).map intC
end Go.Proofs.YtenfkejbndifdaaGreatDoor

namespace Go.Proofs.YtenfkejbndifdaaGreatDoor
set_option linter.unusedVariables false
set_option linter.unusedSimpArgs false
open Go Go.RowKit

abbrev edgeV (x : Int × Int) : Value := .agg #[intC x.1, intC x.2]
def PredE (g : Nat) (lb : Array Value) (es : List (Int × Int)) (p : Int × Int → Bool) (w : World) : Prop :=
  ∀ (W : World) (x : Int × Int), x ∈ es → Below w.heap.size w W → Calls Tryz.prog g (#[edgeV x] ++ lb) W fun e w' => e = .returned (.bool (p x)) ∧ Below w.heap.size w w'

def nodeB (N : Nat) (i : Int) : Bool := decide (0 ≤ i ∧ i < N)
end Go.Proofs.YtenfkejbndifdaaGreatDoor

namespace Go.Proofs.YtenfkejbndifdaaGreatDoor
set_option linter.unusedVariables false
set_option linter.unusedSimpArgs false
open Go Go.RowKit

theorem rowOf_open {α : Type} {enc : α → Value} {B : Nat} {v : Value} {l : List α} {W : World} (h : RowOf enc B v l W) :
    ∃ ao cap, v = .slice ao l.length cap ∧ ∀ i x, l[i]? = some x → ∃ b off, ao = some ⟨b, off, none⟩ ∧ b < B ∧ W.cell? ⟨b, off + i, none⟩ = some (enc x) := by
  rcases h with ⟨rfl, a, c, rfl⟩ | ⟨b, off, cap, rfl, hb, h⟩
  · exact ⟨a, c, rfl, fun i x hx => by simp at hx⟩
  · exact ⟨_, cap, rfl, fun i x hx => ⟨b, off, rfl, hb, h i x hx⟩⟩
def PredI (g : Nat) (lb : Array Value) (es : List (Int)) (p : Int → Bool) (w : World) : Prop :=
  ∀ (W : World) (x : Int), x ∈ es → Below w.heap.size w W → Calls Tryz.prog g (#[intC x] ++ lb) W fun e w' => e = .returned (.bool (p x)) ∧ Below w.heap.size w w'

end Go.Proofs.YtenfkejbndifdaaGreatDoor

namespace Go.Proofs.YtenfkejbndifdaaGreatDoor
set_option linter.unusedVariables false
set_option linter.unusedSimpArgs false
open Go Go.RowKit

def revE (n : Nat) (es : List (Int × Int)) : List (Int × Int) := if validG n es = true then es.map swapE else []
def revN {α : Type} (ns : List α) (es : List (Int × Int)) : List α := if validG ns.length es = true then ns else []
def edgeCells (es : List (Int × Int)) : List Value := es.flatMap fun x => [intC x.1, intC x.2]
end Go.Proofs.YtenfkejbndifdaaGreatDoor

namespace Go.Proofs.YtenfkejbndifdaaGreatDoor
set_option linter.unusedVariables false
set_option linter.unusedSimpArgs false
open Go Go.RowKit

def incrK (s : List SelL) (k : Nat) : Prop := ∀ j, j + 1 < k → ltB (s.getD j default).1 (s.getD (j + 1) default).1 = true
theorem incrK_all {s : List SelL} : incrK s s.length ↔ incrS s := by
  have hg : ∀ i (hi : i < s.length), s.getD i default = s[i] := fun i hi => by rw [List.getD_eq_getElem?_getD, List.getElem?_eq_getElem hi]; rfl
  constructor
  · intro h
    unfold incrS
    rw [List.pairwise_iff_getElem]
    intro i j hi hj hij
    obtain ⟨d, rfl⟩ : ∃ d, j = i + d + 1 := ⟨j - i - 1, by omega⟩
    clear hij
    induction d with
    | zero => have := h i (by omega); rwa [hg i hi, hg (i + 1) (by omega)] at this
    | succ d ih =>
      have := h (i + d + 1) (by omega)
      rw [hg (i + d + 1) (by omega), hg (i + d + 1 + 1) (by omega)] at this
      exact ltB_trans (ih (by omega)) this
  · intro h j hj
    rw [hg j (by omega), hg (j + 1) hj]
    exact List.pairwise_iff_getElem.1 h j (j + 1) (by omega) hj (by omega)
theorem incrK_step {s : List SelL} {k : Nat} (h : incrK s k) (h2 : 0 < k → ltB (s.getD (k - 1) default).1 (s.getD k default).1 = true) : incrK s (k + 1) := fun j hj => by
  by_cases e : j + 1 = k
  · subst e
    exact h2 (by omega)
  · exact h j (by omega)
theorem SelsOf.at {B : Nat} {ao : Option Addr} {n cap : Nat} {s : List SelL} {W : World} (h : SelsOf B (.slice ao n cap) s W) {i : Nat} (hi : i < s.length) :
    ∃ b off, ao = some ⟨b, off, none⟩ ∧ b < B ∧ W.cell? ⟨b, off + i * 4, none⟩ = some (.string (s.getD i default).1) ∧ W.cell? ⟨b, off + i * 4 + 1, none⟩ = some (intC (s.getD i default).2.1) ∧ W.cell? ⟨b, off + i * 4 + 2, none⟩ = some (intC (s.getD i default).2.2.1) ∧ W.cell? ⟨b, off + i * 4 + 3, none⟩ = some (intC (s.getD i default).2.2.2) := by
  obtain ⟨ao', cap', e, h⟩ := h
  cases e
  obtain ⟨b, off, e, h0, h1⟩ := h i s[i] (by simp [hi])
  have hg : s.getD i default = s[i] := by rw [List.getD_eq_getElem?_getD, List.getElem?_eq_getElem hi]; rfl
  rw [hg]
  exact ⟨b, off, e, h0, h1⟩
def GraphR (w : World) (g : (List ByteArray × List (Int × Int)) × Int) (e : Ending) (w' : World) : Prop :=
  ∃ nv ev, e = .returned (.tuple #[.agg #[nv, ev], .int .i64 g.2]) ∧ RowOf Value.string w'.heap.size nv g.1.1 w' ∧ EdgesOf w'.heap.size ev g.1.2 w' ∧ Below w.heap.size w w'
theorem eqs_dec (a b : ByteArray) : (a.toList == b.toList) = decide (a = b) := by
  by_cases h : a = b
  · subst h; simp
  · have : ¬ a.toList = b.toList := fun e => h (bytes_inj e)
    simp [h, this]
structure OfJ (w1 : World) (g : Nat) (s : List SelL) (k : Nat) (es : List (Int × Int)) (nv ev : Value) (W : World) : Prop where
  bel : Below w1.heap.size w1 W
  lo : w1.heap.size ≤ g
  out : W.heap[g]? = some (.cells #[nv, ev] 100 (0, 0))
  nodes : W.ownsRow (g + 1) 9 1 nv k ((s.take k).map (fun y => .string y.1))
  edges : W.ownsRow (g + 1) 149 2 ev es.length (edgeCells es)
variable {w1 : World} {g : Nat} {s : List SelL} {k : Nat} {es : List (Int × Int)} {nv ev : Value} {W : World}
end Go.Proofs.YtenfkejbndifdaaGreatDoor
