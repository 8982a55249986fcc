/- The index's clone and Find. The index's Find. slices. -/
import Derived.Test.YtnjiibiafhnmgaaGreatDoorYN
import Derived.Test.YtnjiibiafhnmgaaGreatDoorYJ
import Derived.Test.YtnjiibiafhnmgaaGreatDoorYD
namespace Go.Proofs.YtnjiibiafhnmgaaGreatDoor
set_option linter.unusedVariables false
set_option linter.unusedSimpArgs false
open Go Go.RowKit Go.Maps

theorem own_on {B : Nat} {e : TypeId} {c : Nat} {v : Value} {n : Nat} {xs : List Value} {W W' : World} (h : W.ownsRow B e c v n xs) (hb : RowKit.Below W.heap.size W W') : W'.ownsRow B e c v n xs := by
  obtain ⟨hl, h | ⟨g, cap, cur, rfl, h1, h2, h3⟩⟩ := h
  · exact ⟨hl, .inl h⟩
  · exact ⟨hl, .inr ⟨g, cap, cur, rfl, h1, (hb.block g (Array.getElem?_eq_some_iff.1 h2).1).trans h2, h3⟩⟩
theorem own_lo {B : Nat} {e : TypeId} {c : Nat} {v : Value} {n : Nat} {xs : List Value} {W : World} (h : W.ownsRow B e c v n xs) : ∀ b, v.ownBlock = some b → B ≤ b ∧ b < W.heap.size ∧ ∃ cs, W.heap[b]? = some (.cells cs e (0, 0)) := fun b hb => by
  obtain ⟨hl, ⟨rfl, _⟩ | ⟨g, cap, cur, rfl, h1, h2, h3⟩⟩ := h
  · cases hb
  · simp [Value.ownBlock] at hb
    subst hb
    exact ⟨h1, (Array.getElem?_eq_some_iff.1 h2).1, cur, h2⟩
theorem own_apart {B B' : Nat} {e e' : TypeId} {c c' : Nat} {v v' : Value} {n n' : Nat} {xs xs' : List Value} {W : World} (h : W.ownsRow B e c v n xs) (h' : W.ownsRow B' e' c' v' n' xs') (hne : e ≠ e') : v.ownBlock = none ∨ v.ownBlock ≠ v'.ownBlock := by
  cases hv : v.ownBlock with
  | none => exact .inl rfl
  | some b =>
    refine .inr fun hb => ?_
    obtain ⟨_, _, cs, h1⟩ := own_lo h b hv
    obtain ⟨_, _, cs', h2⟩ := own_lo h' b hb.symm
    rw [h1] at h2
    injection h2 with h2
    injection h2 with _ h2
    exact hne h2
def setRel (W : World) (g : Nat) (x : RelL) (r : Value) : World := ((((((((W.setCell ⟨g, 0, none⟩ (.string x.path)).setCell ⟨g, 1, none⟩ (.int .i64 x.ver.1)).setCell ⟨g, 2, none⟩ (.int .i64 x.ver.2.1)).setCell ⟨g, 3, none⟩ (.int .i64 x.ver.2.2)).setCell ⟨g, 4, none⟩ r).setCell ⟨g, 5, none⟩ (.string x.ar)).setCell ⟨g, 6, none⟩ (.string x.ifc)).setCell ⟨g, 7, none⟩ (.string x.cert)).setCell ⟨g, 8, none⟩ (.bool x.yk)
theorem setRel_box {W : World} {g : Nat} {t : TypeId} {c0 c1 c2 c3 c4 c5 c6 c7 c8 : Value} (x : RelL) (r : Value) (h0 : W.heap[g]? = some (.cells #[c0, c1, c2, c3, c4, c5, c6, c7, c8] t (0, 0))) : (setRel W g x r).heap[g]? = some (.cells (relC x r) t (0, 0)) := by
  have h1 := heap_setCell_same _ g 0 #[c0, c1, c2, c3, c4, c5, c6, c7, c8] t (.string x.path) h0
  have h2 := heap_setCell_same _ g 1 #[.string x.path, c1, c2, c3, c4, c5, c6, c7, c8] t (.int .i64 x.ver.1) h1
  have h3 := heap_setCell_same _ g 2 #[.string x.path, .int .i64 x.ver.1, c2, c3, c4, c5, c6, c7, c8] t (.int .i64 x.ver.2.1) h2
  have h4 := heap_setCell_same _ g 3 #[.string x.path, .int .i64 x.ver.1, .int .i64 x.ver.2.1, c3, c4, c5, c6, c7, c8] t (.int .i64 x.ver.2.2) h3
  have h5 := heap_setCell_same _ g 4 #[.string x.path, .int .i64 x.ver.1, .int .i64 x.ver.2.1, .int .i64 x.ver.2.2, c4, c5, c6, c7, c8] t (r) h4
  have h6 := heap_setCell_same _ g 5 #[.string x.path, .int .i64 x.ver.1, .int .i64 x.ver.2.1, .int .i64 x.ver.2.2, r, c5, c6, c7, c8] t (.string x.ar) h5
  have h7 := heap_setCell_same _ g 6 #[.string x.path, .int .i64 x.ver.1, .int .i64 x.ver.2.1, .int .i64 x.ver.2.2, r, .string x.ar, c6, c7, c8] t (.string x.ifc) h6
  have h8 := heap_setCell_same _ g 7 #[.string x.path, .int .i64 x.ver.1, .int .i64 x.ver.2.1, .int .i64 x.ver.2.2, r, .string x.ar, .string x.ifc, c7, c8] t (.string x.cert) h7
  have h9 := heap_setCell_same _ g 8 #[.string x.path, .int .i64 x.ver.1, .int .i64 x.ver.2.1, .int .i64 x.ver.2.2, r, .string x.ar, .string x.ifc, .string x.cert, c8] t (.bool x.yk) h8
  exact h9
theorem grownBy_setC (W : World) (g j : Nat) (v : Value) : W.grownBy (W.setCell ⟨g, j, none⟩ v) (some g) :=
  ⟨rfl, rfl, rfl, Nat.le_of_eq (World.size_setCell W _ v).symm, fun k _ hne => heap_setCell_other W ⟨g, j, none⟩ k v (fun e => hne (by rw [e]))⟩
theorem grownBy_tr {a b c : World} {r : Option Nat} (h : a.grownBy b r) (k : b.grownBy c r) : a.grownBy c r :=
  ⟨k.os.trans h.os, k.tape.trans h.tape, k.output.trans h.output, Nat.le_trans h.size k.size, fun i hi hne => (k.block i (Nat.lt_of_lt_of_le hi h.size) hne).trans (h.block i hi hne)⟩
theorem setRel_grown (W : World) (g : Nat) (x : RelL) (r : Value) : W.grownBy (setRel W g x r) (some g) := by
  exact grownBy_tr (grownBy_tr (grownBy_tr (grownBy_tr (grownBy_tr (grownBy_tr (grownBy_tr (grownBy_tr (grownBy_setC _ _ _ _) (grownBy_setC _ _ _ _)) (grownBy_setC _ _ _ _)) (grownBy_setC _ _ _ _)) (grownBy_setC _ _ _ _)) (grownBy_setC _ _ _ _)) (grownBy_setC _ _ _ _)) (grownBy_setC _ _ _ _)) (grownBy_setC _ _ _ _)
theorem rows_reqs {W : World} {B : Nat} {v : Value} {l : List ReqL} {xs : List Value} (h : W.ownsRow B 100 2 v l.length xs) (he : ReqXs W.heap.size l xs W) : ReqsOf W.heap.size v l W := by
  obtain ⟨hl, ⟨rfl, h0⟩ | ⟨g, cap, cur, rfl, h1, h2, h3, h4, h5, h6⟩⟩ := h
  · obtain rfl := List.length_eq_zero_iff.1 h0
    exact ⟨none, 0, rfl, fun i q hq => by simp at hq⟩
  · refine ⟨_, cap, rfl, fun i q hq => ?_⟩
    obtain ⟨r, g1, g2, g3⟩ := he i q hq
    have hi := (List.getElem?_eq_some_iff.1 hq).1
    have key : ∀ j u, xs[j]? = some u → W.cell? ⟨g, j, none⟩ = some u := fun j u hu => by
      have hj := (List.getElem?_eq_some_iff.1 hu).1
      rw [cell_of_row _ _ _ _ _ _ h2, ← hu, ← h6, List.getElem?_take, if_pos (by omega)]
      simp
    exact ⟨g, 0, r, rfl, (Array.getElem?_eq_some_iff.1 h2).1, by rw [Nat.zero_add]; exact key _ _ g1, by rw [Nat.zero_add]; exact key _ _ g2, g3⟩
def ReqRows (B : Nat) (v : Value) (l : List ReqL) (W : World) : Prop := ∃ xs, W.ownsRow B 100 2 v l.length xs ∧ ∀ i q, l[i]? = some q → ∃ sv, xs[i * 2]? = some (.string q.1) ∧ xs[i * 2 + 1]? = some sv ∧ W.ownsRow B 111 2 sv q.2.length (spanCells q.2)
theorem ReqRows.now {B : Nat} {v : Value} {l : List ReqL} {W : World} (h : ReqRows B v l W) : ReqsOf W.heap.size v l W := by
  obtain ⟨xs, h1, h2⟩ := h
  exact rows_reqs h1 (fun i q hq => by
    obtain ⟨sv, g1, g2, g3⟩ := h2 i q hq
    exact ⟨sv, g1, g2, own_spans g3⟩)
theorem ReqRows.map {B B' : Nat} {v : Value} {l : List ReqL} {W W' : World} (h : ReqRows B v l W) (k : ∀ e c v n xs, e = 100 ∨ e = 111 → W.ownsRow B e c v n xs → W'.ownsRow B' e c v n xs) : ReqRows B' v l W' := by
  obtain ⟨xs, h1, h2⟩ := h
  refine ⟨xs, k _ _ _ _ _ (.inl rfl) h1, fun i q hq => ?_⟩
  obtain ⟨sv, g1, g2, g3⟩ := h2 i q hq
  exact ⟨sv, g1, g2, k _ _ _ _ _ (.inr rfl) g3⟩
theorem ReqRows.below {B : Nat} {v : Value} {l : List ReqL} {W W' : World} (h : ReqRows B v l W) (hb : RowKit.Below W.heap.size W W') : ReqRows B v l W' := h.map fun _ _ _ _ _ _ h => own_on h hb
theorem ReqRows.grown {B : Nat} {v : Value} {l : List ReqL} {W W' : World} {row : Option Nat} (h : ReqRows B v l W) (hg : W.grownBy W' row) (hr : ∀ b, row = some b → b < B ∨ ∃ cs e, W.heap[b]? = some (.cells cs e (0, 0)) ∧ e ≠ 100 ∧ e ≠ 111) : ReqRows B v l W' := h.map fun e c v n xs he h => h.kept hg (by
  cases hv : v.ownBlock with
  | none => exact .inl rfl
  | some b =>
    refine .inr fun e2 => ?_
    obtain ⟨h1, _, cs, h2⟩ := own_lo h b hv
    rcases hr b e2.symm with h3 | ⟨cs', e', h3, h4, h5⟩
    · omega
    · rw [h2] at h3
      injection h3 with h3
      injection h3 with _ h3
      rcases he with rfl | rfl
      · exact h4 h3.symm
      · exact h5 h3.symm)
structure CloJ (w : World) (x : RelL) (k : Nat) (ov : Value) (xs : List Value) (W : World) : Prop where
  bel : RowKit.Below w.heap.size w W
  size : w.heap.size + 1 < W.heap.size
  box : BoxR W w.heap.size x ov
  res : BoxR W (w.heap.size + 1) default (.slice none 0 0)
  row : W.ownsRow (w.heap.size + 1 + 1) 100 2 ov k xs
  els : ∀ i q, i < k → x.reqs[i]? = some q → ∃ sv, xs[i * 2]? = some (.string q.1) ∧ xs[i * 2 + 1]? = some sv ∧ W.ownsRow (w.heap.size + 1 + 1) 111 2 sv q.2.length (spanCells q.2)
theorem CloJ.below {w : World} {x : RelL} {k : Nat} {ov : Value} {xs : List Value} {W W' : World} (h : CloJ w x k ov xs W) (hb : RowKit.Below W.heap.size W W') : CloJ w x k ov xs W' := by
  obtain ⟨h1, h2, h3, h4, h5, h6⟩ := h
  refine ⟨h1.trans (hb.mono h1.size), Nat.lt_of_lt_of_le h2 hb.size, h3.on hb, h4.on hb, own_on h5 hb, fun i q hi hq => ?_⟩
  obtain ⟨sv, g1, g2, g3⟩ := h6 i q hi hq
  exact ⟨sv, g1, g2, own_on g3 hb⟩
theorem own_mono {B B' : Nat} {e : TypeId} {c : Nat} {v : Value} {n : Nat} {xs : List Value} {W : World} (h : W.ownsRow B e c v n xs) (hB : B' ≤ B) : W.ownsRow B' e c v n xs := by
  obtain ⟨hl, h | ⟨g, cap, cur, rfl, h1, h2⟩⟩ := h
  · exact ⟨hl, .inl h⟩
  · exact ⟨hl, .inr ⟨g, cap, cur, rfl, by omega, h2⟩⟩
theorem own_farM {B : Nat} {e : TypeId} {c : Nat} {v : Value} {n : Nat} {xs : List Value} {W W' : World} {g : Nat} (h : W.ownsRow B e c v n xs) (hg : W.grownBy W' (some g)) (hB : g < B) : W'.ownsRow B e c v n xs := h.kept hg (by
  cases hv : v.ownBlock with
  | none => exact .inl rfl
  | some b => exact .inr (fun e2 => by have := (own_lo h b hv).1; injection e2 with e2; omega))
theorem CloJ.step {w : World} {x : RelL} {k : Nat} {ov v' sv : Value} {xs : List Value} {W5 W6 : World} {q : ReqL} (h : CloJ w x k ov xs W5) (hq : x.reqs[k]? = some q) (hn : W5.ownsRow (w.heap.size + 1 + 1) 111 2 sv q.2.length (spanCells q.2))
    (hown : W6.ownsRow (w.heap.size + 1 + 1) 100 2 v' (k + 1) (xs ++ [.string q.1, sv])) (hg : W5.grownBy W6 ov.ownBlock) : CloJ w x (k + 1) v' (xs ++ [.string q.1, sv]) (W6.setCell ⟨w.heap.size, 4, none⟩ v') := by
  obtain ⟨h1, h2, h3, h4, h5, h6⟩ := h
  have hl := h5.1
  have lo : ∀ b, some b = ov.ownBlock → w.heap.size + 1 < b := fun b hb => by have := (own_lo h5 b hb.symm).1; omega
  have g2 := grownBy_setC W6 w.heap.size 4 v'
  have keep : ∀ v n xs, W5.ownsRow (w.heap.size + 1 + 1) 111 2 v n xs → (W6.setCell ⟨w.heap.size, 4, none⟩ v').ownsRow (w.heap.size + 1 + 1) 111 2 v n xs := fun v n xs hr =>
    own_farM (hr.kept hg (own_apart hr h5 (by decide))) g2 (by omega)
  refine ⟨(h1.grown hg (by omega) (fun b hb => by have := lo b hb.symm; omega)).setCell (by simp) _, by rw [World.size_setCell]; exact Nat.lt_of_lt_of_le h2 hg.size, ?_, ?_, own_farM hown g2 (by omega), fun i q' hi hq' => ?_⟩
  · have hb := (hg.block w.heap.size (by omega) (fun e => by have := lo _ e; omega)).trans h3
    exact heap_setCell_same _ _ 4 _ _ v' hb
  · have hb := (hg.block (w.heap.size + 1) h2 (fun e => by have := lo _ e; omega)).trans h4
    exact (g2.block _ (Nat.lt_of_lt_of_le h2 hg.size) (fun e => by injection e with e; omega)).trans hb
  · by_cases hik : i = k
    · subst hik
      rw [hq] at hq'
      cases hq'
      refine ⟨sv, ?_, ?_, keep _ _ _ hn⟩
      · rw [List.getElem?_append_right (by omega), hl, Nat.sub_self]; rfl
      · rw [List.getElem?_append_right (by omega), hl, show i * 2 + 1 - i * 2 = 1 by omega]; rfl
    · obtain ⟨s0, e1, e2, e3⟩ := h6 i q' (by omega) hq'
      exact ⟨s0, by rw [List.getElem?_append_left (by omega)]; exact e1, by rw [List.getElem?_append_left (by omega)]; exact e2, keep _ _ _ e3⟩
theorem relC_at (x : RelL) (r : Value) : relC x r = #[.string x.path, intC x.ver.1, intC x.ver.2.1, intC x.ver.2.2, r, .string x.ar, .string x.ifc, .string x.cert, .bool x.yk] := rfl
set_option maxRecDepth 100000 in
set_option maxHeartbeats 8000000 in
theorem clone_any (x : RelL) (r : Value) (w : World) (hl : x.reqs.length ≤ 1000000) (hq : ∀ q ∈ x.reqs, q.2.length ≤ 1000000) (hR : ReqsOf w.heap.size r x.reqs w) :
    Calls Tryz.prog 156 #[.agg (relC x r)] w fun e w' => ∃ r', e = .returned (.agg (relC x r')) ∧ ReqRows w.heap.size r' x.reqs w' ∧ RowKit.Below w.heap.size w w' := by
  obtain ⟨ao, cap, rfl, hR⟩ := hR
  have HR := Lib.hid hR
  have HQ := Lib.hid hq
  clear hR hq
  have HB0 : Hid (CloJ w x 0 (.slice none 0 0) [] ((w.alloc (.cells (relC x (.slice none 0 0)) 69)).alloc (.cells (relC default (.slice none 0 0)) 69))) := Lib.hid (by
    refine ⟨((RowKit.Below.refl _ _).alloc (Nat.le_refl _) _).alloc (by simp) _, by simp only [World.size_alloc]; omega, (BoxR.made w x _).on (belQ _ _), ?_, World.ownsRow_nil _ _ _ _, fun i q hi => absurd hi (Nat.not_lt_zero _)⟩
    have := BoxR.made (w.alloc (.cells (relC x (.slice none 0 0)) 69)) default (.slice none 0 0)
    rwa [World.size_alloc] at this)
  have hz : ((default : RelL).path = ⟨#[]⟩ ∧ (default : RelL).ver = (0, 0, 0)) := ⟨rfl, rfl⟩
  simp only [relC_at, show (default : RelL).path = ⟨#[]⟩ from rfl, show (default : RelL).ver = (0, 0, 0) from rfl, show (default : RelL).ar = ⟨#[]⟩ from rfl, show (default : RelL).ifc = ⟨#[]⟩ from rfl, show (default : RelL).cert = ⟨#[]⟩ from rfl, show (default : RelL).yk = false from rfl] at HB0 ⊢
  clear hz
  obtain ⟨i0, hi0, hz0, hz1, hz2⟩ := info_parts info_reqs
  go_enter Tryz.func156, Tryz.ntmps156
  go_upto_region 4 with fail
  generalize (w.alloc (.cells #[.string x.path, intC x.ver.1, intC x.ver.2.1, intC x.ver.2.2, .slice none 0 0, .string x.ar, .string x.ifc, .string x.cert, .bool x.yk] 69)).alloc (.cells #[.string ⟨#[]⟩, .int .i64 0, .int .i64 0, .int .i64 0, .slice none 0 0, .string ⟨#[]⟩, .string ⟨#[]⟩, .string ⟨#[]⟩, .bool false] 69) = W0 at *
  go_loopw [11] (fun p wr => ∃ k : Nat, k ≤ x.reqs.length ∧ p = .int .i64 k ∧ Hid (∃ ov xs, CloJ w x k ov xs wr)) (fun p _ => x.reqs.length - (intOf p).toNat)
  case atStart => exact ⟨0, Nat.zero_le _, rfl, Lib.hid ⟨_, _, HB0.out⟩⟩
  case round =>
    obtain ⟨k, hk, rfl, HE⟩ := hrel
    obtain ⟨ov, xs, hj⟩ := HE.out
    have HJ := Lib.hid hj
    clear HE
    obtain ⟨a0, a1, a2, a3, a4, a5, a6, a7, a8⟩ := hj.box.cells
    clear hj
    by_cases hlt : k < x.reqs.length
    case neg =>
      have hk2 : k = x.reqs.length := by omega
      subst hk2
      obtain ⟨b0, b1, b2, b3, b4, b5, b6, b7, b8⟩ := HJ.out.res.cells
      have F : ∀ j, wr.frozen? ⟨w.heap.size + 1, j, none⟩ = false := fun j => frozen_of_row _ _ j _ _ HJ.out.res
      have f0 := F 0
      have f1 := F 1
      have f2 := F 2
      have f3 := F 3
      have f4 := F 4
      have f5 := F 5
      have f6 := F 6
      have f7 := F 7
      have f8 := F 8
      clear F
      simp only [show (default : RelL).path = ⟨#[]⟩ from rfl, show (default : RelL).ver = (0, 0, 0) from rfl, show (default : RelL).ar = ⟨#[]⟩ from rfl, show (default : RelL).ifc = ⟨#[]⟩ from rfl, show (default : RelL).cert = ⟨#[]⟩ from rfl, show (default : RelL).yk = false from rfl] at b0 b1 b2 b3 b4 b5 b6 b7 b8
      obtain ⟨oa, oc, rfl⟩ : ∃ oa oc, ov = .slice oa x.reqs.length oc := by
        obtain ⟨hl, ⟨rfl, h0⟩ | ⟨g, cap, cur, rfl, _⟩⟩ := HJ.out.row
        · exact ⟨none, 0, by rw [h0]⟩
        · exact ⟨_, _, rfl⟩
      go_wp2_with fail
      have hg := setRel_grown wr (w.heap.size + 1) x (.slice oa x.reqs.length oc)
      have hbox := setRel_box x (.slice oa x.reqs.length oc) HJ.out.res
      have hbel : RowKit.Below w.heap.size w (setRel wr (w.heap.size + 1) x (.slice oa x.reqs.length oc)) := HJ.out.bel.grown hg HJ.out.bel.size (fun b hb => by cases hb; omega)
      have ne : ∀ e c v n xs, wr.ownsRow (w.heap.size + 1 + 1) e c v n xs → (setRel wr (w.heap.size + 1) x (.slice oa x.reqs.length oc)).ownsRow (w.heap.size + 1 + 1) e c v n xs := fun e c v n xs h => h.kept hg (by
        cases hv : v.ownBlock with
        | none => exact .inl rfl
        | some b => exact .inr (fun e2 => by have := (own_lo h b hv).1; injection e2 with e2; omega))
      have hreq : ReqRows w.heap.size (.slice oa x.reqs.length oc) x.reqs (setRel wr (w.heap.size + 1) x (.slice oa x.reqs.length oc)) := by
        refine ⟨xs, own_mono (ne _ _ _ _ _ HJ.out.row) (by omega), fun i q hq => ?_⟩
        obtain ⟨sv, g1, g2, g3⟩ := HJ.out.els i q (List.getElem?_eq_some_iff.1 hq).1 hq
        exact ⟨sv, g1, g2, own_mono (ne _ _ _ _ _ g3) (by omega)⟩
      unfold setRel at hg hbox hbel hreq
      clear hg ne
      refine bodyPost_ret (results_cell_row rfl _ _ (w.heap.size + 1) _ _ _ _ rfl hbox Tryz.underlying69 rfl (by kernel_rfl)) rfl ?_
      exact ⟨.slice oa x.reqs.length oc, rfl, hreq, hbel⟩
    case pos =>
      obtain ⟨b, off, sv, rfl, hbl, d0, d1, hsp⟩ := HR.out k x.reqs[k] (by simp [hlt])
      have hql := HQ.out x.reqs[k] (List.getElem_mem hlt)
      have HXK : Hid (x.reqs[k]? = some x.reqs[k]) := Lib.hid (List.getElem?_eq_getElem hlt)
      generalize x.reqs[k] = q at *
      have HC := Lib.hid (fun W (hb : RowKit.Below w.heap.size w W) => CloneS_any sv q.2 W hql ((hsp.below hb (Nat.le_refl _)).mono hb.size))
      obtain ⟨sa, sc, rfl, _⟩ := hsp
      have hbw : b < wr.heap.size := Nat.lt_of_lt_of_le hbl HJ.out.bel.size
      have d0 := (HJ.out.bel.cell (p := ⟨b, off + k * 2, none⟩) hbl).trans d0
      have d1 := (HJ.out.bel.cell (p := ⟨b, off + k * 2 + 1, none⟩) hbl).trans d1
      have HB1 := Lib.hid (HJ.out.bel.trans ((belQ wr (.cells #[.string q.1, .slice sa q.2.length sc] 100)).mono HJ.out.bel.size))
      have HJ1 := Lib.hid (HJ.out.below (belQ wr (.cells #[.string q.1, .slice sa q.2.length sc] 100)))
      have HN1 := Lib.hid (World.alloc_heap_new wr (.cells #[.string q.1, .slice sa q.2.length sc] 100))
      have HL := Lib.hid hlt
      go_wp2_with fail
      refine (HC.out _ HB1.out).mono ?_
      rintro e w3 ⟨v3, rfl, hrow3, hb3⟩
      have HJ3 := Lib.hid (HJ1.out.below hb3)
      have HN3 := Lib.hid ((hb3.block wr.heap.size (by simp)).trans HN1.out)
      have HR3 := Lib.hid hrow3
      have hs3 := hb3.size
      simp only [World.size_alloc] at hs3
      obtain ⟨va, vc, rfl⟩ : ∃ va vc, v3 = .slice va q.2.length vc := by
        obtain ⟨hl, ⟨rfl, h0⟩ | ⟨g, cap, cur, rfl, _⟩⟩ := hrow3
        · exact ⟨none, 0, by rw [h0]⟩
        · exact ⟨_, _, rfl⟩
      have HG4 : Hid (w3.grownBy (w3.setCell ⟨wr.heap.size, 1, none⟩ (.slice va q.2.length vc)) (some wr.heap.size)) := Lib.hid (grownBy_setC _ _ _ _)
      have HN4 := Lib.hid (heap_setCell_same w3 wr.heap.size 1 _ _ (.slice va q.2.length vc) HN3.out)
      have hg0 : w.heap.size + 1 < wr.heap.size := HJ.out.size
      have F1 : w3.cell? ⟨wr.heap.size, 1, none⟩ = some (.slice sa q.2.length sc) := cell_of_row _ _ 1 _ _ _ HN3.out
      have F2 := frozen_of_row _ _ 1 _ _ HN3.out
      have HJ4 := Lib.hid (HJ.out.below (((belQ wr (.cells #[.string q.1, .slice sa q.2.length sc] 100)).trans (hb3.mono (by simp))).setCell (show wr.heap.size ≤ (⟨wr.heap.size, 1, none⟩ : Addr).block from Nat.le_refl _) (.slice va q.2.length vc)))
      have HR4 : Hid ((w3.setCell ⟨wr.heap.size, 1, none⟩ (.slice va q.2.length vc)).ownsRow (w.heap.size + 1 + 1) 111 2 (.slice va q.2.length vc) q.2.length (spanCells q.2)) := Lib.hid (own_mono (own_farM HR3.out HG4.out (by simp)) (by simp; omega))
      clear hb3 d0 d1 hbw a0 a1 a2 a3 a4 a5 a6 a7 a8
      generalize wr.heap.size = g5 at *
      obtain ⟨e0, e1, e2, e3, e4, e5, e6, e7, e8⟩ := HJ3.out.box.cells
      have F3 := HN4.out
      have F4 : (w3.setCell ⟨g5, 1, none⟩ (.slice va q.2.length vc)).cell? ⟨g5, 0, none⟩ = some (.string q.1) := cell_of_row _ _ 0 _ _ _ HN4.out
      have F5 : (w3.setCell ⟨g5, 1, none⟩ (.slice va q.2.length vc)).cell? ⟨g5, 1, none⟩ = some (.slice va q.2.length vc) := cell_of_row _ _ 1 _ _ _ HN4.out
      clear F3
      go_upto_region 7 with fail
      generalize w3.setCell ⟨g5, 1, none⟩ (.slice va q.2.length vc) = W4 at *
      clear F1 F2 e0 e1 e2 e3 e4 e5 e6 e7 e8
      obtain ⟨e0, e1, e2, e3, e4, e5, e6, e7, e8⟩ := HJ4.out.box.cells
      have f4 := frozen_of_row _ _ 4 _ _ HJ4.out.box
      have HJ5 := Lib.hid (HJ4.out.below (belQ W4 (.cells #[.string q.1, .slice va q.2.length vc] 100)))
      have HR5 := Lib.hid (own_on HR4.out (belQ W4 (.cells #[.string q.1, .slice va q.2.length vc] 100)))
      have HN5 := Lib.hid (World.alloc_heap_new W4 (.cells #[.string q.1, .slice va q.2.length vc] 100))
      have HBX : Hid (∀ w6, (W4.alloc (.cells #[.string q.1, .slice va q.2.length vc] 100)).grownBy w6 ov.ownBlock → BoxR w6 w.heap.size x ov) := Lib.hid (fun w6 hg => (hg.block w.heap.size HJ5.out.box.lt (fun e => by have := (own_lo HJ5.out.row _ e.symm).1; omega)).trans HJ5.out.box)
      have hz5 : w.heap.size + 1 + 1 ≤ (W4.alloc (.cells #[.string q.1, .slice va q.2.length vc] 100)).heap.size := HJ5.out.size
      go_wp2_with (at_builtin; refine wpList_append_own _ rfl _ _ 67 rfl (w.heap.size + 1 + 1) 100 i0 _ 2 40 Tryz.underlying67 hi0 hz0 hz1 hz2 rfl (by decide) ov k xs (by rfl) HJ5.out.row ⟨W4.heap.size, 0, none⟩ 1 1 [.string q.1, .slice va q.2.length vc] (by rfl) (by rfl) (World.news_of_block HN5.out) (by simp [Value.oneCell']) (by unfold maxLen; omega) (by omega) hz5 ?_; intro v' w6 hown' hgrow _; have HOW := Lib.hid hown'; have HGR := Lib.hid hgrow; have hbx := HBX.out _ hgrow; have hc6 : w6.cell? ⟨w.heap.size, 4, none⟩ = some ov := cell_of_row _ _ 4 _ _ _ hbx; have hf6 := frozen_of_row _ _ 4 _ _ hbx; clear hown' hgrow hbx; obtain ⟨gg, gc, rfl⟩ := ownsRow_succ HOW.out)
      go_roundw
      case rel => exact ⟨k + 1, by omega, by go_num, Lib.hid ⟨_, _, HJ5.out.step HXK.out HR5.out HOW.out HGR.out⟩⟩
      case measure => simp [intOf]; omega
end Go.Proofs.YtnjiibiafhnmgaaGreatDoor

namespace Go.Proofs.YtnjiibiafhnmgaaGreatDoor
set_option linter.unusedVariables false
set_option linter.unusedSimpArgs false
open Go Go.RowKit Go.Maps

def findX (X : List RelL) (y : SelL) : Option RelL := if checkX X = 0 then findR X y else none
def tabX (X : List RelL) : List RelL := if checkX X = 0 then X else []
theorem tabX_ok (X : List RelL) : IdxOk (tabX X) := by
  unfold tabX
  split
  · rename_i h; exact idx_ok h
  · exact ⟨by simp, fun i hi => absurd hi (by simp), fun i j _ hj => absurd hj (by simp)⟩
theorem tabX_find (X : List RelL) (y : SelL) : findX X y = (lookK (tabX X) (tabX X).length y).map fun i => (tabX X).getD i default := by
  rw [← lookK_find (tabX_ok X) y]
  unfold findX tabX
  split
  · rfl
  · rfl
theorem tabX_mem {X : List RelL} {x : RelL} (h : x ∈ tabX X) : x ∈ X := by
  unfold tabX at h
  split at h
  · exact h
  · cases h
theorem TabOf.look {W : World} {B m : Nat} {X : List RelL} (h : TabOf W B m (tabX X)) : ∃ (f : Lit → Option Value) (n : Nat), MapF Tryz.prog 53 W m n f ∧
    ∀ y, SelBd y → (findX X y = none ∧ f (keyS y) = none) ∨ ∃ x r, x ∈ X ∧ findX X y = some x ∧ f (keyS y) = some (.agg (relC x r)) ∧ ReqsOf B r x.reqs W := by
  obtain ⟨f, rv, n, h1, h2, h3⟩ := h
  refine ⟨f, n, h1, fun y hy => ?_⟩
  rw [tabX_find, h2 y hy]
  cases hk : lookK (tabX X) (tabX X).length y with
  | none => exact .inl ⟨rfl, rfl⟩
  | some i =>
    have hi := (lookK_some hk).1
    refine .inr ⟨(tabX X).getD i default, rv i, tabX_mem ?_, rfl, rfl, h3 i hi⟩
    rw [List.getD_eq_getElem?_getD, List.getElem?_eq_getElem hi]
    exact List.getElem_mem hi
def FindR (w : World) (o : Option RelL) (e : Ending) (w' : World) : Prop := ∃ r', e = .returned (.tuple #[.agg (relC (o.getD default) r'), .bool o.isSome]) ∧ ReqRows w.heap.size r' (o.getD default).reqs w' ∧ RowKit.Below w.heap.size w w'
def zeroR : Value := .agg #[.string ⟨#[]⟩, .int .i64 0, .int .i64 0, .int .i64 0, .slice none 0 0, .string ⟨#[]⟩, .string ⟨#[]⟩, .string ⟨#[]⟩, .bool false]
set_option maxRecDepth 100000 in
set_option maxHeartbeats 8000000 in
theorem Find_any (v iv : Value) (X : List RelL) (y : SelL) (w : World) (hm : MaxOk w) (hX : X.length ≤ 1000000) (hq : ∀ x ∈ X, RelBd x) (hR : RelsOf w.heap.size v X w) (hy : SelBd y) :
    Calls Tryz.prog 116 #[.agg #[v, iv], .string y.1, .agg #[intC y.2.1, intC y.2.2.1, intC y.2.2.2]] w (FindR w (findX X y)) := by
  have HN := Lib.hid (fun W (hb : RowKit.Below w.heap.size w W) => newTable_any v iv X W (hm.below hb hm.pos) hX hq ((hR.below hb (Nat.le_refl _)).mono hb.size))
  have HQ := Lib.hid hq
  clear hm hR hq
  obtain ⟨o, ho⟩ : ∃ o, findX X y = o := ⟨_, rfl⟩
  have HO := Lib.hid ho
  rw [ho]
  clear ho
  have hget : ∀ (w : World) (o : Obj) (k : Nat), (w.alloc o).heap[k]? = if k = w.heap.size then some o else w.heap[k]? := fun w o k => by
    show (w.heap.push o)[k]? = _
    rw [Array.getElem?_push]
  have HG : Hid ((((w.alloc (.cells #[v, iv] 25)).alloc (.cells #[intC y.2.1, intC y.2.2.1, intC y.2.2.2] 51)).alloc (.cells #[.string ⟨#[]⟩, .int .i64 0, .int .i64 0, .int .i64 0, .slice none 0 0, .string ⟨#[]⟩, .string ⟨#[]⟩, .string ⟨#[]⟩, .bool false] 69)).heap[w.heap.size]? = some (.cells #[v, iv] 25 (0, 0)) ∧
      (((w.alloc (.cells #[v, iv] 25)).alloc (.cells #[intC y.2.1, intC y.2.2.1, intC y.2.2.2] 51)).alloc (.cells #[.string ⟨#[]⟩, .int .i64 0, .int .i64 0, .int .i64 0, .slice none 0 0, .string ⟨#[]⟩, .string ⟨#[]⟩, .string ⟨#[]⟩, .bool false] 69)).heap[w.heap.size + 1]? = some (.cells #[intC y.2.1, intC y.2.2.1, intC y.2.2.2] 51 (0, 0)) ∧
      BoxR (((w.alloc (.cells #[v, iv] 25)).alloc (.cells #[intC y.2.1, intC y.2.2.1, intC y.2.2.2] 51)).alloc (.cells #[.string ⟨#[]⟩, .int .i64 0, .int .i64 0, .int .i64 0, .slice none 0 0, .string ⟨#[]⟩, .string ⟨#[]⟩, .string ⟨#[]⟩, .bool false] 69)) (w.heap.size + 1 + 1) default (.slice none 0 0)) := Lib.hid (by
    refine ⟨?_, ?_, ?_⟩
    · simp only [hget, World.size_alloc]; repeat (first | rw [if_pos trivial] | rw [if_neg (by omega)] | rw [if_pos (by omega)])
    · simp only [hget, World.size_alloc]; repeat (first | rw [if_pos trivial] | rw [if_neg (by omega)] | rw [if_pos (by omega)])
    · unfold BoxR
      simp only [hget, World.size_alloc]; repeat (first | rw [if_pos trivial] | rw [if_neg (by omega)] | rw [if_pos (by omega)])
      rfl)
  have HBW : Hid (RowKit.Below w.heap.size w (((w.alloc (.cells #[v, iv] 25)).alloc (.cells #[intC y.2.1, intC y.2.2.1, intC y.2.2.2] 51)).alloc (.cells #[.string ⟨#[]⟩, .int .i64 0, .int .i64 0, .int .i64 0, .slice none 0 0, .string ⟨#[]⟩, .string ⟨#[]⟩, .string ⟨#[]⟩, .bool false] 69))) := Lib.hid (by repeat (first | exact Below.refl _ _ | refine Below.drew ?_ | refine Below.alloc ?_ (by simp <;> omega) _ | refine Below.setCell ?_ (by simp <;> omega) _))
  have hws : w.heap.size + 1 + 1 < (((w.alloc (.cells #[v, iv] 25)).alloc (.cells #[intC y.2.1, intC y.2.2.1, intC y.2.2.2] 51)).alloc (.cells #[.string ⟨#[]⟩, .int .i64 0, .int .i64 0, .int .i64 0, .slice none 0 0, .string ⟨#[]⟩, .string ⟨#[]⟩, .string ⟨#[]⟩, .bool false] 69)).heap.size := by simp only [World.size_alloc]; omega
  clear hget
  go_enter Tryz.func116, Tryz.ntmps116
  go_upto_region 1 with fail
  generalize ((w.alloc (.cells #[v, iv] 25)).alloc (.cells #[intC y.2.1, intC y.2.2.1, intC y.2.2.2] 51)).alloc (.cells #[.string ⟨#[]⟩, .int .i64 0, .int .i64 0, .int .i64 0, .slice none 0 0, .string ⟨#[]⟩, .string ⟨#[]⟩, .string ⟨#[]⟩, .bool false] 69) = W at *
  have c0 : W.cell? ⟨w.heap.size, 0, none⟩ = some v := cell_of_row _ _ 0 _ _ _ HG.out.1
  have c1 : W.cell? ⟨w.heap.size, 1, none⟩ = some iv := cell_of_row _ _ 1 _ _ _ HG.out.1
  go_wp2_with fail
  refine (HN.out _ HBW.out).mono ?_
  rintro e w1 ⟨m1, m2, rfl, hb1, hm1, ht1⟩
  have HB1 := Lib.hid (HBW.out.trans (hb1.mono HBW.out.size))
  have hs1 := hb1.size
  have HV1 := Lib.hid ((hb1.block (w.heap.size + 1) (by omega)).trans HG.out.2.1)
  have HZ1 := Lib.hid (HG.out.2.2.on hb1)
  have HT1 : Hid (TabOf w1 W.heap.size m1 (tabX X)) := Lib.hid ht1
  clear hb1 ht1 c0 c1 HG HBW
  have HT2 := Lib.hid (HT1.out.below (belQ w1 (.cells #[.map (some m1), .map (some m2)] 196)) hs1)
  have HN2 := Lib.hid (World.alloc_heap_new w1 (.cells #[.map (some m1), .map (some m2)] 196))
  have HV2 := Lib.hid (((belQ w1 (.cells #[.map (some m1), .map (some m2)] 196)).block (w.heap.size + 1) (by omega)).trans HV1.out)
  have HZ2 := Lib.hid (HZ1.out.on (belQ w1 (.cells #[.map (some m1), .map (some m2)] 196)))
  have HB2 := Lib.hid (HB1.out.trans ((belQ w1 (.cells #[.map (some m1), .map (some m2)] 196)).mono HB1.out.size))
  go_upto_region 2 with fail
  generalize hW2 : w1.alloc (.cells #[.map (some m1), .map (some m2)] 196) = W2 at *
  have hs2 : w1.heap.size < W2.heap.size := by rw [← hW2]; simp
  clear hW2
  have t0 : W2.cell? ⟨w1.heap.size, 0, none⟩ = some (.map (some m1)) := cell_of_row _ _ 0 _ _ _ HN2.out
  have v0 : W2.cell? ⟨w.heap.size + 1, 0, none⟩ = some (intC y.2.1) := cell_of_row _ _ 0 _ _ _ HV2.out
  have v1 : W2.cell? ⟨w.heap.size + 1, 1, none⟩ = some (intC y.2.2.1) := cell_of_row _ _ 1 _ _ _ HV2.out
  have v2 : W2.cell? ⟨w.heap.size + 1, 2, none⟩ = some (intC y.2.2.2) := cell_of_row _ _ 2 _ _ _ HV2.out
  obtain ⟨f, n, hmf, hlk⟩ := HT2.out.look
  have HLK := Lib.hid (hlk y hy)
  have HMF := Lib.hid hmf
  have HKY := Lib.hid (keyS_of hy)
  clear hlk hmf
  have HZR := Lib.hid (show ∀ W, (zeroValue 69).run Tryz.prog W = .ok zeroR W from Tryz.zeroValue69)
  obtain ⟨x, r, e1, e2, e3, e4, e5, e6⟩ : ∃ x r, (f (keyS y)).getD zeroR = .agg (relC x r) ∧ (f (keyS y)).isSome = o.isSome ∧ o.getD default = x ∧ ReqsOf W.heap.size r x.reqs W2 ∧ x.reqs.length ≤ 1000000 ∧ ∀ q ∈ x.reqs, q.2.length ≤ 1000000 := by
    rcases HLK.out with ⟨l1, l2⟩ | ⟨x, r, l1, l2, l3, l4⟩
    · rw [HO.out] at l1
      subst l1
      exact ⟨default, .slice none 0 0, by rw [l2]; rfl, by rw [l2]; rfl, rfl, ⟨none, 0, rfl, fun i q hq => by cases hq⟩, Nat.zero_le _, fun q hq => by cases hq⟩
    · rw [HO.out] at l2
      subst l2
      exact ⟨x, r, by rw [l3]; rfl, by rw [l3]; rfl, rfl, l4, (HQ.out x l1).len, fun q hq => ((HQ.out x l1).reqs q hq).2⟩
  have HE3 := Lib.hid e3
  obtain ⟨ob, hob⟩ : ∃ ob, o.isSome = ob := ⟨_, rfl⟩
  rw [hob] at e2
  have HOB := Lib.hid hob
  have hlt : W.heap.size ≤ W2.heap.size := by omega
  have HB3 := Lib.hid ((belQ W2 (.cells (relC x r) 69)))
  have HC := Lib.hid (clone_any x r (W2.alloc (.cells (relC x r) 69)) e5 e6 ((e4.below HB3.out hlt).mono (by simp; omega)))
  have HZ3 := Lib.hid (HZ2.out.on HB3.out)
  obtain ⟨ra, rc, rfl, _⟩ := e4
  clear e3 e5 e6 hob HLK
  simp only [relC_at] at e1 HC HZ3 HB3
  go_wp2_with (at_lookup; refine wpList_look_ok_F rfl _ _ 193 rfl 53 69 lawSel Tryz.underlying193 (HZR.out _) m1 n f (by rfl) HMF.out _ (keyS y) rfl HKY.out ?_; rw [e1, e2])
  refine HC.out.mono ?_
  rintro e w4 ⟨r', rfl, hr4, hb4⟩
  have HB4 := Lib.hid (HB2.out.trans ((HB3.out.trans (hb4.mono (by simp))).mono HB2.out.size))
  have HR4 := Lib.hid hr4
  have hbox := HZ3.out.on hb4
  have HBX := Lib.hid hbox
  obtain ⟨b0, b1, b2, b3, b4, b5, b6, b7, b8⟩ := hbox.cells
  have F : ∀ j, w4.frozen? ⟨w.heap.size + 1 + 1, j, none⟩ = false := fun j => frozen_of_row _ _ j _ _ hbox
  have f0 := F 0
  have f1 := F 1
  have f2 := F 2
  have f3 := F 3
  have f4 := F 4
  have f5 := F 5
  have f6 := F 6
  have f7 := F 7
  have f8 := F 8
  have hs4 := hb4.size
  clear F hbox hb4 t0 v0 v1 v2
  simp only [show (default : RelL).path = ⟨#[]⟩ from rfl, show (default : RelL).ver = (0, 0, 0) from rfl, show (default : RelL).ar = ⟨#[]⟩ from rfl, show (default : RelL).ifc = ⟨#[]⟩ from rfl, show (default : RelL).cert = ⟨#[]⟩ from rfl, show (default : RelL).yk = false from rfl] at b0 b1 b2 b3 b4 b5 b6 b7 b8
  obtain ⟨qa, qc, rfl, _⟩ := hr4.now
  have hg := setRel_grown w4 (w.heap.size + 1 + 1) x (.slice qa x.reqs.length qc)
  have hbx := setRel_box x (.slice qa x.reqs.length qc) HBX.out
  have hb5 : RowKit.Below w.heap.size w (setRel w4 (w.heap.size + 1 + 1) x (.slice qa x.reqs.length qc)) := HB4.out.grown hg HB4.out.size (fun b hb => by cases hb; omega)
  have hr5 : ReqRows w.heap.size (.slice qa x.reqs.length qc) x.reqs (setRel w4 (w.heap.size + 1 + 1) x (.slice qa x.reqs.length qc)) := (HR4.out.grown hg (fun g hg => .inl (by cases hg; simp; omega))).map (fun _ _ _ _ _ _ h => own_mono h (by simp; omega))
  have HS1 := Lib.hid hbx
  have HS2 := Lib.hid hb5
  have HS3 := Lib.hid hr5
  unfold setRel at HS1 HS2 HS3
  clear hg hbx hb5 hr5
  go_wp2_with fail
  refine bodyPost_ret (results_cell_tmp rfl _ _ (w.heap.size + 1 + 1) _ _ _ _ rfl HS1.out Tryz.underlying69 rfl (by kernel_rfl)) rfl ?_
  refine ⟨.slice qa x.reqs.length qc, by rw [HE3.out, HOB.out]; rfl, ?_, HS2.out⟩
  rw [HE3.out]
  exact HS3.out
end Go.Proofs.YtnjiibiafhnmgaaGreatDoor

namespace Go.Proofs.YtnjiibiafhnmgaaGreatDoor
set_option linter.unusedVariables false
set_option linter.unusedSimpArgs false
open Go Go.RowKit

def firstI {α : Type} (p : α → Bool) (l : List α) : Int := match l.findIdx? p with
  | some i => (i : Int)
  | none => -1
theorem firstI_none {α : Type} {p : α → Bool} {l : List α} (h : ∀ x ∈ l, p x = false) : firstI p l = -1 := by
  unfold firstI
  rw [List.findIdx?_eq_none_iff.2 fun x hx => by simp [h x hx]]
theorem firstI_at {α : Type} {p : α → Bool} {l : List α} {k : Nat} (hk : k < l.length) (h : ∀ x ∈ l.take k, p x = false) (h2 : p l[k] = true) : firstI p l = (k : Int) := by
  unfold firstI
  rw [List.findIdx?_eq_some_iff_getElem.2 ⟨hk, h2, fun j hj => by
    have : l[j] ∈ l.take k := by
      rw [List.mem_iff_getElem]
      exact ⟨j, by simp; omega, by simp⟩
    simp [h _ this]⟩]
theorem firstI_any {α : Type} (p : α → Bool) (l : List α) : (0 ≤ firstI p l ↔ l.any p = true) ∧ (firstI p l < 0 ↔ l.any p = false) := by
  unfold firstI
  cases h : l.findIdx? p with
  | none =>
    have := List.findIdx?_eq_none_iff.1 h
    have h2 : l.any p = false := by rw [List.any_eq_false]; exact fun x hx => by simp [this x hx]
    simp [h2]
  | some i =>
    obtain ⟨hi, h1, _⟩ := List.findIdx?_eq_some_iff_getElem.1 h
    have h2 : l.any p = true := by rw [List.any_eq_true]; exact ⟨_, List.getElem_mem hi, h1⟩
    simp [h2]
def PredQ (g : Nat) (lb : Array Value) (es : List ReqL) (p : ReqL → Bool) (w : World) : Prop :=
  ∀ (W : World) (x : ReqL) (r : Value), x ∈ es → Below w.heap.size w W → SpansOf W.heap.size r x.2 W → Calls Tryz.prog g (#[.agg #[.string x.1, r]] ++ lb) W fun e w' => e = .returned (.bool (p x)) ∧ Below w.heap.size w w'
set_option maxRecDepth 100000 in
set_option maxHeartbeats 4000000 in
theorem idx_req (g : Nat) (lb : Array Value) (eg : ∀ args w, (callFunc g args).run Tryz.prog w = .ok (.enter g args) w) (p : ReqL → Bool) (v : Value) (es : List ReqL) (w : World) (hes : es.length ≤ 1000000000) (hE : ReqsOf w.heap.size v es w) (hp : PredQ g lb es p w) :
    Calls Tryz.prog 117 #[v, .func (.func g) #[] lb] w fun e w' => e = .returned (.int .i64 (firstI p es)) ∧ Below w.heap.size w w' := by
  obtain ⟨ao, ec, rfl, hE⟩ := hE
  have HE := Lib.hid hE
  have HP := Lib.hid hp
  obtain ⟨R, hR⟩ : ∃ R, firstI p es = R := ⟨_, rfl⟩
  have HR := Lib.hid hR
  rw [hR]
  clear hE hp hR
  go_enter Tryz.func117, Tryz.ntmps117
  go_wp2_with fail
  go_loopw [8] (fun s wr => ∃ k : Nat, k ≤ es.length ∧ s = .int .i64 k ∧ Hid (Below w.heap.size w wr) ∧ Hid (∀ x ∈ es.take k, p x = false)) (fun s _ => es.length - (intOf s).toNat)
  case atStart => exact ⟨0, by omega, rfl, Lib.hid (Below.refl _ _), Lib.hid (by simp)⟩
  case round =>
    obtain ⟨k, hk, rfl, HB, HA⟩ := hrel
    by_cases hlt : k < es.length
    · have hlt2 : (k : Int) < (es.length : Int) := by omega
      obtain ⟨b, off, r, rfl, hb, hc1, hc2, hsp⟩ := HE.out k es[k] (by simp [hlt])
      have hd1 := (HB.out.cell (p := ⟨b, off + k * 2, none⟩) hb).trans hc1
      have hd2 := (HB.out.cell (p := ⟨b, off + k * 2 + 1, none⟩) hb).trans hc2
      have HSP := Lib.hid hsp
      have HT : Hid (es.take (k + 1) = es.take k ++ [es[k]]) := Lib.hid (List.take_succ_eq_append_getElem hlt)
      have HF : Hid (p es[k] = true → R = (k : Int)) := Lib.hid (fun h => by rw [← HR.out]; exact firstI_at hlt HA.out h)
      have HCALL := Lib.hid (HP.out wr es[k] r (List.getElem_mem hlt) HB.out ((hsp.below HB.out (Nat.le_refl _)).mono HB.out.size))
      obtain ⟨ra, rc, rfl, _⟩ := hsp
      clear HSP
      generalize es[k] = x at *
      cases hq : p x with
      | true =>
        rw [hq] at HCALL
        have HQ := Lib.hid (HF.out hq)
        clear hq
        go_wp2_with (go_at_fn g; refine HCALL.out.mono ?_; rintro e w' ⟨rfl, hb'⟩)
        go_ret
        exact ⟨by rw [HQ.out]; rfl, hb'⟩
      | false =>
        rw [hq] at HCALL
        have HQ := Lib.hid hq
        clear hq
        go_wp2_with (go_at_fn g; refine HCALL.out.mono ?_; rintro e w' ⟨rfl, hb'⟩)
        go_roundw
        case rel =>
          refine ⟨k + 1, by omega, by go_num, Lib.hid hb', Lib.hid ?_⟩
          rw [HT.out]
          intro y hy
          rcases List.mem_append.1 hy with hy | hy
          · exact HA.out y hy
          · rw [List.mem_singleton] at hy; rw [hy]; exact HQ.out
        case measure => simp [intOf]; omega
    · have hkk : k = es.length := by omega
      subst hkk
      rw [List.take_length] at HA
      have HN := Lib.hid (show R = -1 by rw [← HR.out]; exact firstI_none HA.out)
      go_wp2_with fail
      go_ret
      exact ⟨by rw [HN.out]; rfl, HB.out⟩
theorem has_req (g : Nat) (lb : Array Value) (eg : ∀ args w, (callFunc g args).run Tryz.prog w = .ok (.enter g args) w) (p : ReqL → Bool) (v : Value) (es : List ReqL) (w : World) (hes : es.length ≤ 1000000000) (hE : ReqsOf w.heap.size v es w) (hp : PredQ g lb es p w) :
    Calls Tryz.prog 85 #[v, .func (.func g) #[] lb] w fun e w' => e = .returned (.bool (es.any p)) ∧ Below w.heap.size w w' := by
  have HI := Lib.hid (idx_req g lb eg p v es w hes hE hp)
  obtain ⟨f1, f2⟩ := firstI_any p es
  generalize firstI p es = r at HI f1 f2
  generalize es.any p = q at f1 f2 ⊢
  have HF := Lib.hid (And.intro f1 f2)
  obtain ⟨ao, ec, rfl, _⟩ := hE
  clear hp eg f1 f2
  go_enter Tryz.func85, Tryz.ntmps85
  go_wp2_with fail
  refine HI.out.mono ?_
  rintro e w' ⟨rfl, hb⟩
  cases q with
  | true =>
    have h0 : 0 ≤ r := HF.out.1.2 rfl
    go_wp2_with fail
    go_ret
    exact ⟨rfl, hb⟩
  | false =>
    have h2 : r < 0 := HF.out.2.2 rfl
    have h0 : ¬ 0 ≤ r := by omega
    have h1 : decide (0 ≤ r) = false := decide_eq_false h0
    go_wp2_with fail
    go_ret
    exact ⟨rfl, hb⟩
def PredR (g : Nat) (lb : Array Value) (es : List RelL) (p : RelL → Bool) (w : World) : Prop :=
  ∀ (W : World) (x : RelL) (r : Value), x ∈ es → Below w.heap.size w W → ReqsOf W.heap.size r x.reqs W → Calls Tryz.prog g (#[.agg (relC x r)] ++ lb) W fun e w' => e = .returned (.bool (p x)) ∧ Below w.heap.size w w'
def PredS4 (g : Nat) (lb : Array Value) (es : List SelL) (p : SelL → Bool) (w : World) : Prop :=
  ∀ (W : World) (x : SelL), x ∈ es → Below w.heap.size w W →  Calls Tryz.prog g (#[.agg #[.string x.1, intC x.2.1, intC x.2.2.1, intC x.2.2.2]] ++ lb) W fun e w' => e = .returned (.bool (p x)) ∧ Below w.heap.size w w'
end Go.Proofs.YtnjiibiafhnmgaaGreatDoor
