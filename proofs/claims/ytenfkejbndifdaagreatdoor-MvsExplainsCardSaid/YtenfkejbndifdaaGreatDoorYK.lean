/- The index's clone and Find. One operation of a region, by the laws for lists of operations. What the cards of lists share: requirements that came in, with the room of their slice. What the cards share: a cause that came in. Minimal version selection, plain: what a requirement names; what is reached; the selection. Minimal version selection, plain: it satisfies; the newest one; further roots; growing requirements. -/
import Derived.Test.YtenfkejbndifdaaGreatDoorYJ
import Derived.Test.YtenfkejbndifdaaGreatDoorYF
import Derived.Test.YtenfkejbndifdaaGreatDoorYD
import Derived.Test.YtenfkejbndifdaaGreatDoorYI
import Derived.Test.YtenfkejbndifdaaGreatDoorYE
import Derived.Test.YtenfkejbndifdaaGreatDoorYA
namespace Go.Proofs.YtenfkejbndifdaaGreatDoor
set_option linter.unusedVariables false
set_option linter.unusedSimpArgs false
open Go Go.RowKit Go.Maps

theorem own_on {B : Nat} {e : TypeId} {c : Nat} {v : Value} {n : Nat} {xs : List Value} {W W' : World} (h : W.ownsRow B e c v n xs) (hb : RowKit.Below W.heap.size W W') : W'.ownsRow B e c v n xs := by
  obtain ⟨hl, h | ⟨g, cap, cur, rfl, h1, h2, h3⟩⟩ := h
  · exact ⟨hl, .inl h⟩
  · exact ⟨hl, .inr ⟨g, cap, cur, rfl, h1, (hb.block g (Array.getElem?_eq_some_iff.1 h2).1).trans h2, h3⟩⟩
theorem own_lo {B : Nat} {e : TypeId} {c : Nat} {v : Value} {n : Nat} {xs : List Value} {W : World} (h : W.ownsRow B e c v n xs) : ∀ b, v.ownBlock = some b → B ≤ b ∧ b < W.heap.size ∧ ∃ cs, W.heap[b]? = some (.cells cs e (0, 0)) := fun b hb => by
  obtain ⟨hl, ⟨rfl, _⟩ | ⟨g, cap, cur, rfl, h1, h2, h3⟩⟩ := h
  · cases hb
  · simp [Value.ownBlock] at hb
    subst hb
    exact ⟨h1, (Array.getElem?_eq_some_iff.1 h2).1, cur, h2⟩
theorem own_apart {B B' : Nat} {e e' : TypeId} {c c' : Nat} {v v' : Value} {n n' : Nat} {xs xs' : List Value} {W : World} (h : W.ownsRow B e c v n xs) (h' : W.ownsRow B' e' c' v' n' xs') (hne : e ≠ e') : v.ownBlock = none ∨ v.ownBlock ≠ v'.ownBlock := by
  cases hv : v.ownBlock with
  | none => exact .inl rfl
  | some b =>
    refine .inr fun hb => ?_
    obtain ⟨_, _, cs, h1⟩ := own_lo h b hv
    obtain ⟨_, _, cs', h2⟩ := own_lo h' b hb.symm
    rw [h1] at h2
    injection h2 with h2
    injection h2 with _ h2
    exact hne h2
def setRel (W : World) (g : Nat) (x : RelL) (r : Value) : World := ((((((((W.setCell ⟨g, 0, none⟩ (.string x.path)).setCell ⟨g, 1, none⟩ (.int .i64 x.ver.1)).setCell ⟨g, 2, none⟩ (.int .i64 x.ver.2.1)).setCell ⟨g, 3, none⟩ (.int .i64 x.ver.2.2)).setCell ⟨g, 4, none⟩ r).setCell ⟨g, 5, none⟩ (.string x.ar)).setCell ⟨g, 6, none⟩ (.string x.ifc)).setCell ⟨g, 7, none⟩ (.string x.cert)).setCell ⟨g, 8, none⟩ (.bool x.yk)
theorem setRel_box {W : World} {g : Nat} {t : TypeId} {c0 c1 c2 c3 c4 c5 c6 c7 c8 : Value} (x : RelL) (r : Value) (h0 : W.heap[g]? = some (.cells #[c0, c1, c2, c3, c4, c5, c6, c7, c8] t (0, 0))) : (setRel W g x r).heap[g]? = some (.cells (relC x r) t (0, 0)) := by
  have h1 := heap_setCell_same _ g 0 #[c0, c1, c2, c3, c4, c5, c6, c7, c8] t (.string x.path) h0
  have h2 := heap_setCell_same _ g 1 #[.string x.path, c1, c2, c3, c4, c5, c6, c7, c8] t (.int .i64 x.ver.1) h1
  have h3 := heap_setCell_same _ g 2 #[.string x.path, .int .i64 x.ver.1, c2, c3, c4, c5, c6, c7, c8] t (.int .i64 x.ver.2.1) h2
  have h4 := heap_setCell_same _ g 3 #[.string x.path, .int .i64 x.ver.1, .int .i64 x.ver.2.1, c3, c4, c5, c6, c7, c8] t (.int .i64 x.ver.2.2) h3
  have h5 := heap_setCell_same _ g 4 #[.string x.path, .int .i64 x.ver.1, .int .i64 x.ver.2.1, .int .i64 x.ver.2.2, c4, c5, c6, c7, c8] t (r) h4
  have h6 := heap_setCell_same _ g 5 #[.string x.path, .int .i64 x.ver.1, .int .i64 x.ver.2.1, .int .i64 x.ver.2.2, r, c5, c6, c7, c8] t (.string x.ar) h5
  have h7 := heap_setCell_same _ g 6 #[.string x.path, .int .i64 x.ver.1, .int .i64 x.ver.2.1, .int .i64 x.ver.2.2, r, .string x.ar, c6, c7, c8] t (.string x.ifc) h6
  have h8 := heap_setCell_same _ g 7 #[.string x.path, .int .i64 x.ver.1, .int .i64 x.ver.2.1, .int .i64 x.ver.2.2, r, .string x.ar, .string x.ifc, c7, c8] t (.string x.cert) h7
  have h9 := heap_setCell_same _ g 8 #[.string x.path, .int .i64 x.ver.1, .int .i64 x.ver.2.1, .int .i64 x.ver.2.2, r, .string x.ar, .string x.ifc, .string x.cert, c8] t (.bool x.yk) h8
  exact h9
theorem grownBy_setC (W : World) (g j : Nat) (v : Value) : W.grownBy (W.setCell ⟨g, j, none⟩ v) (some g) :=
  ⟨rfl, rfl, rfl, Nat.le_of_eq (World.size_setCell W _ v).symm, fun k _ hne => heap_setCell_other W ⟨g, j, none⟩ k v (fun e => hne (by rw [e]))⟩
theorem grownBy_tr {a b c : World} {r : Option Nat} (h : a.grownBy b r) (k : b.grownBy c r) : a.grownBy c r :=
  ⟨k.os.trans h.os, k.tape.trans h.tape, k.output.trans h.output, Nat.le_trans h.size k.size, fun i hi hne => (k.block i (Nat.lt_of_lt_of_le hi h.size) hne).trans (h.block i hi hne)⟩
theorem setRel_grown (W : World) (g : Nat) (x : RelL) (r : Value) : W.grownBy (setRel W g x r) (some g) := by
  exact grownBy_tr (grownBy_tr (grownBy_tr (grownBy_tr (grownBy_tr (grownBy_tr (grownBy_tr (grownBy_tr (grownBy_setC _ _ _ _) (grownBy_setC _ _ _ _)) (grownBy_setC _ _ _ _)) (grownBy_setC _ _ _ _)) (grownBy_setC _ _ _ _)) (grownBy_setC _ _ _ _)) (grownBy_setC _ _ _ _)) (grownBy_setC _ _ _ _)) (grownBy_setC _ _ _ _)
theorem rows_reqs {W : World} {B : Nat} {v : Value} {l : List ReqL} {xs : List Value} (h : W.ownsRow B 58 2 v l.length xs) (he : ReqXs W.heap.size l xs W) : ReqsOf W.heap.size v l W := by
  obtain ⟨hl, ⟨rfl, h0⟩ | ⟨g, cap, cur, rfl, h1, h2, h3, h4, h5, h6⟩⟩ := h
  · obtain rfl := List.length_eq_zero_iff.1 h0
    exact ⟨none, 0, rfl, fun i q hq => by simp at hq⟩
  · refine ⟨_, cap, rfl, fun i q hq => ?_⟩
    obtain ⟨r, g1, g2, g3⟩ := he i q hq
    have hi := (List.getElem?_eq_some_iff.1 hq).1
    have key : ∀ j u, xs[j]? = some u → W.cell? ⟨g, j, none⟩ = some u := fun j u hu => by
      have hj := (List.getElem?_eq_some_iff.1 hu).1
      rw [cell_of_row _ _ _ _ _ _ h2, ← hu, ← h6, List.getElem?_take, if_pos (by omega)]
      simp
    exact ⟨g, 0, r, rfl, (Array.getElem?_eq_some_iff.1 h2).1, by rw [Nat.zero_add]; exact key _ _ g1, by rw [Nat.zero_add]; exact key _ _ g2, g3⟩
def ReqRows (B : Nat) (v : Value) (l : List ReqL) (W : World) : Prop := ∃ xs, W.ownsRow B 58 2 v l.length xs ∧ ∀ i q, l[i]? = some q → ∃ sv, xs[i * 2]? = some (.string q.1) ∧ xs[i * 2 + 1]? = some sv ∧ W.ownsRow B 133 2 sv q.2.length (spanCells q.2)
theorem ReqRows.now {B : Nat} {v : Value} {l : List ReqL} {W : World} (h : ReqRows B v l W) : ReqsOf W.heap.size v l W := by
  obtain ⟨xs, h1, h2⟩ := h
  exact rows_reqs h1 (fun i q hq => by
    obtain ⟨sv, g1, g2, g3⟩ := h2 i q hq
    exact ⟨sv, g1, g2, own_spans g3⟩)
theorem ReqRows.map {B B' : Nat} {v : Value} {l : List ReqL} {W W' : World} (h : ReqRows B v l W) (k : ∀ e c v n xs, e = 58 ∨ e = 133 → W.ownsRow B e c v n xs → W'.ownsRow B' e c v n xs) : ReqRows B' v l W' := by
  obtain ⟨xs, h1, h2⟩ := h
  refine ⟨xs, k _ _ _ _ _ (.inl rfl) h1, fun i q hq => ?_⟩
  obtain ⟨sv, g1, g2, g3⟩ := h2 i q hq
  exact ⟨sv, g1, g2, k _ _ _ _ _ (.inr rfl) g3⟩
theorem ReqRows.grown {B : Nat} {v : Value} {l : List ReqL} {W W' : World} {row : Option Nat} (h : ReqRows B v l W) (hg : W.grownBy W' row) (hr : ∀ b, row = some b → b < B ∨ ∃ cs e, W.heap[b]? = some (.cells cs e (0, 0)) ∧ e ≠ 58 ∧ e ≠ 133) : ReqRows B v l W' := h.map fun e c v n xs he h => h.kept hg (by
  cases hv : v.ownBlock with
  | none => exact .inl rfl
  | some b =>
    refine .inr fun e2 => ?_
    obtain ⟨h1, _, cs, h2⟩ := own_lo h b hv
    rcases hr b e2.symm with h3 | ⟨cs', e', h3, h4, h5⟩
    · omega
    · rw [h2] at h3
      injection h3 with h3
      injection h3 with _ h3
      rcases he with rfl | rfl
      · exact h4 h3.symm
      · exact h5 h3.symm)
structure CloJ (w : World) (x : RelL) (k : Nat) (ov : Value) (xs : List Value) (W : World) : Prop where
  bel : RowKit.Below w.heap.size w W
  size : w.heap.size + 1 < W.heap.size
  box : BoxR W w.heap.size x ov
  res : BoxR W (w.heap.size + 1) default (.slice none 0 0)
  row : W.ownsRow (w.heap.size + 1 + 1) 58 2 ov k xs
  els : ∀ i q, i < k → x.reqs[i]? = some q → ∃ sv, xs[i * 2]? = some (.string q.1) ∧ xs[i * 2 + 1]? = some sv ∧ W.ownsRow (w.heap.size + 1 + 1) 133 2 sv q.2.length (spanCells q.2)
theorem CloJ.below {w : World} {x : RelL} {k : Nat} {ov : Value} {xs : List Value} {W W' : World} (h : CloJ w x k ov xs W) (hb : RowKit.Below W.heap.size W W') : CloJ w x k ov xs W' := by
  obtain ⟨h1, h2, h3, h4, h5, h6⟩ := h
  refine ⟨h1.trans (hb.mono h1.size), Nat.lt_of_lt_of_le h2 hb.size, h3.on hb, h4.on hb, own_on h5 hb, fun i q hi hq => ?_⟩
  obtain ⟨sv, g1, g2, g3⟩ := h6 i q hi hq
  exact ⟨sv, g1, g2, own_on g3 hb⟩
theorem own_mono {B B' : Nat} {e : TypeId} {c : Nat} {v : Value} {n : Nat} {xs : List Value} {W : World} (h : W.ownsRow B e c v n xs) (hB : B' ≤ B) : W.ownsRow B' e c v n xs := by
  obtain ⟨hl, h | ⟨g, cap, cur, rfl, h1, h2⟩⟩ := h
  · exact ⟨hl, .inl h⟩
  · exact ⟨hl, .inr ⟨g, cap, cur, rfl, by omega, h2⟩⟩
theorem own_farM {B : Nat} {e : TypeId} {c : Nat} {v : Value} {n : Nat} {xs : List Value} {W W' : World} {g : Nat} (h : W.ownsRow B e c v n xs) (hg : W.grownBy W' (some g)) (hB : g < B) : W'.ownsRow B e c v n xs := h.kept hg (by
  cases hv : v.ownBlock with
  | none => exact .inl rfl
  | some b => exact .inr (fun e2 => by have := (own_lo h b hv).1; injection e2 with e2; omega))
theorem CloJ.step {w : World} {x : RelL} {k : Nat} {ov v' sv : Value} {xs : List Value} {W5 W6 : World} {q : ReqL} (h : CloJ w x k ov xs W5) (hq : x.reqs[k]? = some q) (hn : W5.ownsRow (w.heap.size + 1 + 1) 133 2 sv q.2.length (spanCells q.2))
    (hown : W6.ownsRow (w.heap.size + 1 + 1) 58 2 v' (k + 1) (xs ++ [.string q.1, sv])) (hg : W5.grownBy W6 ov.ownBlock) : CloJ w x (k + 1) v' (xs ++ [.string q.1, sv]) (W6.setCell ⟨w.heap.size, 4, none⟩ v') := by
  obtain ⟨h1, h2, h3, h4, h5, h6⟩ := h
  have hl := h5.1
  have lo : ∀ b, some b = ov.ownBlock → w.heap.size + 1 < b := fun b hb => by have := (own_lo h5 b hb.symm).1; omega
  have g2 := grownBy_setC W6 w.heap.size 4 v'
  have keep : ∀ v n xs, W5.ownsRow (w.heap.size + 1 + 1) 133 2 v n xs → (W6.setCell ⟨w.heap.size, 4, none⟩ v').ownsRow (w.heap.size + 1 + 1) 133 2 v n xs := fun v n xs hr =>
    own_farM (hr.kept hg (own_apart hr h5 (by decide))) g2 (by omega)
  refine ⟨(h1.grown hg (by omega) (fun b hb => by have := lo b hb.symm; omega)).setCell (by simp) _, by rw [World.size_setCell]; exact Nat.lt_of_lt_of_le h2 hg.size, ?_, ?_, own_farM hown g2 (by omega), fun i q' hi hq' => ?_⟩
  · have hb := (hg.block w.heap.size (by omega) (fun e => by have := lo _ e; omega)).trans h3
    exact heap_setCell_same _ _ 4 _ _ v' hb
  · have hb := (hg.block (w.heap.size + 1) h2 (fun e => by have := lo _ e; omega)).trans h4
    exact (g2.block _ (Nat.lt_of_lt_of_le h2 hg.size) (fun e => by injection e with e; omega)).trans hb
  · by_cases hik : i = k
    · subst hik
      rw [hq] at hq'
      cases hq'
      refine ⟨sv, ?_, ?_, keep _ _ _ hn⟩
      · rw [List.getElem?_append_right (by omega), hl, Nat.sub_self]; rfl
      · rw [List.getElem?_append_right (by omega), hl, show i * 2 + 1 - i * 2 = 1 by omega]; rfl
    · obtain ⟨s0, e1, e2, e3⟩ := h6 i q' (by omega) hq'
      exact ⟨s0, by rw [List.getElem?_append_left (by omega)]; exact e1, by rw [List.getElem?_append_left (by omega)]; exact e2, keep _ _ _ e3⟩
theorem relC_at (x : RelL) (r : Value) : relC x r = #[.string x.path, intC x.ver.1, intC x.ver.2.1, intC x.ver.2.2, r, .string x.ar, .string x.ifc, .string x.cert, .bool x.yk] := rfl
set_option maxRecDepth 100000 in
set_option maxHeartbeats 8000000 in
theorem clone_any (x : RelL) (r : Value) (w : World) (hl : x.reqs.length ≤ 1000000) (hq : ∀ q ∈ x.reqs, q.2.length ≤ 1000000) (hR : ReqsOf w.heap.size r x.reqs w) :
    Calls Tryz.prog 101 #[.agg (relC x r)] w fun e w' => ∃ r', e = .returned (.agg (relC x r')) ∧ ReqRows w.heap.size r' x.reqs w' ∧ RowKit.Below w.heap.size w w' := by
  obtain ⟨ao, cap, rfl, hR⟩ := hR
  have HR := Lib.hid hR
  have HQ := Lib.hid hq
  clear hR hq
  have HB0 : Hid (CloJ w x 0 (.slice none 0 0) [] ((w.alloc (.cells (relC x (.slice none 0 0)) 71)).alloc (.cells (relC default (.slice none 0 0)) 71))) := Lib.hid (by
    refine ⟨((RowKit.Below.refl _ _).alloc (Nat.le_refl _) _).alloc (by simp) _, by simp only [World.size_alloc]; omega, (BoxR.made w x _).on (belQ _ _), ?_, World.ownsRow_nil _ _ _ _, fun i q hi => absurd hi (Nat.not_lt_zero _)⟩
    have := BoxR.made (w.alloc (.cells (relC x (.slice none 0 0)) 71)) default (.slice none 0 0)
    rwa [World.size_alloc] at this)
  have hz : ((default : RelL).path = ⟨#[]⟩ ∧ (default : RelL).ver = (0, 0, 0)) := ⟨rfl, rfl⟩
  simp only [relC_at, show (default : RelL).path = ⟨#[]⟩ from rfl, show (default : RelL).ver = (0, 0, 0) from rfl, show (default : RelL).ar = ⟨#[]⟩ from rfl, show (default : RelL).ifc = ⟨#[]⟩ from rfl, show (default : RelL).cert = ⟨#[]⟩ from rfl, show (default : RelL).yk = false from rfl] at HB0 ⊢
  clear hz
  obtain ⟨i0, hi0, hz0, hz1, hz2⟩ := info_parts info_reqs
  go_enter Tryz.func101, Tryz.ntmps101
  go_upto_region 4 with fail
  generalize (w.alloc (.cells #[.string x.path, intC x.ver.1, intC x.ver.2.1, intC x.ver.2.2, .slice none 0 0, .string x.ar, .string x.ifc, .string x.cert, .bool x.yk] 71)).alloc (.cells #[.string ⟨#[]⟩, .int .i64 0, .int .i64 0, .int .i64 0, .slice none 0 0, .string ⟨#[]⟩, .string ⟨#[]⟩, .string ⟨#[]⟩, .bool false] 71) = W0 at *
  go_loopw [11] (fun p wr => ∃ k : Nat, k ≤ x.reqs.length ∧ p = .int .i64 k ∧ Hid (∃ ov xs, CloJ w x k ov xs wr)) (fun p _ => x.reqs.length - (intOf p).toNat)
  case atStart => exact ⟨0, Nat.zero_le _, rfl, Lib.hid ⟨_, _, HB0.out⟩⟩
  case round =>
    obtain ⟨k, hk, rfl, HE⟩ := hrel
    obtain ⟨ov, xs, hj⟩ := HE.out
    have HJ := Lib.hid hj
    clear HE
    obtain ⟨a0, a1, a2, a3, a4, a5, a6, a7, a8⟩ := hj.box.cells
    clear hj
    by_cases hlt : k < x.reqs.length
    case neg =>
      have hk2 : k = x.reqs.length := by omega
      subst hk2
      obtain ⟨b0, b1, b2, b3, b4, b5, b6, b7, b8⟩ := HJ.out.res.cells
      have F : ∀ j, wr.frozen? ⟨w.heap.size + 1, j, none⟩ = false := fun j => frozen_of_row _ _ j _ _ HJ.out.res
      have f0 := F 0
      have f1 := F 1
      have f2 := F 2
      have f3 := F 3
      have f4 := F 4
      have f5 := F 5
      have f6 := F 6
      have f7 := F 7
      have f8 := F 8
      clear F
      simp only [show (default : RelL).path = ⟨#[]⟩ from rfl, show (default : RelL).ver = (0, 0, 0) from rfl, show (default : RelL).ar = ⟨#[]⟩ from rfl, show (default : RelL).ifc = ⟨#[]⟩ from rfl, show (default : RelL).cert = ⟨#[]⟩ from rfl, show (default : RelL).yk = false from rfl] at b0 b1 b2 b3 b4 b5 b6 b7 b8
      obtain ⟨oa, oc, rfl⟩ : ∃ oa oc, ov = .slice oa x.reqs.length oc := by
        obtain ⟨hl, ⟨rfl, h0⟩ | ⟨g, cap, cur, rfl, _⟩⟩ := HJ.out.row
        · exact ⟨none, 0, by rw [h0]⟩
        · exact ⟨_, _, rfl⟩
      go_wp2_with fail
      have hg := setRel_grown wr (w.heap.size + 1) x (.slice oa x.reqs.length oc)
      have hbox := setRel_box x (.slice oa x.reqs.length oc) HJ.out.res
      have hbel : RowKit.Below w.heap.size w (setRel wr (w.heap.size + 1) x (.slice oa x.reqs.length oc)) := HJ.out.bel.grown hg HJ.out.bel.size (fun b hb => by cases hb; omega)
      have ne : ∀ e c v n xs, wr.ownsRow (w.heap.size + 1 + 1) e c v n xs → (setRel wr (w.heap.size + 1) x (.slice oa x.reqs.length oc)).ownsRow (w.heap.size + 1 + 1) e c v n xs := fun e c v n xs h => h.kept hg (by
        cases hv : v.ownBlock with
        | none => exact .inl rfl
        | some b => exact .inr (fun e2 => by have := (own_lo h b hv).1; injection e2 with e2; omega))
      have hreq : ReqRows w.heap.size (.slice oa x.reqs.length oc) x.reqs (setRel wr (w.heap.size + 1) x (.slice oa x.reqs.length oc)) := by
        refine ⟨xs, own_mono (ne _ _ _ _ _ HJ.out.row) (by omega), fun i q hq => ?_⟩
        obtain ⟨sv, g1, g2, g3⟩ := HJ.out.els i q (List.getElem?_eq_some_iff.1 hq).1 hq
        exact ⟨sv, g1, g2, own_mono (ne _ _ _ _ _ g3) (by omega)⟩
      unfold setRel at hg hbox hbel hreq
      clear hg ne
      refine bodyPost_ret (results_cell_row rfl _ _ (w.heap.size + 1) _ _ _ _ rfl hbox Tryz.underlying71 rfl (by kernel_rfl)) rfl ?_
      exact ⟨.slice oa x.reqs.length oc, rfl, hreq, hbel⟩
    case pos =>
      obtain ⟨b, off, sv, rfl, hbl, d0, d1, hsp⟩ := HR.out k x.reqs[k] (by simp [hlt])
      have hql := HQ.out x.reqs[k] (List.getElem_mem hlt)
      have HXK : Hid (x.reqs[k]? = some x.reqs[k]) := Lib.hid (List.getElem?_eq_getElem hlt)
      generalize x.reqs[k] = q at *
      have HC := Lib.hid (fun W (hb : RowKit.Below w.heap.size w W) => CloneS_any sv q.2 W hql ((hsp.below hb (Nat.le_refl _)).mono hb.size))
      obtain ⟨sa, sc, rfl, _⟩ := hsp
      have hbw : b < wr.heap.size := Nat.lt_of_lt_of_le hbl HJ.out.bel.size
      have d0 := (HJ.out.bel.cell (p := ⟨b, off + k * 2, none⟩) hbl).trans d0
      have d1 := (HJ.out.bel.cell (p := ⟨b, off + k * 2 + 1, none⟩) hbl).trans d1
      have HB1 := Lib.hid (HJ.out.bel.trans ((belQ wr (.cells #[.string q.1, .slice sa q.2.length sc] 58)).mono HJ.out.bel.size))
      have HJ1 := Lib.hid (HJ.out.below (belQ wr (.cells #[.string q.1, .slice sa q.2.length sc] 58)))
      have HN1 := Lib.hid (World.alloc_heap_new wr (.cells #[.string q.1, .slice sa q.2.length sc] 58))
      have HL := Lib.hid hlt
      go_wp2_with fail
      refine (HC.out _ HB1.out).mono ?_
      rintro e w3 ⟨v3, rfl, hrow3, hb3⟩
      have HJ3 := Lib.hid (HJ1.out.below hb3)
      have HN3 := Lib.hid ((hb3.block wr.heap.size (by simp)).trans HN1.out)
      have HR3 := Lib.hid hrow3
      have hs3 := hb3.size
      simp only [World.size_alloc] at hs3
      obtain ⟨va, vc, rfl⟩ : ∃ va vc, v3 = .slice va q.2.length vc := by
        obtain ⟨hl, ⟨rfl, h0⟩ | ⟨g, cap, cur, rfl, _⟩⟩ := hrow3
        · exact ⟨none, 0, by rw [h0]⟩
        · exact ⟨_, _, rfl⟩
      have HG4 : Hid (w3.grownBy (w3.setCell ⟨wr.heap.size, 1, none⟩ (.slice va q.2.length vc)) (some wr.heap.size)) := Lib.hid (grownBy_setC _ _ _ _)
      have HN4 := Lib.hid (heap_setCell_same w3 wr.heap.size 1 _ _ (.slice va q.2.length vc) HN3.out)
      have hg0 : w.heap.size + 1 < wr.heap.size := HJ.out.size
      have F1 : w3.cell? ⟨wr.heap.size, 1, none⟩ = some (.slice sa q.2.length sc) := cell_of_row _ _ 1 _ _ _ HN3.out
      have F2 := frozen_of_row _ _ 1 _ _ HN3.out
      have HJ4 := Lib.hid (HJ.out.below (((belQ wr (.cells #[.string q.1, .slice sa q.2.length sc] 58)).trans (hb3.mono (by simp))).setCell (show wr.heap.size ≤ (⟨wr.heap.size, 1, none⟩ : Addr).block from Nat.le_refl _) (.slice va q.2.length vc)))
      have HR4 : Hid ((w3.setCell ⟨wr.heap.size, 1, none⟩ (.slice va q.2.length vc)).ownsRow (w.heap.size + 1 + 1) 133 2 (.slice va q.2.length vc) q.2.length (spanCells q.2)) := Lib.hid (own_mono (own_farM HR3.out HG4.out (by simp)) (by simp; omega))
      clear hb3 d0 d1 hbw a0 a1 a2 a3 a4 a5 a6 a7 a8
      generalize wr.heap.size = g5 at *
      obtain ⟨e0, e1, e2, e3, e4, e5, e6, e7, e8⟩ := HJ3.out.box.cells
      have F3 := HN4.out
      have F4 : (w3.setCell ⟨g5, 1, none⟩ (.slice va q.2.length vc)).cell? ⟨g5, 0, none⟩ = some (.string q.1) := cell_of_row _ _ 0 _ _ _ HN4.out
      have F5 : (w3.setCell ⟨g5, 1, none⟩ (.slice va q.2.length vc)).cell? ⟨g5, 1, none⟩ = some (.slice va q.2.length vc) := cell_of_row _ _ 1 _ _ _ HN4.out
      clear F3
      go_upto_region 7 with fail
      generalize w3.setCell ⟨g5, 1, none⟩ (.slice va q.2.length vc) = W4 at *
      clear F1 F2 e0 e1 e2 e3 e4 e5 e6 e7 e8
      obtain ⟨e0, e1, e2, e3, e4, e5, e6, e7, e8⟩ := HJ4.out.box.cells
      have f4 := frozen_of_row _ _ 4 _ _ HJ4.out.box
      have HJ5 := Lib.hid (HJ4.out.below (belQ W4 (.cells #[.string q.1, .slice va q.2.length vc] 58)))
      have HR5 := Lib.hid (own_on HR4.out (belQ W4 (.cells #[.string q.1, .slice va q.2.length vc] 58)))
      have HN5 := Lib.hid (World.alloc_heap_new W4 (.cells #[.string q.1, .slice va q.2.length vc] 58))
      have HBX : Hid (∀ w6, (W4.alloc (.cells #[.string q.1, .slice va q.2.length vc] 58)).grownBy w6 ov.ownBlock → BoxR w6 w.heap.size x ov) := Lib.hid (fun w6 hg => (hg.block w.heap.size HJ5.out.box.lt (fun e => by have := (own_lo HJ5.out.row _ e.symm).1; omega)).trans HJ5.out.box)
      have hz5 : w.heap.size + 1 + 1 ≤ (W4.alloc (.cells #[.string q.1, .slice va q.2.length vc] 58)).heap.size := HJ5.out.size
      go_wp2_with (at_builtin; refine wpList_append_own _ rfl _ _ 26 rfl (w.heap.size + 1 + 1) 58 i0 _ 2 40 Tryz.underlying26 hi0 hz0 hz1 hz2 rfl (by decide) ov k xs (by rfl) HJ5.out.row ⟨W4.heap.size, 0, none⟩ 1 1 [.string q.1, .slice va q.2.length vc] (by rfl) (by rfl) (World.news_of_block HN5.out) (by simp [Value.oneCell']) (by unfold maxLen; omega) (by omega) hz5 ?_; intro v' w6 hown' hgrow _; have HOW := Lib.hid hown'; have HGR := Lib.hid hgrow; have hbx := HBX.out _ hgrow; have hc6 : w6.cell? ⟨w.heap.size, 4, none⟩ = some ov := cell_of_row _ _ 4 _ _ _ hbx; have hf6 := frozen_of_row _ _ 4 _ _ hbx; clear hown' hgrow hbx; obtain ⟨gg, gc, rfl⟩ := ownsRow_succ HOW.out)
      go_roundw
      case rel => exact ⟨k + 1, by omega, by go_num, Lib.hid ⟨_, _, HJ5.out.step HXK.out HR5.out HOW.out HGR.out⟩⟩
      case measure => simp [intOf]; omega
end Go.Proofs.YtenfkejbndifdaaGreatDoor

namespace Go.Proofs.YtenfkejbndifdaaGreatDoor
set_option linter.unusedVariables false
set_option linter.unusedSimpArgs false
open Go Go.RowKit

def OnlyN (K : Act → World → Prop) : Exit → Act → World → Prop
  | .normal, a, w => K a w
  | _, _, _ => False
theorem oper_of_list {P : Program} {ops : Array Oper} {o : Oper} {a : Act} {w : World} {K : Act → World → Prop} {Q : Exit → Act → World → Prop} (hg : o.guard = none) (h : wpList P ops (OnlyN K) [o] a w) : o.wp P a w K Q := by
  unfold wpList at h
  rw [if_pos (by simp [Region.wanted, hg])] at h
  rcases h with h | ⟨_, a0, w0, hh⟩
  · exact oper_tail (T := OnlyN K) (fun e a w ht => by cases e <;> first | rfl | exact ht.elim) (fun a w hk => hk) h
  · exact hh.elim
theorem desc_len (S : List (List Nat)) (far : List Int) : ∀ m n, (descP S far m n).length ≤ m + 1
  | 0, n => by unfold descP; simp
  | m + 1, n => by
    unfold descP
    cases (S.getD n []).find? (fun k => gD far k == (m : Int)) with
    | none => simp
    | some k => have := desc_len S far m k; simp; omega
theorem cells_as {W W' : World} {b o : Nat} {x : RelL} {r : Value} (e : ∀ j, W'.cell? ⟨b, j, none⟩ = W.cell? ⟨b, j, none⟩) (h : CellsAt W b o x r) : CellsAt W' b o x r := by
  obtain ⟨d0, d1, d2, d3, d4, d5, d6, d7, d8⟩ := h
  exact ⟨(e _).trans d0, (e _).trans d1, (e _).trans d2, (e _).trans d3, (e _).trans d4, (e _).trans d5, (e _).trans d6, (e _).trans d7, (e _).trans d8⟩
theorem wrap_succ {k : Nat} (h : k ≤ 1000000000) : wrap64 ((k : Int) + 1) = (k : Int) + 1 := by unfold wrap64; omega
theorem wrap_pred {k : Nat} (h : k ≤ 1000000000) : wrap64 (((k + 1 : Nat) : Int) - 1) = (k : Int) := by unfold wrap64; omega
def CapOk (v : Value) : Prop := ∃ a n c, v = .slice a n c ∧ n ≤ c
theorem own_cap {W : World} {B e s n : Nat} {v : Value} {xs : List Value} (h : W.ownsRow B e s v n xs) : CapOk v := by
  rcases h.2 with ⟨rfl, _⟩ | ⟨g, cap, cur, rfl, _, _, hc, _⟩
  · exact ⟨_, _, _, rfl, Nat.le_refl _⟩
  · exact ⟨_, _, _, rfl, hc⟩
theorem CapOk.le {a : Option Addr} {n c : Nat} (h : CapOk (.slice a n c)) : n ≤ c := by
  obtain ⟨a, n, c, e, h⟩ := h
  cases e
  exact h
theorem kk0 (k : Nat) : (0 : Int) ≤ (k : Int) + 1 := by omega
theorem kk1 {k n c : Nat} (h : k < n) (h2 : n ≤ c) : (k : Int) + 1 ≤ (c : Int) := by omega
theorem kk2 {k n c : Nat} (h : k < n) (h2 : n ≤ c) : ¬ c = k := by omega
theorem kk3 {k n : Nat} (h : k < n) (h2 : n ≤ 1000000) : k ≤ 1000000000 := by omega
theorem i64_succ {k : Nat} (h : k ≤ 1000000000) : IntKind.i64.wrap ((k : Int) + 1) = (k : Int) + 1 := IntWalk.i64_in _ (by omega)
theorem some_ne {a b : Nat} (h : a ≠ b) : some a ≠ some b := fun e => h (Option.some.inj e)
theorem chain_le {α β : Type} {ch : List β} {t u : List α} {f : α → β} {m n : Nat} (h : ch ++ t.map f = u.map f) (hu : u.length ≤ m + 1) (hm : m ≤ n) : ch.length ≤ n + 1 := by
  have h := congrArg List.length h
  rw [List.length_append, List.length_map, List.length_map] at h
  omega
theorem app1 {n x : Nat} (h : n ≤ x + 1) (hx : x ≤ 1000000) : n + 1 ≤ maxLen := by unfold maxLen; omega
theorem app2 {n x : Nat} (h : n ≤ x + 1) (hx : x ≤ 1000000) : (n + 1) * 40 ≤ 140737488355328 := by omega
theorem kk4 {j n c : Nat} (h : j < n) (h2 : n ≤ c) : (j : Int) ≤ (c : Int) := by omega
theorem kk5 {j n : Nat} (h : j < n) : (j : Int) + 1 ≤ (n : Int) := by omega
theorem kk6 {j n : Nat} (h : j < n) (h2 : n ≤ 16) : j ≤ 1000000000 := by omega
theorem take_small {α : Type} {R : List α} {j : Nat} (h : R.length ≤ 16) : (R.take j).length ≤ 1000000 := by rw [List.length_take]; omega
theorem pred_succ (j : Nat) : ((j + 1 : Nat) : Int) - 1 = (j : Int) := by omega
theorem cut_small {j n : Nat} (h : j < n) (h2 : n ≤ 16) : min j n + (n - (j + 1)) ≤ 16 := by omega
theorem app3 {n : Nat} (h : n ≤ 16) : n ≤ maxLen := by unfold maxLen; omega
theorem app4 {n : Nat} (h : n ≤ 16) : n * 40 ≤ 140737488355328 := by omega
theorem drop_none {α : Type} {R : List α} {j c : Nat} (h : R.length ≤ c) (hc : c = j + 1) : R.drop (j + 1) = [] := List.drop_eq_nil_of_le (by omega)
end Go.Proofs.YtenfkejbndifdaaGreatDoor

namespace Go.Proofs.YtenfkejbndifdaaGreatDoor
set_option linter.unusedVariables false
set_option linter.unusedSimpArgs false
open Go.ChangeShapes Go.WideShapes Go.ChangeAt Go.RowKit

end Go.Proofs.YtenfkejbndifdaaGreatDoor

namespace Go.Proofs.YtenfkejbndifdaaGreatDoor
set_option linter.unusedVariables false
set_option linter.unusedSimpArgs false
open Go.ChangeShapes Go.WideShapes Go.ChangeAt Go.RowKit

end Go.Proofs.YtenfkejbndifdaaGreatDoor

namespace Go.Proofs.YtenfkejbndifdaaGreatDoor
set_option linter.unusedVariables false
set_option linter.unusedSimpArgs false
open Go

theorem up_shape {s : List (Int × Int)} (h : upB (canon s) = true) (hn : s ≠ []) (hc : s = canon s) : s = [((leastV s).1, 1000000)] ∧ 0 ≤ (leastV s).1 ∧ (leastV s).1 < 1000000 := by
  have hm := fun x (hx : x ∈ canon s) => can_mem hx
  unfold leastV
  rw [← hc] at h hm ⊢
  match s, hn, h, hm with
  | [x], _, h, hm =>
    have hx := hm x (by simp)
    have h2 : x.2 = 1000000 := of_decide_eq_true h
    exact ⟨by show [x] = [(x.1, 1000000)]; rw [← h2], hx.1, by show x.1 < 1000000; omega⟩
  | _ :: _ :: _, _, h, _ => cases h
theorem up_has {m p : Int} (h0 : 0 ≤ p) (h1 : p < 1000000) : hasB [(m, 1000000)] p = decide (m ≤ p) := by
  unfold hasB
  simp [h0, h1]
def UpR (l : List ReqL) : Prop := checkReqs l = 0 ∧ ∀ q ∈ l, upB (canon q.2) = true
structure ReqOk (q : ReqL) : Prop where
  line : (lineV q.1).2.2 = 0
  ne : q.2 ≠ []
  can : q.2 = canon q.2
theorem reqE_ok {q : ReqL} {b : Option ByteArray} (h : reqE q b = 0) : ReqOk q ∧ ∀ p, b = some p → ltB p q.1 = true := by
  unfold reqE at h
  split at h
  · exact absurd h (by decide)
  · rename_i h1
    split at h
    · exact absurd h (by decide)
    · rename_i h2
      refine ⟨⟨Classical.not_not.1 h1, fun e => h2 (.inl e), Classical.byContradiction fun e => h2 (.inr e)⟩, ?_⟩
      rintro p rfl
      by_cases e : ltB p q.1 = true
      · exact e
      · simp only [if_neg e] at h
        exact absurd h (by decide)
structure ReqsOk (l : List ReqL) : Prop where
  len : l.length ≤ 16
  ok : ∀ q ∈ l, ReqOk q
  incr : l.Pairwise fun a b => ltB a.1 b.1 = true
theorem reqs_ok {l : List ReqL} (h : checkReqs l = 0) : ReqsOk l := by
  unfold checkReqs at h
  split at h
  · exact absurd h (by decide)
  · rename_i hl
    have h1 := firstE_zero h
    have hg : ∀ i (hi : i < l.length), l.getD i default = l[i] := fun i hi => by rw [List.getD_eq_getElem?_getD, List.getElem?_eq_getElem hi]; rfl
    have hs : ∀ i, (hi : i + 1 < l.length) → ltB l[i].1 l[i + 1].1 = true := fun i hi => by
      have h2 := (reqE_ok (h1 (i + 1) hi)).2 (l.getD i default).1 (by simp [beforeQ])
      rwa [hg i (by omega), hg (i + 1) hi] at h2
    refine ⟨by omega, fun q hq => ?_, ?_⟩
    · obtain ⟨i, hi, rfl⟩ := List.mem_iff_getElem.1 hq
      rw [← hg i hi]
      exact (reqE_ok (h1 i hi)).1
    · rw [List.pairwise_iff_getElem]
      intro i j hi hj hij
      obtain ⟨d, rfl⟩ : ∃ d, j = i + d + 1 := ⟨j - i - 1, by omega⟩
      clear hij
      induction d with
      | zero => exact hs i hj
      | succ d ih => exact ltB_trans (ih (by omega)) (hs (i + d + 1) hj)
theorem reqs_check {l : List ReqL} (h : ReqsOk l) : checkReqs l = 0 := by
  unfold checkReqs
  rw [if_neg (by have := h.len; omega)]
  refine firstE_none fun j hj => ?_
  have hg : ∀ i (hi : i < l.length), l.getD i default = l[i] := fun i hi => by rw [List.getD_eq_getElem?_getD, List.getElem?_eq_getElem hi]; rfl
  obtain ⟨h1, h2, h3⟩ := h.ok l[j] (List.getElem_mem hj)
  unfold reqE
  rw [hg j hj, if_neg (fun e => e h1), if_neg (fun e => e.elim h2 (fun e => e h3))]
  unfold beforeQ
  by_cases hz : j = 0
  · rw [if_pos hz]
  · rw [if_neg hz]
    simp only
    rw [hg (j - 1) (by omega), if_pos (List.pairwise_iff_getElem.1 h.incr (j - 1) j (by omega) hj (by omega))]
structure UpQ (q : ReqL) : Prop where
  ok : ReqOk q
  set : q.2 = [((leastV q.2).1, 1000000)]
  lo : 0 ≤ (leastV q.2).1
  hi : (leastV q.2).1 < 1000000
theorem UpR.q {l : List ReqL} (h : UpR l) {q : ReqL} (hq : q ∈ l) : UpQ q := by
  have h1 := (reqs_ok h.1).ok q hq
  obtain ⟨a, b, c⟩ := up_shape (h.2 q hq) h1.ne h1.can
  exact ⟨h1, a, b, c⟩
theorem UpQ.has {q : ReqL} (h : UpQ q) {p : Int} (h0 : 0 ≤ p) (h1 : p < 1000000) : hasB q.2 p = decide ((leastV q.2).1 ≤ p) := by
  have := up_has (m := (leastV q.2).1) h0 h1
  rwa [← h.set] at this
structure PlainP (X : List RelL) (roots : List ReqL) : Prop where
  idx : checkX X = 0
  roots : UpR roots
  own : ∀ i, i < X.length → ∀ q ∈ (X.getD i default).reqs, upB (canon q.2) = true
theorem PlainP.up {X : List RelL} {roots : List ReqL} (h : PlainP X roots) {i : Nat} (hi : i < X.length) : UpR (X.getD i default).reqs := ⟨((idx_ok h.idx).rel i hi).reqs, h.own i hi⟩
def reachB (q : ReqL) (r : RelL) : Bool := decide (q.1 = r.path) && hasB q.2 (plc r.ver)
def candI (X : List RelL) (q : ReqL) : List Nat := (List.range X.length).filter fun i => reachB q (X.getD i default) && !(X.getD i default).yk
def availI (X : List RelL) (p : ByteArray) : List Nat := (List.range X.length).filter fun i => decide (p = (X.getD i default).path) && !(X.getD i default).yk
def namedI (nw : Bool) (X : List RelL) (q : ReqL) : Option Nat := if nw = true then (candI X q).getLast? else (candI X q).head?
theorem candI_mem {X : List RelL} {q : ReqL} {i : Nat} : i ∈ candI X q ↔ i < X.length ∧ q.1 = (X.getD i default).path ∧ hasB q.2 (plc (X.getD i default).ver) = true ∧ (X.getD i default).yk = false := by
  unfold candI reachB
  rw [List.mem_filter, List.mem_range, Bool.and_eq_true, Bool.and_eq_true, decide_eq_true_iff, Bool.not_eq_true']
  exact ⟨fun ⟨a, ⟨b, c⟩, d⟩ => ⟨a, b, c, d⟩, fun ⟨a, b, c, d⟩ => ⟨a, ⟨b, c⟩, d⟩⟩
theorem range_sorted (n : Nat) : (List.range n).Pairwise (· < ·) := by
  rw [List.pairwise_iff_getElem]
  intro i j hi hj hij
  simpa using hij
theorem candI_sorted (X : List RelL) (q : ReqL) : (candI X q).Pairwise (· < ·) := (range_sorted _).filter _
theorem availI_sorted (X : List RelL) (p : ByteArray) : (availI X p).Pairwise (· < ·) := (range_sorted _).filter _
theorem named_mem {nw : Bool} {X : List RelL} {q : ReqL} {i : Nat} (h : namedI nw X q = some i) : i ∈ candI X q := by
  unfold namedI at h
  split at h
  · exact List.mem_of_getLast? h
  · exact List.mem_of_head? h
theorem named_none {nw : Bool} {X : List RelL} {q : ReqL} (h : namedI nw X q = none) : candI X q = [] := by
  unfold namedI at h
  split at h
  · exact List.getLast?_eq_none_iff.1 h
  · exact List.head?_eq_none_iff.1 h
theorem named_some {nw : Bool} {X : List RelL} {q : ReqL} {i : Nat} (h : i ∈ candI X q) : ∃ j, namedI nw X q = some j := by
  cases hn : namedI nw X q with
  | some j => exact ⟨j, rfl⟩
  | none => rw [named_none hn] at h; cases h
theorem named_least {X : List RelL} {q : ReqL} {i j : Nat} (h : namedI false X q = some i) (hj : j ∈ candI X q) : i ≤ j := by
  unfold namedI at h
  rw [if_neg (by decide)] at h
  have hs := candI_sorted X q
  cases hc : candI X q with
  | nil => rw [hc] at hj; cases hj
  | cons a t =>
    rw [hc] at h hj hs
    cases h
    rcases List.mem_cons.1 hj with rfl | hj
    · exact Nat.le_refl _
    · exact Nat.le_of_lt ((List.pairwise_cons.1 hs).1 j hj)
inductive RchM (nw : Bool) (X : List RelL) (roots : List ReqL) : Nat → Prop
  | root {q : ReqL} {i : Nat} (hq : q ∈ roots) (h : namedI nw X q = some i) : RchM nw X roots i
  | step {k : Nat} {q : ReqL} {i : Nat} (hk : RchM nw X roots k) (hq : q ∈ (X.getD k default).reqs) (h : namedI nw X q = some i) : RchM nw X roots i
theorem RchM.lt {nw : Bool} {X : List RelL} {roots : List ReqL} {i : Nat} (h : RchM nw X roots i) : i < X.length ∧ (X.getD i default).yk = false := by
  cases h with
  | root hq h => have := candI_mem.1 (named_mem h); exact ⟨this.1, this.2.2.2⟩
  | step hk hq h => have := candI_mem.1 (named_mem h); exact ⟨this.1, this.2.2.2⟩
def AllM (nw : Bool) (X : List RelL) (roots : List ReqL) : Prop :=
  (∀ q ∈ roots, ∃ i, namedI nw X q = some i) ∧ ∀ k, RchM nw X roots k → ∀ q ∈ (X.getD k default).reqs, ∃ i, namedI nw X q = some i
open Classical in
noncomputable def topM (nw : Bool) (X : List RelL) (roots : List ReqL) : List Nat :=
  (List.range X.length).filter fun i => decide (RchM nw X roots i ∧ ∀ j, RchM nw X roots j → (X.getD j default).path = (X.getD i default).path → j ≤ i)
open Classical in
noncomputable def selM (nw : Bool) (X : List RelL) (roots : List ReqL) : List SelL × Int :=
  if ¬ PlainP X roots then ([], 1) else if ¬ AllM nw X roots then ([], 6) else ((topM nw X roots).map fun i => keyL (X.getD i default), 0)
theorem topM_mem {nw : Bool} {X : List RelL} {roots : List ReqL} {i : Nat} : i ∈ topM nw X roots ↔ RchM nw X roots i ∧ ∀ j, RchM nw X roots j → (X.getD j default).path = (X.getD i default).path → j ≤ i := by
  unfold topM
  simp only [List.mem_filter, List.mem_range, decide_eq_true_eq]
  exact ⟨fun h => h.2, fun h => ⟨h.1.lt.1, h⟩⟩
theorem topM_sorted (nw : Bool) (X : List RelL) (roots : List ReqL) : (topM nw X roots).Pairwise (· < ·) := (range_sorted _).filter _
theorem top_of {nw : Bool} {X : List RelL} {roots : List ReqL} {i : Nat} (h : RchM nw X roots i) : ∃ j, j ∈ topM nw X roots ∧ i ≤ j ∧ (X.getD j default).path = (X.getD i default).path := by
  have key : ∀ d i, RchM nw X roots i → X.length - i ≤ d → ∃ j, j ∈ topM nw X roots ∧ i ≤ j ∧ (X.getD j default).path = (X.getD i default).path := by
    intro d
    induction d with
    | zero => exact fun i h hd => absurd h.lt.1 (by omega)
    | succ d ih =>
      intro i h hd
      by_cases ht : i ∈ topM nw X roots
      · exact ⟨i, ht, Nat.le_refl _, rfl⟩
      · rw [topM_mem] at ht
        have : ∃ j, RchM nw X roots j ∧ (X.getD j default).path = (X.getD i default).path ∧ i < j := by
          apply Classical.byContradiction
          intro hn
          exact ht ⟨h, fun j hj e => Classical.byContradiction fun hlt => hn ⟨j, hj, e, by omega⟩⟩
        obtain ⟨j, hj, e, hlt⟩ := this
        obtain ⟨k, hk, h1, h2⟩ := ih j hj (by omega)
        exact ⟨k, hk, by omega, h2.trans e⟩
  exact key _ i h (Nat.le_refl _)
theorem top_one {nw : Bool} {X : List RelL} {roots : List ReqL} {i j : Nat} (hi : i ∈ topM nw X roots) (hj : j ∈ topM nw X roots) (e : (X.getD i default).path = (X.getD j default).path) : i = j := by
  rw [topM_mem] at hi hj
  have h1 := hi.2 j hj.1 e.symm
  have h2 := hj.2 i hi.1 e
  omega
theorem selM_incr {nw : Bool} {X : List RelL} {roots : List ReqL} (hX : IdxOk X) : incrS ((topM nw X roots).map fun i => keyL (X.getD i default)) := by
  unfold incrS
  rw [List.pairwise_map]
  refine List.Pairwise.imp_of_mem (fun {a b} ha hb hab => ?_) (topM_sorted nw X roots)
  rcases hX.ord a b hab (topM_mem.1 hb).1.lt.1 with h | ⟨h, _⟩
  · exact h
  · have := top_one ha hb h; omega
end Go.Proofs.YtenfkejbndifdaaGreatDoor

namespace Go.Proofs.YtenfkejbndifdaaGreatDoor
set_option linter.unusedVariables false
set_option linter.unusedSimpArgs false
open Go

noncomputable def selL (nw : Bool) (X : List RelL) (roots : List ReqL) : List SelL := (topM nw X roots).map fun i => keyL (X.getD i default)
theorem selL_mem {nw : Bool} {X : List RelL} {roots : List ReqL} {y : SelL} : y ∈ selL nw X roots ↔ ∃ i, i ∈ topM nw X roots ∧ keyL (X.getD i default) = y := by
  unfold selL
  rw [List.mem_map]
theorem selL_incr {nw : Bool} {X : List RelL} {roots : List ReqL} (hX : IdxOk X) : incrS (selL nw X roots) := selM_incr hX
theorem RchM.more {nw : Bool} {X : List RelL} {r1 r2 : List ReqL} (h : ∀ q ∈ r1, q ∈ r2) {i : Nat} (hi : RchM nw X r1 i) : RchM nw X r2 i := by
  induction hi with
  | root hq hn => exact .root (h _ hq) hn
  | step _ hq hn ih => exact .step ih hq hn
def leastS (s : List SelL) (p : ByteArray) : Int := match s.find? fun y => decide (y.1 = p) with
  | some y => plc y.2
  | none => -1
def GrowP (X : List RelL) : Prop := ∀ i, i + 1 < X.length → (X.getD i default).path = (X.getD (i + 1) default).path → ∀ q ∈ (X.getD i default).reqs, ∃ p ∈ (X.getD (i + 1) default).reqs, p.1 = q.1 ∧ subB p.2 q.2 = true
end Go.Proofs.YtenfkejbndifdaaGreatDoor
