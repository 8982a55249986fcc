/- Contract of the graph's Reverse. -/
import Derived.Test.YtlcgbkeggmaljaaGExist
import Derived.Test.YtlcgbkeggmaljaaGPlainPath
namespace Go.Proofs.Ytlcgbkeggmaljaa
set_option linter.unusedVariables false
set_option linter.unusedSimpArgs false
open Go Go.RowKit

/-- the edges of the reversed graph. -/
def revE (n : Nat) (es : List (Int × Int)) : List (Int × Int) := if validG n es = true then es.map swapE else []
def revN {α : Type} (ns : List α) (es : List (Int × Int)) : List α := if validG ns.length es = true then ns else []
/-- the cells of edges. -/
def edgeCells (es : List (Int × Int)) : List Value := es.flatMap fun x => [intC x.1, intC x.2]
theorem edgeCells_snoc (es : List (Int × Int)) (x : Int × Int) : edgeCells (es ++ [x]) = edgeCells es ++ [intC x.1, intC x.2] := by unfold edgeCells; rw [List.flatMap_append]; rfl
theorem edgeCells_length (es : List (Int × Int)) : (edgeCells es).length = es.length * 2 := by
  induction es with
  | nil => rfl
  | cons x es ih => show (intC x.1 :: intC x.2 :: edgeCells es).length = _; simp [ih]; omega
theorem edgeCells_get (es : List (Int × Int)) (i : Nat) (x : Int × Int) (h : es[i]? = some x) : (edgeCells es)[i * 2]? = some (intC x.1) ∧ (edgeCells es)[i * 2 + 1]? = some (intC x.2) := by
  induction es generalizing i with
  | nil => simp at h
  | cons y es ih =>
    cases i with
    | zero => simp at h; subst h; exact ⟨rfl, rfl⟩
    | succ i =>
      have := ih i (by simpa using h)
      have e : ∀ j, (edgeCells (y :: es))[j + 2]? = (edgeCells es)[j]? := fun j => rfl
      rw [show (i + 1) * 2 = i * 2 + 2 by omega, show i * 2 + 2 + 1 = (i * 2 + 1) + 2 by omega, e, e]
      exact this
theorem own_edges {W : World} {B n : Nat} {v : Value} {es : List (Int × Int)} (h : W.ownsRow B 39 2 v n (edgeCells es)) : EdgesOf W.heap.size v es W := by
  have hl : n = es.length := by have := h.1; rw [edgeCells_length] at this; omega
  subst hl
  rcases h.2 with ⟨rfl, h0⟩ | ⟨g, cap, cur, rfl, hb, hg, hc, _⟩
  · obtain rfl := List.length_eq_zero_iff.1 h0
    exact ⟨none, 0, rfl, fun i x hx => by simp at hx⟩
  · refine ⟨_, cap, rfl, fun i x hx => ⟨g, 0, rfl, (Array.getElem?_eq_some_iff.1 hg).1, ?_, ?_⟩⟩
    · have hi := (List.getElem?_eq_some_iff.1 hx).1
      rw [Nat.zero_add, h.cellAt (i * 2) (by omega)]
      exact (edgeCells_get es i x hx).1
    · have hi := (List.getElem?_eq_some_iff.1 hx).1
      rw [Nat.zero_add, h.cellAt (i * 2 + 1) (by omega)]
      exact (edgeCells_get es i x hx).2
theorem info_edges : (Try.prog.info? 39).map (fun i => (i.zero, i.size, i.bytes)) = some (some (.agg #[.int .i64 0, .int .i64 0]), 2, 16) := by kernel_rfl

/-- slices.Clone at strings. -/
theorem clone_strs (nv : Value) (ns : List ByteArray) (w : World) (hn : ns.length ≤ 1000000) (h : RowOf Value.string w.heap.size nv ns w) :
    Calls Try.prog 50 #[nv] w fun e w' => ∃ ao cap, e = .returned (.slice ao ns.length cap) ∧ RowOf Value.string w'.heap.size (.slice ao ns.length cap) ns w' ∧ Below w.heap.size w w' := by
  rcases h with ⟨rfl, a, c, rfl⟩ | ⟨b, off, cap, rfl, hb, h⟩
  · cases a with
    | none =>
      refine (Try.slices_Clone_string_nil 0 c w).mono ?_
      rintro e w' ⟨rfl, rfl⟩
      exact ⟨none, 0, rfl, .inl ⟨rfl, _, _, rfl⟩, Below.refl _ _⟩
    | some a =>
      refine (Try.slices_Clone_string_zero a c w).mono ?_
      rintro e w' ⟨v', rfl, ho, _, hb⟩
      rcases ho.2 with ⟨rfl, _⟩ | ⟨g, cap, cur, rfl, _⟩
      · exact ⟨none, 0, rfl, .inl ⟨rfl, _, _, rfl⟩, hb⟩
      · exact ⟨_, cap, rfl, .inl ⟨rfl, _, _, rfl⟩, hb⟩
  · refine (Try.slices_Clone_string b off ns.length cap ns w (Nat.le_refl _) (by omega) (fun j hj => by
      have := h j ns[j] (by simp [hj])
      rw [this, List.getD_eq_getElem?_getD, List.getElem?_eq_getElem hj]
      rfl)).mono ?_
    rintro e w' ⟨v', rfl, ho, _, hb⟩
    rw [List.take_length] at ho
    have hr := own_row ho
    rcases ho.2 with ⟨rfl, h0⟩ | ⟨g, cap, cur, rfl, _⟩
    · obtain rfl := List.length_eq_zero_iff.1 h0
      exact ⟨none, 0, rfl, .inl ⟨rfl, _, _, rfl⟩, hb⟩
    · exact ⟨_, cap, rfl, hr.2, hb⟩

theorem set_two {W : World} {g t : Nat} {x y x' y' : Value} (h : W.heap[g]? = some (.cells #[x, y] t (0, 0))) : ((W.setCell ⟨g, 0, none⟩ x').setCell ⟨g, 1, none⟩ y').heap[g]? = some (.cells #[x', y'] t (0, 0)) := by
  have h1 := heap_setCell_same W g 0 #[x, y] t x' h
  exact heap_setCell_same _ g 1 _ t y' h1
set_option maxRecDepth 100000 in
set_option maxHeartbeats 4000000 in
theorem Reverse_any (nv ev : Value) (ns : List ByteArray) (es : List (Int × Int)) (w : World) (hes : es.length ≤ 1000000000000) (hE : EdgesOf w.heap.size ev es w) (hN : RowOf Value.string w.heap.size nv ns w) :
    Calls Try.prog 17 #[.agg #[nv, ev]] w fun e w' => ∃ a c v', e = .returned (.agg #[.slice a (revN ns es).length c, v']) ∧ RowOf Value.string w'.heap.size (.slice a (revN ns es).length c) (revN ns es) w' ∧ EdgesOf w'.heap.size v' (revE ns.length es) w' ∧ Below w.heap.size w w' := by
  obtain ⟨na, nc, rfl, _⟩ := rowOf_open hN
  have hb1 : Below w.heap.size w ((w.alloc (.cells #[.slice na ns.length nc, ev] 25)).alloc (.cells #[.slice none 0 0, .slice none 0 0] 25)) := ((Below.refl _ _).alloc (Nat.le_refl _) _).alloc (by simp) _
  have hv := Valid_any na ns.length nc ev es _ hes ((hE.below hb1 (Nat.le_refl _)).mono hb1.size)
  have hnew : ((w.alloc (.cells #[.slice na ns.length nc, ev] 25)).alloc (.cells #[.slice none 0 0, .slice none 0 0] 25)).heap[w.heap.size + 1]? = some (.cells #[.slice none 0 0, .slice none 0 0] 25 (0, 0)) := by
    have := World.alloc_heap_new (w.alloc (.cells #[.slice na ns.length nc, ev] 25)) (.cells #[.slice none 0 0, .slice none 0 0] 25)
    rw [World.size_alloc] at this
    exact this
  have HNEW := Lib.hid hnew
  clear hnew
  by_cases hval : validG ns.length es = true
  · have e1 : revN ns es = ns := if_pos hval
    have e2 : revE ns.length es = es.map swapE := if_pos hval
    rw [e1, e2]
    clear e1 e2
    rw [hval] at hv
    obtain ⟨hNn, hNe⟩ := validG_n hval
    have hc : ∀ W, Below (w.heap.size + 2) ((w.alloc (.cells #[.slice na ns.length nc, ev] 25)).alloc (.cells #[.slice none 0 0, .slice none 0 0] 25)) W → RowOf Value.string W.heap.size (.slice na ns.length nc) ns W := fun W hW =>
      (hN.below (hb1.trans (hW.mono (by omega))) (Nat.le_refl _)).mono (by have := hW.size; simp at this; omega)
    obtain ⟨ao, ec, rfl, hE⟩ := hE
    have HV := Lib.hid hv
    have HC := Lib.hid hc
    have HB1 := Lib.hid hb1
    have HE := Lib.hid hE
    clear hv hc hb1 hE hN hval
    go_enter Try.func17, Try.ntmps17
    go_wp2_with fail
    refine HV.out.mono ?_
    rintro e w1 ⟨rfl, hb⟩
    have hcl := clone_strs _ ns w1 (by omega) (HC.out w1 (by simpa using hb))
    have HCL := Lib.hid hcl
    have hs1 := hb.size
    simp at hs1
    have hg1 := (hb.cell (p := ⟨w.heap.size, 0, none⟩) (by show w.heap.size < _; simp; omega)).trans (cellA _ (cell_of_row _ _ 0 _ _ _ (World.alloc_heap_new w (.cells #[.slice na ns.length nc, .slice ao es.length ec] 25))))
    have hg2 := (hb.cell (p := ⟨w.heap.size, 1, none⟩) (by show w.heap.size < _; simp; omega)).trans (cellA _ (cell_of_row _ _ 1 _ _ _ (World.alloc_heap_new w (.cells #[.slice na ns.length nc, .slice ao es.length ec] 25))))
    have hr1 := (hb.block (w.heap.size + 1) (by simp)).trans HNEW.out
    have HW1 := Lib.hid (HB1.out.trans (hb.mono (by simp; omega)))
    have HR1 := Lib.hid hr1
    clear hcl hb hr1
    go_wp2_with fail
    refine HCL.out.mono ?_
    rintro e w2 ⟨a', c', rfl, hrn, hb2⟩
    have hs2 := hb2.size
    have hg2' := (hb2.cell (p := ⟨w.heap.size, 1, none⟩) (by show w.heap.size < _; omega)).trans hg2
    have hg2a := cellA (.cells #[.slice a' ns.length c', .slice none 0 0] 25) hg2'
    have hr2 := (hb2.block (w.heap.size + 1) (by omega)).trans HR1.out
    have HW2 := Lib.hid (HW1.out.trans (hb2.mono (by omega)))
    have HRN := Lib.hid hrn
    have HR2 := Lib.hid hr2
    clear hrn hb2 hr2 HCL HR1 HW1 hg1 hg2
    go_wp2_with fail
    obtain ⟨i0, hi0', hz0, hz1, hz2⟩ := info_parts info_edges
    have HL0 : Hid ((w2.alloc (.cells #[.slice a' ns.length c', .slice none 0 0] 25)).heap[w2.heap.size]? = some (.cells #[.slice a' ns.length c', .slice none 0 0] 25 (0, 0))) := Lib.hid (World.alloc_heap_new w2 _)
    have HL1 : Hid (Below w2.heap.size w2 (w2.alloc (.cells #[.slice a' ns.length c', .slice none 0 0] 25))) := Lib.hid ((Below.refl _ _).alloc (Nat.le_refl _) _)
    clear hg2a hg2'
    go_loopw [17] (fun p wr => ∃ (k : Nat) (v : Value), k ≤ es.length ∧ p = .int .i64 k ∧ Hid (wr.heap[w2.heap.size]? = some (.cells #[.slice a' ns.length c', v] 25 (0, 0))) ∧ Hid (wr.ownsRow w2.heap.size 39 2 v k (edgeCells ((es.take k).map swapE))) ∧ Hid (Below w2.heap.size w2 wr)) (fun p _ => es.length - (intOf p).toNat)
    case atStart => exact ⟨0, .slice none 0 0, by omega, rfl, HL0, Lib.hid (World.ownsRow_nil _ _ _ _), HL1⟩
    case round =>
      clear HL0 HL1
      obtain ⟨k, v, hk, rfl, HBX, HO, HB⟩ := hrel
      have hszr := HB.out.size
      by_cases hlt : k < es.length
      · obtain ⟨b, off, rfl, hb, hc1, hc2⟩ := HE.out k es[k] (by simp [hlt])
        have hW := HW2.out.trans (HB.out.mono (by omega))
        have hc1 := (hW.cell (p := ⟨b, off + k * 2, none⟩) hb).trans hc1
        have hc2 := (hW.cell (p := ⟨b, off + k * 2 + 1, none⟩) hb).trans hc2
        have HT : Hid ((es.take (k + 1)).map swapE = (es.take k).map swapE ++ [swapE es[k]]) := Lib.hid (by rw [List.take_succ_eq_append_getElem hlt, List.map_append]; rfl)
        clear hW
        obtain ⟨⟨x1, x2⟩, hx⟩ : ∃ x, x = es[k] := ⟨_, rfl⟩
        rw [← hx] at hc1 hc2 HT
        clear hx
        simp only at hc1 hc2
        have hcv0 : wr.cell? ⟨w2.heap.size, 1, none⟩ = some v := cell_of_row _ _ 1 _ _ _ HBX.out
        have hcv := cellA (.cells #[.int .i64 x1, .int .i64 x2] 39) hcv0
        have HN : Hid (∀ W1, ((wr.alloc (.cells #[intC x1, intC x2] 39)).alloc (.cells #[intC x2, intC x1] 39)).grownBy W1 v.ownBlock → W1.heap[w2.heap.size]? = some (.cells #[.slice a' ns.length c', v] 25 (0, 0)) ∧ Below w2.heap.size w2 W1) := Lib.hid (fun W1 hg => by
          refine ⟨(hg.block _ (by simp; have := (Array.getElem?_eq_some_iff.1 HBX.out).1; omega) (blk_ne HBX.out HO.out (by decide))).trans (((Below.heap_alloc _ _ _ (by have := (Array.getElem?_eq_some_iff.1 HBX.out).1; simp; omega)).trans (Below.heap_alloc _ _ _ (Array.getElem?_eq_some_iff.1 HBX.out).1)).trans HBX.out), ?_⟩
          exact ((HB.out.alloc hszr _).alloc (by simp; omega) _).grown hg (by simp; omega) (fun b hb => (HO.out.lt b hb).1))
        go_wp2_with (at_builtin; refine wpList_append_own _ rfl _ _ 23 rfl w2.heap.size 39 i0 _ 2 16 Try.underlying23 hi0' hz0 hz1 hz2 rfl (by decide) v k _ (by rfl) ((HO.out.alloc _).alloc _) ⟨wr.heap.size + 1, 0, none⟩ 1 1 [intC x2, intC x1] (by rfl) (by rfl) (World.news_of_block (cs := #[intC x2, intC x1]) (t := 39) (fr := (0, 0)) (by have := heap_alloc_new (wr.alloc (.cells #[intC x1, intC x2] 39)) (.cells #[intC x2, intC x1] 39); rw [World.size_alloc] at this; exact this)) (by simp [Value.oneCell']) (by unfold maxLen; omega) (by omega) (by simp; omega) ?_; intro v' w3 hown' hgrow _; obtain ⟨hbx, hbb⟩ := HN.out _ hgrow; have hfz := frozen_of_row _ _ 1 _ _ hbx; have hcx : w3.cell? ⟨w2.heap.size, 1, none⟩ = some v := cell_of_row _ _ 1 _ _ _ hbx; have HBX2 := Lib.hid hbx; have HBB2 := Lib.hid hbb; have HOW2 := Lib.hid hown'; clear hbx hbb hown' hgrow; obtain ⟨gg, cap, rfl⟩ := ownsRow_succ HOW2.out)
        go_roundw
        case rel =>
          refine ⟨k + 1, .slice (some ⟨gg, 0, none⟩) (k + 1) cap, by omega, by go_num, Lib.hid ?_, Lib.hid ?_, Lib.hid ?_⟩
          · exact heap_setCell_same _ w2.heap.size 1 _ _ _ HBX2.out
          · rw [HT.out, edgeCells_snoc]
            refine HOW2.out.kept (row := some w2.heap.size) ⟨rfl, rfl, rfl, by simp, fun k' _ hk' => heap_setCell_other _ ⟨w2.heap.size, 1, none⟩ k' _ (fun e => hk' (by rw [e]))⟩ ?_
            exact .inr (Ne.symm (blk_ne HBX2.out HOW2.out (by decide)))
          · exact HBB2.out.setCell (Nat.le_refl _) _
        case measure => simp [intOf]; omega
      · have hkk : k = es.length := by omega
        subst hkk
        rw [List.take_length] at HO
        have hc0 : wr.cell? ⟨w2.heap.size, 0, none⟩ = some (.slice a' ns.length c') := cell_of_row _ _ 0 _ _ _ HBX.out
        have hc1 : wr.cell? ⟨w2.heap.size, 1, none⟩ = some v := cell_of_row _ _ 1 _ _ _ HBX.out
        have hrb := (HB.out.block (w.heap.size + 1) (by omega)).trans HR2.out
        have hr0 : wr.cell? ⟨w.heap.size + 1, 0, none⟩ = some (.slice none 0 0) := cell_of_row _ _ 0 _ _ _ hrb
        have hr1 : wr.cell? ⟨w.heap.size + 1, 1, none⟩ = some (.slice none 0 0) := cell_of_row _ _ 1 _ _ _ hrb
        have hf0 := frozen_of_row _ _ 0 _ _ hrb
        have hf1 := frozen_of_row _ _ 1 _ _ hrb
        obtain ⟨va, vn, vc, rfl⟩ : ∃ a n c, v = .slice a n c := by
          rcases HO.out.2 with ⟨rfl, _⟩ | ⟨g, cap, cur, rfl, _⟩
          · exact ⟨_, _, _, rfl⟩
          · exact ⟨_, _, _, rfl⟩
        have HRB := Lib.hid hrb
        clear hrb
        go_wp2_with fail
        have HR3 := set_two (x' := .slice a' ns.length c') (y' := .slice va vn vc) HRB.out
        have z0 : ((wr.setCell ⟨w.heap.size + 1, 0, none⟩ (.slice a' ns.length c')).setCell ⟨w.heap.size + 1, 1, none⟩ (.slice va vn vc)).cell? ⟨w.heap.size + 1, 0, none⟩ = some (.slice a' ns.length c') := cell_of_row _ _ 0 _ _ _ HR3
        have z1 : ((wr.setCell ⟨w.heap.size + 1, 0, none⟩ (.slice a' ns.length c')).setCell ⟨w.heap.size + 1, 1, none⟩ (.slice va vn vc)).cell? ⟨w.heap.size + 1, 1, none⟩ = some (.slice va vn vc) := cell_of_row _ _ 1 _ _ _ HR3
        clear HR3 hc0 hc1 hr0 hr1 hf0 hf1
        refine bodyPost_ret (v := .agg #[.slice a' ns.length c', .slice va vn vc]) (by simp [results, Try.results17, go_sem, z0, z1]) rfl ⟨a', c', .slice va vn vc, rfl, ?_, ?_, ?_⟩
        · have hr4 : RowOf Value.string wr.heap.size (.slice a' ns.length c') ns wr := (HRN.out.below HB.out (Nat.le_refl _)).mono hszr
          rcases hr4 with ⟨h1, h2⟩ | ⟨rb, ro, rc, h1, h2, h3⟩
          · exact .inl ⟨h1, h2⟩
          · refine .inr ⟨rb, ro, rc, h1, by simpa using h2, fun i x hx => ?_⟩
            have h4 := h3 i x hx
            have hne : rb ≠ w.heap.size + 1 := fun e => by
              rw [e, cell_of_row _ _ _ _ _ _ HRB.out] at h4
              match ro + i, h4 with
              | 0, h4 => cases h4
              | 1, h4 => cases h4
              | j + 2, h4 => simp at h4
            rw [World.cell?_setCell_far _ _ _ _ (by exact Ne.symm hne), World.cell?_setCell_far _ _ _ _ (by exact Ne.symm hne)]
            exact h4
        · refine own_edges (B := w2.heap.size) (n := es.length) (own_far HO.out fun k' hk' => ?_)
          have := (HO.out.lt k' hk').1
          rw [Below.heap_setCell _ _ _ _ (by show k' ≠ w.heap.size + 1; omega), Below.heap_setCell _ _ _ _ (by show k' ≠ w.heap.size + 1; omega)]
        · exact ((HW2.out.trans (HB.out.mono (by omega))).setCell (by show w.heap.size ≤ w.heap.size + 1; omega) _).setCell (by show w.heap.size ≤ w.heap.size + 1; omega) _
  · have hval2 : validG ns.length es = false := by simpa using hval
    have e1 : revN ns es = [] := if_neg hval
    have e2 : revE ns.length es = [] := if_neg hval
    rw [e1, e2]
    clear e1 e2
    rw [hval2] at hv
    obtain ⟨ao, ec, rfl, _⟩ := hE
    have HV := Lib.hid hv
    have HB1 := Lib.hid hb1
    clear hv hb1 hN hval hval2
    go_enter Try.func17, Try.ntmps17
    go_wp2_with fail
    refine HV.out.mono ?_
    rintro e w1 ⟨rfl, hb⟩
    have hs1 := hb.size
    simp at hs1
    have hr1 := (hb.block (w.heap.size + 1) (by simp)).trans HNEW.out
    have hc0 : w1.cell? ⟨w.heap.size + 1, 0, none⟩ = some (.slice none 0 0) := cell_of_row _ _ 0 _ _ _ hr1
    have hc1 : w1.cell? ⟨w.heap.size + 1, 1, none⟩ = some (.slice none 0 0) := cell_of_row _ _ 1 _ _ _ hr1
    have hf := frozen_of_row _ _ 0 _ _ hr1
    have hf1 := frozen_of_row _ _ 1 _ _ hr1
    have HB := Lib.hid hb
    have hr1b := Lib.hid hr1
    clear hb hr1
    go_wp2_with fail
    have HRB := set_two (x' := .slice none 0 0) (y' := .slice none 0 0) hr1b.out
    have z0 : ((w1.setCell ⟨w.heap.size + 1, 0, none⟩ (.slice none 0 0)).setCell ⟨w.heap.size + 1, 1, none⟩ (.slice none 0 0)).cell? ⟨w.heap.size + 1, 0, none⟩ = some (.slice none 0 0) := cell_of_row _ _ 0 _ _ _ HRB
    have z1 : ((w1.setCell ⟨w.heap.size + 1, 0, none⟩ (.slice none 0 0)).setCell ⟨w.heap.size + 1, 1, none⟩ (.slice none 0 0)).cell? ⟨w.heap.size + 1, 1, none⟩ = some (.slice none 0 0) := cell_of_row _ _ 1 _ _ _ HRB
    clear HRB hc0 hc1 hf hf1
    refine bodyPost_ret (v := .agg #[.slice none 0 0, .slice none 0 0]) (by simp [results, Try.results17, go_sem, z0, z1]) rfl ⟨none, 0, .slice none 0 0, rfl, .inl ⟨rfl, _, _, rfl⟩, ⟨none, 0, rfl, fun i x hx => by simp at hx⟩, ?_⟩
    exact ((HB1.out.trans (HB.out.mono (by simp; omega))).setCell (by show w.heap.size ≤ w.heap.size + 1; omega) _).setCell (by show w.heap.size ≤ w.heap.size + 1; omega) _
end Go.Proofs.Ytlcgbkeggmaljaa
