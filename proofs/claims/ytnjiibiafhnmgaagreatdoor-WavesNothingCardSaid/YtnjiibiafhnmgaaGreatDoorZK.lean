/- Contracts of package waves: the graph of an upgrade. Contracts of package waves: Graph. -/
import Derived.Test.YtnjiibiafhnmgaaGreatDoorZJ
import Derived.Test.YtnjiibiafhnmgaaGreatDoorYQ
namespace Go.Proofs.YtnjiibiafhnmgaaGreatDoor
open Go Go.RowKit Go.Maps

def nodeL (X : List RelL) (f t : List SelL) (L : List ByteArray) (i k : Nat) : List (Int × Int) := (List.range k).filterMap fun k => if needB X f t (L.getD i default) (L.getD k default) = true then some ((i : Int), (k : Int)) else none
def edgeL (X : List RelL) (f t : List SelL) (L : List ByteArray) (i : Nat) : List (Int × Int) := (List.range i).flatMap fun i => nodeL X f t L i L.length
theorem wavE_edgeL (X : List RelL) (f t : List SelL) : edgeL X f t (movesP f t) (movesP f t).length = wavE X f t := rfl
theorem nodeL_succ (X : List RelL) (f t : List SelL) (L : List ByteArray) (i k : Nat) : nodeL X f t L i (k + 1) = nodeL X f t L i k ++ (if needB X f t (L.getD i default) (L.getD k default) = true then [((i : Int), (k : Int))] else []) := by
  unfold nodeL
  rw [List.range_succ, List.filterMap_append]
  congr 1
  by_cases h : needB X f t (L.getD i default) (L.getD k default) = true
  · rw [if_pos h]; simp only [List.filterMap_cons, List.filterMap_nil]; rw [if_pos h]
  · rw [if_neg h]; simp only [List.filterMap_cons, List.filterMap_nil]; rw [if_neg h]
theorem edgeL_succ (X : List RelL) (f t : List SelL) (L : List ByteArray) (i : Nat) : edgeL X f t L (i + 1) = edgeL X f t L i ++ nodeL X f t L i L.length := by
  unfold edgeL
  rw [List.range_succ, List.flatMap_append]
  simp
theorem nodeL_len (X : List RelL) (f t : List SelL) (L : List ByteArray) (i k : Nat) : (nodeL X f t L i k).length ≤ k := by
  unfold nodeL
  have h := List.length_filterMap_le (fun k : Nat => if needB X f t (L.getD i default) (L.getD k default) = true then some ((i : Int), (k : Int)) else none) (List.range k)
  rwa [List.length_range] at h
theorem edgeL_len (X : List RelL) (f t : List SelL) (L : List ByteArray) : ∀ i, (edgeL X f t L i).length ≤ i * L.length
  | 0 => by simp [edgeL]
  | i + 1 => by
    rw [edgeL_succ, List.length_append, Nat.succ_mul]
    have := edgeL_len X f t L i
    have := nodeL_len X f t L i L.length
    omega
theorem sq_le {i n k : Nat} (hi : i < n) (hk : k ≤ n) (hn : n ≤ 1000000) : i * n + k ≤ 1000000000000 := by
  have h1 : i * n + n ≤ n * n := by rw [← Nat.succ_mul]; exact Nat.mul_le_mul_right n hi
  have h2 : n * n ≤ 1000000 * 1000000 := Nat.mul_le_mul hn hn
  omega
structure GrJ (w1 : World) (g : Nat) (nv : Value) (es : List (Int × Int)) (ev : Value) (W : World) : Prop where
  bel : Below w1.heap.size w1 W
  lo : w1.heap.size ≤ g
  out : W.heap[g]? = some (.cells #[nv, ev] 32 (0, 0))
  edges : W.ownsRow (g + 1) 43 2 ev es.length (edgeCells es)
section
variable {w1 : World} {g : Nat} {es : List (Int × Int)} {nv ev : Value} {W W' : World}
theorem GrJ.lt (h : GrJ w1 g nv es ev W) : g < W.heap.size := (Array.getElem?_eq_some_iff.1 h.out).1
theorem GrJ.below (h : GrJ w1 g nv es ev W) (hb : Below W.heap.size W W') : GrJ w1 g nv es ev W' :=
  ⟨h.bel.trans (hb.mono h.bel.size), h.lo, (hb.block g h.lt).trans h.out, own_on h.edges hb⟩
theorem GrJ.start (w1 : World) (nv : Value) : GrJ w1 w1.heap.size nv [] (.slice none 0 0) (w1.alloc (.cells #[nv, .slice none 0 0] 32)) :=
  ⟨belQ _ _, Nat.le_refl _, World.alloc_heap_new w1 _, World.ownsRow_nil _ _ _ _⟩
theorem GrJ.keep {W6 : World} (h : GrJ w1 g nv es ev W) (hg : W.grownBy W6 ev.ownBlock) : W6.heap[g]? = some (.cells #[nv, ev] 32 (0, 0)) :=
  (hg.block g h.lt (fun e => by have := (own_lo h.edges _ e.symm).1; omega)).trans h.out
theorem GrJ.edge {W6 : World} {ev' : Value} {x : Int × Int} (h : GrJ w1 g nv es ev W) (hown : W6.ownsRow (g + 1) 43 2 ev' (es.length + 1) (edgeCells es ++ [intC x.1, intC x.2])) (hg : W.grownBy W6 ev.ownBlock) : GrJ w1 g nv (es ++ [x]) ev' (W6.setCell ⟨g, 1, none⟩ ev') := by
  have hk := h.keep hg
  have hlt := h.lt
  obtain ⟨h1, h2, h3, h5⟩ := h
  have lo : ∀ b, some b = ev.ownBlock → g < b := fun b hb => (own_lo h5 b hb.symm).1
  have g2 := grownBy_setC W6 g 1 ev'
  refine ⟨(h1.grown hg h1.size (fun b hb => by have := lo b hb.symm; omega)).setCell h2 _, h2, heap_setCell_same _ _ 1 _ _ ev' hk, ?_⟩
  rw [List.length_append, List.length_singleton, edgeCells_snoc]
  exact own_farM hown g2 (by omega)
end
theorem nil_two {W : World} {b T : Nat} (hz : W.heap[b]? = some (.cells #[.slice none 0 0, .slice none 0 0] T (0, 0))) {j : Nat} {v : Value} (h : W.cell? ⟨b, j, none⟩ = some v) : v = .slice none 0 0 := by
  unfold World.cell? at h
  simp [hz] at h
  rcases j with _ | _ | j
  · simpa using h.symm
  · simpa using h.symm
  · simp at h
theorem cell_set2 {W : World} {b T : Nat} {u0 u1 v : Value} (hz : W.heap[b]? = some (.cells #[.slice none 0 0, .slice none 0 0] T (0, 0))) {k j : Nat} (hv : v ≠ .slice none 0 0) (h : W.cell? ⟨k, j, none⟩ = some v) : ((W.setCell ⟨b, 0, none⟩ u0).setCell ⟨b, 1, none⟩ u1).cell? ⟨k, j, none⟩ = some v := by
  have hlt := World.block_lt_of_cell? _ _ h
  simp only at hlt
  have hne : some k ≠ some b := fun e => by injection e with e; subst e; exact hv (nil_two hz h)
  have g1 := grownBy_setC W b 0 u0
  have g2 := grownBy_setC (W.setCell ⟨b, 0, none⟩ u0) b 1 u1
  exact (World.cell?_of_block ((g2.block k (Nat.lt_of_lt_of_le hlt g1.size) hne).trans (g1.block k hlt hne))).trans h
theorem row_set2 {W : World} {B b T : Nat} {u0 u1 v : Value} {l : List ByteArray} (h : RowOf Value.string B v l W) (hz : W.heap[b]? = some (.cells #[.slice none 0 0, .slice none 0 0] T (0, 0))) : RowOf Value.string B v l ((W.setCell ⟨b, 0, none⟩ u0).setCell ⟨b, 1, none⟩ u1) := by
  rcases h with h | ⟨k, off, cap, rfl, hb, h⟩
  · exact .inl h
  · exact .inr ⟨k, off, cap, rfl, hb, fun i x hx => cell_set2 hz (by simp) (h i x hx)⟩
theorem edges_set2 {W : World} {B b T : Nat} {u0 u1 v : Value} {l : List (Int × Int)} (h : EdgesOf B v l W) (hz : W.heap[b]? = some (.cells #[.slice none 0 0, .slice none 0 0] T (0, 0))) : EdgesOf B v l ((W.setCell ⟨b, 0, none⟩ u0).setCell ⟨b, 1, none⟩ u1) := by
  obtain ⟨ao, cap, rfl, h⟩ := h
  refine ⟨ao, cap, rfl, fun i x hx => ?_⟩
  obtain ⟨k, off, e, hk, h1, h2⟩ := h i x hx
  exact ⟨k, off, e, hk, cell_set2 hz (by simp [intC]) h1, cell_set2 hz (by simp [intC]) h2⟩
set_option maxRecDepth 100000 in
set_option maxHeartbeats 16000000 in
theorem graph_any (X : List RelL) (f t : List SelL) (hGf : GoodS X f) (hGt : GoodS X t) (L : List ByteArray) (hLn : L.length ≤ 1000000) (hLp : ∀ p ∈ L, p.size ≤ maxLen) (gu : Nat) (w : World) (hU : UpV X f t L gu w) :
    Calls Tryz.prog 42 #[.pointer (some ⟨gu, 0, none⟩)] w fun e w' => ∃ nv ev, e = .returned (.agg #[nv, ev]) ∧ RowOf Value.string w'.heap.size nv L w' ∧ EdgesOf w'.heap.size ev (edgeL X f t L L.length) w' ∧ Below w.heap.size w w' := by
  have HND := Lib.hid (fun W a b (ha : a ∈ L) (hb : b ∈ L) (hw : Below w.heap.size w W) => needs_any X f t hGf hGt L gu W a b (hLp a ha) (hLp b hb) (hU.below hw))
  obtain ⟨m1, m2, fv, tv, pv, B, hbx, _, _, hrow, _, _⟩ := hU
  obtain ⟨pa, pc, rfl⟩ := own_any hrow
  have hgl : gu < w.heap.size := (Array.getElem?_eq_some_iff.1 hbx).1
  have HUP : Hid (∀ W, Below w.heap.size w W → W.cell? ⟨gu, 4, none⟩ = some (.slice pa L.length pc)) := Lib.hid (fun W hw => (hw.cell (p := ⟨gu, 4, none⟩) hgl).trans (cell_of_row _ _ 4 _ _ _ hbx))
  have HPA : Hid (∀ W k p, Below w.heap.size w W → L[k]? = some p → ∃ gp, pa = some ⟨gp, 0, none⟩ ∧ W.cell? ⟨gp, k, none⟩ = some (.string p)) := Lib.hid (fun W k p hw hk => by
    obtain ⟨gp, h1, h2, h3⟩ := own_strs_at hrow hk
    exact ⟨gp, h1, (hw.cell (p := ⟨gp, k, none⟩) h2).trans h3⟩)
  have hq0 := belQ w (.cells #[.slice none 0 0, .slice none 0 0] 32)
  have HCL := Lib.hid (clone_strs _ L (w.alloc (.cells #[.slice none 0 0, .slice none 0 0] 32)) hLn (own_row (own_on hrow hq0)).2)
  have HZ := Lib.hid (World.alloc_heap_new w (.cells #[.slice none 0 0, .slice none 0 0] 32))
  have HB0 := Lib.hid hq0
  clear hq0 hrow hbx hLp
  go_enter Tryz.func42, Tryz.ntmps42
  go_upto_region 1 with fail
  generalize w.alloc (.cells #[.slice none 0 0, .slice none 0 0] 32) = w1 at *
  have u1 := HUP.out w1 HB0.out
  go_wp2_with fail
  refine HCL.out.mono ?_
  rintro e w2 ⟨na, nc, rfl, hrn, hb2⟩
  have HRN := Lib.hid hrn
  have HB2 := Lib.hid (HB0.out.trans (hb2.mono HB0.out.size))
  have hgz : w.heap.size < w1.heap.size := (Array.getElem?_eq_some_iff.1 HZ.out).1
  have HZ2 := Lib.hid ((hb2.block _ hgz).trans HZ.out)
  have HGZ2 := Lib.hid (Nat.lt_of_lt_of_le hgz hb2.size)
  have HJ0 := Lib.hid (GrJ.start w2 (.slice na L.length nc))
  have HBJ := Lib.hid (HB2.out.trans ((belQ w2 (.cells #[.slice na L.length nc, .slice none 0 0] 32)).mono HB2.out.size))
  clear hrn hb2 hgz u1 HCL HB0
  go_upto_region 2 with fail
  generalize w2.alloc (.cells #[.slice na L.length nc, .slice none 0 0] 32) = w3 at *
  have u3 := HUP.out w3 HBJ.out
  obtain ⟨g, hg⟩ : ∃ g, w2.heap.size = g := ⟨_, rfl⟩
  have HGE := Lib.hid hg
  have HJ1 : Hid (GrJ w2 g (.slice na L.length nc) [] (.slice none 0 0) w3) := Lib.hid (by rw [← hg]; exact HJ0.out)
  simp only [hg]
  clear hg HJ0
  obtain ⟨j0, hj0, hy0, hy1, hy2⟩ := info_parts info_edges
  go_wp2_with fail
  go_loopw [19] (fun p wr => Hid (∃ (i : Nat) (ev : Value), i ≤ L.length ∧ p = .int .i64 (i : Int) ∧ GrJ w2 g (.slice na L.length nc) (edgeL X f t L i) ev wr)) (fun p _ => L.length - (intOf p).toNat)
  case atStart => exact Lib.hid ⟨0, _, Nat.zero_le _, rfl, HJ1.out⟩
  case round =>
    obtain ⟨i, ev, hi, rfl, hj⟩ := hrel.out
    have HJ := Lib.hid hj
    clear hrel hj u3 HJ1 HBJ
    have HBW := Lib.hid (HB2.out.trans (HJ.out.bel.mono HB2.out.size))
    by_cases hlt : i < L.length
    case neg =>
      have hii : i = L.length := Nat.le_antisymm hi (Nat.le_of_not_lt hlt)
      clear hi
      subst hii
      have HRE : Hid (RowOf Value.string wr.heap.size (.slice na L.length nc) L wr ∧ EdgesOf wr.heap.size ev (edgeL X f t L L.length) wr) := Lib.hid ⟨(HRN.out.below HJ.out.bel (Nat.le_refl _)).mono HJ.out.bel.size, own_edges HJ.out.edges⟩
      have o0 : wr.cell? ⟨g, 0, none⟩ = some (.slice na L.length nc) := cell_of_row _ _ 0 _ _ _ HJ.out.out
      have o1 : wr.cell? ⟨g, 1, none⟩ = some ev := cell_of_row _ _ 1 _ _ _ HJ.out.out
      have hz := (HJ.out.bel.block w.heap.size HGZ2.out).trans HZ2.out
      have z0 : wr.cell? ⟨w.heap.size, 0, none⟩ = some (.slice none 0 0) := cell_of_row _ _ 0 _ _ _ hz
      have z1 : wr.cell? ⟨w.heap.size, 1, none⟩ = some (.slice none 0 0) := cell_of_row _ _ 1 _ _ _ hz
      have y0 := frozen_of_row _ _ 0 _ _ hz
      have y1 := frozen_of_row _ _ 1 _ _ hz
      have HSET := Lib.hid (set_two (x' := .slice na L.length nc) (y' := ev) hz)
      obtain ⟨ea, ec, rfl⟩ : ∃ a c, ev = .slice a (edgeL X f t L L.length).length c := own_any HJ.out.edges
      have HB9 : Hid (Below w.heap.size w ((wr.setCell ⟨w.heap.size, 0, none⟩ (.slice na L.length nc)).setCell ⟨w.heap.size, 1, none⟩ (.slice ea (edgeL X f t L L.length).length ec))) := Lib.hid ((HBW.out.setCell (p := ⟨w.heap.size, 0, none⟩) (Nat.le_refl _) _).setCell (p := ⟨w.heap.size, 1, none⟩) (Nat.le_refl _) _)
      have HR9 := Lib.hid (row_set2 (u0 := .slice na L.length nc) (u1 := .slice ea (edgeL X f t L L.length).length ec) HRE.out.1 hz)
      have HE9 := Lib.hid (edges_set2 (u0 := .slice na L.length nc) (u1 := .slice ea (edgeL X f t L L.length).length ec) HRE.out.2 hz)
      have hs9 : ((wr.setCell ⟨w.heap.size, 0, none⟩ (.slice na L.length nc)).setCell ⟨w.heap.size, 1, none⟩ (.slice ea (edgeL X f t L L.length).length ec)).heap.size = wr.heap.size := by rw [World.size_setCell, World.size_setCell]
      clear hz HJ
      generalize hee : edgeL X f t L L.length = E at *
      have HEE := Lib.hid hee
      clear hee
      go_wp2_with fail
      refine bodyPost_ret (results_cell_row rfl _ _ w.heap.size _ _ _ _ rfl HSET.out Tryz.underlying32 rfl (by kernel_rfl)) rfl ?_
      exact ⟨_, _, rfl, by rw [hs9]; exact HR9.out, by rw [hs9, HEE.out]; exact HE9.out, HB9.out⟩
    case pos =>
      have hi0 : (0 : Int) ≤ (i : Int) := Int.natCast_nonneg i
      have hiz : (i : Int) < (L.length : Int) := Int.ofNat_lt.2 hlt
      obtain ⟨gp, rfl, d0⟩ := HPA.out wr i _ HBW.out (List.getElem?_eq_getElem hlt)
      have u4 := HUP.out wr HBW.out
      have HGI : Hid (L.getD i default = L[i]) := Lib.hid (by rw [List.getD_eq_getElem?_getD, List.getElem?_eq_getElem hlt]; rfl)
      have HAM : Hid (L[i] ∈ L) := Lib.hid (List.getElem_mem hlt)
      generalize L[i] = a at *
      go_upto_region 6 with fail
      clear d0 u4
      go_wp2_with fail
      go_loopw [29] (fun p wr => Hid (∃ (k : Nat) (ev : Value), k ≤ L.length ∧ p = .int .i64 (k : Int) ∧ GrJ w2 g (.slice na L.length nc) (edgeL X f t L i ++ nodeL X f t L i k) ev wr)) (fun p _ => L.length - (intOf p).toNat)
      case atStart => exact Lib.hid ⟨0, ev, Nat.zero_le _, rfl, by simpa [nodeL] using HJ.out⟩
      case round =>
        clear HJ HBW
        obtain ⟨k, ev2, hk, rfl, hj⟩ := hrel.out
        have HJ := Lib.hid hj
        clear hrel hj
        have HBW := Lib.hid (HB2.out.trans (HJ.out.bel.mono HB2.out.size))
        by_cases hlt2 : k < L.length
        case neg =>
          have hkk : k = L.length := Nat.le_antisymm hk (Nat.le_of_not_lt hlt2)
          clear hk
          subst hkk
          have HJE : Hid (GrJ w2 g (.slice na L.length nc) (edgeL X f t L (i + 1)) ev2 wr) := Lib.hid (by rw [edgeL_succ]; exact HJ.out)
          clear HJ
          go_wp2_with fail
          all_goals
            refine ⟨Lib.hid ⟨i + 1, _, hlt, by go_num, HJE.out⟩, ?_⟩
            simp [intOf]; omega
        case pos =>
          have hk0 : (0 : Int) ≤ (k : Int) := Int.natCast_nonneg k
          have hkz : (k : Int) < (L.length : Int) := Int.ofNat_lt.2 hlt2
          obtain ⟨gq, e1, d0⟩ := HPA.out wr k _ HBW.out (List.getElem?_eq_getElem hlt2)
          cases e1
          have HGK : Hid (L.getD k default = L[k]) := Lib.hid (by rw [List.getD_eq_getElem?_getD, List.getElem?_eq_getElem hlt2]; rfl)
          have HBM : Hid (L[k] ∈ L) := Lib.hid (List.getElem_mem hlt2)
          generalize L[k] = b at *
          have HSU : Hid (nodeL X f t L i (k + 1) = nodeL X f t L i k ++ (if needB X f t a b = true then [((i : Int), (k : Int))] else [])) := Lib.hid (by rw [nodeL_succ, HGI.out, HGK.out])
          have HNE := Lib.hid (HND.out wr a b HAM.out HBM.out HBW.out)
          generalize needB X f t a b = nb at *
          go_wp2_with fail
          refine HNE.out.mono ?_
          rintro e w8 ⟨rfl, hb8⟩
          have hj8 := HJ.out.below hb8
          have hesl : (edgeL X f t L i ++ nodeL X f t L i k).length ≤ 1000000000000 := by
            rw [List.length_append]
            exact Nat.le_trans (Nat.add_le_add (edgeL_len X f t L i) (nodeL_len X f t L i k)) (sq_le hlt hk hLn)
          have HAS : Hid (edgeL X f t L i ++ nodeL X f t L i (k + 1) = edgeL X f t L i ++ nodeL X f t L i k ++ (if nb = true then [((i : Int), (k : Int))] else [])) := Lib.hid (by rw [HSU.out, List.append_assoc])
          obtain ⟨el, hel⟩ : ∃ el, edgeL X f t L i ++ nodeL X f t L i k = el := ⟨_, rfl⟩
          rw [hel] at hj8 hesl HAS
          have HJ8 := Lib.hid hj8
          clear hb8 hj8 hel HSU HNE HJ d0 HBM HGK
          cases nb with
          | false =>
            have HJE : Hid (GrJ w2 g (.slice na L.length nc) (edgeL X f t L i ++ nodeL X f t L i (k + 1)) ev2 w8) := Lib.hid (by rw [HAS.out]; simpa using HJ8.out)
            clear HJ8
            go_wp2_with fail
            all_goals
              refine ⟨Lib.hid ⟨k + 1, _, hlt2, by go_num, HJE.out⟩, ?_⟩
              simp [intOf]; omega
          | true =>
            have o1 : w8.cell? ⟨g, 1, none⟩ = some ev2 := cell_of_row _ _ 1 _ _ _ HJ8.out.out
            have HJ9 := Lib.hid (HJ8.out.below (belQ w8 (.cells #[intC (i : Int), intC (k : Int)] 43)))
            have HN9 := Lib.hid (World.alloc_heap_new w8 (.cells #[intC (i : Int), intC (k : Int)] 43))
            have hz9 : g + 1 ≤ (w8.alloc (.cells #[intC (i : Int), intC (k : Int)] 43)).heap.size := by have := HJ9.out.lt; omega
            go_wp2_with (at_builtin; refine wpList_append_own _ rfl _ _ 30 rfl (g + 1) 43 j0 _ 2 16 Tryz.underlying30 hj0 hy0 hy1 hy2 rfl (by decide) ev2 _ _ (by rfl) HJ9.out.edges ⟨w8.heap.size, 0, none⟩ 1 1 [intC (i : Int), intC (k : Int)] (by rfl) (by rfl) (World.news_of_block HN9.out) (by simp [Value.oneCell']) (by unfold maxLen; omega) (by omega) hz9 ?_; intro v' wA hown' hgrow _; have HOW2 := Lib.hid hown'; have HGR2 := Lib.hid hgrow; have hkp := HJ9.out.keep hgrow; have hc6 : wA.cell? ⟨g, 1, none⟩ = some ev2 := cell_of_row _ _ 1 _ _ _ hkp; have hf6 := frozen_of_row _ _ 1 _ _ hkp; clear hown' hgrow hkp; obtain ⟨g3, gc3, rfl⟩ := ownsRow_succ HOW2.out)
            all_goals
              have HJB := Lib.hid (HJ9.out.edge (x := ((i : Int), (k : Int))) HOW2.out HGR2.out)
              refine ⟨Lib.hid ⟨k + 1, _, hlt2, by go_num, by rw [HAS.out]; exact HJB.out⟩, ?_⟩
              simp [intOf]; omega
end Go.Proofs.YtnjiibiafhnmgaaGreatDoor

namespace Go.Proofs.YtnjiibiafhnmgaaGreatDoor
open Go Go.RowKit Go.Maps

theorem errW_parts {X : List RelL} {f t : List SelL} (h : errW X f t = 0) : consV X f = 0 ∧ consV X t = 0 := by
  have := errW_zero.1 h
  exact ⟨consV_zero.2 this.1, consV_zero.2 this.2⟩
theorem goodS {X : List RelL} {s : List SelL} (hq : ∀ x ∈ X, RelBd x) (h : consV X s = 0) : GoodS X s := ⟨(cons_parts h).1, (cons_parts h).2.1, (cons_parts h).2.2, hq⟩
theorem check_len {X : List RelL} (h : checkX X = 0) : X.length ≤ 256 := by
  unfold checkX at h
  split at h
  · cases h
  · omega
theorem cons_len {X : List RelL} {s : List SelL} (h : consV X s = 0) : s.length ≤ 256 := by
  obtain ⟨h1, h2, h3⟩ := cons_parts h
  have hn : s.Nodup := by
    have := incrS_nodup h2
    unfold List.Nodup at this ⊢
    rw [List.pairwise_map] at this
    exact this.imp fun {a b} hab e => hab (by rw [e])
  have hs : ∀ y ∈ s, y ∈ X.map keyL := fun y hy => by
    obtain ⟨x, hx⟩ := Option.isSome_iff_exists.1 (h3 y hy)
    have hm : x ∈ X := List.mem_of_find?_eq_some hx
    have hk : keyL x = y := by have := List.find?_some hx; simpa using this
    exact List.mem_map.2 ⟨x, hm, hk⟩
  have := sub_length hn hs
  rw [List.length_map] at this
  exact Nat.le_trans this (check_len h1)
theorem moves_mem {f t : List SelL} {p : ByteArray} (h : p ∈ movesP f t) : (∃ y ∈ f, y.1 = p) ∨ ∃ y ∈ t, y.1 = p := by
  have h2 : p ∈ allP f t := (List.mem_filter.1 h).1
  rcases mem_allP.1 h2 with h | h
  · obtain ⟨y, hy⟩ := Option.ne_none_iff_exists'.1 h
    exact .inl ⟨y, atS_some hy⟩
  · obtain ⟨y, hy⟩ := Option.ne_none_iff_exists'.1 h
    exact .inr ⟨y, atS_some hy⟩
noncomputable def graphV (X : List RelL) (f t : List SelL) : (List ByteArray × List (Int × Int)) × Int := (if errW X f t = 0 then (movesP f t, wavE X f t) else ([], []), errW X f t)
set_option maxRecDepth 100000 in
set_option maxHeartbeats 16000000 in
theorem Graph_any (v iv fv tv : Value) (X : List RelL) (f t : List SelL) (w : World) (hm : MaxOk w) (hX : X.length ≤ 1000000) (hq : ∀ x ∈ X, RelBd x) (hR : RelsOf w.heap.size v X w)
    (hf : f.length ≤ 1000000) (hfy : ∀ y ∈ f, SelBd y) (hF : SelsOf w.heap.size fv f w) (ht : t.length ≤ 1000000) (hty : ∀ y ∈ t, SelBd y) (hT : SelsOf w.heap.size tv t w) :
    Calls Tryz.prog 12 #[.agg #[v, iv], fv, tv] w (GraphR w (graphV X f t)) := by
  have HU := Lib.hid (fun W (hb : RowKit.Below w.heap.size w W) => newUpgrade_any v iv fv tv X f t W (hm.below hb hm.pos) hX hq (hR.on hb) hf hfy (hF.on hb) ht hty (hT.on hb))
  have HGA := Lib.hid (fun W b (h0 : errW X f t = 0) (hU : UpV X f t (movesP f t) b W) => graph_any X f t (goodS hq (errW_parts h0).1) (goodS hq (errW_parts h0).2) (movesP f t) (by
    have h1 := cons_len (errW_parts h0).1
    have h2 := cons_len (errW_parts h0).2
    have h3 := movesP_len f t
    omega) (fun p hp => by
    rcases moves_mem hp with ⟨y, hy, e⟩ | ⟨y, hy, e⟩
    · rw [← e]; exact (hfy y hy).path
    · rw [← e]; exact (hty y hy).path) b W hU)
  have HG0 : Hid (errW X f t = 0 → graphV X f t = ((movesP f t, wavE X f t), 0)) := Lib.hid (fun h => by unfold graphV; rw [h, if_pos rfl])
  have HG1 : Hid (errW X f t ≠ 0 → graphV X f t = (([], []), errW X f t)) := Lib.hid (fun h => by unfold graphV; rw [if_neg h])
  obtain ⟨va, vn, vc, rfl⟩ : ∃ a n c, v = .slice a n c := by obtain ⟨a, c, _, e, _⟩ := hR.rv; exact ⟨_, _, _, e⟩
  obtain ⟨fa, fc, rfl⟩ : ∃ a c, fv = .slice a f.length c := by obtain ⟨a, c, e, _⟩ := hF; exact ⟨a, c, e⟩
  obtain ⟨ta, tc, rfl⟩ : ∃ a c, tv = .slice a t.length c := by obtain ⟨a, c, e, _⟩ := hT; exact ⟨a, c, e⟩
  clear hm hq hR hF hT hfy hty
  have HB0 := Lib.hid (IdxBx.start w (.slice va vn vc) iv)
  have hq0 := belQ (w.alloc (.cells #[.slice va vn vc, iv] 25)) (.cells #[.slice none 0 0, .slice none 0 0] 32)
  have HB1 := Lib.hid (HB0.out.below hq0)
  have HZ1 := Lib.hid (World.alloc_heap_new (w.alloc (.cells #[.slice va vn vc, iv] 25)) (.cells #[.slice none 0 0, .slice none 0 0] 32))
  rw [World.size_alloc] at HZ1
  clear hq0
  unfold UpgR at HU
  obtain ⟨E, hE⟩ : ∃ E, errW X f t = E := ⟨_, rfl⟩
  rw [hE] at HG0 HG1 HGA HU
  clear hE
  go_enter Tryz.func12, Tryz.ntmps12
  go_upto_region 1 with fail
  generalize (w.alloc (.cells #[.slice va vn vc, iv] 25)).alloc (.cells #[.slice none 0 0, .slice none 0 0] 32) = W at *
  have c0 := HB1.out.c0
  have c1 := HB1.out.c1
  go_wp2_with fail
  refine (HU.out _ HB1.out.bel).mono ?_
  rintro e w1 ⟨hb1, g, rfl, hg⟩
  have HZ2 := Lib.hid ((hb1.block _ (Array.getElem?_eq_some_iff.1 HZ1.out).1).trans HZ1.out)
  have HB2 := Lib.hid (HB1.out.below hb1)
  have HUP := Lib.hid hg
  clear hb1 hg HU c0 c1 HB0 HB1 HZ1
  have r0 : w1.cell? ⟨w.heap.size + 1, 0, none⟩ = some (.slice none 0 0) := cell_of_row _ _ 0 _ _ _ HZ2.out
  have r1 : w1.cell? ⟨w.heap.size + 1, 1, none⟩ = some (.slice none 0 0) := cell_of_row _ _ 1 _ _ _ HZ2.out
  have q0 := frozen_of_row _ _ 0 _ _ HZ2.out
  have q1 := frozen_of_row _ _ 1 _ _ HZ2.out
  by_cases h0 : E = 0
  case neg =>
    have h0b : (E != 0) = true := by simpa using h0
    have HBX := Lib.hid (set_two (x' := .slice none 0 0) (y' := .slice none 0 0) HZ2.out)
    have HGR : Hid (GraphR w (graphV X f t) (.returned (.tuple #[.agg #[.slice none 0 0, .slice none 0 0], .int .i64 E])) ((w1.setCell ⟨w.heap.size + 1, 0, none⟩ (.slice none 0 0)).setCell ⟨w.heap.size + 1, 1, none⟩ (.slice none 0 0))) := Lib.hid (by
      rw [HG1.out h0]
      exact ⟨_, _, rfl, .inl ⟨rfl, none, 0, rfl⟩, ⟨none, 0, rfl, fun i x hx => by cases hx⟩, (HB2.out.bel.setCell (p := ⟨w.heap.size + 1, 0, none⟩) (Nat.le_succ _) _).setCell (p := ⟨w.heap.size + 1, 1, none⟩) (Nat.le_succ _) _⟩)
    clear HG0 HG1 HGA HUP
    go_wp2_with fail
    refine bodyPost_ret (results_cell_tmp rfl _ _ (w.heap.size + 1) _ _ _ _ rfl HBX.out Tryz.underlying32 rfl (by kernel_rfl)) rfl ?_
    exact HGR.out
  subst h0
  obtain ⟨b, rfl, hup⟩ := HUP.out rfl
  have HGC := Lib.hid (HGA.out w1 b rfl hup)
  clear hup HUP HG1 HGA r0 r1 q0 q1
  go_wp2_with fail
  refine HGC.out.mono ?_
  rintro e w2 ⟨nv, ev, rfl, hrn, hre, hb2⟩
  have hz := (hb2.block _ (Array.getElem?_eq_some_iff.1 HZ2.out).1).trans HZ2.out
  have HB3 := Lib.hid (HB2.out.below hb2)
  obtain ⟨na, nc, rfl, _⟩ := rowOf_open hrn
  obtain ⟨ea, ec, rfl⟩ : ∃ a c, ev = .slice a (edgeL X f t (movesP f t) (movesP f t).length).length c := by obtain ⟨a, c, e, _⟩ := hre; exact ⟨a, c, e⟩
  have hwe := wavE_edgeL X f t
  rw [hwe] at hre
  simp only [hwe]
  have hs9 : ((w2.setCell ⟨w.heap.size + 1, 0, none⟩ (.slice na (movesP f t).length nc)).setCell ⟨w.heap.size + 1, 1, none⟩ (.slice ea (wavE X f t).length ec)).heap.size = w2.heap.size := by rw [World.size_setCell, World.size_setCell]
  have HGR : Hid (GraphR w (graphV X f t) (.returned (.tuple #[.agg #[.slice na (movesP f t).length nc, .slice ea (wavE X f t).length ec], .int .i64 0])) ((w2.setCell ⟨w.heap.size + 1, 0, none⟩ (.slice na (movesP f t).length nc)).setCell ⟨w.heap.size + 1, 1, none⟩ (.slice ea (wavE X f t).length ec))) := Lib.hid (by
    rw [HG0.out trivial]
    exact ⟨_, _, rfl, by rw [hs9]; exact row_set2 hrn hz, by rw [hs9]; exact edges_set2 hre hz, (HB3.out.bel.setCell (p := ⟨w.heap.size + 1, 0, none⟩) (Nat.le_succ _) _).setCell (p := ⟨w.heap.size + 1, 1, none⟩) (Nat.le_succ _) _⟩)
  have r0 : w2.cell? ⟨w.heap.size + 1, 0, none⟩ = some (.slice none 0 0) := cell_of_row _ _ 0 _ _ _ hz
  have r1 : w2.cell? ⟨w.heap.size + 1, 1, none⟩ = some (.slice none 0 0) := cell_of_row _ _ 1 _ _ _ hz
  have q0 := frozen_of_row _ _ 0 _ _ hz
  have q1 := frozen_of_row _ _ 1 _ _ hz
  have HBX := Lib.hid (set_two (x' := .slice na (movesP f t).length nc) (y' := .slice ea (wavE X f t).length ec) hz)
  clear hrn hre hb2 hz hs9 hwe HG0 HGC HZ2 HB2
  generalize wavE X f t = EL at *
  generalize movesP f t = ML at *
  go_wp2_with fail
  refine bodyPost_ret (results_cell_tmp rfl _ _ (w.heap.size + 1) _ _ _ _ rfl HBX.out Tryz.underlying32 rfl (by kernel_rfl)) rfl ?_
  exact HGR.out
end Go.Proofs.YtnjiibiafhnmgaaGreatDoor
