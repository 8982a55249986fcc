/- Contract of the graph's Levels. -/
import Derived.Test.YtnjiibiafhnmgaaGreatDoorZF
namespace Go.Proofs.YtnjiibiafhnmgaaGreatDoor
set_option linter.unusedVariables false
set_option linter.unusedSimpArgs false
open Go Go.RowKit

theorem mix_set {α : Type} (f : α → α) (l : List α) (k : Nat) (h : k < l.length) : ((l.take k).map f ++ l.drop k).set k (f l[k]) = (l.take (k + 1)).map f ++ l.drop (k + 1) := by
  rw [List.set_append_right _ _ (by simp; omega), List.length_map, List.length_take, Nat.min_eq_left (by omega), Nat.sub_self, List.drop_eq_getElem_cons h, List.set_cons_zero, List.take_succ_eq_append_getElem h, List.map_append, List.append_assoc]
  rfl

theorem Grid.low {B g : Nat} {v : Value} {vs : List Value} {L : List (List Value)} {W : World} (h : Grid B v vs L W) (hg : g < B) (j : Nat) (x : Value) : Grid B v vs L (W.setCell ⟨g, j, none⟩ x) :=
  h.keep (by rw [World.size_setCell]; exact Nat.le_refl _) (fun b hb => heap_setCell_other _ _ _ _ (fun e => by have e : b = g := e; have := (h.top.lt b hb).1; omega))
    (fun i u b hu hb => heap_setCell_other _ _ _ _ (fun e => by
      have e : b = g := e
      have h1 := (List.getElem?_eq_some_iff.1 hu).1
      have h2 := h.len
      have := ((h.row i u _ hu (List.getElem?_eq_getElem (by omega))).lt b hb).1
      omega))

theorem Grid.drew {B : Nat} {v : Value} {vs : List Value} {L : List (List Value)} {W : World} (h : Grid B v vs L W) : Grid B v vs L W.drew := ⟨h.top, h.row, h.apart, h.base⟩
theorem FrE.drew {B g : Nat} {W0 W : World} (h : FrE B g W0 W) : FrE B g W0 W.drew := ⟨h.o, h.t, h.u, h.size, h.blk⟩

def RowsFrom (B : Nat) (v : Value) (S : List (List Nat)) (W : World) : Prop :=
  ∃ ao cap, v = .slice ao S.length cap ∧ ∀ i l, S[i]? = some l → ∃ b off r, ao = some ⟨b, off, none⟩ ∧ B ≤ b ∧ b < W.heap.size ∧ W.cell? ⟨b, off + i, none⟩ = some r ∧ ∃ ra rc, r = .slice ra l.length rc ∧
    ∀ j x, l[j]? = some x → ∃ rb ro, ra = some ⟨rb, ro, none⟩ ∧ B ≤ rb ∧ rb < W.heap.size ∧ W.cell? ⟨rb, ro + j, none⟩ = some (natC x)
theorem Grid.from {B : Nat} {v : Value} {vs : List Value} {S : List (List Nat)} {W : World} (h : Grid B v vs (S.map (·.map natC)) W) : RowsFrom B v S W := by
  have ht := h.top
  rw [List.length_map] at ht
  obtain ⟨a, c, rfl⟩ := own_any ht
  refine ⟨a, c, rfl, fun i l hl => ?_⟩
  have hi := (List.getElem?_eq_some_iff.1 hl).1
  obtain ⟨g, cap, hv, hb, hg, _⟩ := own_shape ht (by omega)
  cases hv
  obtain ⟨u, hu⟩ : ∃ u, vs[i]? = some u := ⟨vs[i]'(by have := h.len; rw [List.length_map] at this; omega), by simp⟩
  have hr := h.row i u (l.map natC) hu (by rw [List.getElem?_map, hl]; rfl)
  rw [List.length_map] at hr
  obtain ⟨ra, rc, rfl⟩ := own_any hr
  refine ⟨g, 0, _, rfl, hb, hg, by rw [Nat.zero_add]; exact own_cell ht i _ hu, ra, rc, rfl, fun j x hx => ?_⟩
  have hj := (List.getElem?_eq_some_iff.1 hx).1
  obtain ⟨g2, cap2, hv2, hb2, hg2, _⟩ := own_shape hr (by omega)
  cases hv2
  exact ⟨g2, 0, rfl, hb2, hg2, by rw [Nat.zero_add]; exact own_cell hr j _ (by rw [List.getElem?_map, hx]; rfl)⟩
theorem RowsFrom.mono {B B' : Nat} {v : Value} {S : List (List Nat)} {W : World} (h : RowsFrom B v S W) (hB : B' ≤ B) : RowsFrom B' v S W := by
  obtain ⟨ao, cap, rfl, h⟩ := h
  refine ⟨ao, cap, rfl, fun i l hl => ?_⟩
  obtain ⟨b, off, r, rfl, h1, h2, h3, ra, rc, rfl, h4⟩ := h i l hl
  refine ⟨b, off, _, rfl, Nat.le_trans hB h1, h2, h3, ra, rc, rfl, fun j x hx => ?_⟩
  obtain ⟨rb, ro, rfl, h5, h6, h7⟩ := h4 j x hx
  exact ⟨rb, ro, rfl, Nat.le_trans hB h5, h6, h7⟩
set_option maxRecDepth 100000 in
set_option maxHeartbeats 4000000 in
theorem Levels_own (nv ev : Value) (ns : List ByteArray) (es : List (Int × Int)) (w : World) (hE : EdgesOf w.heap.size ev es w) (hN : RowOf Value.string w.heap.size nv ns w) (hval : validG ns.length es = true) (hco : Numbered ns.length es) :
    Calls Tryz.prog 50 #[.agg #[nv, ev]] w fun e w' => ∃ v, e = .returned v ∧ RowsOf w'.heap.size v (levelsG ns.length es) w' ∧ RowsFrom w.heap.size v (levelsG ns.length es) w' ∧ Below w.heap.size w w' := by
  obtain ⟨hNn, hNe⟩ := validG_n hval
  have hN0 := hN
  obtain ⟨na, nc, rfl, _⟩ := rowOf_open hN
  have hb1 : Below w.heap.size w (w.alloc (.cells #[.slice na ns.length nc, ev] 32)) := (Below.refl _ _).alloc (Nat.le_refl _) _
  have hx := GValid_any na ns.length nc _ es _ (by omega) ((hE.below hb1 (Nat.le_refl _)).mono hb1.size)
  rw [hval] at hx
  have hE0 := hE
  obtain ⟨ao, ec, rfl, _⟩ := hE
  have HX := Lib.hid hx
  have HB1 := Lib.hid hb1
  have HV := Lib.hid hval
  have HE := Lib.hid hE0
  have HN := Lib.hid hN0
  have HCO := Lib.hid hco
  obtain ⟨hcl, hct⟩ := tarG_co ns.length es
  clear hx hb1 hval hN hE0 hN0 hco
  obtain ⟨i1, hi1', hy0, hy1, hy2⟩ := info_parts info_rows
  go_enter Tryz.func50, Tryz.ntmps50
  go_wp2_with fail
  refine HX.out.mono ?_
  rintro e w1 ⟨rfl, hb⟩
  have hs1 := hb.size
  simp only [World.size_alloc] at hs1
  have hblk := (hb.block w.heap.size (by simp)).trans (World.alloc_heap_new w _)
  have hg0 : w1.cell? ⟨w.heap.size, 0, none⟩ = some (.slice na ns.length nc) := cell_of_row _ _ 0 _ _ _ hblk
  have hg1 : w1.cell? ⟨w.heap.size, 1, none⟩ = some (.slice ao es.length ec) := cell_of_row _ _ 1 _ _ _ hblk
  have HW1 := Lib.hid (HB1.out.trans (hb.mono (by simp)))
  have hcond := condensed_any (.slice na ns.length nc) (.slice ao es.length ec) ns es w1 ((HE.out.below HW1.out (Nat.le_refl _)).mono (by omega)) ((HN.out.below HW1.out (Nat.le_refl _)).mono (by omega)) HV.out HCO.out hcl hct
  have HCOND := Lib.hid hcond
  clear hb hblk hcond
  go_wp2_with fail
  refine HCOND.out.mono ?_
  rintro e w2 ⟨v1, v2, rfl, hr1, hr2, hb2⟩
  have hs2 := hb2.size
  have hr1' : RowsOf w2.heap.size v1 (nodesG ns.length es) w2 := hr1
  have hr2' : RowsOf w2.heap.size v2 (condG ns.length es) w2 := hr2
  have HW2 := Lib.hid (HW1.out.trans (hb2.mono (by omega)))
  have hnl := nodesG_len HCO.out
  obtain ⟨i0, hi0', hz0, hz1, hz2⟩ := info_parts info_ints
  have hNN := Nat.mul_le_mul hNn hNn
  have hcrl := (condG_len ns.length es).2
  have hcn := (condG_len ns.length es).1
  have hclt := condG_lt HCO.out
  have hpos : ∀ i, i < (nodesG ns.length es).length → 0 < ((nodesG ns.length es).getD i []).length := crun_pos HCO.out ns.length (Nat.le_refl _)
  have hmk := make_ints (nodesG ns.length es).length (by omega)
  have hb2a : Below w2.heap.size w2 (w2.alloc (.cells (Array.replicate (nodesG ns.length es).length (.int .i64 0)) 3)) := bel_alloc _ _
  have hlist := listed_any v2 (condG ns.length es) (w2.alloc (.cells (Array.replicate (nodesG ns.length es).length (.int .i64 0)) 3)) ((hr2'.below hb2a (Nat.le_refl _)).mono hb2a.size) (by rw [hcn]; omega) (fun a => by have := hcrl a; omega) hclt
  have hln := listF_length (condG ns.length es)
  have hlt0 := listF_lt (condG ns.length es)
  rw [hcn] at hln hlt0
  rw [hln] at hlist
  have hinv := lvrun_inv (M := (nodesG ns.length es).length) (R := ns.length * ns.length) (N := ns.length) (S := condG ns.length es) (nd := nodesG ns.length es) rfl (fun a j hj => by have := hclt a j hj; rw [hcn] at this; exact this) hcrl hnl.2 (listF (condG ns.length es)) hlt0
  have HLV : Hid (levelsG ns.length es = (lvrun (condG ns.length es) (nodesG ns.length es) (listF (condG ns.length es))).2.map sortN) := Lib.hid rfl
  have hl0 : Ints (w2.alloc (.cells (Array.replicate (nodesG ns.length es).length (.int .i64 0)) 3)) w2.heap.size (List.replicate (nodesG ns.length es).length 0) := by
    refine (World.alloc_heap_new w2 _).trans ?_
    simp
  obtain ⟨va1, vc1, hv1⟩ : ∃ a c, v1 = .slice a (nodesG ns.length es).length c := by
    rcases hr1' with ⟨h0, a, c, rfl⟩ | ⟨b, off, cap, rfl, _⟩
    · exact ⟨a, c, by rw [h0]; rfl⟩
    · exact ⟨_, cap, rfl⟩
  obtain ⟨va2, vc2, hv2⟩ : ∃ a c, v2 = .slice a (nodesG ns.length es).length c := by
    rw [← hcn]
    rcases hr2' with ⟨h0, a, c, rfl⟩ | ⟨b, off, cap, rfl, _⟩
    · exact ⟨a, c, by rw [h0]; rfl⟩
    · exact ⟨_, cap, rfl⟩
  have HR1 := Lib.hid hr1'
  have HR2 := Lib.hid hr2'
  have HINV := Lib.hid hinv
  have HLT := Lib.hid hlt0
  have HPOS := Lib.hid hpos
  have HNL := Lib.hid hnl.2
  have hnd1 := hnl.1
  have HCRL := Lib.hid hcrl
  have HCN := Lib.hid hcn
  have HCLT := Lib.hid hclt
  have HL0 := Lib.hid hl0
  have HB2A := Lib.hid hb2a
  clear hr1 hr2 hr1' hr2' hb2 hg0 hg1 hinv hlt0 hpos hnl hl0 hb2a hcrl hcn hclt
  generalize listF (condG ns.length es) = L at *
  generalize condG ns.length es = Sc at *
  generalize nodesG ns.length es = nd at *
  subst hv1
  subst hv2
  have HLIST := Lib.hid hlist
  clear hlist
  go_wp2_with fail
  refine HLIST.out.mono ?_
  rintro e w3 ⟨u, rfl, hou, hb3⟩
  obtain ⟨ua, uc, rfl⟩ := own_any hou
  have hs3 := hb3.size
  rw [World.size_alloc] at hs3
  have hbx : Below w2.heap.size w2 w3 := HB2A.out.trans (hb3.mono (by rw [World.size_alloc]; omega))
  have HR3 : Hid (RowsOf w2.heap.size (.slice va1 nd.length vc1) nd w3) := Lib.hid (HR1.out.below hbx (Nat.le_refl _))
  have HS3 : Hid (RowsOf w2.heap.size (.slice va2 nd.length vc2) Sc w3) := Lib.hid (HR2.out.below hbx (Nat.le_refl _))
  have HI3 : Hid (Ints w3 w2.heap.size (List.replicate nd.length 0)) := Lib.hid ((hb3.block _ (by simp)).trans HL0.out)
  have HW3 := Lib.hid (HW2.out.trans (hbx.mono (by omega)))
  have HU := Lib.hid hou
  clear hou hb3 HLIST HCOND hmk hbx
  have hndl : nd.length ≤ 1024 := by omega
  go_wp2_with fail
  go_loopw [6, 26] (fun o q wr => ∃ (k : Nat) (vs : List Value), k ≤ nd.length ∧ q = .int .i64 k ∧ Hid (Grid w3.heap.size o vs ((lvrun Sc nd (L.take k)).2.map (·.map natC)) wr) ∧ Hid (Ints wr w2.heap.size (lvrun Sc nd (L.take k)).1) ∧ Hid (FrE w3.heap.size w2.heap.size w3 wr)) (fun _ q _ => nd.length - (intOf q).toNat)
  case atStart => exact ⟨0, [], by omega, rfl, Lib.hid ⟨World.ownsRow_nil _ _ _ _, (fun i u l hu _ => by cases hu), (fun i j u u' b hu => by cases hu), Nat.le_refl _⟩, HI3, Lib.hid (FrE.refl _ _ _)⟩
  case round =>
    clear HI3
    obtain ⟨k, vs, hk, rfl, HG, HI, HF⟩ := hrel
    have hsb := HF.out.size
    have hin := HINV.out k (by omega)
    obtain ⟨oa, oc, hoe⟩ := HG.out.shape
    rw [List.length_map] at hoe
    subst hoe
    by_cases hlt : k < nd.length
    · have hk0 : (0 : Int) ≤ (k : Int) := by omega
      have hk1 : (k : Int) < (nd.length : Int) := by omega
      have hLl : k < L.length := by omega
      have hcU : ∀ j x, (L.map natC)[j]? = some x → ∃ g, (ua = some ⟨g, 0, none⟩ ∧ w2.heap.size + 1 ≤ g ∧ g < w3.heap.size ∧ w3.cell? ⟨g, j, none⟩ = some x) := fun j x hx => by
        obtain ⟨g, cap, hv, hgb, hg, _⟩ := own_shape HU.out (by omega)
        rw [World.size_alloc] at hgb
        cases hv
        exact ⟨g, rfl, hgb, hg, own_cell HU.out j x hx⟩
      obtain ⟨g, rfl, hgb, hgl, hcg⟩ := hcU k (natC L[k]) (by rw [List.getElem?_map, List.getElem?_eq_getElem hLl]; rfl)
      have hcg : wr.cell? ⟨g, k, none⟩ = some (natC L[k]) := (World.cell?_of_block (HF.out.blk g hgl (by omega))).trans hcg
      have hcl2 : L[k] < nd.length := HLT.out _ (List.getElem_mem hLl)
      have HTK : Hid (lvrun Sc nd (L.take (k + 1)) = lvadd Sc nd (lvrun Sc nd (L.take k)) L[k]) := Lib.hid (by
        unfold lvrun
        rw [List.take_succ_eq_append_getElem hLl, List.foldl_append]
        rfl)
      generalize L[k] = c at *
      have hc0 : (0 : Int) ≤ (c : Int) := by omega
      have hc1 : (c : Int) < (nd.length : Int) := by omega
      have hkR : k * (ns.length * ns.length) ≤ 1073741824 := by
        have := Nat.mul_le_mul (show k ≤ 1024 by omega) (show ns.length * ns.length ≤ 1048576 by omega)
        omega
      have hkN : k * ns.length ≤ 1048576 := by
        have := Nat.mul_le_mul (show k ≤ 1024 by omega) hNn
        omega
      have hlv0 := hin.len
      have hlvb := hin.lv
      have hout0 := hin.out
      have hrow0 := hin.row
      obtain ⟨lv0, hlve⟩ : ∃ x, x = (lvrun Sc nd (L.take k)).1 := ⟨_, rfl⟩
      obtain ⟨out0, hote⟩ : ∃ x, x = (lvrun Sc nd (L.take k)).2 := ⟨_, rfl⟩
      have HTK2 : Hid (lvrun Sc nd (L.take (k + 1)) = lvadd Sc nd (lv0, out0) c) := Lib.hid (by rw [HTK.out, hlve, hote])
      rw [← hlve] at hlv0 hlvb HI
      rw [← hote] at hout0 hrow0 HG ⊢
      clear hlve hote HTK hin
      have hRS : RowsOf w2.heap.size (.slice va2 nd.length vc2) Sc wr := HS3.out.below (HF.out.to (Nat.le_refl _) (by omega)) (Nat.le_refl _)
      obtain ⟨b, off, cap, hva, hbw, hrow⟩ : ∃ b off cap, (.slice va2 nd.length vc2 : Value) = .slice (some ⟨b, off, none⟩) nd.length cap ∧ b < w2.heap.size ∧ ∀ i l, Sc[i]? = some l → ∃ r, wr.cell? ⟨b, off + i, none⟩ = some r ∧ RowOf natC w2.heap.size r l wr := by
        rcases hRS with ⟨h, _⟩ | ⟨b, off, cap, h1, h2, h3⟩
        · have := HCN.out; rw [h] at this; simp at this; omega
        · rw [HCN.out] at h1; exact ⟨b, off, cap, h1, h2, h3⟩
      cases hva
      have hgS : Sc.getD c [] = Sc[c]'(by rw [HCN.out]; exact hcl2) := by rw [List.getD_eq_getElem?_getD, List.getElem?_eq_getElem (by rw [HCN.out]; exact hcl2)]; rfl
      obtain ⟨r, hcr, hrr⟩ := hrow c (Sc.getD c []) (by rw [hgS]; simp)
      have hrl := HCRL.out c
      have hrlt := HCLT.out c
      rw [HCN.out] at hrlt
      obtain ⟨sr, hsre⟩ : ∃ x, x = Sc.getD c [] := ⟨_, rfl⟩
      have HSR := Lib.hid hsre
      rw [← hsre] at hrr hrl hrlt
      clear hsre hgS hrow hcU
      obtain ⟨ra, rc, rfl, hrc⟩ := rowOf_open hrr
      have HRC := Lib.hid hrc
      have HRLT := Lib.hid hrlt
      have HLVB := Lib.hid hlvb
      have HROW := Lib.hid hrow0
      clear hrr hrc hRS hrlt hlvb hrow0
      go_wp2_with fail
      obtain ⟨wo, rfl⟩ : ∃ wo : World, wo = wr := ⟨_, rfl⟩
      go_loopw [35] (fun q wr => ∃ j : Nat, j ≤ sr.length ∧ q = .int .i64 j ∧ Hid (Ints wr w2.heap.size ((sr.take j).foldl (lvstep c) lv0)) ∧ Hid (Grid w3.heap.size (.slice oa out0.length oc) vs (out0.map (·.map natC)) wr) ∧ Hid (FrE w3.heap.size w2.heap.size w3 wr) ∧ Hid (Below w2.heap.size wo wr)) (fun q _ => sr.length - (intOf q).toNat)
      case atStart => exact ⟨0, by omega, rfl, HI, HG, HF, Lib.hid (Below.refl _ _)⟩
      case round =>
        clear HI HG HF
        obtain ⟨j, hj, rfl, HI2, HG2, HF2, HB2⟩ := hrel
        have hsr := HF2.out.size
        by_cases hjl : j < sr.length
        · have hj0 : (0 : Int) ≤ (j : Int) := by omega
          have hj1 : (j : Int) < (sr.length : Int) := by omega
          obtain ⟨b2, off2, rfl, hb2, hcd⟩ := HRC.out j sr[j] (by simp [hjl])
          have hcd := (HB2.out.cell (p := ⟨b2, off2 + j, none⟩) hb2).trans hcd
          have hdl := HRLT.out _ (List.getElem_mem hjl)
          have HT : Hid ((sr.take (j + 1)).foldl (lvstep c) lv0 = lvstep c ((sr.take j).foldl (lvstep c) lv0) sr[j]) := Lib.hid (by
            rw [List.take_succ_eq_append_getElem hjl, List.foldl_append]
            rfl)
          obtain ⟨q1, q2⟩ := lvsteps_ok (B := ns.length * ns.length) hcl2 (sr.take j) lv0 (k * (ns.length * ns.length)) hlv0 (fun d hd => HRLT.out d (List.mem_of_mem_take hd)) HLVB.out (by rw [List.length_take]; omega)
          rw [List.length_take] at q2
          generalize (sr.take j).foldl (lvstep c) lv0 = lv at *
          generalize sr[j] = d at *
          have hd0 : (0 : Int) ≤ (d : Int) := by omega
          have hd1 : (d : Int) < (nd.length : Int) := by omega
          have hcc := HI2.out.cell c _ (gD_get (by omega))
          have hce := HI2.out.cell d _ (gD_get (by omega))
          have hfc : wr.frozen? ⟨w2.heap.size, c, none⟩ = false := frozen_of_row _ _ c _ _ HI2.out
          have qd := q2 d hdl
          obtain ⟨lc, hlc⟩ : ∃ x, x = gD lv c := ⟨_, rfl⟩
          obtain ⟨ld, hld⟩ : ∃ x, x = gD lv d := ⟨_, rfl⟩
          rw [← hlc] at hcc
          rw [← hld] at hce qd
          have HLC := Lib.hid hlc
          have HLD := Lib.hid hld
          have hwd : IntKind.i64.wrap (ld + 1) = ld + 1 := IntWalk.i64_in _ (by omega)
          clear hlc hld q1 q2 qd
          go_wp2_with fail
          have hHC : HeldC ⟨w2.heap.size, c, none⟩ ⟨w2.heap.size, d, none⟩ (intC lc) (intC ld) wr.drew := ⟨hcc, hce⟩
          refine region_plain_split (S := HeldC ⟨w2.heap.size, c, none⟩ ⟨w2.heap.size, d, none⟩ (intC lc) (intC ld)) 12 (by kernel_rfl) (by kernel_rfl) ?_
          simp only [List.take_succ_cons, List.take_zero]
          (refine zl3 0 ?_ rfl ?_ ?_; rotate_left; (· (rintro w ⟨c0, c1⟩; go_simp; try with_reducible rfl)); (try simp only [zl1]))
          (refine zl3 1 ?_ rfl ?_ ?_; rotate_left; (· (rintro w ⟨c0, c1⟩; go_simp; try with_reducible rfl)); (try simp only [zl1]))
          (refine zl3 2 ?_ rfl ?_ ?_; rotate_left; (· (rintro w ⟨c0, c1⟩; go_simp; try with_reducible rfl)); (try simp only [zl1]))
          (refine zl3 3 ?_ rfl ?_ ?_; rotate_left; (· (rintro w ⟨c0, c1⟩; go_simp; try with_reducible rfl)); (try simp only [zl1]))
          (refine zl3 4 ?_ rfl ?_ ?_; rotate_left; (· (rintro w ⟨c0, c1⟩; go_simp; try with_reducible rfl)); (try simp only [zl1]))
          (refine zl3 5 ?_ rfl ?_ ?_; rotate_left; (· (rintro w ⟨c0, c1⟩; go_simp; try with_reducible rfl)); (try simp only [zl1]))
          (refine zl3 6 ?_ rfl ?_ ?_; rotate_left; (· (rintro w ⟨c0, c1⟩; go_simp; try with_reducible rfl)); (try simp only [zl1]))
          (refine zl3 7 ?_ rfl ?_ ?_; rotate_left; (· (rintro w ⟨c0, c1⟩; go_simp; try with_reducible rfl)); (try simp only [zl1]))
          (refine zl3 8 ?_ rfl ?_ ?_; rotate_left; (· (rintro w ⟨c0, c1⟩; go_simp; try with_reducible rfl)); (try simp only [zl1]))
          (refine zl3 9 ?_ rfl ?_ ?_; rotate_left; (· (rintro w ⟨c0, c1⟩; go_simp; try with_reducible rfl)); (try simp only [zl1]))
          (refine zl3 10 ?_ rfl ?_ ?_; rotate_left; (· (rintro w ⟨c0, c1⟩; go_simp; try with_reducible rfl)); (try simp only [zl1]))
          (refine zl3 11 ?_ rfl ?_ ?_; rotate_left; (· (rintro w ⟨c0, c1⟩; go_simp; try with_reducible rfl)); (try simp only [zl1]))
          refine wpAnyH_done (by kernel_rfl) ?_ _
          show wpList _ _ _ _ _ _
          simp only [List.drop_succ_cons, List.drop_zero]
          go_wp2_with fail
          go_roundw
          case rel =>
            refine ⟨j + 1, by omega, by go_num, Lib.hid ?_, Lib.hid (HG2.out.low (by omega) _ _).drew, Lib.hid (HF2.out.set _ _).drew, Lib.hid (HB2.out.setCell (by exact Nat.le_refl _) _).drew⟩
            rw [HT.out]
            unfold lvstep
            rw [← HLC.out, ← HLD.out]
            exact HI2.out.set c _
          case measure => simp [intOf]; omega
        · have hjj : j = sr.length := by omega
          subst hjj
          rw [List.take_length] at HI2
          obtain ⟨q1, q2⟩ := lvsteps_ok (B := ns.length * ns.length) hcl2 sr lv0 (k * (ns.length * ns.length)) hlv0 HRLT.out HLVB.out (by omega)
          obtain ⟨lv1, hlv1⟩ : ∃ x, x = sr.foldl (lvstep c) lv0 := ⟨_, rfl⟩
          rw [← hlv1] at HI2 q1 q2
          obtain ⟨qa, qb⟩ := q2 c hcl2
          obtain ⟨m, hm⟩ : ∃ m : Nat, gD lv1 c = (m : Int) := ⟨(gD lv1 c).toNat, by omega⟩
          have hmb : m ≤ 1100000000 := by omega
          have hcm := HI2.out.cell c _ (gD_get (by omega))
          rw [hm] at hcm
          have HLV1 := Lib.hid hlv1
          have HM := Lib.hid hm
          clear hlv1 hm q2 qa qb
          go_wp2_with fail
          obtain ⟨wp, rfl⟩ : ∃ wp : World, wp = wr := ⟨_, rfl⟩
          go_loopw [6] (fun o wr => ∃ (t : Nat) (vs : List Value), (out0.length + t ≤ max out0.length (m + 1)) ∧ Hid (Grid w3.heap.size o vs ((out0 ++ List.replicate t ([] : List Nat)).map (·.map natC)) wr) ∧ Hid (Ints wr w2.heap.size lv1) ∧ Hid (FrE w3.heap.size w2.heap.size w3 wr)) (fun o _ => m + 1 - vlen o)
          case atStart => exact ⟨0, vs, by omega, Lib.hid (by simpa using HG2.out), HI2, HF2⟩
          case round =>
            clear HI2 HG2 HF2 HB2 hcm
            obtain ⟨t, vs, ht, HG3, HI3, HF3⟩ := hrel
            obtain ⟨oa, oc, hoe⟩ := HG3.out.shape
            rw [List.length_map, List.length_append, List.length_replicate] at hoe
            subst hoe
            have hsr := HF3.out.size
            have hcm := HI3.out.cell c _ (gD_get (by omega))
            rw [HM.out] at hcm
            obtain ⟨n0, hn0⟩ : ∃ n0, n0 = out0.length + t := ⟨_, rfl⟩
            by_cases hle : n0 ≤ m
            · have hled : decide ((n0 : Int) ≤ (m : Int)) = true := decide_eq_true (by omega)
              have htp := HG3.out.top
              rw [List.length_map, List.length_append, List.length_replicate, ← hn0] at htp
              rw [← hn0]
              have HTP : Hid ((wr.alloc (.cells #[.slice none 0 0] 120)).ownsRow w3.heap.size 120 1 (.slice oa n0 oc) n0 vs) := Lib.hid (htp.alloc _)
              clear htp
              go_wp2_with (at_builtin; refine wpList_append_own _ rfl _ _ 87 rfl w3.heap.size 120 i1 (.slice none 0 0) 1 24 Tryz.underlying87 hi1' hy0 hy1 hy2 rfl (by decide) _ _ _ (by rfl) HTP.out ⟨wr.heap.size, 0, none⟩ 1 1 [.slice none 0 0] (by rfl) (by rfl) (World.news_of_block (cs := #[.slice none 0 0]) (t := 120) (fr := (0, 0)) (heap_alloc_new wr _)) (by simp [Value.oneCell']) (by unfold maxLen; omega) (by omega) (by simp; omega) ?_; intro v' w5 hown' hgrow _)
              go_roundw
              case rel =>
                have hb5 : Below w3.heap.size wr w5 := ((Below.refl _ _).alloc hsr (.cells #[.slice none 0 0] 120)).grown hgrow (by rw [World.size_alloc]; omega) (fun j hj => (HTP.out.lt j hj).1)
                refine ⟨t + 1, vs ++ [.slice none 0 0], by omega, Lib.hid ?_, Lib.hid ((hb5.block _ (by omega)).trans HI3.out), Lib.hid (HF3.out.below hb5)⟩
                have := (HG3.out.below (bel_alloc wr (.cells #[.slice none 0 0] 120))).push (by rw [← hn0]; exact hgrow) (by rw [List.length_map, List.length_append, List.length_replicate, ← hn0]; exact hown')
                rw [List.replicate_succ', ← List.append_assoc, List.map_append]
                exact this
              case measure =>
                have e9 := vlen_own hown'
                simp only [vlen] at e9 ⊢
                omega
            · have hled : decide ((n0 : Int) ≤ (m : Int)) = false := decide_eq_false (by omega)
              have hpad : out0 ++ List.replicate t ([] : List Nat) = lvpad out0 m := by
                unfold lvpad
                rw [show t = m + 1 - out0.length by omega]
              have hpl : (lvpad out0 m).length = n0 := by rw [← hpad, List.length_append, List.length_replicate, hn0]
              have hG4 : Grid w3.heap.size (.slice oa n0 oc) vs ((lvpad out0 m).map (·.map natC)) wr := by
                rw [← hpad, hn0]
                exact HG3.out
              have hrb : ((lvpad out0 m).getD m []).length ≤ 1048576 := by rw [lvpad_row]; have := HROW.out m; omega
              have HPUT : Hid (lvput nd out0 m c = (lvpad out0 m).set m ((lvpad out0 m).getD m [] ++ nd.getD c [])) := Lib.hid rfl
              rw [← hn0]
              clear hpad HG3
              generalize lvpad out0 m = po at *
              obtain ⟨pr, hpr⟩ : ∃ x, x = po.getD m [] := ⟨_, rfl⟩
              rw [← hpr] at hrb HPUT
              obtain ⟨u, hu⟩ : ∃ u, vs[m]? = some u := ⟨vs[m]'(by have := hG4.len; rw [List.length_map] at this; omega), by simp⟩
              have hl : (po.map (·.map natC))[m]? = some (pr.map natC) := by rw [hpr, List.getElem?_map, List.getD_eq_getElem?_getD, List.getElem?_eq_getElem (by omega)]; rfl
              have hown := hG4.row m u _ hu hl
              rw [List.length_map] at hown
              have htop := hG4.top
              rw [List.length_map, hpl] at htop
              obtain ⟨gt, ctp, hv, hgb1, hgl1, _⟩ := own_shape htop (by omega)
              cases hv
              have hcu : wr.cell? ⟨gt, m, none⟩ = some u := own_cell htop m u hu
              have hfu : wr.frozen? ⟨gt, m, none⟩ = false := htop.frozenAt m
              have hne : u.ownBlock ≠ some gt := fun e => by
                rcases own_ne hown htop (by decide) with h | h
                · rw [h] at e; cases e
                · exact h (by rw [e]; rfl)
              have hob : ∀ b, u.ownBlock = some b → w3.heap.size ≤ b := fun b hb => (hown.lt b hb).1
              have hRN : RowsOf w2.heap.size (.slice va1 nd.length vc1) nd wr := HR3.out.below (HF3.out.to (Nat.le_refl _) (by omega)) (Nat.le_refl _)
              obtain ⟨b1, off1, cap1, hva1, hbw1, hrow1⟩ : ∃ b off cap, (.slice va1 nd.length vc1 : Value) = .slice (some ⟨b, off, none⟩) nd.length cap ∧ b < w2.heap.size ∧ ∀ i l, nd[i]? = some l → ∃ r, wr.cell? ⟨b, off + i, none⟩ = some r ∧ RowOf natC w2.heap.size r l wr := by
                rcases hRN with ⟨h, _⟩ | h
                · rw [h] at hlt; simp at hlt
                · exact h
              cases hva1
              have hgN : nd.getD c [] = nd[c] := by rw [List.getD_eq_getElem?_getD, List.getElem?_eq_getElem hcl2]; rfl
              obtain ⟨r1, hcn, hrn⟩ := hrow1 c (nd.getD c []) (by rw [hgN]; simp)
              have hrp := HPOS.out c hcl2
              have hrN := HNL.out c
              obtain ⟨rl, hrl⟩ : ∃ x, x = nd.getD c [] := ⟨_, rfl⟩
              rw [← hrl] at hrn hrp hrN HPUT
              obtain ⟨rb, ro, rcap, hr1, hrbl, hrc⟩ : ∃ b off cap, r1 = .slice (some ⟨b, off, none⟩) rl.length cap ∧ b < w2.heap.size ∧ ∀ i x, rl[i]? = some x → wr.cell? ⟨b, off + i, none⟩ = some (natC x) := by
                rcases hrn with ⟨h, _⟩ | h
                · rw [h] at hrp; simp at hrp
                · exact h
              subst hr1
              have HN : Hid (∀ W1, (wr.drew).grownBy W1 u.ownBlock → HeldR ⟨w2.heap.size, c, none⟩ ⟨gt, m, none⟩ ⟨b1, off1 + c, none⟩ (intC (m : Int)) u (.slice (some ⟨rb, ro, none⟩) rl.length rcap) W1 ∧ W1.frozen? ⟨gt, m, none⟩ = false) := Lib.hid (fun W1 hg => by
                have a1 : some w2.heap.size ≠ u.ownBlock := fun e => by have := hob _ e.symm; omega
                have a2 : some b1 ≠ u.ownBlock := fun e => by have := hob _ e.symm; omega
                have a3 : some gt ≠ u.ownBlock := fun e => hne e.symm
                refine ⟨⟨?_, ?_, ?_⟩, ?_⟩
                · rw [hg.cell_far _ (by show w2.heap.size < wr.heap.size; omega) a1]
                  exact hcm
                · rw [hg.cell_far _ (by show gt < wr.heap.size; omega) a3]
                  exact hcu
                · rw [hg.cell_far _ (by show b1 < wr.heap.size; omega) a2]
                  exact hcn
                · rw [hg.frozen_far _ (by show gt < wr.heap.size; omega) a3]
                  exact hfu)
              have HOWN : Hid (wr.drew.ownsRow w3.heap.size 3 1 u pr.length (pr.map natC)) := Lib.hid hown.drew
              have HNEW : Hid (∀ (t9 : Nat) (y : Value), (rl.map natC)[t9]? = some y → wr.drew.cell? ((⟨rb, ro, none⟩ : Addr).add t9) = some y) := Lib.hid (fun t9 y hy => by
                rw [Addr.add_lit]
                rw [List.getElem?_map] at hy
                cases e : rl[t9]? with
                | none => rw [e] at hy; cases hy
                | some z => rw [e] at hy; cases hy; exact hrc t9 z e)
              have hS0 : HeldR ⟨w2.heap.size, c, none⟩ ⟨gt, m, none⟩ ⟨b1, off1 + c, none⟩ (intC (m : Int)) u (.slice (some ⟨rb, ro, none⟩) rl.length rcap) wr.drew := ⟨hcm, hcu, hcn⟩
              have hm0 : (0 : Int) ≤ (m : Int) := by omega
              have hm1 : (m : Int) < (n0 : Int) := by omega
              have HG4 := Lib.hid hG4
              have HU2 := Lib.hid hu
              have HL2 := Lib.hid hl
              have HOB := Lib.hid hob
              have HPR := Lib.hid hpr
              clear hG4 hu hl hob hpr hown htop hne hcu hfu hcn hRN hrow1 hgN hrn hrc hrl
              go_wp2_with fail
              refine region_plain_split (S := HeldR ⟨w2.heap.size, c, none⟩ ⟨gt, m, none⟩ ⟨b1, off1 + c, none⟩ (intC (m : Int)) u (.slice (some ⟨rb, ro, none⟩) rl.length rcap)) 17 (by kernel_rfl) (by kernel_rfl) ?_
              simp only [List.take_succ_cons, List.take_zero]
              (refine zl3 0 ?_ rfl ?_ ?_; rotate_left; (· (rintro w ⟨c0, c1, c2⟩; go_simp; try with_reducible rfl)); (try simp only [zl1]))
              (refine zl3 1 ?_ rfl ?_ ?_; rotate_left; (· (rintro w ⟨c0, c1, c2⟩; go_simp; try with_reducible rfl)); (try simp only [zl1]))
              (refine zl3 2 ?_ rfl ?_ ?_; rotate_left; (· (rintro w ⟨c0, c1, c2⟩; go_simp; try with_reducible rfl)); (try simp only [zl1]))
              (refine zl3 3 ?_ rfl ?_ ?_; rotate_left; (· (rintro w ⟨c0, c1, c2⟩; go_simp; try with_reducible rfl)); (try simp only [zl1]))
              (refine zl3 4 ?_ rfl ?_ ?_; rotate_left; (· (rintro w ⟨c0, c1, c2⟩; go_simp; try with_reducible rfl)); (try simp only [zl1]))
              (refine zl3 5 ?_ rfl ?_ ?_; rotate_left; (· (rintro w ⟨c0, c1, c2⟩; go_simp; try with_reducible rfl)); (try simp only [zl1]))
              (refine zl3 6 ?_ rfl ?_ ?_; rotate_left; (· (rintro w ⟨c0, c1, c2⟩; go_simp; try with_reducible rfl)); (try simp only [zl1]))
              (refine zl3 7 ?_ rfl ?_ ?_; rotate_left; (· (rintro w ⟨c0, c1, c2⟩; go_simp; try with_reducible rfl)); (try simp only [zl1]))
              (refine zl3 8 ?_ rfl ?_ ?_; rotate_left; (· (rintro w ⟨c0, c1, c2⟩; go_simp; try with_reducible rfl)); (try simp only [zl1]))
              (refine zl3 9 ?_ rfl ?_ ?_; rotate_left; (· (rintro w ⟨c0, c1, c2⟩; go_simp; try with_reducible rfl)); (try simp only [zl1]))
              (refine zl3 10 ?_ rfl ?_ ?_; rotate_left; (· (rintro w ⟨c0, c1, c2⟩; go_simp; try with_reducible rfl)); (try simp only [zl1]))
              (refine zl3 11 ?_ rfl ?_ ?_; rotate_left; (· (rintro w ⟨c0, c1, c2⟩; go_simp; try with_reducible rfl)); (try simp only [zl1]))
              (refine zl3 12 ?_ rfl ?_ ?_; rotate_left; (· (rintro w ⟨c0, c1, c2⟩; go_simp; try with_reducible rfl)); (try simp only [zl1]))
              (refine zl3 13 ?_ rfl ?_ ?_; rotate_left; (· (rintro w ⟨c0, c1, c2⟩; go_simp; try with_reducible rfl)); (try simp only [zl1]))
              (refine zl3 14 ?_ rfl ?_ ?_; rotate_left; (· (rintro w ⟨c0, c1, c2⟩; go_simp; try with_reducible rfl)); (try simp only [zl1]))
              (refine zl3 15 ?_ rfl ?_ ?_; rotate_left; (· (rintro w ⟨c0, c1, c2⟩; go_simp; try with_reducible rfl)); (try simp only [zl1]))
              refine wpAnyH_ready (rs := [16]) (by kernel_rfl) (by simp) (AllReadyH.cons rfl (fun K hK => ?_) AllReadyH.nil)
              refine step_append_lies _ (by rfl) _ _ _ (by rfl) w3.heap.size 3 i0 (.int .i64 0) 1 8 Tryz.underlying120 hi0' hz0 hz1 hz2 rfl (by decide) u _ _ (by rfl) HOWN.out ⟨rb, ro, none⟩ rl.length rcap (rl.map natC) (by rfl) (by rw [List.length_map, Nat.mul_one]) HNEW.out (fun y hy => by obtain ⟨z, _, rfl⟩ := List.mem_map.1 hy; rfl) hrp (by unfold maxLen; omega) (by omega) (by show w3.heap.size ≤ wr.heap.size; omega) wr.heap.size rfl ?_
              intro gg cap w4 hown4 hg4 hat4 hlt4
              obtain ⟨hS4, hfz4⟩ := HN.out _ hg4
              refine hK.out _ _ hS4 (fun _ => ?_)
              have hct4 := hS4.2.1
              clear hK K hS4 hS0
              (try simp only [zl1])
              refine wpAnyH_done (by kernel_rfl) ?_ _
              show wpList _ _ _ _ _ _
              simp only [List.drop_succ_cons, List.drop_zero]
              go_wp2_with fail
              go_roundw
              case rel =>
                have g1 : wr.grownBy w4 u.ownBlock := ⟨hg4.os, hg4.tape, hg4.output, hg4.size, hg4.block⟩
                have hbx : Below w3.heap.size wr w4 := (Below.refl _ _).grown g1 (by omega) (fun b hb => HOB.out b hb)
                have hfin := HG4.out.put m u (.slice (some ⟨gg, 0, none⟩) (pr.length + rl.length) cap) _ (pr.map natC ++ rl.map natC) (by rw [List.length_map, hpl]) HU2.out HL2.out g1 (by rw [List.length_append, List.length_map, List.length_map]; exact hown4) (by
                  rcases hat4 with h | h
                  · exact .inl (by rw [h]; rfl)
                  · refine .inr fun b hb => ?_
                    have e : gg = b := by simpa [Value.ownBlock] using hb
                    omega)
                have hadd : lvadd Sc nd (lv0, out0) c = (lv1, po.set m (pr ++ rl)) := by
                  unfold lvadd
                  simp only
                  rw [← HSR.out, ← HLV1.out, HM.out, Int.toNat_natCast, HPUT.out]
                have hmap : (po.map (·.map natC)).set m (pr.map natC ++ rl.map natC) = (lvrun Sc nd (L.take (k + 1))).2.map (·.map natC) := by
                  rw [HTK2.out, hadd, List.map_set, List.map_append]
                refine ⟨k + 1, vs.set m (.slice (some ⟨gg, 0, none⟩) (pr.length + rl.length) cap), by omega, by go_num, Lib.hid ?_, Lib.hid ?_, Lib.hid ?_⟩
                · rw [← hmap]
                  exact hfin
                · rw [HTK2.out, hadd]
                  exact (heap_setCell_other _ _ _ _ (fun e => by have e : w2.heap.size = gt := e; omega)).trans ((hbx.block _ (by omega)).trans HI3.out)
                · exact HF3.out.below (hbx.setCell (by exact hgb1) _)
              case measure => simp [intOf]; omega
    · have hkk : k = nd.length := by omega
      subst hkk
      rw [show L.take nd.length = L by rw [← hln]; exact List.take_length] at HG hin ⊢
      have hout0 := hin.out
      have hrow0 := hin.row
      have hmb : nd.length * (ns.length * ns.length) ≤ 1073741824 := by
        have := Nat.mul_le_mul hndl hNN
        omega
      have hmb2 : nd.length * ns.length ≤ 1048576 := by
        have := Nat.mul_le_mul hndl hNn
        omega
      have HLV2 := HLV
      generalize (lvrun Sc nd L).2 = out0 at *
      clear HI hin
      go_wp2_with fail
      obtain ⟨wo, rfl⟩ : ∃ wo : World, wo = wr := ⟨_, rfl⟩
      go_loopw [84] (fun q wr => ∃ (j : Nat) (vs : List Value), j ≤ out0.length ∧ q = .int .i64 j ∧ Hid (Grid w3.heap.size (.slice oa out0.length oc) vs (((out0.take j).map sortN ++ out0.drop j).map (·.map natC)) wr) ∧ Hid (Below w3.heap.size wo wr)) (fun q _ => out0.length - (intOf q).toNat)
      case atStart => exact ⟨0, vs, by omega, rfl, Lib.hid (by simpa using HG.out), Lib.hid (Below.refl _ _)⟩
      case round =>
        clear HG
        obtain ⟨j, vs, hj, rfl, HG, HB⟩ := hrel
        have hml : ((out0.take j).map sortN ++ out0.drop j).length = out0.length := by simp; omega
        by_cases hjl : j < out0.length
        · have hj0 : (0 : Int) ≤ (j : Int) := by omega
          have hj1 : (j : Int) < (out0.length : Int) := by omega
          obtain ⟨u, hu⟩ : ∃ u, vs[j]? = some u := ⟨vs[j]'(by have := HG.out.len; rw [List.length_map, hml] at this; omega), by simp⟩
          have hgj : ((out0.take j).map sortN ++ out0.drop j)[j]? = some out0[j] := by
            rw [List.getElem?_append_right (by simp; omega), List.length_map, List.length_take, Nat.min_eq_left (by omega), Nat.sub_self, List.getElem?_drop, Nat.add_zero, List.getElem?_eq_getElem hjl]
          have hl : (((out0.take j).map sortN ++ out0.drop j).map (·.map natC))[j]? = some (out0[j].map natC) := by rw [List.getElem?_map, hgj]; rfl
          have hown := HG.out.row j u _ hu hl
          have htop := HG.out.top
          rw [List.length_map, hml] at htop
          obtain ⟨gt, ctp, hv, hgb1, hgl1, _⟩ := own_shape htop (by omega)
          cases hv
          have hcu := own_cell htop j u hu
          have hrj : out0[j].length ≤ 1048576 := by
            have := hrow0 j
            rw [List.getD_eq_getElem?_getD, List.getElem?_eq_getElem hjl] at this
            have h9 : out0[j].length ≤ nd.length * ns.length := this
            omega
          have HSET : Hid (((out0.take j).map sortN ++ out0.drop j).set j (sortN out0[j]) = (out0.take (j + 1)).map sortN ++ out0.drop (j + 1)) := Lib.hid (mix_set sortN out0 j hjl)
          generalize out0[j] = row at *
          have hsrt := sort_row w3.heap.size u (row.map fun n : Nat => (n : Int)) wr (by
            rw [List.length_map] at hown
            rw [List.length_map, List.map_map]
            exact hown) (by rw [List.length_map]; omega)
          rw [← sortN_cells] at hsrt
          have HSRT := Lib.hid hsrt
          have HU2 := Lib.hid hu
          have HL2 := Lib.hid hl
          have hbase := HG.out.base
          have hob : ∀ b, u.ownBlock = some b → w3.heap.size ≤ b := fun b hb => (hown.lt b hb).1
          have HOB := Lib.hid hob
          clear hsrt hu hl hown htop hgj hob
          obtain ⟨ua9, ul9, uc9, rfl⟩ : ∃ a l c, u = .slice a l c := by
            obtain ⟨a, c, h⟩ := own_any (HG.out.row j u _ HU2.out HL2.out)
            exact ⟨_, _, _, h⟩
          go_wp2_with fail
          refine HSRT.out.mono ?_
          rintro e w5 ⟨rfl, hg5, ho5⟩
          go_wp2_with fail
          go_roundw
          case rel =>
            refine ⟨j + 1, vs, by omega, by go_num, Lib.hid ?_, Lib.hid (HB.out.grown hg5 hbase (fun b hb => HOB.out b hb))⟩
            rw [← HSET.out, List.map_set]
            refine HG.out.turn j _ _ ((sortN row).map natC) HU2.out HL2.out hg5 ?_
            have hlen : ((row.map fun n : Nat => (n : Int)).mergeSort fun x y => decide (x ≤ y)).length = (sortN row).length := by unfold sortN; rw [List.length_map]
            rw [hlen] at ho5
            rw [List.length_map]
            exact ho5
          case measure => simp [intOf]; omega
        · have hjj : j = out0.length := by omega
          subst hjj
          rw [List.take_length, List.drop_length, List.append_nil] at HG
          go_wp2_with fail
          go_ret
          refine ⟨_, rfl, ?_, ?_, HW3.out.trans ((HF.out.to (B0 := w2.heap.size) (Nat.le_refl _) (by omega)).mono (by omega) |>.trans (HB.out.mono (by omega)))⟩
          · rw [HLV2.out]
            exact HG.out.rows
          · rw [HLV2.out]
            exact HG.out.from.mono (by omega)
theorem Levels_yes (nv ev : Value) (ns : List ByteArray) (es : List (Int × Int)) (w : World) (hE : EdgesOf w.heap.size ev es w) (hN : RowOf Value.string w.heap.size nv ns w) (hval : validG ns.length es = true) (hco : Numbered ns.length es) :
    Calls Tryz.prog 50 #[.agg #[nv, ev]] w fun e w' => ∃ v, e = .returned v ∧ RowsOf w'.heap.size v (levelsG ns.length es) w' ∧ Below w.heap.size w w' := by
  refine (Levels_own nv ev ns es w hE hN hval hco).mono ?_
  rintro e w' ⟨v, h1, h2, _, h3⟩
  exact ⟨v, h1, h2, h3⟩
end Go.Proofs.YtnjiibiafhnmgaaGreatDoor
