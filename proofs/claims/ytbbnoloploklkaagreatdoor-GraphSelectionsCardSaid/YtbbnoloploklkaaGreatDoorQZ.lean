/- Contract of the graph's Components. Graphs, plain: the nodes of each level, as the program does it. -/
import Derived.Test.YtbbnoloploklkaaGreatDoorQY
import Derived.Test.YtbbnoloploklkaaGreatDoorQR
namespace Go.Proofs.YtbbnoloploklkaaGreatDoor
set_option linter.unusedVariables false
set_option linter.unusedSimpArgs false
open Go Go.RowKit

abbrev tarG (N : Nat) (es : List (Int × Int)) : TS := tarjan (sucs N es)
def nodesG (N : Nat) (es : List (Int × Int)) : List (List Nat) := (crun (tarG N es).co (tarG N es).ct N).2
def condG (N : Nat) (es : List (Int × Int)) : List (List Nat) := couts (tarG N es).co (crun (tarG N es).co (tarG N es).ct N).1 (sucs N es) (nodesG N es).length N
def compsG (N : Nat) (es : List (Int × Int)) : List (List Nat) := (listF (condG N es)).map fun c => (nodesG N es).getD c []
def Numbered (N : Nat) (es : List (Int × Int)) : Prop := ∀ n, n < N → 0 ≤ gD (tarG N es).co n ∧ gD (tarG N es).co n < ((tarG N es).ct : Int)
theorem tarG_co (N : Nat) (es : List (Int × Int)) : (tarG N es).co.length = N ∧ (tarG N es).ct ≤ N := by
  have h := tarj_inv (S := sucs N es) sucs_lt (sucs N es).length (Nat.le_refl _)
  rw [sucs_length] at h
  have e : trun (sucs N es) N = tarG N es := by unfold tarG tarjan trun; rw [sucs_length]
  rw [e] at h
  exact ⟨h.lc, by have := h.ct; have := h.nz; omega⟩
theorem nodesG_len {N : Nat} {es : List (Int × Int)} (h : Numbered N es) : (nodesG N es).length ≤ N ∧ ∀ i, ((nodesG N es).getD i []).length ≤ N := by
  have := crun_inv (N := N) h N (Nat.le_refl _)
  exact ⟨this.few, this.row⟩
theorem condG_len (N : Nat) (es : List (Int × Int)) : (condG N es).length = (nodesG N es).length ∧ ∀ i, ((condG N es).getD i []).length ≤ N * N := couts_len (fun a => sucs_row a) N
theorem cedge_lt {co pl : List Int} {n M : Nat} {out : List (List Nat)} (h : ∀ a, ∀ k ∈ out.getD a [], k < M) (k : Nat) (hk : (gD pl (gD co k).toNat).toNat < M) : ∀ a, ∀ j ∈ (cedge co pl n out k).getD a [], j < M := by
  unfold cedge
  split
  · exact h
  · intro a j hj
    rw [getD_set_row] at hj
    split at hj
    · rcases List.mem_append.1 hj with hj | hj
      · exact h _ j hj
      · rw [List.mem_singleton] at hj; omega
    · exact h a j hj
theorem cedges_lt {co pl : List Int} {n M : Nat} : ∀ (l : List Nat) {out : List (List Nat)}, (∀ a, ∀ k ∈ out.getD a [], k < M) → (∀ k ∈ l, (gD pl (gD co k).toNat).toNat < M) → ∀ a, ∀ j ∈ (l.foldl (cedge co pl n) out).getD a [], j < M
  | [], _, h, _ => h
  | k :: l, out, h, hl => cedges_lt l (cedge_lt h k (hl k (by simp))) (fun j hj => hl j (by simp [hj]))
theorem condG_lt {N : Nat} {es : List (Int × Int)} (h : Numbered N es) : ∀ a, ∀ k ∈ (condG N es).getD a [], k < (condG N es).length := by
  have hi := crun_inv (N := N) h N (Nat.le_refl _)
  have key : ∀ m, m ≤ N → ∀ a, ∀ k ∈ (couts (tarG N es).co (crun (tarG N es).co (tarG N es).ct N).1 (sucs N es) (nodesG N es).length m).getD a [], k < (nodesG N es).length := by
    intro m
    induction m with
    | zero =>
      intro _ a k hk
      have : (List.replicate (nodesG N es).length ([] : List Nat)).getD a [] = [] := by
        rw [List.getD_eq_getElem?_getD, List.getElem?_replicate]
        split <;> rfl
      have hk2 : k ∈ (List.replicate (nodesG N es).length ([] : List Nat)).getD a [] := hk
      rw [this] at hk2
      cases hk2
    | succ m ih =>
      intro hm
      rw [couts_succ]
      refine cedges_lt _ (ih (by omega)) (fun k hk => ?_)
      have hkN := sucs_lt (N := N) (es := es) m k hk
      rw [sucs_length] at hkN
      have h1 := hi.hi (gD (tarG N es).co k).toNat
      have h2 := hi.old k hkN
      unfold nodesG
      omega
  intro a k hk
  rw [(condG_len N es).1]
  exact key N (Nat.le_refl _) a k hk

set_option maxRecDepth 100000 in
set_option maxHeartbeats 4000000 in
theorem Components_yes (nv ev : Value) (ns : List ByteArray) (es : List (Int × Int)) (w : World) (hE : EdgesOf w.heap.size ev es w) (hN : RowOf Value.string w.heap.size nv ns w) (hval : validG ns.length es = true) (hco : Numbered ns.length es) :
    Calls Tryz.prog 112 #[.agg #[nv, ev]] w fun e w' => ∃ v, e = .returned v ∧ RowsOf w'.heap.size v (compsG ns.length es) w' ∧ Below w.heap.size w w' := by
  obtain ⟨hNn, hNe⟩ := validG_n hval
  have hN0 := hN
  obtain ⟨na, nc, rfl, _⟩ := rowOf_open hN
  have hb1 : Below w.heap.size w (w.alloc (.cells #[.slice na ns.length nc, ev] 78)) := (Below.refl _ _).alloc (Nat.le_refl _) _
  have hx := GValid_any na ns.length nc _ es _ (by omega) ((hE.below hb1 (Nat.le_refl _)).mono hb1.size)
  rw [hval] at hx
  have hE0 := hE
  obtain ⟨ao, ec, rfl, _⟩ := hE
  have HX := Lib.hid hx
  have HB1 := Lib.hid hb1
  have HV := Lib.hid hval
  have HE := Lib.hid hE0
  have HN := Lib.hid hN0
  have HCO := Lib.hid hco
  obtain ⟨hcl, hct⟩ := tarG_co ns.length es
  clear hx hb1 hval hN hE0 hN0 hco
  obtain ⟨i1, hi1', hy0, hy1, hy2⟩ := info_parts info_rows
  go_enter Tryz.func112, Tryz.ntmps112
  go_wp2_with fail
  refine HX.out.mono ?_
  rintro e w1 ⟨rfl, hb⟩
  have hs1 := hb.size
  simp only [World.size_alloc] at hs1
  have hblk := (hb.block w.heap.size (by simp)).trans (World.alloc_heap_new w _)
  have hg0 : w1.cell? ⟨w.heap.size, 0, none⟩ = some (.slice na ns.length nc) := cell_of_row _ _ 0 _ _ _ hblk
  have hg1 : w1.cell? ⟨w.heap.size, 1, none⟩ = some (.slice ao es.length ec) := cell_of_row _ _ 1 _ _ _ hblk
  have HW1 := Lib.hid (HB1.out.trans (hb.mono (by simp)))
  have hcond := condensed_any (.slice na ns.length nc) (.slice ao es.length ec) ns es w1 ((HE.out.below HW1.out (Nat.le_refl _)).mono (by omega)) ((HN.out.below HW1.out (Nat.le_refl _)).mono (by omega)) HV.out HCO.out hcl hct
  have HCOND := Lib.hid hcond
  clear hb hblk hcond
  go_wp2_with fail
  refine HCOND.out.mono ?_
  rintro e w2 ⟨v1, v2, rfl, hr1, hr2, hb2⟩
  have hs2 := hb2.size
  have hr1' : RowsOf w2.heap.size v1 (nodesG ns.length es) w2 := hr1
  have hr2' : RowsOf w2.heap.size v2 (condG ns.length es) w2 := hr2
  have HW2 := Lib.hid (HW1.out.trans (hb2.mono (by omega)))
  have hnl := nodesG_len HCO.out
  have hlist := listed_any v2 (condG ns.length es) w2 hr2' (by rw [(condG_len _ _).1]; omega) (fun a => by have := (condG_len ns.length es).2 a; have := Nat.mul_le_mul hNn hNn; omega) (condG_lt HCO.out)
  have hln := listF_length (condG ns.length es)
  rw [(condG_len ns.length es).1] at hln
  have HLT := Lib.hid (listF_lt (condG ns.length es))
  have HCP : Hid (compsG ns.length es = (listF (condG ns.length es)).map fun c => (nodesG ns.length es).getD c []) := Lib.hid rfl
  rw [hln] at hlist
  generalize listF (condG ns.length es) = L at *
  have hcn := (condG_len ns.length es).1
  rw [hcn] at HLT
  obtain ⟨va1, vc1, hv1⟩ : ∃ a c, v1 = .slice a (nodesG ns.length es).length c := by
    rcases hr1' with ⟨h0, a, c, rfl⟩ | ⟨b, off, cap, rfl, _⟩
    · exact ⟨a, c, by rw [h0]; rfl⟩
    · exact ⟨_, cap, rfl⟩
  obtain ⟨va2, vl2, vc2, hv2⟩ : ∃ a l c, v2 = .slice a l c := by
    rcases hr2' with ⟨h0, a, c, rfl⟩ | ⟨b, off, cap, rfl, _⟩
    · exact ⟨_, _, _, rfl⟩
    · exact ⟨_, _, _, rfl⟩
  have HR1 := Lib.hid hr1'
  clear hr1 hr2 hr1' hr2' hb2 hg0 hg1 hcn
  generalize nodesG ns.length es = nd at *
  subst hv1
  subst hv2
  have HLIST := Lib.hid hlist
  clear hlist
  go_wp2_with fail
  refine HLIST.out.mono ?_
  rintro e w3 ⟨u, rfl, hou, hb3⟩
  obtain ⟨ua, uc, rfl⟩ := own_any hou
  have hs3 := hb3.size
  have HR3 : Hid (RowsOf w2.heap.size (.slice va1 nd.length vc1) nd w3) := Lib.hid (HR1.out.below hb3 (Nat.le_refl _))
  have HW3 := Lib.hid (HW2.out.trans (hb3.mono (by omega)))
  have HU := Lib.hid hou
  clear hou hb3 HLIST HCOND
  have hndl : nd.length ≤ 1024 := by omega
  go_wp2_with fail
  go_loopw [5, 19] (fun o q wr => ∃ (k : Nat) (hs : List Value), k ≤ nd.length ∧ q = .int .i64 k ∧ Hid (wr.ownsRow w3.heap.size 86 1 o k hs) ∧ Hid (∀ i r, hs[i]? = some r → RowOf natC w2.heap.size r ((compsG ns.length es).getD i []) wr) ∧ Hid (Below w3.heap.size w3 wr)) (fun _ q _ => nd.length - (intOf q).toNat)
  case atStart => exact ⟨0, [], by omega, rfl, Lib.hid (World.ownsRow_nil _ _ _ _), Lib.hid (fun i r h => by simp at h), Lib.hid (Below.refl _ _)⟩
  case round =>
    obtain ⟨k, hs, hk, rfl, HO, HH, HB⟩ := hrel
    have hsb := HB.out.size
    have hlh : hs.length = k := by have := HO.out.1; omega
    by_cases hlt : k < nd.length
    · have hk0 : (0 : Int) ≤ (k : Int) := by omega
      have hk1 : (k : Int) < (nd.length : Int) := by omega
      have hLl : k < L.length := by omega
      have hcU : ∀ j x, (L.map natC)[j]? = some x → ∃ g, (ua = some ⟨g, 0, none⟩ ∧ g < w3.heap.size ∧ w3.cell? ⟨g, j, none⟩ = some x) := fun j x hx => by
        obtain ⟨g, cap, hv, _, hg, _⟩ := own_shape HU.out (by omega)
        cases hv
        exact ⟨g, rfl, hg, own_cell HU.out j x hx⟩
      obtain ⟨g, rfl, hgl, hcg⟩ := hcU k (natC L[k]) (by rw [List.getElem?_map, List.getElem?_eq_getElem hLl]; rfl)
      have hcg := (HB.out.cell (p := ⟨g, k, none⟩) hgl).trans hcg
      have hcl2 : L[k] < nd.length := HLT.out _ (List.getElem_mem hLl)
      have HCK : Hid ((compsG ns.length es).getD k [] = nd.getD L[k] []) := Lib.hid (by rw [HCP.out, List.getD_eq_getElem?_getD, List.getElem?_map, List.getElem?_eq_getElem hLl]; rfl)
      generalize L[k] = c at *
      have hc0 : (0 : Int) ≤ (c : Int) := by omega
      have hc1 : (c : Int) < (nd.length : Int) := by omega
      obtain ⟨b, off, cap, hva, hbw, hrow⟩ : ∃ b off cap, (.slice va1 nd.length vc1 : Value) = .slice (some ⟨b, off, none⟩) nd.length cap ∧ b < w2.heap.size ∧ ∀ i l, nd[i]? = some l → ∃ r, w3.cell? ⟨b, off + i, none⟩ = some r ∧ RowOf natC w2.heap.size r l w3 := by
        rcases HR3.out with ⟨h, _⟩ | h
        · rw [h] at hlt; simp at hlt
        · exact h
      cases hva
      have hgS : nd.getD c [] = nd[c] := by rw [List.getD_eq_getElem?_getD, List.getElem?_eq_getElem hcl2]; rfl
      obtain ⟨r, hcr, hrr⟩ := hrow c (nd.getD c []) (by rw [hgS]; simp)
      have hcr := (HB.out.cell (p := ⟨b, off + c, none⟩) (by show b < _; omega)).trans hcr
      obtain ⟨oa, oc, rfl⟩ := own_any HO.out
      have hone : r.oneCell' = true := by
        obtain ⟨ra, rc, rfl, _⟩ := rowOf_open hrr
        rfl
      have HRR := Lib.hid hrr
      clear hrow hrr hgS hcU
      obtain ⟨ra, rl, rc, rfl⟩ : ∃ a l c, r = .slice a l c := by
        obtain ⟨ra, rc, h, _⟩ := rowOf_open HRR.out
        exact ⟨_, _, _, h⟩
      go_wp2_with (at_builtin; refine wpList_append_own _ rfl _ _ 150 rfl w3.heap.size 86 i1 (.slice none 0 0) 1 24 Tryz.underlying150 hi1' hy0 hy1 hy2 rfl (by decide) _ _ _ (by rfl) (HO.out.alloc _) ⟨wr.heap.size, 0, none⟩ 1 1 [.slice ra rl rc] (by rfl) (by rfl) (World.news_of_block (cs := #[.slice ra rl rc]) (t := 86) (fr := (0, 0)) (heap_alloc_new wr _)) (by simp [Value.oneCell']) (by unfold maxLen; omega) (by omega) (by simp; omega) ?_; intro v' w5 hown' hgrow _)
      go_roundw
      case rel =>
        have hb5 : Below w3.heap.size wr w5 := ((Below.refl _ _).alloc hsb (.cells #[.slice ra rl rc] 86)).grown hgrow (by rw [World.size_alloc]; omega) (fun j hj => (HO.out.lt j hj).1)
        refine ⟨k + 1, hs ++ [.slice ra rl rc], by omega, by go_num, Lib.hid hown', Lib.hid ?_, Lib.hid (HB.out.trans hb5)⟩
        intro i r hr
        rw [List.getElem?_append] at hr
        split at hr
        · exact (HH.out i r hr).below (hb5.mono (by omega)) (Nat.le_refl _)
        · have h1 := (List.getElem?_eq_some_iff.1 hr).1
          simp at h1
          have hik : i = k := by omega
          subst hik
          rw [show i - hs.length = 0 by omega] at hr
          simp at hr
          subst hr
          rw [HCK.out]
          exact (HRR.out.below (HB.out.mono (by omega)) (Nat.le_refl _)).below (hb5.mono (by omega)) (Nat.le_refl _)
      case measure => simp [intOf]; omega
    · have hkk : k = nd.length := by omega
      subst hkk
      go_wp2_with fail
      go_ret
      have hcpl : (compsG ns.length es).length = nd.length := by rw [HCP.out, List.length_map]; exact hln
      refine ⟨_, rfl, ?_, HW3.out.trans (HB.out.mono (by omega))⟩
      rcases HO.out.2 with ⟨rfl, h0⟩ | ⟨g, cap, cur, rfl, hbg, hg, hcc, _⟩
      · exact .inl ⟨List.eq_nil_of_length_eq_zero (by omega), _, _, rfl⟩
      · refine .inr ⟨g, 0, cap, by rw [hcpl]; rfl, (Array.getElem?_eq_some_iff.1 hg).1, fun i l hl => ?_⟩
        have hil : i < hs.length := by have := (List.getElem?_eq_some_iff.1 hl).1; omega
        refine ⟨hs[i], by rw [Nat.zero_add]; exact own_cell HO.out i _ (by simp [hil]), ?_⟩
        have := HH.out i hs[i] (by simp [hil])
        rw [List.getD_eq_getElem?_getD, hl] at this
        exact this.mono (by omega)
end Go.Proofs.YtbbnoloploklkaaGreatDoor

namespace Go.Proofs.YtbbnoloploklkaaGreatDoor
set_option linter.unusedVariables false
set_option linter.unusedSimpArgs false
open Go.RowKit

def lvstep (c : Nat) (lv : List Int) (d : Nat) : List Int := lv.set c (max (gD lv c) (gD lv d + 1))
def lvpad (out : List (List Nat)) (m : Nat) : List (List Nat) := out ++ List.replicate (m + 1 - out.length) []
def lvput (nd out : List (List Nat)) (m c : Nat) : List (List Nat) := (lvpad out m).set m ((lvpad out m).getD m [] ++ nd.getD c [])
def lvadd (S nd : List (List Nat)) (st : List Int × List (List Nat)) (c : Nat) : List Int × List (List Nat) :=
  ((S.getD c []).foldl (lvstep c) st.1, lvput nd st.2 (gD ((S.getD c []).foldl (lvstep c) st.1) c).toNat c)
def lvrun (S nd : List (List Nat)) (L : List Nat) : List Int × List (List Nat) := L.foldl (lvadd S nd) (List.replicate nd.length 0, [])
def sortN (r : List Nat) : List Nat := ((r.map fun n : Nat => (n : Int)).mergeSort fun x y => decide (x ≤ y)).map Int.toNat
def levelsG (N : Nat) (es : List (Int × Int)) : List (List Nat) := (lvrun (condG N es) (nodesG N es) (listF (condG N es))).2.map sortN
theorem sortN_cells (r : List Nat) : (sortN r).map natC = ((r.map fun n : Nat => (n : Int)).mergeSort fun x y => decide (x ≤ y)).map intC := by
  unfold sortN
  rw [List.map_map]
  apply List.map_congr_left
  intro x hx
  have h1 := (List.mergeSort_perm (r.map fun n : Nat => (n : Int)) fun x y => decide (x ≤ y)).subset hx
  obtain ⟨y, _, rfl⟩ := List.mem_map.1 h1
  rfl
theorem lvsteps_ok {c M B : Nat} (hc : c < M) : ∀ (l : List Nat) (lv : List Int) (m : Nat), lv.length = M → (∀ d ∈ l, d < M) → (∀ a, a < M → 0 ≤ gD lv a ∧ gD lv a ≤ (m : Int)) → l.length ≤ B →
    (l.foldl (lvstep c) lv).length = M ∧ ∀ a, a < M → 0 ≤ gD (l.foldl (lvstep c) lv) a ∧ gD (l.foldl (lvstep c) lv) a ≤ ((m + l.length : Nat) : Int)
  | [], lv, m, h1, _, h3, _ => ⟨h1, h3⟩
  | d :: l, lv, m, h1, h2, h3, hB => by
    have hd := h3 d (h2 d (by simp))
    have hcc := h3 c hc
    have := lvsteps_ok (B := B) hc l (lvstep c lv d) (m + 1) (by unfold lvstep; rw [List.length_set]; exact h1) (fun j hj => h2 j (by simp [hj])) (fun a ha => by
      unfold lvstep
      have := h3 a ha
      rw [gD_set']
      split <;> omega) (by simp at hB; omega)
    rw [List.foldl_cons, List.length_cons]
    refine ⟨this.1, fun a ha => ?_⟩
    have := this.2 a ha
    omega
theorem lvpad_len (out : List (List Nat)) (m : Nat) : (lvpad out m).length = max out.length (m + 1) := by
  unfold lvpad
  rw [List.length_append, List.length_replicate]
  omega
theorem lvpad_row (out : List (List Nat)) (m i : Nat) : (lvpad out m).getD i [] = out.getD i [] := by
  unfold lvpad
  rw [List.getD_eq_getElem?_getD, List.getD_eq_getElem?_getD, List.getElem?_append]
  split
  · rfl
  · rw [List.getElem?_replicate, List.getElem?_eq_none (by omega)]
    split <;> rfl
structure LInv (M R N k : Nat) (st : List Int × List (List Nat)) : Prop where
  len : st.1.length = M
  lv : ∀ a, a < M → 0 ≤ gD st.1 a ∧ gD st.1 a ≤ ((k * R : Nat) : Int)
  out : st.2.length ≤ k * R + 1
  row : ∀ i, (st.2.getD i []).length ≤ k * N
theorem LInv.add {M R N k : Nat} {st : List Int × List (List Nat)} {S nd : List (List Nat)} (h : LInv M R N k st) (c : Nat) (hc : c < M) (hS : ∀ a, ∀ j ∈ S.getD a [], j < M) (hR : ∀ a, (S.getD a []).length ≤ R) (hN : ∀ i, (nd.getD i []).length ≤ N) : LInv M R N (k + 1) (lvadd S nd st c) := by
  obtain ⟨h1, h2⟩ := lvsteps_ok (B := R) hc (S.getD c []) st.1 (k * R) h.len (hS c) h.lv (hR c)
  have hr := hR c
  have e1 : (k + 1) * R = k * R + R := Nat.succ_mul k R
  have e2 : (k + 1) * N = k * N + N := Nat.succ_mul k N
  unfold lvadd
  refine ⟨h1, fun a ha => ?_, ?_, fun i => ?_⟩
  · have t := h2 a ha
    refine ⟨t.1, ?_⟩
    rw [e1]
    exact Int.le_trans t.2 (by omega)
  · show (lvput _ _ _ _).length ≤ _
    unfold lvput
    rw [List.length_set, lvpad_len, e1]
    have := h2 c hc
    have := h.out
    omega
  · show ((lvput _ _ _ _).getD i []).length ≤ _
    unfold lvput
    rw [getD_set_row]
    split
    · rw [List.length_append, lvpad_row]
      have := h.row (gD ((S.getD c []).foldl (lvstep c) st.1) c).toNat
      have := hN c
      omega
    · rw [lvpad_row]
      have := h.row i
      omega
theorem lvrun_inv {M R N : Nat} {S nd : List (List Nat)} (hnd : nd.length = M) (hS : ∀ a, ∀ j ∈ S.getD a [], j < M) (hR : ∀ a, (S.getD a []).length ≤ R) (hN : ∀ i, (nd.getD i []).length ≤ N) (L : List Nat) (hL : ∀ c ∈ L, c < M) :
    ∀ k, k ≤ L.length → LInv M R N k (lvrun S nd (L.take k)) := by
  intro k
  induction k with
  | zero =>
    intro _
    have hg : ∀ a, a < M → gD (List.replicate nd.length (0 : Int)) a = 0 := fun a ha => by
      unfold gD
      rw [List.getD_eq_getElem?_getD, List.getElem?_replicate, if_pos (by omega)]
      rfl
    refine ⟨by simp [lvrun, hnd], fun a ha => ?_, by simp [lvrun], fun i => by simp [lvrun]⟩
    show 0 ≤ gD (List.replicate nd.length (0 : Int)) a ∧ gD (List.replicate nd.length (0 : Int)) a ≤ _
    rw [hg a ha]
    omega
  | succ k ih =>
    intro hk
    have e : lvrun S nd (L.take (k + 1)) = lvadd S nd (lvrun S nd (L.take k)) L[k] := by
      unfold lvrun
      rw [List.take_succ_eq_append_getElem (by omega), List.foldl_append]
      rfl
    rw [e]
    exact (ih (by omega)).add _ (hL _ (List.getElem_mem _)) hS hR hN
theorem crun_pos {co : List Int} {ct N : Nat} (hco : ∀ n, n < N → 0 ≤ gD co n ∧ gD co n < (ct : Int)) : ∀ k, k ≤ N → ∀ i, i < (crun co ct k).2.length → 0 < ((crun co ct k).2.getD i []).length
  | 0, _, i, hi => by simp [crun] at hi
  | k + 1, hk, i, hi => by
    have h := crun_inv hco k (by omega)
    have ih := crun_pos hco k (by omega)
    have hp := h.put (gD co k).toNat (by have := hco k (by omega); omega)
    rw [crun_succ] at hi ⊢
    unfold cstepN crow at hi ⊢
    simp only [List.length_set] at hi
    show 0 < ((List.set _ _ _).getD i []).length
    rw [getD_set_row]
    split
    · rw [List.length_append, List.length_singleton]; omega
    · rename_i hne
      have hni : i ≠ (gD (cput (crun co ct k) (gD co k).toNat).1 (gD co k).toNat).toNat := fun e => hne ⟨e, by omega⟩
      have hcl : (gD co k).toNat < ct := by have := hco k (by omega); omega
      generalize (gD co k).toNat = c at *
      unfold cput at hi hni ⊢
      split
      · rename_i hlt
        rw [if_pos hlt] at hi hni
        simp only at hi hni ⊢
        rw [gD_set', if_pos ⟨rfl, by have h9 := h.len; omega⟩] at hni
        have hi2 : i < (crun co ct k).2.length := by simp at hi; omega
        have := ih i hi2
        rw [List.getD_eq_getElem?_getD, List.getElem?_append_left hi2]
        rwa [List.getD_eq_getElem?_getD] at this
      · rename_i hlt
        rw [if_neg hlt] at hi
        exact ih i hi
end Go.Proofs.YtbbnoloploklkaaGreatDoor
