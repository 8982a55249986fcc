/- Contracts of package waves: between. Contracts of package waves: Between. Contracts of package waves: Between. Contract of the graph's Order. -/
import Derived.Test.YtnjiibiafhnmgaaGreatDoorZN
import Derived.Test.YtnjiibiafhnmgaaGreatDoorYO
import Derived.Test.YtnjiibiafhnmgaaGreatDoorZM
namespace Go.Proofs.YtnjiibiafhnmgaaGreatDoor
open Go Go.RowKit Go.Maps

def MovF (M : List ByteArray) (f : Lit → Option Value) : Prop := ∀ p : ByteArray, f (.string p.data.toList) = if p ∈ M then some (.bool true) else none
theorem MovF.start : MovF [] (fun _ => none) := fun p => by simp
theorem MovF.put {M : List ByteArray} {f : Lit → Option Value} (h : MovF M f) (a : ByteArray) : MovF (M ++ [a]) (putF f (.string a.data.toList) (.bool true)) := fun p => by
  unfold putF
  by_cases hp : p = a
  · subst hp
    rw [if_pos rfl, if_pos (by simp)]
  · rw [if_neg (fun e => hp (by injection e with e; exact ByteArray.ext (Array.toList_inj.1 e))), h p]
    by_cases hm : p ∈ M
    · rw [if_pos hm, if_pos (by simp [hm])]
    · rw [if_neg hm, if_neg (by simp [hm, hp])]
theorem MovF.look {M : List ByteArray} {f : Lit → Option Value} (h : MovF M f) (p : ByteArray) : (f (.string p.data.toList)).getD (.bool false) = .bool (decide (p ∈ M)) := by
  rw [h p]
  by_cases hm : p ∈ M
  · rw [if_pos hm, decide_eq_true hm]; rfl
  · rw [if_neg hm, decide_eq_false hm]; rfl
def oldK (f : List SelL) (M : List ByteArray) (k : Nat) : List SelL := (f.take k).filter fun y => !decide (y.1 ∈ M)
def newK (t : List SelL) (M : List ByteArray) (k : Nat) : List SelL := (t.take k).filter fun y => decide (y.1 ∈ M)
theorem oldK_succ {f : List SelL} {M : List ByteArray} {k : Nat} (hk : k < f.length) : oldK f M (k + 1) = oldK f M k ++ (if decide (f[k].1 ∈ M) = true then [] else [f[k]]) := by
  unfold oldK
  rw [List.take_succ_eq_append_getElem hk, List.filter_append]
  congr 1
  cases h : decide (f[k].1 ∈ M) <;> simp [h]
theorem newK_succ {t : List SelL} {M : List ByteArray} {k : Nat} (hk : k < t.length) : newK t M (k + 1) = newK t M k ++ (if decide (t[k].1 ∈ M) = true then [t[k]] else []) := by
  unfold newK
  rw [List.take_succ_eq_append_getElem hk, List.filter_append]
  congr 1
  cases h : decide (t[k].1 ∈ M) <;> simp [h]
theorem oldK_len (f : List SelL) (M : List ByteArray) (k : Nat) : (oldK f M k).length ≤ k := Nat.le_trans (List.length_filter_le _ _) (by rw [List.length_take]; omega)
theorem newK_len (t : List SelL) (M : List ByteArray) (k : Nat) : (newK t M k).length ≤ k := Nat.le_trans (List.length_filter_le _ _) (by rw [List.length_take]; omega)
set_option maxRecDepth 100000 in
set_option maxHeartbeats 16000000 in
theorem between_any (X : List RelL) (f t : List SelL) (L : List ByteArray) (hfl : f.length ≤ 1000000) (htl : t.length ≤ 1000000) (hfp : ∀ y ∈ f, y.1.size ≤ maxLen) (htp : ∀ y ∈ t, y.1.size ≤ maxLen) (g : Nat) (w : World) (hU : UpV X f t L g w)
    (mv : Value) (M : List ByteArray) (hMl : M.length ≤ 1000000) (hMp : ∀ p ∈ M, p.size ≤ maxLen) (hM : RowOf Value.string w.heap.size mv M w) :
    Calls Tryz.prog 58 #[.pointer (some ⟨g, 0, none⟩), mv] w fun e w' => ∃ v l, e = .returned v ∧ l.Perm (oldK f M f.length ++ newK t M t.length) ∧ l.Pairwise (fun a b => ltB b.1 a.1 = false) ∧ SelsOf w'.heap.size v l w' ∧ Below w.heap.size w w' := by
  obtain ⟨m1, m2, fv, tv, pv, B, hbx, _, _, _, hF, hT⟩ := hU
  obtain ⟨fa, fc, rfl⟩ : ∃ a c, fv = .slice a f.length c := by obtain ⟨a, c, e, _⟩ := hF; exact ⟨a, c, e⟩
  obtain ⟨ta, tc, rfl⟩ : ∃ a c, tv = .slice a t.length c := by obtain ⟨a, c, e, _⟩ := hT; exact ⟨a, c, e⟩
  have hgl : g < w.heap.size := (Array.getElem?_eq_some_iff.1 hbx).1
  have HUF : Hid (∀ W, Below w.heap.size w W → W.cell? ⟨g, 2, none⟩ = some (.slice fa f.length fc)) := Lib.hid (fun W hw => (hw.cell (p := ⟨g, 2, none⟩) hgl).trans (cell_of_row _ _ 2 _ _ _ hbx))
  have HUT : Hid (∀ W, Below w.heap.size w W → W.cell? ⟨g, 3, none⟩ = some (.slice ta t.length tc)) := Lib.hid (fun W hw => (hw.cell (p := ⟨g, 3, none⟩) hgl).trans (cell_of_row _ _ 3 _ _ _ hbx))
  obtain ⟨ma, mc, rfl, hma⟩ := rowOf_open hM
  have HMA : Hid (∀ W, Below w.heap.size w W → ∀ i x, M[i]? = some x → ∃ b off, ma = some ⟨b, off, none⟩ ∧ W.cell? ⟨b, off + i, none⟩ = some (.string x)) := Lib.hid (fun W hw i x hx => by
    obtain ⟨b, off, h1, h2, h3⟩ := hma i x hx
    exact ⟨b, off, h1, (hw.cell (p := ⟨b, off + i, none⟩) h2).trans h3⟩)
  have HSF := Lib.hid hF
  have HST := Lib.hid hT
  have HFP := Lib.hid hfp
  have HTP := Lib.hid htp
  have HMP := Lib.hid hMp
  have HZB := Lib.hid (show ∀ W, (zeroValue 4).run Tryz.prog W = .ok (.bool false) W from Tryz.zeroValue4)
  have hmm := @run_makeMap Tryz.prog
  have HM0 : Hid (MapF Tryz.prog 9 (w.alloc (.map #[] 0)) w.heap.size 0 (fun _ => none)) := Lib.hid (MapF.made Tryz.prog 9 w)
  have HB0 := Lib.hid (belQ w (.map #[] 0))
  clear hF hT hbx hM hma hfp htp hMp
  go_enter Tryz.func58, Tryz.ntmps58
  go_upto_region 2 with fail
  generalize w.alloc (.map #[] 0) = W0 at *
  clear hmm
  go_wp2_with fail
  go_loopw [16] (fun p wr => Hid (∃ k : Nat, k ≤ M.length ∧ p = .int .i64 (k : Int) ∧ (∃ fm, MapF Tryz.prog 9 wr w.heap.size k fm ∧ MovF (M.take k) fm) ∧ Below w.heap.size w wr)) (fun p _ => M.length - (intOf p).toNat)
  case atStart => exact Lib.hid ⟨0, Nat.zero_le _, rfl, ⟨_, HM0.out, MovF.start⟩, HB0.out⟩
  case round =>
    obtain ⟨k, hk, rfl, ⟨fm, hmf, hpf⟩, hb⟩ := hrel.out
    have HMF := Lib.hid hmf
    have HPF := Lib.hid hpf
    have HB := Lib.hid hb
    clear hrel hmf hpf hb HM0 HB0
    by_cases hlt : k < M.length
    case pos =>
      have hk0 : (0 : Int) ≤ (k : Int) := Int.natCast_nonneg k
      have hkz : (k : Int) < (M.length : Int) := Int.ofNat_lt.2 hlt
      obtain ⟨b, off, rfl, d0⟩ := HMA.out wr HB.out k _ (List.getElem?_eq_getElem hlt)
      have HPUT : Hid (MovF (M.take (k + 1)) (putF fm (.string M[k].data.toList) (.bool true))) := Lib.hid (by rw [List.take_succ_eq_append_getElem hlt]; exact HPF.out.put _)
      have hps := HMP.out _ (List.getElem_mem hlt)
      generalize M[k] = a at *
      go_wp2_with (refine wpList_put_F rfl _ _ _ _ rfl 9 4 lawStr Tryz.underlying134 w.heap.size k fm (by rfl) HMF.out (by unfold maxLen; omega) _ _ (.string a.data.toList) rfl rfl (keyStr hps) ?_; intro W' h11 g11; have HM11 := Lib.hid h11; have HB11 := Lib.hid (HB.out.grown g11 HB.out.size (fun b hb => by cases hb; exact Nat.le_refl _)); clear h11 g11)
      all_goals
        refine ⟨Lib.hid ⟨k + 1, hlt, by go_num, ⟨_, HM11.out, HPUT.out⟩, HB11.out⟩, ?_⟩
        simp [intOf]; omega
    case neg =>
      have hkk : k = M.length := Nat.le_antisymm hk (Nat.le_of_not_lt hlt)
      clear hk
      subst hkk
      have HMO : Hid (MovF M fm) := Lib.hid (by have := HPF.out; rwa [List.take_length] at this)
      obtain ⟨wa, hwa⟩ : ∃ wa, wr = wa := ⟨_, rfl⟩
      replace hwa := hwa.symm
      subst hwa
      have HWA := HB
      have HMW := HMF
      clear HB HMF HPF hlt
      have hml : w.heap.size < wa.heap.size := HMW.out.lt
      have u2 := HUF.out wa HWA.out
      obtain ⟨i0, hi0, hz0, hz1, hz2⟩ := info_parts info_sel
      go_wp2_with fail
      go_loopw [8, 28] (fun ov p wr => Hid (∃ (k : Nat), k ≤ f.length ∧ p = .int .i64 (k : Int) ∧ wr.ownsRow wa.heap.size 53 4 ov (oldK f M k).length (selCells (oldK f M k)) ∧ Below wa.heap.size wa wr)) (fun _ p _ => f.length - (intOf p).toNat)
      case atStart => exact Lib.hid ⟨0, Nat.zero_le _, rfl, World.ownsRow_nil _ _ _ _, Below.refl _ _⟩
      case round =>
        clear u2
        obtain ⟨k, hk, rfl, ho, hb⟩ := hrel.out
        have HO := Lib.hid ho
        have HB := Lib.hid hb
        obtain ⟨oa, oc, rfl⟩ := own_any ho
        clear hrel ho hb
        have hs8 := HB.out.size
        have HBW := Lib.hid (HWA.out.trans (HB.out.mono HWA.out.size))
        by_cases hlt : k < f.length
        case pos =>
          have hk0 : (0 : Int) ≤ (k : Int) := Int.natCast_nonneg k
          have hkz : (k : Int) < (f.length : Int) := Int.ofNat_lt.2 hlt
          have HSU := Lib.hid (oldK_succ (M := M) hlt)
          have hol := oldK_len f M k
          obtain ⟨b, off, rfl, hbl, d0, d1, d2, d3⟩ := HSF.out.at hlt
          have hyk : f.getD k default = f[k] := by rw [List.getD_eq_getElem?_getD, List.getElem?_eq_getElem hlt]; rfl
          rw [hyk] at d0 d1 d2 d3
          have d0 := (HBW.out.cell (p := ⟨b, off + k * 4, none⟩) hbl).trans d0
          have d1 := (HBW.out.cell (p := ⟨b, off + k * 4 + 1, none⟩) hbl).trans d1
          have d2 := (HBW.out.cell (p := ⟨b, off + k * 4 + 2, none⟩) hbl).trans d2
          have d3 := (HBW.out.cell (p := ⟨b, off + k * 4 + 3, none⟩) hbl).trans d3
          have hps := HFP.out _ (List.getElem_mem hlt)
          clear hyk
          generalize f[k] = y at *
          have HKY := Lib.hid (keyStr (p := y.1) hps)
          have HLK := Lib.hid (HMO.out.look y.1)
          generalize decide (y.1 ∈ M) = yb at *
          have hbq := belQ wr (.cells #[.string y.1, intC y.2.1, intC y.2.2.1, intC y.2.2.2] 53)
          have HN1 := Lib.hid (World.alloc_heap_new wr (.cells #[.string y.1, intC y.2.1, intC y.2.2.1, intC y.2.2.2] 53))
          have HB1 := Lib.hid (HB.out.trans (hbq.mono hs8))
          have HO1 := Lib.hid (own_on HO.out hbq)
          have HM1 := Lib.hid (HMW.out.below (HB.out.trans (hbq.mono hs8)))
          clear hbq
          go_upto_region 11 with fail
          generalize wr.alloc (.cells #[.string y.1, intC y.2.1, intC y.2.2.1, intC y.2.2.2] 53) = W1 at *
          obtain ⟨gy, hgy⟩ : ∃ gy, wr.heap.size = gy := ⟨_, rfl⟩
          rw [hgy] at HN1
          simp only [hgy]
          clear hgy d0 d1 d2 d3
          have y0 : W1.cell? ⟨gy, 0, none⟩ = some (.string y.1) := cell_of_row _ _ 0 _ _ _ HN1.out
          have y1 : W1.cell? ⟨gy, 1, none⟩ = some (intC y.2.1) := cell_of_row _ _ 1 _ _ _ HN1.out
          have y2 : W1.cell? ⟨gy, 2, none⟩ = some (intC y.2.2.1) := cell_of_row _ _ 2 _ _ _ HN1.out
          have y3 : W1.cell? ⟨gy, 3, none⟩ = some (intC y.2.2.2) := cell_of_row _ _ 3 _ _ _ HN1.out
          have hs9 := HB1.out.size
          cases yb with
          | true =>
            simp only [if_true, List.append_nil] at HSU
            go_wp2_with (at_lookup; refine wpList_look_F rfl _ _ 134 rfl 9 4 lawStr Tryz.underlying134 (HZB.out _) w.heap.size M.length fm (by rfl) HM1.out _ (.string y.1.data.toList) rfl HKY.out ?_; rw [HLK.out])
            all_goals
              refine ⟨Lib.hid ⟨k + 1, hlt, by go_num, by rw [HSU.out]; exact HO1.out, HB1.out⟩, ?_⟩
              simp [intOf]; omega
          | false =>
            generalize oldK f M k = K at *
            go_upto_region 12 with (at_lookup; refine wpList_look_F rfl _ _ 134 rfl 9 4 lawStr Tryz.underlying134 (HZB.out _) w.heap.size M.length fm (by rfl) HM1.out _ (.string y.1.data.toList) rfl HKY.out ?_; rw [HLK.out])
            have HN2 := Lib.hid (World.alloc_heap_new W1 (.cells #[.string y.1, intC y.2.1, intC y.2.2.1, intC y.2.2.2] 53))
            have HO2 := Lib.hid (own_on HO1.out (belQ W1 (.cells #[.string y.1, intC y.2.1, intC y.2.2.1, intC y.2.2.2] 53)))
            have HB2 := Lib.hid (HB1.out.trans ((belQ W1 (.cells #[.string y.1, intC y.2.1, intC y.2.2.1, intC y.2.2.2] 53)).mono hs9))
            have hs10 : wa.heap.size ≤ (W1.alloc (.cells #[.string y.1, intC y.2.1, intC y.2.2.1, intC y.2.2.2] 53)).heap.size := HB2.out.size
            go_wp2_with (at_builtin; refine wpList_append_own _ rfl _ _ 26 rfl wa.heap.size 53 i0 _ 4 40 Tryz.underlying26 hi0 hz0 hz1 hz2 rfl (by decide) (.slice oa K.length oc) K.length _ (by rfl) HO2.out ⟨W1.heap.size, 0, none⟩ 1 1 [.string y.1, intC y.2.1, intC y.2.2.1, intC y.2.2.2] (by rfl) (by rfl) (World.news_of_block HN2.out) (by simp [Value.oneCell']) (by unfold maxLen; omega) (by omega) hs10 ?_; intro v' wB hown' hgrow _; have HOW := Lib.hid hown'; have HGR := Lib.hid hgrow; clear hown' hgrow; obtain ⟨g3, gc3, rfl⟩ := ownsRow_succ HOW.out)
            all_goals
              have HBE := Lib.hid (HB2.out.grown HGR.out hs10 (fun b hb => (own_lo HO2.out b hb).1))
              have HOE : Hid (wB.ownsRow wa.heap.size 53 4 (.slice (some ⟨g3, 0, none⟩) (K.length + 1) gc3) (oldK f M (k + 1)).length (selCells (oldK f M (k + 1)))) := Lib.hid (by
                have e : oldK f M (k + 1) = K ++ [y] := by rw [HSU.out]; rfl
                rw [e, List.length_append, selCells_append]; exact HOW.out)
              refine ⟨Lib.hid ⟨k + 1, hlt, by go_num, HOE.out, HBE.out⟩, ?_⟩
              simp [intOf]; omega
        case neg =>
          have hkk : k = f.length := Nat.le_antisymm hk (Nat.le_of_not_lt hlt)
          clear hk
          subst hkk
          obtain ⟨K0, hK0⟩ : ∃ K0, oldK f M f.length = K0 := ⟨_, rfl⟩
          have hk0l := oldK_len f M f.length
          rw [hK0] at HO hk0l
          have HKE := Lib.hid hK0
          simp only [hK0]
          clear hK0
          have u3 := HUT.out wr HBW.out
          have HOS := HO
          have HBS := HB
          clear HO HB
          go_wp2_with fail
          go_loopw [8, 47] (fun ov p wr => Hid (∃ (k : Nat), k ≤ t.length ∧ p = .int .i64 (k : Int) ∧ wr.ownsRow wa.heap.size 53 4 ov (K0 ++ newK t M k).length (selCells (K0 ++ newK t M k)) ∧ Below wa.heap.size wa wr)) (fun _ p _ => t.length - (intOf p).toNat)
          case atStart => exact Lib.hid ⟨0, Nat.zero_le _, rfl, by simpa [newK] using HOS.out, HBS.out⟩
          case round =>
            clear u3 hs8 HOS HBS HBW hlt
            obtain ⟨k, hk, rfl, ho, hb⟩ := hrel.out
            have HO := Lib.hid ho
            have HB := Lib.hid hb
            obtain ⟨oa, oc, rfl⟩ := own_any ho
            clear hrel ho hb
            have hs8 := HB.out.size
            have HBW := Lib.hid (HWA.out.trans (HB.out.mono HWA.out.size))
            by_cases hlt : k < t.length
            case pos =>
              have hk0 : (0 : Int) ≤ (k : Int) := Int.natCast_nonneg k
              have hkz : (k : Int) < (t.length : Int) := Int.ofNat_lt.2 hlt
              have HSU : Hid (K0 ++ newK t M (k + 1) = K0 ++ newK t M k ++ (if decide (t[k].1 ∈ M) = true then [t[k]] else [])) := Lib.hid (by rw [newK_succ hlt, List.append_assoc])
              have hol : (K0 ++ newK t M k).length ≤ 2000000 := by rw [List.length_append]; have := newK_len t M k; omega
              generalize K0 ++ newK t M k = K at *
              obtain ⟨b, off, rfl, hbl, d0, d1, d2, d3⟩ := HST.out.at hlt
              have hyk : t.getD k default = t[k] := by rw [List.getD_eq_getElem?_getD, List.getElem?_eq_getElem hlt]; rfl
              rw [hyk] at d0 d1 d2 d3
              have d0 := (HBW.out.cell (p := ⟨b, off + k * 4, none⟩) hbl).trans d0
              have d1 := (HBW.out.cell (p := ⟨b, off + k * 4 + 1, none⟩) hbl).trans d1
              have d2 := (HBW.out.cell (p := ⟨b, off + k * 4 + 2, none⟩) hbl).trans d2
              have d3 := (HBW.out.cell (p := ⟨b, off + k * 4 + 3, none⟩) hbl).trans d3
              have hps := HTP.out _ (List.getElem_mem hlt)
              clear hyk
              generalize t[k] = y at *
              have HKY := Lib.hid (keyStr (p := y.1) hps)
              have HLK := Lib.hid (HMO.out.look y.1)
              generalize decide (y.1 ∈ M) = yb at *
              have hbq := belQ wr (.cells #[.string y.1, intC y.2.1, intC y.2.2.1, intC y.2.2.2] 53)
              have HN1 := Lib.hid (World.alloc_heap_new wr (.cells #[.string y.1, intC y.2.1, intC y.2.2.1, intC y.2.2.2] 53))
              have HB1 := Lib.hid (HB.out.trans (hbq.mono hs8))
              have HO1 := Lib.hid (own_on HO.out hbq)
              have HM1 := Lib.hid (HMW.out.below (HB.out.trans (hbq.mono hs8)))
              clear hbq
              go_upto_region 17 with fail
              generalize wr.alloc (.cells #[.string y.1, intC y.2.1, intC y.2.2.1, intC y.2.2.2] 53) = W1 at *
              obtain ⟨gy, hgy⟩ : ∃ gy, wr.heap.size = gy := ⟨_, rfl⟩
              rw [hgy] at HN1
              simp only [hgy]
              clear hgy d0 d1 d2 d3
              have y0 : W1.cell? ⟨gy, 0, none⟩ = some (.string y.1) := cell_of_row _ _ 0 _ _ _ HN1.out
              have y1 : W1.cell? ⟨gy, 1, none⟩ = some (intC y.2.1) := cell_of_row _ _ 1 _ _ _ HN1.out
              have y2 : W1.cell? ⟨gy, 2, none⟩ = some (intC y.2.2.1) := cell_of_row _ _ 2 _ _ _ HN1.out
              have y3 : W1.cell? ⟨gy, 3, none⟩ = some (intC y.2.2.2) := cell_of_row _ _ 3 _ _ _ HN1.out
              have hs9 := HB1.out.size
              cases yb with
              | false =>
                simp only [Bool.false_eq_true, if_false, List.append_nil] at HSU
                go_wp2_with (at_lookup; refine wpList_look_F rfl _ _ 134 rfl 9 4 lawStr Tryz.underlying134 (HZB.out _) w.heap.size M.length fm (by rfl) HM1.out _ (.string y.1.data.toList) rfl HKY.out ?_; rw [HLK.out])
                all_goals
                  refine ⟨Lib.hid ⟨k + 1, hlt, by go_num, by rw [HSU.out]; exact HO1.out, HB1.out⟩, ?_⟩
                  simp [intOf]; omega
              | true =>
                go_upto_region 18 with (at_lookup; refine wpList_look_F rfl _ _ 134 rfl 9 4 lawStr Tryz.underlying134 (HZB.out _) w.heap.size M.length fm (by rfl) HM1.out _ (.string y.1.data.toList) rfl HKY.out ?_; rw [HLK.out])
                have HN2 := Lib.hid (World.alloc_heap_new W1 (.cells #[.string y.1, intC y.2.1, intC y.2.2.1, intC y.2.2.2] 53))
                have HO2 := Lib.hid (own_on HO1.out (belQ W1 (.cells #[.string y.1, intC y.2.1, intC y.2.2.1, intC y.2.2.2] 53)))
                have HB2 := Lib.hid (HB1.out.trans ((belQ W1 (.cells #[.string y.1, intC y.2.1, intC y.2.2.1, intC y.2.2.2] 53)).mono hs9))
                have hs10 : wa.heap.size ≤ (W1.alloc (.cells #[.string y.1, intC y.2.1, intC y.2.2.1, intC y.2.2.2] 53)).heap.size := HB2.out.size
                go_wp2_with (at_builtin; refine wpList_append_own _ rfl _ _ 26 rfl wa.heap.size 53 i0 _ 4 40 Tryz.underlying26 hi0 hz0 hz1 hz2 rfl (by decide) (.slice oa K.length oc) K.length _ (by rfl) HO2.out ⟨W1.heap.size, 0, none⟩ 1 1 [.string y.1, intC y.2.1, intC y.2.2.1, intC y.2.2.2] (by rfl) (by rfl) (World.news_of_block HN2.out) (by simp [Value.oneCell']) (by unfold maxLen; omega) (by omega) hs10 ?_; intro v' wB hown' hgrow _; have HOW := Lib.hid hown'; have HGR := Lib.hid hgrow; clear hown' hgrow; obtain ⟨g3, gc3, rfl⟩ := ownsRow_succ HOW.out)
                all_goals
                  have HBE := Lib.hid (HB2.out.grown HGR.out hs10 (fun b hb => (own_lo HO2.out b hb).1))
                  have HOE : Hid (wB.ownsRow wa.heap.size 53 4 (.slice (some ⟨g3, 0, none⟩) (K.length + 1) gc3) (K0 ++ newK t M (k + 1)).length (selCells (K0 ++ newK t M (k + 1)))) := Lib.hid (by
                    have e : K0 ++ newK t M (k + 1) = K ++ [y] := by rw [HSU.out]; rfl
                    rw [e, List.length_append, selCells_append]; exact HOW.out)
                  refine ⟨Lib.hid ⟨k + 1, hlt, by go_num, HOE.out, HBE.out⟩, ?_⟩
                  simp [intOf]; omega
            case neg =>
              have hkk : k = t.length := Nat.le_antisymm hk (Nat.le_of_not_lt hlt)
              clear hk
              subst hkk
              have hnl := newK_len t M t.length
              have hol : (K0 ++ newK t M t.length).length ≤ 2000000 := by rw [List.length_append]; omega
              have HSO := Lib.hid (sort_sels wa.heap.size _ _ wr HO.out (by omega))
              have HLE : Hid (K0 ++ newK t M t.length = oldK f M f.length ++ newK t M t.length) := Lib.hid (by rw [HKE.out])
              generalize K0 ++ newK t M t.length = KK at *
              go_wp2_with fail
              refine HSO.out.mono ?_
              rintro e w5 ⟨rfl, l', hpl, hpw, hg5, ho5⟩
              have HB5 := Lib.hid (HWA.out.trans ((HB.out.grown hg5 HB.out.size (fun b hb => (own_lo HO.out b hb).1)).mono HWA.out.size))
              have HPL := Lib.hid hpl
              have HPW := Lib.hid hpw
              have hll : l'.length = KK.length := hpl.length_eq
              rw [← hll] at ho5
              have HS5 := Lib.hid (own_sels ho5)
              rw [hll] at HS5
              clear hpl hpw hg5 ho5 HSO HO HB
              go_wp2_with fail
              go_ret
              exact ⟨_, l', rfl, by rw [← HLE.out]; exact HPL.out, HPW.out, by have := HS5.out; exact this, HB5.out⟩
end Go.Proofs.YtnjiibiafhnmgaaGreatDoor

namespace Go.Proofs.YtnjiibiafhnmgaaGreatDoor
open Go Go.RowKit Go.Maps

def PredStr (g : Nat) (lb : Array Value) (es : List ByteArray) (p : ByteArray → Bool) (w : World) : Prop :=
  ∀ (W : World) (x : ByteArray), x ∈ es → Below w.heap.size w W → Calls Tryz.prog g (#[.string x] ++ lb) W fun e w' => e = .returned (.bool (p x)) ∧ Below w.heap.size w w'
set_option maxRecDepth 100000 in
set_option maxHeartbeats 4000000 in
theorem idx_str (g : Nat) (lb : Array Value) (eg : ∀ args w, (callFunc g args).run Tryz.prog w = .ok (.enter g args) w) (p : ByteArray → Bool) (v : Value) (es : List ByteArray) (w : World) (hes : es.length ≤ 1000000000) (hE : RowOf Value.string w.heap.size v es w) (hp : PredStr g lb es p w) :
    Calls Tryz.prog 64 #[v, .func (.func g) #[] lb] w fun e w' => e = .returned (.int .i64 (firstI p es)) ∧ Below w.heap.size w w' := by
  obtain ⟨ao, ec, rfl, hE2⟩ := rowOf_open hE
  have HE := Lib.hid hE2
  have HP := Lib.hid hp
  obtain ⟨R, hR⟩ : ∃ R, firstI p es = R := ⟨_, rfl⟩
  have HR := Lib.hid hR
  rw [hR]
  clear hE hE2 hp hR
  go_enter Tryz.func64, Tryz.ntmps64
  go_wp2_with fail
  go_loopw [8] (fun s wr => ∃ k : Nat, k ≤ es.length ∧ s = .int .i64 k ∧ Hid (Below w.heap.size w wr) ∧ Hid (∀ x ∈ es.take k, p x = false)) (fun s _ => es.length - (intOf s).toNat)
  case atStart => exact ⟨0, by omega, rfl, Lib.hid (Below.refl _ _), Lib.hid (by simp)⟩
  case round =>
    obtain ⟨k, hk, rfl, HB, HA⟩ := hrel
    by_cases hlt : k < es.length
    · have hlt2 : (k : Int) < (es.length : Int) := by omega
      obtain ⟨b, off, rfl, hb, hc1⟩ := HE.out k es[k] (by simp [hlt])
      have hd1 := (HB.out.cell (p := ⟨b, off + k, none⟩) hb).trans hc1
      have HT : Hid (es.take (k + 1) = es.take k ++ [es[k]]) := Lib.hid (List.take_succ_eq_append_getElem hlt)
      have HF : Hid (p es[k] = true → R = (k : Int)) := Lib.hid (fun h => by rw [← HR.out]; exact firstI_at hlt HA.out h)
      have HCALL := Lib.hid (HP.out wr es[k] (List.getElem_mem hlt) HB.out)
      generalize es[k] = x at *
      cases hq : p x with
      | true =>
        rw [hq] at HCALL
        have HQ := Lib.hid (HF.out hq)
        clear hq
        go_wp2_with (go_at_fn g; refine HCALL.out.mono ?_; rintro e w' ⟨rfl, hb'⟩)
        go_ret
        exact ⟨by rw [HQ.out]; rfl, hb'⟩
      | false =>
        rw [hq] at HCALL
        have HQ := Lib.hid hq
        clear hq
        go_wp2_with (go_at_fn g; refine HCALL.out.mono ?_; rintro e w' ⟨rfl, hb'⟩)
        go_roundw
        case rel =>
          refine ⟨k + 1, by omega, by go_num, Lib.hid hb', Lib.hid ?_⟩
          rw [HT.out]
          intro y hy
          rcases List.mem_append.1 hy with hy | hy
          · exact HA.out y hy
          · rw [List.mem_singleton] at hy; rw [hy]; exact HQ.out
        case measure => simp [intOf]; omega
    · have hkk : k = es.length := by omega
      subst hkk
      rw [List.take_length] at HA
      have HN := Lib.hid (show R = -1 by rw [← HR.out]; exact firstI_none HA.out)
      go_wp2_with fail
      go_ret
      exact ⟨by rw [HN.out]; rfl, HB.out⟩
set_option maxRecDepth 100000 in
set_option maxHeartbeats 4000000 in
theorem has_str (g : Nat) (lb : Array Value) (eg : ∀ args w, (callFunc g args).run Tryz.prog w = .ok (.enter g args) w) (p : ByteArray → Bool) (v : Value) (es : List ByteArray) (w : World) (hes : es.length ≤ 1000000000) (hE : RowOf Value.string w.heap.size v es w) (hp : PredStr g lb es p w) :
    Calls Tryz.prog 32 #[v, .func (.func g) #[] lb] w fun e w' => e = .returned (.bool (es.any p)) ∧ Below w.heap.size w w' := by
  have HI := Lib.hid (idx_str g lb eg p v es w hes hE hp)
  obtain ⟨f1, f2⟩ := firstI_any p es
  generalize firstI p es = r at HI f1 f2
  generalize es.any p = q at f1 f2 ⊢
  have HF := Lib.hid (And.intro f1 f2)
  obtain ⟨ao, ec, rfl, _⟩ := rowOf_open hE
  clear hp eg f1 f2
  go_enter Tryz.func32, Tryz.ntmps32
  go_wp2_with fail
  refine HI.out.mono ?_
  rintro e w' ⟨rfl, hb⟩
  cases q with
  | true =>
    have h0 : 0 ≤ r := HF.out.1.2 rfl
    go_wp2_with fail
    go_ret
    exact ⟨rfl, hb⟩
  | false =>
    have h2 : r < 0 := HF.out.2.2 rfl
    have h0 : ¬ 0 ≤ r := by omega
    have h1 : decide (0 ≤ r) = false := decide_eq_false h0
    go_wp2_with fail
    go_ret
    exact ⟨rfl, hb⟩
/-! the selection in between, sorted -/
theorem incr_unique : ∀ {a b : List SelL}, incrS a → incrS b → (∀ y, y ∈ a ↔ y ∈ b) → a = b
  | [], [], _, _, _ => rfl
  | [], x :: b, _, _, h => by have := (h x).2 (by simp); cases this
  | x :: a, [], _, _, h => by have := (h x).1 (by simp); cases this
  | x :: a, y :: b, ha, hb, h => by
    have ha1 := List.pairwise_cons.1 ha
    have hb1 := List.pairwise_cons.1 hb
    have e : x = y := by
      rcases List.mem_cons.1 ((h x).1 (by simp)) with e | hx
      · exact e
      · rcases List.mem_cons.1 ((h y).2 (by simp)) with e | hy
        · exact e.symm
        · have h1 := hb1.1 x hx
          have h2 := ha1.1 y hy
          rw [ltB_asymm h1] at h2
          cases h2
    subst e
    congr 1
    refine incr_unique ha1.2 hb1.2 fun z => ⟨fun hz => ?_, fun hz => ?_⟩
    · rcases List.mem_cons.1 ((h z).1 (List.mem_cons_of_mem _ hz)) with e | hz2
      · subst e
        have := ha1.1 z hz
        rw [ltB_irrefl] at this; cases this
      · exact hz2
    · rcases List.mem_cons.1 ((h z).2 (List.mem_cons_of_mem _ hz)) with e | hz2
      · subst e
        have := hb1.1 z hz
        rw [ltB_irrefl] at this; cases this
      · exact hz2
theorem at_iff {s : List SelL} (hs : incrS s) (y : SelL) : atS s y.1 = some y ↔ y ∈ s := ⟨fun h => (atS_some h).1, atS_mem hs⟩
theorem bet_sort {f t l : List SelL} {M : List ByteArray} (hf : incrS f) (ht : incrS t) (hp : l.Perm (oldK f M f.length ++ newK t M t.length)) (hw : l.Pairwise (fun a b => ltB b.1 a.1 = false)) : l = betV f t M := by
  have hmem : ∀ y, y ∈ l ↔ (y ∈ f ∧ y.1 ∉ M) ∨ (y ∈ t ∧ y.1 ∈ M) := fun y => by
    rw [hp.mem_iff, List.mem_append]
    unfold oldK newK
    rw [List.take_length, List.take_length, List.mem_filter, List.mem_filter]
    simp
  have hnd : (l.map (·.1)).Nodup := by
    have h := (hp.map (·.1)).nodup_iff.2 (by
      rw [List.map_append, List.nodup_append]
      refine ⟨?_, ?_, ?_⟩
      · unfold oldK; rw [List.take_length]; exact ((List.filter_sublist).map _).nodup (incrS_nodup hf)
      · unfold newK; rw [List.take_length]; exact ((List.filter_sublist).map _).nodup (incrS_nodup ht)
      · intro a ha b hb e
        obtain ⟨y, hy, rfl⟩ := List.mem_map.1 ha
        obtain ⟨z, hz, rfl⟩ := List.mem_map.1 hb
        have h1 := (List.mem_filter.1 hy).2
        have h2 := (List.mem_filter.1 hz).2
        simp only [Bool.not_eq_true', decide_eq_false_iff_not, decide_eq_true_eq] at h1 h2
        exact h1 (by rw [e]; exact h2))
    exact h
  have hinc : incrS l := by
    unfold List.Nodup at hnd
    rw [List.pairwise_map] at hnd
    unfold incrS
    refine (hw.and hnd).imp fun {a b} ⟨h1, h2⟩ => ?_
    cases h : ltB a.1 b.1 with
    | true => rfl
    | false => exact absurd (ltB_tri h h1) h2
  refine incr_unique hinc (bet_incr hf ht) fun y => ?_
  rw [hmem, mem_bet]
  by_cases hm : y.1 ∈ M
  · rw [if_pos hm, at_iff ht]; simp [hm]
  · rw [if_neg hm, at_iff hf]; simp [hm]
end Go.Proofs.YtnjiibiafhnmgaaGreatDoor

namespace Go.Proofs.YtnjiibiafhnmgaaGreatDoor
open Go Go.RowKit Go.Maps

theorem contains_row (v : Value) (L : List ByteArray) (x : ByteArray) (w : World) (hl : L.length ≤ 1000000000) (h : RowOf Value.string w.heap.size v L w) :
    Calls Tryz.prog 29 #[v, .string x] w fun e w' => e = .returned (.bool (decide (x ∈ L))) ∧ w' = w := by
  rcases h with ⟨rfl, a, c, rfl⟩ | ⟨b, off, cap, rfl, hb, h⟩
  · refine (Tryz.slices_Contains_string_empty a c x w).mono ?_
    rintro e w' ⟨rfl, rfl⟩
    exact ⟨by simp, rfl⟩
  · refine (Tryz.slices_Contains_string b off L.length cap L x w (Nat.le_refl _) (by omega) (fun j hj => by
      have := h j L[j] (by simp [hj])
      rw [this, List.getD_eq_getElem?_getD, List.getElem?_eq_getElem hj]
      rfl)).mono ?_
    rintro e w' ⟨rfl, rfl⟩
    refine ⟨?_, rfl⟩
    rw [List.take_length]
    congr 2
    by_cases hm : x ∈ L
    · rw [decide_eq_true hm]; exact (Lib.containsS_iff L x).2 hm
    · rw [decide_eq_false hm]
      cases hc : Lib.containsS L x with
      | false => rfl
      | true => exact absurd ((Lib.containsS_iff L x).1 hc) hm
set_option maxRecDepth 100000 in
set_option maxHeartbeats 4000000 in
theorem btw1_any (X : List RelL) (f t : List SelL) (L : List ByteArray) (hL : L.length ≤ 1000000) (gu c : Nat) (p : ByteArray) (W : World) (hU : UpV X f t L gu W) (hc : W.cell? ⟨c, 0, none⟩ = some (.pointer (some ⟨gu, 0, none⟩))) :
    Calls Tryz.prog 57 #[.string p, .pointer (some ⟨c, 0, none⟩)] W fun e w' => e = .returned (.bool (!decide (p ∈ L))) ∧ Below W.heap.size W w' := by
  obtain ⟨m1, m2, fv, tv, pv, B, hbx, _, _, hrow, _, _⟩ := hU
  obtain ⟨pa, pc, rfl⟩ := own_any hrow
  have u4 : W.cell? ⟨gu, 4, none⟩ = some (.slice pa L.length pc) := cell_of_row _ _ 4 _ _ _ hbx
  have HCO := Lib.hid (contains_row _ L p W (by omega) (own_row hrow).2)
  generalize decide (p ∈ L) = q at *
  clear hrow hbx
  go_enter Tryz.func57, Tryz.ntmps57
  go_wp2_with fail
  refine HCO.out.mono ?_
  rintro e w' ⟨rfl, rfl⟩
  go_wp2_with fail
  go_ret
  exact ⟨rfl, Below.refl _ _⟩
noncomputable def btwV (X : List RelL) (f t : List SelL) (M : List ByteArray) : Int := if errW X f t ≠ 0 then errW X f t else if (M.any fun p => !decide (p ∈ movesP f t)) = true then 6 else 0
noncomputable def btwS (X : List RelL) (f t : List SelL) (M : List ByteArray) : List SelL := if btwV X f t M = 0 then betV f t M else []
def BtwR (X : List RelL) (f t : List SelL) (M : List ByteArray) (w : World) (e : Ending) (w' : World) : Prop := ∃ v, e = .returned (.tuple #[v, .int .i64 (btwV X f t M)]) ∧ SelsOf w'.heap.size v (btwS X f t M) w' ∧ Below w.heap.size w w'
theorem BtwR.no {X : List RelL} {f t : List SelL} {M : List ByteArray} {w w' : World} {E : Int} (hb : Below w.heap.size w w') (h : btwV X f t M = E) (h0 : E ≠ 0) : BtwR X f t M w (.returned (.tuple #[.slice none 0 0, .int .i64 E])) w' := ⟨_, by rw [h], by
  have : btwS X f t M = [] := by unfold btwS; rw [if_neg (by rw [h]; exact h0)]
  rw [this]
  exact ⟨none, 0, rfl, fun i x hx => by cases hx⟩, hb⟩
set_option maxRecDepth 100000 in
set_option maxHeartbeats 16000000 in
theorem Between_any (v iv fv tv mv : Value) (X : List RelL) (f t : List SelL) (M : List ByteArray) (w : World) (hm : MaxOk w) (hX : X.length ≤ 1000000) (hq : ∀ x ∈ X, RelBd x) (hR : RelsOf w.heap.size v X w)
    (hf : f.length ≤ 1000000) (hfy : ∀ y ∈ f, SelBd y) (hF : SelsOf w.heap.size fv f w) (ht : t.length ≤ 1000000) (hty : ∀ y ∈ t, SelBd y) (hT : SelsOf w.heap.size tv t w)
    (hMl : M.length ≤ 1000000) (hMp : ∀ p ∈ M, p.size ≤ maxLen) (hM : RowOf Value.string w.heap.size mv M w) :
    Calls Tryz.prog 24 #[.agg #[v, iv], fv, tv, mv] w (BtwR X f t M w) := by
  have HU := Lib.hid (fun W (hb : RowKit.Below w.heap.size w W) => newUpgrade_any v iv fv tv X f t W (hm.below hb hm.pos) hX hq (hR.on hb) hf hfy (hF.on hb) ht hty (hT.on hb))
  have HBT := Lib.hid (fun W g (h0 : errW X f t = 0) (hb : RowKit.Below w.heap.size w W) (hU : UpV X f t (movesP f t) g W) => between_any X f t (movesP f t) hf ht (fun y hy => (hfy y hy).path) (fun y hy => (hty y hy).path) g W hU mv M hMl hMp ((hM.below hb (Nat.le_refl _)).mono hb.size))
  have HHS := Lib.hid (fun W g c (h0 : errW X f t = 0) (hb : RowKit.Below w.heap.size w W) (hU : UpV X f t (movesP f t) g W) (hc : W.cell? ⟨c, 0, none⟩ = some (.pointer (some ⟨g, 0, none⟩))) =>
    has_str 57 #[.pointer (some ⟨c, 0, none⟩)] (enters_of Tryz.func57 (by kernel_rfl) rfl) (fun p => !decide (p ∈ movesP f t)) mv M W (by omega) ((hM.below hb (Nat.le_refl _)).mono hb.size) (fun W2 p _ hb2 => by
      have hlt := World.block_lt_of_cell? _ _ hc
      have hms := moves_small h0
      exact (btw1_any X f t (movesP f t) (by omega) g c p W2 (hU.below hb2) ((hb2.cell (p := ⟨c, 0, none⟩) hlt).trans hc)).mono fun e w' h => ⟨h.1, hb2.trans (h.2.mono hb2.size)⟩))
  have HSO : Hid (errW X f t = 0 → ∀ l : List SelL, l.Perm (oldK f M f.length ++ newK t M t.length) → l.Pairwise (fun a b => ltB b.1 a.1 = false) → l = betV f t M) := Lib.hid (fun h0 l h1 h2 => bet_sort (cons_parts (errW_parts h0).1).2.1 (cons_parts (errW_parts h0).2).2.1 h1 h2)
  have HV1 : Hid (errW X f t ≠ 0 → btwV X f t M = errW X f t) := Lib.hid (fun h => by unfold btwV; rw [if_pos h])
  have HV2 : Hid (errW X f t = 0 → (M.any fun p => !decide (p ∈ movesP f t)) = true → btwV X f t M = 6) := Lib.hid (fun h h2 => by unfold btwV; rw [if_neg (fun g => g h), if_pos h2])
  have HV3 : Hid (errW X f t = 0 → (M.any fun p => !decide (p ∈ movesP f t)) = false → btwV X f t M = 0) := Lib.hid (fun h h2 => by unfold btwV; rw [if_neg (fun g => g h), h2, if_neg (by decide)])
  obtain ⟨va, vn, vc, rfl⟩ : ∃ a n c, v = .slice a n c := by obtain ⟨a, c, _, e, _⟩ := hR.rv; exact ⟨_, _, _, e⟩
  obtain ⟨fa, fc, rfl⟩ : ∃ a c, fv = .slice a f.length c := by obtain ⟨a, c, e, _⟩ := hF; exact ⟨a, c, e⟩
  obtain ⟨ta, tc, rfl⟩ : ∃ a c, tv = .slice a t.length c := by obtain ⟨a, c, e, _⟩ := hT; exact ⟨a, c, e⟩
  obtain ⟨ma, mc, rfl, _⟩ := rowOf_open hM
  clear hm hq hR hF hT hfy hty hM hMp
  have HB0 := Lib.hid (IdxBx.start w (.slice va vn vc) iv)
  unfold UpgR at HU
  obtain ⟨E, hE⟩ : ∃ E, errW X f t = E := ⟨_, rfl⟩
  rw [hE] at HU HBT HHS HSO HV1 HV2 HV3
  clear hE
  go_enter Tryz.func24, Tryz.ntmps24
  go_upto_region 1 with fail
  generalize w.alloc (.cells #[.slice va vn vc, iv] 25) = W at *
  have c0 := HB0.out.c0
  have c1 := HB0.out.c1
  go_wp2_with fail
  refine (HU.out _ HB0.out.bel).mono ?_
  rintro e w1 ⟨hb1, g, rfl, hg⟩
  have hbq := belQ w1 (.cells #[.pointer g] 73)
  have HB1 := Lib.hid ((HB0.out.below hb1).below hbq)
  have HN1 := Lib.hid (cell_of_row _ _ 0 _ _ _ (World.alloc_heap_new w1 (.cells #[.pointer g] 73)))
  have HUP : Hid (E = 0 → ∃ b, g = some ⟨b, 0, none⟩ ∧ UpV X f t (movesP f t) b (w1.alloc (.cells #[.pointer g] 73))) := Lib.hid (fun h => by obtain ⟨b, h1, h2⟩ := hg h; exact ⟨b, h1, h2.below hbq⟩)
  clear hb1 hg hbq c0 c1 HU HB0
  by_cases h0 : E = 0
  case neg =>
    have h0b : (E != 0) = true := by simpa using h0
    have HV := Lib.hid (HV1.out h0)
    go_wp2_with fail
    go_ret2
    exact BtwR.no HB1.out.bel HV.out h0
  subst h0
  obtain ⟨b, rfl, hup⟩ := HUP.out rfl
  have HUV := Lib.hid hup
  clear hup HUP HV1
  go_upto_region 4 with fail
  generalize w1.alloc (.cells #[.pointer (some ⟨b, 0, none⟩)] 73) = w2 at *
  obtain ⟨gc, hgc⟩ : ∃ gc, w1.heap.size = gc := ⟨_, rfl⟩
  rw [hgc] at HN1
  simp only [hgc]
  clear hgc
  have HHC := Lib.hid (HHS.out w2 b gc trivial HB1.out.bel HUV.out HN1.out)
  have hgl := World.block_lt_of_cell? _ _ HN1.out
  simp only at hgl
  generalize hq : (M.any fun p => !decide (p ∈ movesP f t)) = q at *
  clear HHS hq
  go_wp2_with fail
  refine HHC.out.mono ?_
  rintro e w3 ⟨rfl, hb3⟩
  have HB3 := Lib.hid (HB1.out.below hb3)
  have HUV3 := Lib.hid (HUV.out.below hb3)
  have n1 := (hb3.cell (p := ⟨gc, 0, none⟩) hgl).trans HN1.out
  clear hb3 HHC HB1 HUV HN1 hgl
  cases q with
  | true =>
    have HV := Lib.hid (HV2.out trivial rfl)
    clear HV2 HV3 HBT HSO n1
    go_wp2_with fail
    go_ret2
    exact BtwR.no HB3.out.bel HV.out (by decide)
  | false =>
    have HV := Lib.hid (HV3.out trivial rfl)
    have HBC := Lib.hid (HBT.out w3 b trivial HB3.out.bel HUV3.out)
    clear HV2 HV3 HBT HUV3
    go_wp2_with fail
    refine HBC.out.mono ?_
    rintro e w4 ⟨r, l, rfl, hpl, hpw, hsl, hb4⟩
    have hl := HSO.out trivial l hpl hpw
    subst hl
    have HB4 := Lib.hid (HB3.out.below hb4)
    have HSL : Hid (SelsOf w4.heap.size r (btwS X f t M) w4) := Lib.hid (by unfold btwS; rw [HV.out, if_pos rfl]; exact hsl)
    clear hpl hpw hsl hb4 n1
    go_wp2_with fail
    go_ret2
    exact ⟨r, by rw [HV.out]; rfl, HSL.out, HB4.out.bel⟩
end Go.Proofs.YtnjiibiafhnmgaaGreatDoor

namespace Go.Proofs.YtnjiibiafhnmgaaGreatDoor
set_option linter.unusedVariables false
set_option linter.unusedSimpArgs false
open Go Go.RowKit

end Go.Proofs.YtnjiibiafhnmgaaGreatDoor

namespace Go.Proofs.YtnjiibiafhnmgaaGreatDoor
set_option linter.unusedVariables false
set_option linter.unusedSimpArgs false
open Go Go.RowKit

theorem take_eq_succ {α : Type} [Inhabited α] {A B : List α} {i : Nat} (hA : i < A.length) (hB : i < B.length) (h : A.take i = B.take i) (he : A[i] = B[i]) : A.take (i + 1) = B.take (i + 1) := by
  rw [List.take_succ_eq_append_getElem hA, List.take_succ_eq_append_getElem hB, h, he]
theorem ne_of_at {α : Type} {A B : List α} {i : Nat} (hA : i < A.length) (hB : i < B.length) (he : A[i] ≠ B[i]) : A ≠ B := fun e => by subst e; exact he rfl

end Go.Proofs.YtnjiibiafhnmgaaGreatDoor
