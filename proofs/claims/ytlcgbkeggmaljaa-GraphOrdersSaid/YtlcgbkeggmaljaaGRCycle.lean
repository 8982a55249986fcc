/- Contract of the reference's Cycle. -/
import Derived.Test.YtlcgbkeggmaljaaGRRev
import Derived.Test.YtlcgbkeggmaljaaGPlainRCyc
namespace Go.Proofs.Ytlcgbkeggmaljaa
set_option linter.unusedVariables false
set_option linter.unusedSimpArgs false
open Go Go.RowKit

theorem hsE_snoc (i : Nat) (es : List (Int × Int)) (x : Int × Int) : hsE i (es ++ [x]) = hsE i es ++ if (i : Int) ≤ x.1 ∧ (i : Int) ≤ x.2 then [x] else [] := by
  unfold hsE
  rw [List.filter_append, List.filter_cons, List.filter_nil]
  by_cases h : (i : Int) ≤ x.1 ∧ (i : Int) ≤ x.2
  · rw [if_pos h, if_pos (by rw [Bool.and_eq_true, decide_eq_true_iff, decide_eq_true_iff]; exact h)]
  · rw [if_neg h, if_neg (by rw [Bool.and_eq_true, decide_eq_true_iff, decide_eq_true_iff]; exact h)]
theorem rcand_len {N : Nat} {es : List (Int × Int)} {i k : Nat} (hi : i < N) (hv : validG N es = true) (hk : k < N) : (rcand N es i k).length ≤ N + 1 := by
  unfold rcand
  split
  · simp
  · have := pathF_len (hsE_valid (i := i) hv) hk hi
    rw [List.length_cons, List.length_dropLast]
    omega

set_option maxRecDepth 100000 in
set_option maxHeartbeats 4000000 in
theorem rCycle_no (na : Option Addr) (nc : Nat) (ev : Value) (ns : List ByteArray) (es : List (Int × Int)) (w : World) (hN : ns.length ≤ 1000000000) (hes : es.length ≤ 1000000000) (hE : EdgesOf w.heap.size ev es w) (hval : validG ns.length es = false) :
    Calls Try.prog 22 #[.agg #[.slice na ns.length nc, ev]] w fun e w' => e = .returned (.slice none 0 0) ∧ Below w.heap.size w w' := by
  have hb1 : Below w.heap.size w (w.alloc (.cells #[.slice na ns.length nc, ev] 25)) := bel_alloc _ _
  have hv := rValid_any na ns.length nc ev es _ (by omega) (by omega) ((hE.below hb1 (Nat.le_refl _)).mono hb1.size)
  rw [hval] at hv
  obtain ⟨ao, ec, rfl, hE⟩ := hE
  have HV := Lib.hid hv
  have HB1 := Lib.hid hb1
  clear hv hb1 hE hval
  go_enter Try.func22, Try.ntmps22
  go_wp2_with fail
  refine HV.out.mono ?_
  rintro e w1 ⟨rfl, hb⟩
  go_wp2_with fail
  go_ret
  exact ⟨rfl, HB1.out.trans (hb.mono (by simp))⟩

set_option maxRecDepth 100000 in
set_option maxHeartbeats 8000000 in
theorem rCycle_yes (na : Option Addr) (nc : Nat) (ev : Value) (ns : List ByteArray) (es : List (Int × Int)) (w : World) (hE : EdgesOf w.heap.size ev es w) (hval : validG ns.length es = true) :
    Calls Try.prog 22 #[.agg #[.slice na ns.length nc, ev]] w fun e w' => ∃ v, e = .returned v ∧ RowOf natC w'.heap.size v (rcAll ns.length es ns.length) w' ∧ (rcAll ns.length es ns.length).length ≤ ns.length + 1 ∧ Below w.heap.size w w' := by
  have hb1 : Below w.heap.size w (w.alloc (.cells #[.slice na ns.length nc, ev] 25)) := bel_alloc _ _
  obtain ⟨hNn, hNe⟩ := validG_n hval
  have hv := rValid_any na ns.length nc ev es _ (by omega) (by omega) ((hE.below hb1 (Nat.le_refl _)).mono hb1.size)
  rw [hval] at hv
  obtain ⟨ao, ec, rfl, hE⟩ := hE
  have HGOLD := Lib.hid (World.alloc_heap_new w (.cells #[.slice na ns.length nc, .slice ao es.length ec] 25))
  have HV := Lib.hid hv
  have HVAL := Lib.hid hval
  have HB1 := Lib.hid hb1
  have HE := Lib.hid hE
  clear hv hb1 hE hval
  obtain ⟨i0, hi0', hz0, hz1, hz2⟩ := info_parts info_edges
  obtain ⟨j0, hj0', hy0, hy1, hy2⟩ := info_parts info_ints
  go_enter Try.func22, Try.ntmps22
  go_wp2_with fail
  refine HV.out.mono ?_
  rintro e w1 ⟨rfl, hb⟩
  have hs1 := hb.size
  simp only [World.size_alloc] at hs1
  have HG1 := Lib.hid ((hb.block w.heap.size (by simp)).trans HGOLD.out)
  have HW1 := Lib.hid (HB1.out.trans (hb.mono (by simp)))
  have HR0 : Hid (RowOf natC (w1.alloc (.cells #[] 3)).heap.size (.slice (some ⟨w1.heap.size, 0, none⟩) 0 0) [] (w1.alloc (.cells #[] 3))) := Lib.hid (.inl ⟨rfl, _, _, rfl⟩)
  have HBa : Hid (Below w1.heap.size w1 (w1.alloc (.cells #[] 3))) := Lib.hid (bel_alloc _ _)
  have HR0L : Hid (([] : List Nat).length ≤ ns.length + 1) := Lib.hid (by simp)
  clear hb HV HB1 HGOLD
  go_wp2_with fail
  go_loopw [3, 4] (fun bv q wr => ∃ (i : Nat) (best : List Nat), i ≤ ns.length ∧ q = .int .i64 i ∧ Hid (best = rcAll ns.length es i) ∧ Hid (RowOf natC wr.heap.size bv best wr) ∧ Hid (best.length ≤ ns.length + 1) ∧ Hid (Below w1.heap.size w1 wr)) (fun _ q _ => ns.length - (intOf q).toNat)
  case atStart => exact ⟨0, [], by omega, rfl, Lib.hid rfl, HR0, HR0L, HBa⟩
  case round =>
    clear HR0 HBa HR0L
    rename_i bv
    obtain ⟨i, best0, hi, rfl, HBE, HBR, HBL, HB⟩ := hrel
    obtain ⟨ba, bc, hbv, _⟩ := rowOf_open HBR.out
    subst hbv
    have hsr := HB.out.size
    have hg0 : wr.cell? ⟨w.heap.size, 0, none⟩ = some (.slice na ns.length nc) := cell_of_row _ _ 0 _ _ _ ((HB.out.block _ (by omega)).trans HG1.out)
    by_cases hlt : i < ns.length
    case neg =>
      have hii : i = ns.length := by omega
      go_wp2_with fail
      go_ret
      have hbe := HBE.out
      rw [hii] at hbe
      exact ⟨_, rfl, by rw [← hbe]; exact HBR.out, by rw [← hbe]; exact HBL.out, HW1.out.trans (HB.out.mono (by omega))⟩
    case pos =>
      have hi0 : (0 : Int) ≤ (i : Int) := by omega
      have hi1 : (i : Int) < (ns.length : Int) := by omega
      obtain ⟨W2, hW2⟩ : ∃ W : World, W = wr := ⟨_, rfl⟩
      subst hW2
      have HL0 : Hid ((W2.alloc (.cells #[.slice na ns.length nc, .slice none 0 0] 25)).heap[W2.heap.size]? = some (.cells #[.slice na ns.length nc, .slice none 0 0] 25 (0, 0))) := Lib.hid (World.alloc_heap_new W2 _)
      have HL1 : Hid (Below W2.heap.size W2 (W2.alloc (.cells #[.slice na ns.length nc, .slice none 0 0] 25))) := Lib.hid (bel_alloc _ _)
      go_wp2_with fail
      clear hg0
      go_loopw [6] (fun p wr => ∃ (k : Nat) (v : Value), k ≤ es.length ∧ p = .int .i64 k ∧ Hid (wr.heap[W2.heap.size]? = some (.cells #[.slice na ns.length nc, v] 25 (0, 0))) ∧ Hid (wr.ownsRow W2.heap.size 39 2 v (hsE i (es.take k)).length (edgeCells (hsE i (es.take k)))) ∧ Hid (Below W2.heap.size W2 wr)) (fun p _ => es.length - (intOf p).toNat)
      case atStart => exact ⟨0, .slice none 0 0, by omega, rfl, HL0, Lib.hid (World.ownsRow_nil _ _ _ _), HL1⟩
      case round =>
        clear HL0 HL1
        obtain ⟨k, v, hk, rfl, HBX, HO, HBK⟩ := hrel
        have hszr := HBK.out.size
        have hg1 : wr.cell? ⟨w.heap.size, 1, none⟩ = some (.slice ao es.length ec) := cell_of_row _ _ 1 _ _ _ ((HBK.out.block _ (by omega)).trans ((HB.out.block _ (by omega)).trans HG1.out))
        by_cases hlt2 : k < es.length
        case pos =>
          have hk0 : (0 : Int) ≤ (k : Int) := by omega
          have hk1 : (k : Int) < (es.length : Int) := by omega
          obtain ⟨b, off, rfl, hb, hc1, hc2⟩ := HE.out k es[k] (by simp [hlt2])
          have HT : Hid (hsE i (es.take (k + 1)) = hsE i (es.take k) ++ if (i : Int) ≤ es[k].1 ∧ (i : Int) ≤ es[k].2 then [es[k]] else []) := Lib.hid (by rw [List.take_succ_eq_append_getElem hlt2, hsE_snoc])
          have HLN : Hid ((hsE i (es.take k)).length ≤ k) := Lib.hid (by
            have := List.length_filter_le (fun e : Int × Int => decide ((i : Int) ≤ e.1) && decide ((i : Int) ≤ e.2)) (es.take k)
            rw [List.length_take] at this
            unfold hsE
            omega)
          obtain ⟨⟨x1, x2⟩, hx⟩ : ∃ x, x = es[k] := ⟨_, rfl⟩
          rw [← hx] at hc1 hc2 HT
          clear hx
          simp only at hc1 hc2 HT
          have HBW : Hid (Below w.heap.size w wr) := Lib.hid (HW1.out.trans ((HB.out.trans (HBK.out.mono (by omega))).mono (by omega)))
          have hd1 := (HBW.out.cell (p := ⟨b, off + k * 2, none⟩) hb).trans hc1
          have hd2 := (HBW.out.cell (p := ⟨b, off + k * 2 + 1, none⟩) hb).trans hc2
          have HBXL := (Array.getElem?_eq_some_iff.1 HBX.out).1
          by_cases q1 : (i : Int) ≤ x1
          case neg =>
            have p1 : decide ((i : Int) ≤ x1) = false := decide_eq_false q1
            rw [if_neg (fun h => q1 h.1), List.append_nil] at HT
            go_wp2_with fail
            go_roundw
            case rel => exact ⟨k + 1, v, by omega, by go_num, HBX, Lib.hid (by rw [HT.out]; exact HO.out), HBK⟩
            case measure => simp [intOf]; omega
          case pos =>
            have p1 : decide ((i : Int) ≤ x1) = true := decide_eq_true q1
            by_cases q2 : (i : Int) ≤ x2
            case neg =>
              have p2 : decide ((i : Int) ≤ x2) = false := decide_eq_false q2
              rw [if_neg (fun h => q2 h.2), List.append_nil] at HT
              go_wp2_with fail
              go_roundw
              case rel => exact ⟨k + 1, v, by omega, by go_num, HBX, Lib.hid (by rw [HT.out]; exact HO.out), HBK⟩
              case measure => simp [intOf]; omega
            case pos =>
              have p2 : decide ((i : Int) ≤ x2) = true := decide_eq_true q2
              rw [if_pos ⟨q1, q2⟩] at HT
              have HSS : Hid (∀ W, Below W2.heap.size W2 W → W.heap[W2.heap.size]? = some (.cells #[.slice na ns.length nc, v] 25 (0, 0)) → HeldT ⟨W2.heap.size, 1, none⟩ ⟨w.heap.size, 1, none⟩ ⟨b, off + k * 2, none⟩ ⟨b, off + k * 2 + 1, none⟩ v (.slice (some ⟨b, off, none⟩) es.length ec) (.int .i64 x1) (.int .i64 x2) W) := Lib.hid fun W hW hbx => ⟨cell_of_row _ _ 1 _ _ _ hbx, cell_of_row _ _ 1 _ _ _ ((hW.block _ (by omega)).trans ((HB.out.block _ (by omega)).trans HG1.out)), ((HW1.out.trans ((HB.out.trans (hW.mono (by omega))).mono (by omega))).cell (p := ⟨b, off + k * 2, none⟩) hb).trans hc1, ((HW1.out.trans ((HB.out.trans (hW.mono (by omega))).mono (by omega))).cell (p := ⟨b, off + k * 2 + 1, none⟩) hb).trans hc2⟩
              have HN2 : Hid (∀ W1, ((wr.alloc (.cells #[intC x1, intC x2] 39)).drew).grownBy W1 v.ownBlock → W1.heap[W2.heap.size]? = some (.cells #[.slice na ns.length nc, v] 25 (0, 0)) ∧ Below W2.heap.size W2 W1) := Lib.hid (fun W1 hg => by
                refine ⟨(hg.block _ (by simp; omega) (blk_ne HBX.out HO.out (by decide))).trans ((Below.heap_alloc _ _ _ HBXL).trans HBX.out), ?_⟩
                exact ((HBK.out.alloc hszr _).drew).grown hg (by simp; omega) (fun b hb => (HO.out.lt b hb).1))
              clear hc1 hc2
              go_wp2_with fail
              refine wp_region_noPanic ?_
              refine region_plain_split (S := HeldT ⟨W2.heap.size, 1, none⟩ ⟨w.heap.size, 1, none⟩ ⟨b, off + k * 2, none⟩ ⟨b, off + k * 2 + 1, none⟩ v (.slice (some ⟨b, off, none⟩) es.length ec) (.int .i64 x1) (.int .i64 x2)) 9 (by kernel_rfl) (by kernel_rfl) ?_
              simp only [List.take_succ_cons, List.take_zero]
              have hS0 := HSS.out wr.drew HBK.out.drew HBX.out
              (refine wpAnyH_take (i := 0) (v := ?_) rfl (by kernel_rfl) (by kernel_rfl) (by kernel_rfl) (fun _ _ _ h => h) (Or.inl ⟨by rfl, ?_⟩) (by assumption) ?_; rotate_left; (· (intro w hSw; obtain ⟨c0, c1, c2, c3⟩ := hSw; go_simp; try with_reducible rfl)); (try simp only [List.getElem_toArray, List.getElem_cons_zero, List.getElem_cons_succ, Act.put, List.setIfInBounds_toArray, List.set_cons_zero, List.set_cons_succ]))
              (refine wpAnyH_take (i := 1) (v := ?_) rfl (by kernel_rfl) (by kernel_rfl) (by kernel_rfl) (fun _ _ _ h => h) (Or.inl ⟨by rfl, ?_⟩) (by assumption) ?_; rotate_left; (· (intro w hSw; obtain ⟨c0, c1, c2, c3⟩ := hSw; go_simp; try with_reducible rfl)); (try simp only [List.getElem_toArray, List.getElem_cons_zero, List.getElem_cons_succ, Act.put, List.setIfInBounds_toArray, List.set_cons_zero, List.set_cons_succ]))
              (refine wpAnyH_take (i := 2) (v := ?_) rfl (by kernel_rfl) (by kernel_rfl) (by kernel_rfl) (fun _ _ _ h => h) (Or.inl ⟨by rfl, ?_⟩) (by assumption) ?_; rotate_left; (· (intro w hSw; obtain ⟨c0, c1, c2, c3⟩ := hSw; go_simp; try with_reducible rfl)); (try simp only [List.getElem_toArray, List.getElem_cons_zero, List.getElem_cons_succ, Act.put, List.setIfInBounds_toArray, List.set_cons_zero, List.set_cons_succ]))
              (refine wpAnyH_take (i := 3) (v := ?_) rfl (by kernel_rfl) (by kernel_rfl) (by kernel_rfl) (fun _ _ _ h => h) (Or.inl ⟨by rfl, ?_⟩) (by assumption) ?_; rotate_left; (· (intro w hSw; obtain ⟨c0, c1, c2, c3⟩ := hSw; go_simp; try with_reducible rfl)); (try simp only [List.getElem_toArray, List.getElem_cons_zero, List.getElem_cons_succ, Act.put, List.setIfInBounds_toArray, List.set_cons_zero, List.set_cons_succ]))
              (refine wpAnyH_take (i := 4) (v := ?_) rfl (by kernel_rfl) (by kernel_rfl) (by kernel_rfl) (fun _ _ _ h => h) (Or.inl ⟨by rfl, ?_⟩) (by assumption) ?_; rotate_left; (· (intro w hSw; obtain ⟨c0, c1, c2, c3⟩ := hSw; go_simp; try with_reducible rfl)); (try simp only [List.getElem_toArray, List.getElem_cons_zero, List.getElem_cons_succ, Act.put, List.setIfInBounds_toArray, List.set_cons_zero, List.set_cons_succ]))
              (refine wpAnyH_take (i := 5) (v := ?_) rfl (by kernel_rfl) (by kernel_rfl) (by kernel_rfl) (fun _ _ _ h => h) (Or.inl ⟨by rfl, ?_⟩) (by assumption) ?_; rotate_left; (· (intro w hSw; obtain ⟨c0, c1, c2, c3⟩ := hSw; go_simp; try with_reducible rfl)); (try simp only [List.getElem_toArray, List.getElem_cons_zero, List.getElem_cons_succ, Act.put, List.setIfInBounds_toArray, List.set_cons_zero, List.set_cons_succ]))
              (refine wpAnyH_take (i := 6) (v := ?_) rfl (by kernel_rfl) (by kernel_rfl) (by kernel_rfl) (fun _ _ _ h => h) (Or.inl ⟨by rfl, ?_⟩) (by assumption) ?_; rotate_left; (· (intro w hSw; obtain ⟨c0, c1, c2, c3⟩ := hSw; go_simp; try with_reducible rfl)); (try simp only [List.getElem_toArray, List.getElem_cons_zero, List.getElem_cons_succ, Act.put, List.setIfInBounds_toArray, List.set_cons_zero, List.set_cons_succ]))
              have hS1 := HSS.out (wr.drew.alloc (.cells #[intC x1, intC x2] 39)) (HBK.out.drew.alloc hszr _) ((Below.heap_alloc _ _ _ HBXL).trans HBX.out)
              refine wpAnyH_ready (rs := [7]) (by kernel_rfl) (by simp) (AllReadyH.cons rfl (fun K hK => ?_) AllReadyH.nil)
              go_simp
              refine hK.out _ _ hS1 (fun _ => ?_)
              clear hK K hS0 hS1
              (try simp only [List.getElem_toArray, List.getElem_cons_zero, List.getElem_cons_succ, Act.put, List.setIfInBounds_toArray, List.set_cons_zero, List.set_cons_succ])
              refine wpAnyH_ready (rs := [8]) (by kernel_rfl) (by simp) (AllReadyH.cons rfl (fun K hK => ?_) AllReadyH.nil)
              refine step_append_lies _ (by rfl) _ _ _ (by rfl) W2.heap.size 39 i0 _ 2 16 Try.underlying23 hi0' hz0 hz1 hz2 rfl (by decide) v (hsE i (es.take k)).length _ (by rfl) ((HO.out.alloc _).drew)
                    ⟨wr.heap.size, 0, none⟩ 1 1 [intC x1, intC x2] (by rfl) (by rfl) (World.news_of_block (cs := #[intC x1, intC x2]) (t := 39) (fr := (0, 0)) (heap_alloc_new wr _)) (by simp [Value.oneCell'])
                    (by decide) (by have := HLN.out; unfold maxLen; omega) (by have := HLN.out; omega) (by simp; omega) (wr.heap.size + 1) (by simp) ?_
              intro gg cap w5 hown5 hgrow5 hat5 hlt5
              obtain ⟨hbx5, hbb5⟩ := HN2.out _ hgrow5
              have hS5 := HSS.out w5 hbb5 hbx5
              have HBX5 := Lib.hid hbx5
              have HBB5 := Lib.hid hbb5
              have HOW5 := Lib.hid hown5
              have hfz := frozen_of_row _ _ 1 _ _ hbx5
              have hcx : w5.cell? ⟨W2.heap.size, 1, none⟩ = some v := cell_of_row _ _ 1 _ _ _ hbx5
              clear hbx5 hbb5 hown5 hgrow5 hat5
              refine hK.out _ _ hS5 (fun _ => ?_)
              clear hK K hS5
              (try simp only [List.getElem_toArray, List.getElem_cons_zero, List.getElem_cons_succ, Act.put, List.setIfInBounds_toArray, List.set_cons_zero, List.set_cons_succ])
              refine wpAnyH_done (by kernel_rfl) ?_ _
              show wpList _ _ _ _ _ _
              simp only [List.drop_succ_cons, List.drop_zero]
              go_wp2_with fail
              refine NoPanic.normal ?_
              all_goals go_wp2_with fail
              all_goals
                go_roundw
                case rel =>
                  refine ⟨k + 1, .slice (some ⟨gg, 0, none⟩) ((hsE i (es.take k)).length + 1) cap, by omega, by go_num, Lib.hid ?_, Lib.hid ?_, Lib.hid ?_⟩
                  · exact heap_setCell_same _ W2.heap.size 1 _ _ _ HBX5.out
                  · rw [HT.out, edgeCells_snoc, List.length_append, List.length_singleton]
                    refine HOW5.out.kept (row := some W2.heap.size) ⟨rfl, rfl, rfl, by simp, fun k' _ hk' => heap_setCell_other _ ⟨W2.heap.size, 1, none⟩ k' _ (fun e => hk' (by rw [e]))⟩ ?_
                    exact .inr (Ne.symm (blk_ne HBX5.out HOW5.out (by decide)))
                  · exact HBB5.out.setCell (Nat.le_refl _) _
                case measure => simp [intOf]; omega
        case neg =>
          have hkk : k = es.length := by omega
          subst hkk
          rw [List.take_length] at HO
          obtain ⟨va, vc, hvv⟩ := own_any HO.out
          subst hvv
          have HEH := Lib.hid (own_edges HO.out)
          have HGH := HBX
          obtain ⟨W9, hW9⟩ : ∃ W : World, W = wr := ⟨_, rfl⟩
          subst hW9
          have HB19 : Hid (Below w1.heap.size w1 W9) := Lib.hid (HB.out.trans (HBK.out.mono (by omega)))
          have HBR9 := Lib.hid ((HBR.out.below HBK.out (Nat.le_refl _)).mono (B' := W9.heap.size) hszr)
          have HG9 := Lib.hid ((HB19.out.block _ (by omega)).trans HG1.out)
          have hhl : (hsE i es).length ≤ es.length := List.length_filter_le _ _
          have HVH := Lib.hid (hsE_valid (i := i) HVAL.out)
          have HGHL : Hid (W2.heap.size < W9.heap.size) := Lib.hid (Array.getElem?_eq_some_iff.1 HGH.out).1
          have HST0 : Hid (best0 = rcRow ns.length es i best0 i) := Lib.hid (rcRow_low _ _ _ _ i (Nat.le_refl _)).symm
          clear hk hlt2 HO HBX HBR
          go_wp2_with fail
          clear hg1
          go_loopw [3, 7] (fun bv q wr => ∃ (k : Nat) (best : List Nat), i ≤ k ∧ k ≤ ns.length ∧ q = .int .i64 k ∧ Hid (best = rcRow ns.length es i best0 k) ∧ Hid (RowOf natC wr.heap.size bv best wr) ∧ Hid (best.length ≤ ns.length + 1) ∧ Hid (Below W9.heap.size W9 wr)) (fun _ q _ => ns.length - (intOf q).toNat)
          case atStart => exact ⟨i, best0, by omega, by omega, rfl, HST0, HBR9, HBL, Lib.hid (Below.refl _ _)⟩
          case round =>
            clear HST0 HBR9 HBL
            rename_i bv
            obtain ⟨k, best, hik, hk, rfl, HRC, HBR, HBL, HBM⟩ := hrel
            obtain ⟨ba, bc, hbv, _⟩ := rowOf_open HBR.out
            subst hbv
            have hsm := HBM.out.size
            have hg0 : wr.cell? ⟨w.heap.size, 0, none⟩ = some (.slice na ns.length nc) := cell_of_row _ _ 0 _ _ _ ((HBM.out.block _ (by omega)).trans HG9.out)
            by_cases hlt3 : k < ns.length
            case neg =>
              have hkk : k = ns.length := by omega
              subst hkk
              go_wp2_with fail
              go_roundw
              case rel => exact ⟨i + 1, best, by omega, by go_num, Lib.hid (by rw [rcAll_succ, ← HBE.out]; exact HRC.out), HBR, HBL, Lib.hid (HB19.out.trans (HBM.out.mono (by omega)))⟩
              case measure => simp [intOf]; omega
            case pos =>
              have hk0 : (0 : Int) ≤ (k : Int) := by omega
              have hk1 : (k : Int) < (ns.length : Int) := by omega
              have hh0 : wr.cell? ⟨W2.heap.size, 0, none⟩ = some (.slice na ns.length nc) := cell_of_row _ _ 0 _ _ _ ((HBM.out.block _ HGHL.out).trans HGH.out)
              have hh1 : wr.cell? ⟨W2.heap.size, 1, none⟩ = some (.slice va (hsE i es).length vc) := cell_of_row _ _ 1 _ _ _ ((HBM.out.block _ HGHL.out).trans HGH.out)
              have hed := redge_any na ns.length nc (.slice va (hsE i es).length vc) (hsE i es) (i : Int) (k : Int) wr (by omega) ((HEH.out.below HBM.out (Nat.le_refl _)).mono hsm)
              by_cases hmem : ((i : Int), (k : Int)) ∈ hsE i es
              case neg =>
                rw [decide_eq_false hmem] at hed
                have HED := Lib.hid hed
                have HST : Hid (rcRow ns.length es i best0 (k + 1) = best) := Lib.hid (by rw [rcRow_succ, ← HRC.out]; unfold rcStep; rw [if_neg (fun h => hmem h.1)])
                clear hed hmem
                go_wp2_with fail
                refine HED.out.mono ?_
                rintro e wq ⟨rfl, hbq⟩
                have HBRq : Hid (RowOf natC wq.heap.size (.slice ba best.length bc) best wq) := Lib.hid ((HBR.out.below hbq (Nat.le_refl _)).mono hbq.size)
                have HBCq : Hid (Below W9.heap.size W9 wq) := Lib.hid (HBM.out.trans (hbq.mono hsm))
                clear hbq
                go_wp2_with fail
                go_roundw
                case rel => exact ⟨k + 1, best, by omega, by omega, by go_num, Lib.hid HST.out.symm, HBRq, HBL, HBCq⟩
                case measure => simp [intOf]; omega
              case pos =>
                rw [decide_eq_true hmem] at hed
                have HED := Lib.hid hed
                have HMM := Lib.hid hmem
                clear hed hmem
                go_wp2_with fail
                refine HED.out.mono ?_
                rintro e w10 ⟨rfl, hb10⟩
                have hs10 := hb10.size
                have HB10 : Hid (Below W9.heap.size W9 w10) := Lib.hid (HBM.out.trans (hb10.mono hsm))
                have HBR10 : Hid (RowOf natC w10.heap.size (.slice ba best.length bc) best w10) := Lib.hid ((HBR.out.below hb10 (Nat.le_refl _)).mono hs10)
                have hh0 : w10.cell? ⟨W2.heap.size, 0, none⟩ = some (.slice na ns.length nc) := cell_of_row _ _ 0 _ _ _ ((HB10.out.block _ HGHL.out).trans HGH.out)
                have hh1 : w10.cell? ⟨W2.heap.size, 1, none⟩ = some (.slice va (hsE i es).length vc) := cell_of_row _ _ 1 _ _ _ ((HB10.out.block _ HGHL.out).trans HGH.out)
                have HPW := Lib.hid (rPath_yes na ns.length nc (.slice va (hsE i es).length vc) (hsE i es) k i w10 ((HEH.out.below HB10.out (Nat.le_refl _)).mono HB10.out.size) HVH.out hlt3 hlt)
                clear hb10 HED HBR
                go_wp2_with fail
                refine HPW.out.mono ?_
                rintro e w11 ⟨v11, rfl, hown11, hb11⟩
                have hs11 := hb11.size
                have HB11 : Hid (Below W9.heap.size W9 w11) := Lib.hid (HB10.out.trans (hb11.mono HB10.out.size))
                have HBR11 : Hid (RowOf natC w11.heap.size (.slice ba best.length bc) best w11) := Lib.hid ((HBR10.out.below hb11 (Nat.le_refl _)).mono hs11)
                have hpl := pathF_len HVH.out hlt3 hlt
                have HCLN := Lib.hid (rcand_len (i := i) hlt HVAL.out hlt3)
                clear hb11 HPW HBR10 hh0 hh1
                by_cases hpn : pathF ns.length (hsE i es) k i = []
                case pos =>
                  have HST : Hid (rcRow ns.length es i best0 (k + 1) = best) := Lib.hid (by rw [rcRow_succ, ← HRC.out]; unfold rcStep; rw [if_neg (fun h => h.2 hpn)])
                  obtain ⟨a11, c11, hv11⟩ := own_any hown11
                  rw [hpn, List.length_nil] at hv11
                  subst hv11
                  clear hown11 hpn
                  go_wp2_with fail
                  go_roundw
                  case rel => exact ⟨k + 1, best, by omega, by omega, by go_num, Lib.hid HST.out.symm, HBR11, HBL, HB11⟩
                  case measure => simp [intOf]; omega
                case neg =>
                  have HMP : Hid (((i : Int), (k : Int)) ∈ hsE i es ∧ pathF ns.length (hsE i es) k i ≠ []) := Lib.hid ⟨HMM.out, hpn⟩
                  obtain ⟨L, hL⟩ : ∃ L, L = pathF ns.length (hsE i es) k i := ⟨_, rfl⟩
                  rw [← hL] at hown11 hpn hpl
                  have HLL := Lib.hid hL
                  clear hL
                  obtain ⟨dn, hdn⟩ : ∃ dn, L.length = dn + 1 := ⟨L.length - 1, by have := List.length_pos_iff.2 hpn; omega⟩
                  obtain ⟨g11, c11, hv11, hg11b, hg11l, hg11c⟩ := own_shape hown11 (by omega)
                  subst hv11
                  have HO11 := Lib.hid hown11
                  have hl0 : ¬ (L.length : Int) = 0 := by omega
                  have hl1 : decide ((L.length : Int) = 0) = false := decide_eq_false hl0
                  have hl2 : ((L.length : Int) == 0) = false := by simpa using hl0
                  have hwl : IntKind.i64.wrap ((L.length : Int) - 1) = (dn : Int) := (IntWalk.i64_in _ (by omega)).trans (by omega)
                  have hdn0 : (0 : Int) ≤ (dn : Int) := by omega
                  have hdn1 : (dn : Int) ≤ (L.length : Int) := by omega
                  have hdnc : (dn : Int) ≤ (c11 : Int) := by omega
                  have HDN := Lib.hid hdn
                  have HOB : Hid ((w11.alloc (.cells #[.int .i64 (i : Int)] 3)).ownsRow w11.heap.size 3 1 (.slice (some ⟨w11.heap.size, 0, none⟩) 1 1) 1 [natC i]) := Lib.hid (own_made _ _ 1 [natC i] w11 (Nat.le_refl _) (by decide) rfl)
                  have HNW : Hid (∀ j u, (L.dropLast.map natC)[j]? = some u → (w11.alloc (.cells #[.int .i64 (i : Int)] 3)).cell? ((⟨g11, 0, none⟩ : Addr).add j) = some u) := Lib.hid (fun j u hu => by
                    rw [Addr.add_lit, Nat.zero_add]
                    refine cellA _ (own_cell HO11.out j u ?_)
                    have hjl := (List.getElem?_eq_some_iff.1 hu).1
                    rw [List.length_map, List.length_dropLast] at hjl
                    rw [List.getElem?_map, List.getElem?_dropLast, if_pos hjl] at hu
                    rw [List.getElem?_map]; exact hu)
                  clear hown11 hpn hdn
                  by_cases hki : k = i
                  case pos =>
                    by_cases hbe : best = []
                    case pos =>
                      have e1 : (k : Int) = (i : Int) := by omega
                      have e2 : decide ((k : Int) = (i : Int)) = true := decide_eq_true e1
                      have e3 : ((k : Int) == (i : Int)) = true := by simpa using e1
                      have HCD : Hid (rcand ns.length es i k = [i]) := Lib.hid (by unfold rcand; rw [if_pos hki])
                      have HST : Hid (rcRow ns.length es i best0 (k + 1) = [i]) := Lib.hid (by rw [rcRow_succ, ← HRC.out]; unfold rcStep; rw [if_pos HMP.out, if_pos (.inl hbe), HCD.out])
                      subst hbe
                      rw [List.length_nil] at *
                      go_wp2_with (at_builtin; refine wpList_append_own _ rfl _ _ 26 rfl w11.heap.size 3 j0 (.int .i64 0) 1 8 Try.underlying26 hj0' hy0 hy1 hy2 rfl (by decide) _ 1 _ (by rfl) HOB.out ⟨g11, 0, none⟩ dn _ (L.dropLast.map natC) (by rfl) (by rw [List.length_map, List.length_dropLast, HDN.out]; omega) HNW.out (fun u hu => by obtain ⟨x, _, rfl⟩ := List.mem_map.1 hu; rfl) (by unfold maxLen; omega) (by omega) (by simp) ?_; intro v12 w12 ho12 hg12 _; have HO12 := Lib.hid ho12; have HBG := Lib.hid (((Below.refl w11.heap.size w11).alloc (Nat.le_refl _) (.cells #[.int .i64 (i : Int)] 3)).grown hg12 (by simp) (fun b hb => (HOB.out.lt b hb).1)); clear ho12 hg12; obtain ⟨a12, c12, rfl⟩ := own_any HO12.out)
                      have HC12 : Hid (RowOf natC w12.heap.size (.slice a12 (1 + dn) c12) (i :: L.dropLast) w12) := Lib.hid (own_row (l := i :: L.dropLast) HO12.out).2
                      have HB12 : Hid (Below W9.heap.size W9 w12) := Lib.hid (HB11.out.trans (HBG.out.mono HB11.out.size))
                      have HCR : Hid (RowOf natC (w12.alloc (.cells #[.int .i64 (i : Int)] 3)).heap.size (.slice (some ⟨w12.heap.size, 0, none⟩) 1 1) [i] (w12.alloc (.cells #[.int .i64 (i : Int)] 3))) := Lib.hid (.inr ⟨w12.heap.size, 0, 1, rfl, by simp, fun j y hy => by
                        match j, hy with
                        | 0, hy => cases hy; exact cell_of_row _ _ 0 _ _ _ (World.alloc_heap_new w12 _)
                        | j + 1, hy => simp at hy⟩)
                      have HBC : Hid (Below W9.heap.size W9 (w12.alloc (.cells #[.int .i64 (i : Int)] 3))) := Lib.hid (HB12.out.alloc HB12.out.size _)
                      have HCL : Hid ([i].length ≤ ns.length + 1) := Lib.hid (by simp)
                      go_roundw
                      case rel => exact ⟨k + 1, [i], by omega, by omega, by go_num, Lib.hid HST.out.symm, HCR, HCL, HBC⟩
                      case measure => simp [intOf]; omega
                    case neg =>
                      have e1 : (k : Int) = (i : Int) := by omega
                      have e2 : decide ((k : Int) = (i : Int)) = true := decide_eq_true e1
                      have e3 : ((k : Int) == (i : Int)) = true := by simpa using e1
                      have HCD : Hid (rcand ns.length es i k = [i]) := Lib.hid (by unfold rcand; rw [if_pos hki])
                      have hb0 : ¬ (best.length : Int) = 0 := fun h => hbe (List.length_eq_zero_iff.1 (by omega))
                      have hb1 : decide ((best.length : Int) = 0) = false := decide_eq_false hb0
                      have hb2 : ((best.length : Int) == 0) = false := by simpa using hb0
                      go_wp2_with (at_builtin; refine wpList_append_own _ rfl _ _ 26 rfl w11.heap.size 3 j0 (.int .i64 0) 1 8 Try.underlying26 hj0' hy0 hy1 hy2 rfl (by decide) _ 1 _ (by rfl) HOB.out ⟨g11, 0, none⟩ dn _ (L.dropLast.map natC) (by rfl) (by rw [List.length_map, List.length_dropLast, HDN.out]; omega) HNW.out (fun u hu => by obtain ⟨x, _, rfl⟩ := List.mem_map.1 hu; rfl) (by unfold maxLen; omega) (by omega) (by simp) ?_; intro v12 w12 ho12 hg12 _; have HO12 := Lib.hid ho12; have HBG := Lib.hid (((Below.refl w11.heap.size w11).alloc (Nat.le_refl _) (.cells #[.int .i64 (i : Int)] 3)).grown hg12 (by simp) (fun b hb => (HOB.out.lt b hb).1)); clear ho12 hg12; obtain ⟨a12, c12, rfl⟩ := own_any HO12.out)
                      have HC12 : Hid (RowOf natC w12.heap.size (.slice a12 (1 + dn) c12) (i :: L.dropLast) w12) := Lib.hid (own_row (l := i :: L.dropLast) HO12.out).2
                      have HB12 : Hid (Below W9.heap.size W9 w12) := Lib.hid (HB11.out.trans (HBG.out.mono HB11.out.size))
                      have HCR : Hid (RowOf natC (w12.alloc (.cells #[.int .i64 (i : Int)] 3)).heap.size (.slice (some ⟨w12.heap.size, 0, none⟩) 1 1) [i] (w12.alloc (.cells #[.int .i64 (i : Int)] 3))) := Lib.hid (.inr ⟨w12.heap.size, 0, 1, rfl, by simp, fun j y hy => by
                        match j, hy with
                        | 0, hy => cases hy; exact cell_of_row _ _ 0 _ _ _ (World.alloc_heap_new w12 _)
                        | j + 1, hy => simp at hy⟩)
                      have HBC : Hid (Below W9.heap.size W9 (w12.alloc (.cells #[.int .i64 (i : Int)] 3))) := Lib.hid (HB12.out.alloc HB12.out.size _)
                      have HCL : Hid ([i].length ≤ ns.length + 1) := Lib.hid (by simp)
                      have HBRx : Hid (RowOf natC (w12.alloc (.cells #[.int .i64 (i : Int)] 3)).heap.size (.slice ba best.length bc) best (w12.alloc (.cells #[.int .i64 (i : Int)] 3))) := Lib.hid ((HBR11.out.below (HBG.out.alloc HBG.out.size _) (Nat.le_refl _)).mono (by have := HBG.out.size; simp; try omega))
                      have hls := Less_any (.slice (some ⟨w12.heap.size, 0, none⟩) 1 1) (.slice ba best.length bc) (w12.alloc (.cells #[.int .i64 (i : Int)] 3)).heap.size ([i]) best (w12.alloc (.cells #[.int .i64 (i : Int)] 3)) (by have := HCL.out; omega) (by have := HBL.out; omega) HCR.out HBRx.out
                      cases hl : lessL ([i]) best with
                      | true =>
                        have HST : Hid (rcRow ns.length es i best0 (k + 1) = [i]) := Lib.hid (by rw [rcRow_succ, ← HRC.out]; unfold rcStep; rw [if_pos HMP.out, HCD.out, if_pos (.inr hl)])
                        rw [hl] at hls
                        refine hls.mono ?_
                        rintro e wq ⟨rfl, q, hwq⟩
                        have HCRq : Hid (RowOf natC wq.heap.size (.slice (some ⟨w12.heap.size, 0, none⟩) 1 1) ([i]) wq) := Lib.hid (by rw [hwq]; exact HCR.out.below (below_drewN (Below.refl _ _) q) (Nat.le_refl _))
                        have HBCq : Hid (Below W9.heap.size W9 wq) := Lib.hid (by rw [hwq]; exact below_drewN HBC.out q)
                        clear hwq hls hl
                        go_wp2_with fail
                        go_roundw
                        case rel => exact ⟨k + 1, [i], by omega, by omega, by go_num, Lib.hid HST.out.symm, HCRq, HCL, HBCq⟩
                        case measure => simp [intOf]; omega
                      | false =>
                        have HST : Hid (rcRow ns.length es i best0 (k + 1) = best) := Lib.hid (by rw [rcRow_succ, ← HRC.out]; unfold rcStep; rw [if_pos HMP.out, HCD.out, if_neg (by rintro (h | h); exact hbe h; rw [hl] at h; cases h)])
                        rw [hl] at hls
                        refine hls.mono ?_
                        rintro e wq ⟨rfl, q, hwq⟩
                        have HBRq : Hid (RowOf natC wq.heap.size (.slice ba best.length bc) best wq) := Lib.hid (by rw [hwq]; exact HBRx.out.below (below_drewN (Below.refl _ _) q) (Nat.le_refl _))
                        have HBCq : Hid (Below W9.heap.size W9 wq) := Lib.hid (by rw [hwq]; exact below_drewN HBC.out q)
                        clear hwq hls hl
                        go_wp2_with fail
                        go_roundw
                        case rel => exact ⟨k + 1, best, by omega, by omega, by go_num, Lib.hid HST.out.symm, HBRq, HBL, HBCq⟩
                        case measure => simp [intOf]; omega
                  case neg =>
                    by_cases hbe : best = []
                    case pos =>
                      have e1 : ¬ (k : Int) = (i : Int) := by omega
                      have e2 : decide ((k : Int) = (i : Int)) = false := decide_eq_false e1
                      have e3 : ((k : Int) == (i : Int)) = false := by simpa using e1
                      have HCD : Hid (rcand ns.length es i k = i :: L.dropLast) := Lib.hid (by unfold rcand; rw [if_neg hki, HLL.out])
                      have HST : Hid (rcRow ns.length es i best0 (k + 1) = i :: L.dropLast) := Lib.hid (by rw [rcRow_succ, ← HRC.out]; unfold rcStep; rw [if_pos HMP.out, if_pos (.inl hbe), HCD.out])
                      subst hbe
                      rw [List.length_nil] at *
                      go_wp2_with (at_builtin; refine wpList_append_own _ rfl _ _ 26 rfl w11.heap.size 3 j0 (.int .i64 0) 1 8 Try.underlying26 hj0' hy0 hy1 hy2 rfl (by decide) _ 1 _ (by rfl) HOB.out ⟨g11, 0, none⟩ dn _ (L.dropLast.map natC) (by rfl) (by rw [List.length_map, List.length_dropLast, HDN.out]; omega) HNW.out (fun u hu => by obtain ⟨x, _, rfl⟩ := List.mem_map.1 hu; rfl) (by unfold maxLen; omega) (by omega) (by simp) ?_; intro v12 w12 ho12 hg12 _; have HO12 := Lib.hid ho12; have HBG := Lib.hid (((Below.refl w11.heap.size w11).alloc (Nat.le_refl _) (.cells #[.int .i64 (i : Int)] 3)).grown hg12 (by simp) (fun b hb => (HOB.out.lt b hb).1)); clear ho12 hg12; obtain ⟨a12, c12, rfl⟩ := own_any HO12.out)
                      have HC12 : Hid (RowOf natC w12.heap.size (.slice a12 (1 + dn) c12) (i :: L.dropLast) w12) := Lib.hid (own_row (l := i :: L.dropLast) HO12.out).2
                      have HB12 : Hid (Below W9.heap.size W9 w12) := Lib.hid (HB11.out.trans (HBG.out.mono HB11.out.size))
                      have HCR := HC12
                      have HBC := HB12
                      have HCL : Hid ((i :: L.dropLast).length ≤ ns.length + 1) := Lib.hid (by have := HCLN.out; rw [HCD.out] at this; exact this)
                      go_roundw
                      case rel => exact ⟨k + 1, i :: L.dropLast, by omega, by omega, by go_num, Lib.hid HST.out.symm, HCR, HCL, HBC⟩
                      case measure => simp [intOf]; omega
                    case neg =>
                      have e1 : ¬ (k : Int) = (i : Int) := by omega
                      have e2 : decide ((k : Int) = (i : Int)) = false := decide_eq_false e1
                      have e3 : ((k : Int) == (i : Int)) = false := by simpa using e1
                      have HCD : Hid (rcand ns.length es i k = i :: L.dropLast) := Lib.hid (by unfold rcand; rw [if_neg hki, HLL.out])
                      have hb0 : ¬ (best.length : Int) = 0 := fun h => hbe (List.length_eq_zero_iff.1 (by omega))
                      have hb1 : decide ((best.length : Int) = 0) = false := decide_eq_false hb0
                      have hb2 : ((best.length : Int) == 0) = false := by simpa using hb0
                      go_wp2_with (at_builtin; refine wpList_append_own _ rfl _ _ 26 rfl w11.heap.size 3 j0 (.int .i64 0) 1 8 Try.underlying26 hj0' hy0 hy1 hy2 rfl (by decide) _ 1 _ (by rfl) HOB.out ⟨g11, 0, none⟩ dn _ (L.dropLast.map natC) (by rfl) (by rw [List.length_map, List.length_dropLast, HDN.out]; omega) HNW.out (fun u hu => by obtain ⟨x, _, rfl⟩ := List.mem_map.1 hu; rfl) (by unfold maxLen; omega) (by omega) (by simp) ?_; intro v12 w12 ho12 hg12 _; have HO12 := Lib.hid ho12; have HBG := Lib.hid (((Below.refl w11.heap.size w11).alloc (Nat.le_refl _) (.cells #[.int .i64 (i : Int)] 3)).grown hg12 (by simp) (fun b hb => (HOB.out.lt b hb).1)); clear ho12 hg12; obtain ⟨a12, c12, rfl⟩ := own_any HO12.out)
                      have HC12 : Hid (RowOf natC w12.heap.size (.slice a12 (1 + dn) c12) (i :: L.dropLast) w12) := Lib.hid (own_row (l := i :: L.dropLast) HO12.out).2
                      have HB12 : Hid (Below W9.heap.size W9 w12) := Lib.hid (HB11.out.trans (HBG.out.mono HB11.out.size))
                      have HCR := HC12
                      have HBC := HB12
                      have HCL : Hid ((i :: L.dropLast).length ≤ ns.length + 1) := Lib.hid (by have := HCLN.out; rw [HCD.out] at this; exact this)
                      have HBRx : Hid (RowOf natC w12.heap.size (.slice ba best.length bc) best w12) := Lib.hid ((HBR11.out.below (HBG.out) (Nat.le_refl _)).mono (by have := HBG.out.size; simp; try omega))
                      have hls := Less_any (.slice a12 (1 + dn) c12) (.slice ba best.length bc) w12.heap.size (i :: L.dropLast) best w12 (by have := HCL.out; omega) (by have := HBL.out; omega) HCR.out HBRx.out
                      cases hl : lessL (i :: L.dropLast) best with
                      | true =>
                        have HST : Hid (rcRow ns.length es i best0 (k + 1) = i :: L.dropLast) := Lib.hid (by rw [rcRow_succ, ← HRC.out]; unfold rcStep; rw [if_pos HMP.out, HCD.out, if_pos (.inr hl)])
                        rw [hl] at hls
                        refine hls.mono ?_
                        rintro e wq ⟨rfl, q, hwq⟩
                        have HCRq : Hid (RowOf natC wq.heap.size (.slice a12 (1 + dn) c12) (i :: L.dropLast) wq) := Lib.hid (by rw [hwq]; exact HCR.out.below (below_drewN (Below.refl _ _) q) (Nat.le_refl _))
                        have HBCq : Hid (Below W9.heap.size W9 wq) := Lib.hid (by rw [hwq]; exact below_drewN HBC.out q)
                        clear hwq hls hl
                        go_wp2_with fail
                        go_roundw
                        case rel => exact ⟨k + 1, i :: L.dropLast, by omega, by omega, by go_num, Lib.hid HST.out.symm, HCRq, HCL, HBCq⟩
                        case measure => simp [intOf]; omega
                      | false =>
                        have HST : Hid (rcRow ns.length es i best0 (k + 1) = best) := Lib.hid (by rw [rcRow_succ, ← HRC.out]; unfold rcStep; rw [if_pos HMP.out, HCD.out, if_neg (by rintro (h | h); exact hbe h; rw [hl] at h; cases h)])
                        rw [hl] at hls
                        refine hls.mono ?_
                        rintro e wq ⟨rfl, q, hwq⟩
                        have HBRq : Hid (RowOf natC wq.heap.size (.slice ba best.length bc) best wq) := Lib.hid (by rw [hwq]; exact HBRx.out.below (below_drewN (Below.refl _ _) q) (Nat.le_refl _))
                        have HBCq : Hid (Below W9.heap.size W9 wq) := Lib.hid (by rw [hwq]; exact below_drewN HBC.out q)
                        clear hwq hls hl
                        go_wp2_with fail
                        go_roundw
                        case rel => exact ⟨k + 1, best, by omega, by omega, by go_num, Lib.hid HST.out.symm, HBRq, HBL, HBCq⟩
                        case measure => simp [intOf]; omega
end Go.Proofs.Ytlcgbkeggmaljaa
