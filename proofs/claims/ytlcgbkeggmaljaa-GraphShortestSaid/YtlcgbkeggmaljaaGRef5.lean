/- Contracts of the reference's distances and edge. -/
import Derived.Test.YtlcgbkeggmaljaaGPlainRef
namespace Go.Proofs.Ytlcgbkeggmaljaa
set_option linter.unusedVariables false
set_option linter.unusedSimpArgs false
open Go Go.RowKit

set_option maxRecDepth 100000 in
set_option maxHeartbeats 4000000 in
theorem rdist_any (a : Option Addr) (N c : Nat) (ev : Value) (es : List (Int × Int)) (to : Nat) (w : World) (hv : validG N es = true) (hE : EdgesOf w.heap.size ev es w) (hto : to < N) :
    Calls Try.prog 48 #[.agg #[.slice a N c, ev], natC to] w fun e w' => ∃ g cap d, e = .returned (.slice (some ⟨g, 0, none⟩) N cap) ∧ w'.ownsRow w.heap.size 3 1 (.slice (some ⟨g, 0, none⟩) N cap) N (d.map intC) ∧ DistR (sucs N (es.map swapE)) 0 to d ∧ Below w.heap.size w w' := by
  obtain ⟨hN, hes⟩ := validG_n hv
  obtain ⟨ao, ec, rfl, hE2⟩ := hE
  have HE := Lib.hid hE2
  have HV := Lib.hid hv
  obtain ⟨i0, hi0', hz0, hz1, hz2⟩ := info_parts info_ints
  have HG0 : Hid (((w.alloc (.cells #[.slice a N c, .slice ao es.length ec] 25)).alloc (.cells #[] 3)).heap[w.heap.size]? = some (.cells #[.slice a N c, .slice ao es.length ec] 25 (0, 0))) := Lib.hid ((Below.heap_alloc _ _ _ (by simp)).trans (World.alloc_heap_new w _))
  have HB0 : Hid (Below w.heap.size w ((w.alloc (.cells #[.slice a N c, .slice ao es.length ec] 25)).alloc (.cells #[] 3))) := Lib.hid (((Below.refl _ _).alloc (Nat.le_refl _) _).alloc (by simp) _)
  have HO0 : Hid (((w.alloc (.cells #[.slice a N c, .slice ao es.length ec] 25)).alloc (.cells #[] 3)).ownsRow w.heap.size 3 1 (.slice (some ⟨w.heap.size + 1, 0, none⟩) 0 0) 0 []) := Lib.hid (by
    have := own_made w.heap.size 3 0 [] (w.alloc (.cells #[.slice a N c, .slice ao es.length ec] 25)) (by simp) (by decide) rfl
    rwa [World.size_alloc] at this)
  clear hE2 hv
  go_enter Try.func48, Try.ntmps48
  go_wp2_with fail
  go_loopw [5, 6] (fun o q wr => ∃ k : Nat, k ≤ N ∧ q = .int .i64 k ∧ Hid (wr.ownsRow w.heap.size 3 1 o k (List.replicate k (intC (-1)))) ∧ Hid (wr.heap[w.heap.size]? = some (.cells #[.slice a N c, .slice ao es.length ec] 25 (0, 0))) ∧ Hid (Below w.heap.size w wr)) (fun _ q _ => N - (intOf q).toNat)
  case atStart => exact ⟨0, by omega, rfl, HO0, HG0, HB0⟩
  case round =>
    clear HO0 HG0 HB0
    obtain ⟨k, hk, rfl, HO, HG, HB⟩ := hrel
    have hgl : w.heap.size < wr.heap.size := (Array.getElem?_eq_some_iff.1 HG.out).1
    have hg0 : wr.cell? ⟨w.heap.size, 0, none⟩ = some (.slice a N c) := cell_of_row _ _ 0 _ _ _ HG.out
    have hg1 : wr.cell? ⟨w.heap.size, 1, none⟩ = some (.slice ao es.length ec) := cell_of_row _ _ 1 _ _ _ HG.out
    obtain ⟨oa, oc, rfl⟩ := own_any HO.out
    by_cases hlt : k < N
    · have hk1 : (k : Int) < (N : Int) := by omega
      go_wp2_with (at_builtin; refine wpList_append_own _ rfl _ _ 26 rfl w.heap.size 3 i0 (.int .i64 0) 1 8 Try.underlying26 hi0' hz0 hz1 hz2 rfl (by decide) _ _ _ (by rfl) (HO.out.alloc _) ⟨wr.heap.size, 0, none⟩ 1 1 [.int .i64 (-1)] (by rfl) (by rfl) (World.news_of_block (cs := #[.int .i64 (-1)]) (t := 3) (fr := (0, 0)) (heap_alloc_new wr _)) (by simp [Value.oneCell']) (by unfold maxLen; omega) (by omega) (by simp; omega) ?_; intro v' w5 hown' hgrow _)
      go_roundw
      case rel =>
        refine ⟨k + 1, by omega, by go_num, Lib.hid (by rw [List.replicate_succ']; exact hown'), Lib.hid ?_, Lib.hid ((HB.out.alloc (by omega) _).grown hgrow (by simp; omega) (fun j hj => (HO.out.lt j hj).1))⟩
        refine (hgrow.block _ (by rw [World.size_alloc]; omega) (blk_ne HG.out HO.out (by decide))).trans ((Below.heap_alloc _ _ _ hgl).trans HG.out)
      case measure => simp [intOf]; omega
    · have hkk : k = N := by omega
      subst hkk
      obtain ⟨g, cap, hv, hgb, hgl2, _⟩ := own_shape HO.out (by omega)
      cases hv
      have ht0 : (0 : Int) ≤ (to : Int) := by omega
      have ht1 : (to : Int) < (k : Int) := by omega
      have hct := own_cell HO.out to (intC (-1)) (by rw [List.getElem?_replicate, if_pos hto])
      have hft := HO.out.frozenAt to
      have hne : g ≠ w.heap.size := fun e => blk_ne HG.out HO.out (by decide) (by rw [e]; rfl)
      have hst := HO.out.stored to (intC 0)
      obtain ⟨hrd, hrt⟩ := RD.start (es := es) hto
      have HO1 : Hid ((wr.setCell ⟨g, to, none⟩ (.int .i64 0)).ownsRow w.heap.size 3 1 (.slice (some ⟨g, 0, none⟩) k oc) k (((List.replicate k (-1 : Int)).set to 0).map intC)) := Lib.hid (by rw [List.map_set, List.map_replicate]; exact hst.1)
      have HG1 : Hid ((wr.setCell ⟨g, to, none⟩ (.int .i64 0)).heap[w.heap.size]? = some (.cells #[.slice a k c, .slice ao es.length ec] 25 (0, 0))) := Lib.hid ((heap_setCell_other _ _ _ _ (fun e => hne (by exact (show w.heap.size = g from e).symm))).trans HG.out)
      have HB1 : Hid (Below w.heap.size w (wr.setCell ⟨g, to, none⟩ (.int .i64 0))) := Lib.hid (HB.out.setCell (by exact hgb) _)
      have HRD := Lib.hid hrd
      have HRT := Lib.hid hrt
      clear hst hrd hrt HO HG HB hg1
      go_wp2_with fail
      obtain ⟨wo, hwo⟩ : ∃ wo : World, wo = wr.setCell ⟨g, to, none⟩ (.int .i64 0) := ⟨_, rfl⟩
      rw [← hwo]
      rw [← hwo] at HO1 HG1 HB1
      clear hwo hct hft hg0
      go_loopw [7] (fun q wr => ∃ (n : Nat) (d : List Int), n ≤ k ∧ q = .int .i64 n ∧ Hid (RD k es to n [] d ∧ ∀ a, gD d a ≤ (n : Int)) ∧ Hid (wr.ownsRow w.heap.size 3 1 (.slice (some ⟨g, 0, none⟩) k oc) k (d.map intC)) ∧ Hid (wr.heap[w.heap.size]? = some (.cells #[.slice a k c, .slice ao es.length ec] 25 (0, 0))) ∧ Hid (Below w.heap.size w wr)) (fun q _ => k - (intOf q).toNat)
      case atStart => exact ⟨0, _, by omega, rfl, Lib.hid ⟨HRD.out, HRT.out⟩, HO1, HG1, HB1⟩
      case round =>
        clear HO1 HG1 HB1 HRD HRT
        obtain ⟨n, d, hn, rfl, HR, HO, HG, HB⟩ := hrel
        have hg0 : wr.cell? ⟨w.heap.size, 0, none⟩ = some (.slice a k c) := cell_of_row _ _ 0 _ _ _ HG.out
        by_cases hnl : n < k
        · have hn1 : (n : Int) < (k : Int) := by omega
          go_wp2_with fail
          obtain ⟨wp, rfl⟩ : ∃ wp : World, wp = wr := ⟨_, rfl⟩
          go_loopw [8] (fun q wr => ∃ (m : Nat) (d : List Int), m ≤ es.length ∧ q = .int .i64 m ∧ Hid (RD k es to n (es.take m) d ∧ ∀ a, gD d a ≤ (n : Int) + 1) ∧ Hid (wr.ownsRow w.heap.size 3 1 (.slice (some ⟨g, 0, none⟩) k oc) k (d.map intC)) ∧ Hid (wr.heap[w.heap.size]? = some (.cells #[.slice a k c, .slice ao es.length ec] 25 (0, 0))) ∧ Hid (Below w.heap.size w wr)) (fun q _ => es.length - (intOf q).toNat)
          case atStart => exact ⟨0, d, by omega, rfl, Lib.hid ⟨by simpa using HR.out.1, fun a => by have := HR.out.2 a; omega⟩, HO, HG, HB⟩
          case round =>
            clear HR HO HG HB hg0
            obtain ⟨m, d, hm, rfl, HR, HO, HG, HB⟩ := hrel
            have hgl : w.heap.size < wr.heap.size := (Array.getElem?_eq_some_iff.1 HG.out).1
            have hg1 : wr.cell? ⟨w.heap.size, 1, none⟩ = some (.slice ao es.length ec) := cell_of_row _ _ 1 _ _ _ HG.out
            have hdl := HR.out.1.len
            by_cases hlt2 : m < es.length
            · have hm0 : (0 : Int) ≤ (m : Int) := by omega
              have hm1 : (m : Int) < (es.length : Int) := by omega
              obtain ⟨b, off, rfl, hb, hc1, hc2⟩ := HE.out m es[m] (by simp [hlt2])
              have hc1 := (HB.out.cell (p := ⟨b, off + m * 2, none⟩) hb).trans hc1
              have hc2 := (HB.out.cell (p := ⟨b, off + m * 2 + 1, none⟩) hb).trans hc2
              have HT : Hid (es.take (m + 1) = es.take m ++ [es[m]]) := Lib.hid (List.take_succ_eq_append_getElem hlt2)
              have hed := validG_edge HV.out (List.getElem_mem hlt2)
              have HS := Lib.hid (HR.out.1.step es[m] (List.getElem_mem hlt2) hed HR.out.2)
              obtain ⟨⟨x1, x2⟩, hx⟩ : ∃ x, x = es[m] := ⟨_, rfl⟩
              rw [← hx] at hc1 hc2 hed HT HS
              clear hx
              obtain ⟨i, rfl⟩ : ∃ i : Nat, x1 = (i : Int) := ⟨x1.toNat, by simp at hed; omega⟩
              obtain ⟨j, rfl⟩ : ∃ j : Nat, x2 = (j : Int) := ⟨x2.toNat, by simp at hed; omega⟩
              simp only at hc1 hc2 hed
              obtain ⟨hi0, hi1, hj0, hj1⟩ := hed
              have hoi := own_cell HO.out i (intC (gD d i)) (by rw [List.getElem?_map, gD_get (by omega)]; rfl)
              have hoj := own_cell HO.out j (intC (gD d j)) (by rw [List.getElem?_map, gD_get (by omega)]; rfl)
              have hci := cellA (.cells #[.int .i64 (i : Int), .int .i64 (j : Int)] 39) hoi
              have hcj := cellA (.cells #[.int .i64 (i : Int), .int .i64 (j : Int)] 39) hoj
              have hfi := frozA (.cells #[.int .i64 (i : Int), .int .i64 (j : Int)] 39) hoi (HO.out.frozenAt i)
              have HOA : Hid ((wr.alloc (.cells #[.int .i64 (i : Int), .int .i64 (j : Int)] 39)).ownsRow w.heap.size 3 1 (.slice (some ⟨g, 0, none⟩) k oc) k (d.map intC)) := Lib.hid (HO.out.alloc _)
              have HGA : Hid ((wr.alloc (.cells #[.int .i64 (i : Int), .int .i64 (j : Int)] 39)).heap[w.heap.size]? = some (.cells #[.slice a k c, .slice (some ⟨b, off, none⟩) es.length ec] 25 (0, 0))) := Lib.hid ((Below.heap_alloc _ _ _ hgl).trans HG.out)
              have HBA : Hid (Below w.heap.size w (wr.alloc (.cells #[.int .i64 (i : Int), .int .i64 (j : Int)] 39))) := Lib.hid (HB.out.alloc (by omega) _)
              have HSD : Hid (rdstep n d ((i : Int), (j : Int)) = if gD d j = (n : Int) ∧ gD d i < 0 then d.set i ((n : Int) + 1) else d) := Lib.hid rfl
              have hgw : g < wr.heap.size := (HO.out.lt g rfl).2
              have hne1 : g ≠ wr.heap.size := by omega
              have hne2 : wr.heap.size ≠ g := by omega
              obtain ⟨vi, hvi⟩ : ∃ x, x = gD d i := ⟨_, rfl⟩
              obtain ⟨vj, hvj⟩ : ∃ x, x = gD d j := ⟨_, rfl⟩
              rw [← hvi] at hci
              rw [← hvj] at hcj
              rw [← hvi, ← hvj] at HSD
              clear hvi hvj hoi hoj
              have hw1 : IntKind.i64.wrap ((n : Int) + 1) = (n : Int) + 1 := IntWalk.i64_in _ (by omega)
              by_cases q1 : vj = (n : Int)
              · have p1 : decide (vj = (n : Int)) = true := decide_eq_true q1
                by_cases q2 : vi < 0
                · have p2 : decide (vi < 0) = true := decide_eq_true q2
                  have HD := Lib.hid (HSD.out.trans (if_pos ⟨q1, q2⟩))
                  subst q1
                  clear HSD
                  go_wp2_with fail
                  go_roundw
                  case rel =>
                    have hst := HO.out.stored i (intC ((n : Int) + 1))
                    have hbw := (HO.out.lt g rfl).1
                    refine ⟨m + 1, d.set i ((n : Int) + 1), by omega, by go_num, Lib.hid (by rw [HT.out, ← HD.out]; exact HS.out), Lib.hid (by rw [List.map_set]; exact hst.1.alloc _), Lib.hid ((Below.heap_alloc _ _ _ (by rw [World.size_setCell]; exact hgl)).trans ((heap_setCell_other _ _ _ _ (fun e => hne (by exact (show w.heap.size = g from e).symm))).trans HG.out)), Lib.hid ((HB.out.setCell (by exact hbw) _).alloc (by rw [World.size_setCell]; omega) _)⟩
                  case measure => simp [intOf]; omega
                · have p2 : decide (vi < 0) = false := decide_eq_false q2
                  have HD := Lib.hid (HSD.out.trans (if_neg (fun h => q2 h.2)))
                  subst q1
                  clear HSD
                  go_wp2_with fail
                  go_roundw
                  case rel => exact ⟨m + 1, d, by omega, by go_num, Lib.hid (by have := HS.out; rw [HD.out] at this; rw [HT.out]; exact this), HOA, HGA, HBA⟩
                  case measure => simp [intOf]; omega
              · have p1 : decide (vj = (n : Int)) = false := decide_eq_false q1
                have HD := Lib.hid (HSD.out.trans (if_neg (fun h => q1 h.1)))
                clear HSD
                go_wp2_with fail
                go_roundw
                case rel => exact ⟨m + 1, d, by omega, by go_num, Lib.hid (by have := HS.out; rw [HD.out] at this; rw [HT.out]; exact this), HOA, HGA, HBA⟩
                case measure => simp [intOf]; omega
            · have hmm : m = es.length := by omega
              subst hmm
              have HR2 : Hid (RD k es to (n + 1) [] d ∧ ∀ a, gD d a ≤ ((n + 1 : Nat) : Int)) := Lib.hid ⟨by have := HR.out.1; rw [List.take_length] at this; exact this.next, fun a => by have := HR.out.2 a; omega⟩
              go_wp2_with fail
              go_roundw
              case rel => exact ⟨n + 1, d, by omega, by go_num, HR2, HO, HG, HB⟩
              case measure => simp [intOf]; omega
        · have hnn : n = k := by omega
          subst hnn
          have HDS := Lib.hid (HR.out.1.dist HV.out)
          go_wp2_with fail
          go_ret
          exact ⟨g, oc, d, rfl, HO.out, HDS.out, HB.out⟩
end Go.Proofs.Ytlcgbkeggmaljaa
