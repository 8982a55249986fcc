/- Contracts of the reference's distances and edge. Contracts of the reference's edge and Path. -/
import Derived.Test.YtenfkejbndifdaaGreatDoorZJ
namespace Go.Proofs.YtenfkejbndifdaaGreatDoor
set_option linter.unusedVariables false
set_option linter.unusedSimpArgs false
open Go Go.RowKit

set_option maxRecDepth 100000 in
set_option maxHeartbeats 4000000 in
theorem rdist_any (a : Option Addr) (N c : Nat) (ev : Value) (es : List (Int × Int)) (tgt : Nat) (w : World) (hv : validG N es = true) (hE : EdgesOf w.heap.size ev es w) (hto : tgt < N) :
    Calls Tryz.prog 109 #[.agg #[.slice a N c, ev], natC tgt] w fun e w' => ∃ g cap d, e = .returned (.slice (some ⟨g, 0, none⟩) N cap) ∧ w'.ownsRow w.heap.size 3 1 (.slice (some ⟨g, 0, none⟩) N cap) N (d.map intC) ∧ DistR (sucs N (es.map swapE)) 0 tgt d ∧ Below w.heap.size w w' := by
  obtain ⟨hN, hes⟩ := validG_n hv
  obtain ⟨ao, ec, rfl, hE2⟩ := hE
  have HE := Lib.hid hE2
  have HV := Lib.hid hv
  obtain ⟨i0, hi0', hz0, hz1, hz2⟩ := info_parts info_ints
  have HG0 : Hid (((w.alloc (.cells #[.slice a N c, .slice ao es.length ec] 100)).alloc (.cells #[] 3)).heap[w.heap.size]? = some (.cells #[.slice a N c, .slice ao es.length ec] 100 (0, 0))) := Lib.hid ((Below.heap_alloc _ _ _ (by simp)).trans (World.alloc_heap_new w _))
  have HB0 : Hid (Below w.heap.size w ((w.alloc (.cells #[.slice a N c, .slice ao es.length ec] 100)).alloc (.cells #[] 3))) := Lib.hid (((Below.refl _ _).alloc (Nat.le_refl _) _).alloc (by simp) _)
  have HO0 : Hid (((w.alloc (.cells #[.slice a N c, .slice ao es.length ec] 100)).alloc (.cells #[] 3)).ownsRow w.heap.size 3 1 (.slice (some ⟨w.heap.size + 1, 0, none⟩) 0 0) 0 []) := Lib.hid (by
    have := own_made w.heap.size 3 0 [] (w.alloc (.cells #[.slice a N c, .slice ao es.length ec] 100)) (by simp) (by decide) rfl
    rwa [World.size_alloc] at this)
  clear hE2 hv
  go_enter Tryz.func109, Tryz.ntmps109
  go_wp2_with fail
  go_loopw [5, 6] (fun o q wr => ∃ k : Nat, k ≤ N ∧ q = .int .i64 k ∧ Hid (wr.ownsRow w.heap.size 3 1 o k (List.replicate k (intC (-1)))) ∧ Hid (wr.heap[w.heap.size]? = some (.cells #[.slice a N c, .slice ao es.length ec] 100 (0, 0))) ∧ Hid (Below w.heap.size w wr)) (fun _ q _ => N - (intOf q).toNat)
  case atStart => exact ⟨0, by omega, rfl, HO0, HG0, HB0⟩
  case round =>
    clear HO0 HG0 HB0
    obtain ⟨k, hk, rfl, HO, HG, HB⟩ := hrel
    have hgl : w.heap.size < wr.heap.size := (Array.getElem?_eq_some_iff.1 HG.out).1
    have hg0 : wr.cell? ⟨w.heap.size, 0, none⟩ = some (.slice a N c) := cell_of_row _ _ 0 _ _ _ HG.out
    have hg1 : wr.cell? ⟨w.heap.size, 1, none⟩ = some (.slice ao es.length ec) := cell_of_row _ _ 1 _ _ _ HG.out
    obtain ⟨oa, oc, rfl⟩ := own_any HO.out
    by_cases hlt : k < N
    · have hk1 : (k : Int) < (N : Int) := by omega
      go_wp2_with (at_builtin; refine wpList_append_own _ rfl _ _ 79 rfl w.heap.size 3 i0 (.int .i64 0) 1 8 Tryz.underlying79 hi0' hz0 hz1 hz2 rfl (by decide) _ _ _ (by rfl) (HO.out.alloc _) ⟨wr.heap.size, 0, none⟩ 1 1 [.int .i64 (-1)] (by rfl) (by rfl) (World.news_of_block (cs := #[.int .i64 (-1)]) (t := 3) (fr := (0, 0)) (heap_alloc_new wr _)) (by simp [Value.oneCell']) (by unfold maxLen; omega) (by omega) (by simp; omega) ?_; intro v' w5 hown' hgrow _)
      go_roundw
      case rel =>
        refine ⟨k + 1, by omega, by go_num, Lib.hid (by rw [List.replicate_succ']; exact hown'), Lib.hid ?_, Lib.hid ((HB.out.alloc (by omega) _).grown hgrow (by simp; omega) (fun j hj => (HO.out.lt j hj).1))⟩
        refine (hgrow.block _ (by rw [World.size_alloc]; omega) (blk_ne HG.out HO.out (by decide))).trans ((Below.heap_alloc _ _ _ hgl).trans HG.out)
      case measure => simp [intOf]; omega
    · have hkk : k = N := by omega
      subst hkk
      obtain ⟨g, cap, hv, hgb, hgl2, _⟩ := own_shape HO.out (by omega)
      cases hv
      have ht0 : (0 : Int) ≤ (tgt : Int) := by omega
      have ht1 : (tgt : Int) < (k : Int) := by omega
      have hct := own_cell HO.out tgt (intC (-1)) (by rw [List.getElem?_replicate, if_pos hto])
      have hft := HO.out.frozenAt tgt
      have hne : g ≠ w.heap.size := fun e => blk_ne HG.out HO.out (by decide) (by rw [e]; rfl)
      have hst := HO.out.stored tgt (intC 0)
      obtain ⟨hrd, hrt⟩ := RD.start (es := es) hto
      have HO1 : Hid ((wr.setCell ⟨g, tgt, none⟩ (.int .i64 0)).ownsRow w.heap.size 3 1 (.slice (some ⟨g, 0, none⟩) k oc) k (((List.replicate k (-1 : Int)).set tgt 0).map intC)) := Lib.hid (by rw [List.map_set, List.map_replicate]; exact hst.1)
      have HG1 : Hid ((wr.setCell ⟨g, tgt, none⟩ (.int .i64 0)).heap[w.heap.size]? = some (.cells #[.slice a k c, .slice ao es.length ec] 100 (0, 0))) := Lib.hid ((heap_setCell_other _ _ _ _ (fun e => hne (by exact (show w.heap.size = g from e).symm))).trans HG.out)
      have HB1 : Hid (Below w.heap.size w (wr.setCell ⟨g, tgt, none⟩ (.int .i64 0))) := Lib.hid (HB.out.setCell (by exact hgb) _)
      have HRD := Lib.hid hrd
      have HRT := Lib.hid hrt
      clear hst hrd hrt HO HG HB hg1
      go_wp2_with fail
      obtain ⟨wo, hwo⟩ : ∃ wo : World, wo = wr.setCell ⟨g, tgt, none⟩ (.int .i64 0) := ⟨_, rfl⟩
      rw [← hwo]
      rw [← hwo] at HO1 HG1 HB1
      clear hwo hct hft hg0
      go_loopw [7] (fun q wr => ∃ (n : Nat) (d : List Int), n ≤ k ∧ q = .int .i64 n ∧ Hid (RD k es tgt n [] d ∧ ∀ a, gD d a ≤ (n : Int)) ∧ Hid (wr.ownsRow w.heap.size 3 1 (.slice (some ⟨g, 0, none⟩) k oc) k (d.map intC)) ∧ Hid (wr.heap[w.heap.size]? = some (.cells #[.slice a k c, .slice ao es.length ec] 100 (0, 0))) ∧ Hid (Below w.heap.size w wr)) (fun q _ => k - (intOf q).toNat)
      case atStart => exact ⟨0, _, by omega, rfl, Lib.hid ⟨HRD.out, HRT.out⟩, HO1, HG1, HB1⟩
      case round =>
        clear HO1 HG1 HB1 HRD HRT
        obtain ⟨n, d, hn, rfl, HR, HO, HG, HB⟩ := hrel
        have hg0 : wr.cell? ⟨w.heap.size, 0, none⟩ = some (.slice a k c) := cell_of_row _ _ 0 _ _ _ HG.out
        by_cases hnl : n < k
        · have hn1 : (n : Int) < (k : Int) := by omega
          go_wp2_with fail
          obtain ⟨wp, rfl⟩ : ∃ wp : World, wp = wr := ⟨_, rfl⟩
          go_loopw [8] (fun q wr => ∃ (m : Nat) (d : List Int), m ≤ es.length ∧ q = .int .i64 m ∧ Hid (RD k es tgt n (es.take m) d ∧ ∀ a, gD d a ≤ (n : Int) + 1) ∧ Hid (wr.ownsRow w.heap.size 3 1 (.slice (some ⟨g, 0, none⟩) k oc) k (d.map intC)) ∧ Hid (wr.heap[w.heap.size]? = some (.cells #[.slice a k c, .slice ao es.length ec] 100 (0, 0))) ∧ Hid (Below w.heap.size w wr)) (fun q _ => es.length - (intOf q).toNat)
          case atStart => exact ⟨0, d, by omega, rfl, Lib.hid ⟨by simpa using HR.out.1, fun a => by have := HR.out.2 a; omega⟩, HO, HG, HB⟩
          case round =>
            clear HR HO HG HB hg0
            obtain ⟨m, d, hm, rfl, HR, HO, HG, HB⟩ := hrel
            have hgl : w.heap.size < wr.heap.size := (Array.getElem?_eq_some_iff.1 HG.out).1
            have hg1 : wr.cell? ⟨w.heap.size, 1, none⟩ = some (.slice ao es.length ec) := cell_of_row _ _ 1 _ _ _ HG.out
            have hdl := HR.out.1.len
            by_cases hlt2 : m < es.length
            · have hm0 : (0 : Int) ≤ (m : Int) := by omega
              have hm1 : (m : Int) < (es.length : Int) := by omega
              obtain ⟨b, off, rfl, hb, hc1, hc2⟩ := HE.out m es[m] (by simp [hlt2])
              have hc1 := (HB.out.cell (p := ⟨b, off + m * 2, none⟩) hb).trans hc1
              have hc2 := (HB.out.cell (p := ⟨b, off + m * 2 + 1, none⟩) hb).trans hc2
              have HT : Hid (es.take (m + 1) = es.take m ++ [es[m]]) := Lib.hid (List.take_succ_eq_append_getElem hlt2)
              have hed := validG_edge HV.out (List.getElem_mem hlt2)
              have HS := Lib.hid (HR.out.1.step es[m] (List.getElem_mem hlt2) hed HR.out.2)
              obtain ⟨⟨x1, x2⟩, hx⟩ : ∃ x, x = es[m] := ⟨_, rfl⟩
              rw [← hx] at hc1 hc2 hed HT HS
              clear hx
              obtain ⟨i, rfl⟩ : ∃ i : Nat, x1 = (i : Int) := ⟨x1.toNat, by simp at hed; omega⟩
              obtain ⟨j, rfl⟩ : ∃ j : Nat, x2 = (j : Int) := ⟨x2.toNat, by simp at hed; omega⟩
              simp only at hc1 hc2 hed
              obtain ⟨hi0, hi1, hj0, hj1⟩ := hed
              have hoi := own_cell HO.out i (intC (gD d i)) (by rw [List.getElem?_map, gD_get (by omega)]; rfl)
              have hoj := own_cell HO.out j (intC (gD d j)) (by rw [List.getElem?_map, gD_get (by omega)]; rfl)
              have hci := cellA (.cells #[.int .i64 (i : Int), .int .i64 (j : Int)] 149) hoi
              have hcj := cellA (.cells #[.int .i64 (i : Int), .int .i64 (j : Int)] 149) hoj
              have hfi := frozA (.cells #[.int .i64 (i : Int), .int .i64 (j : Int)] 149) hoi (HO.out.frozenAt i)
              have HOA : Hid ((wr.alloc (.cells #[.int .i64 (i : Int), .int .i64 (j : Int)] 149)).ownsRow w.heap.size 3 1 (.slice (some ⟨g, 0, none⟩) k oc) k (d.map intC)) := Lib.hid (HO.out.alloc _)
              have HGA : Hid ((wr.alloc (.cells #[.int .i64 (i : Int), .int .i64 (j : Int)] 149)).heap[w.heap.size]? = some (.cells #[.slice a k c, .slice (some ⟨b, off, none⟩) es.length ec] 100 (0, 0))) := Lib.hid ((Below.heap_alloc _ _ _ hgl).trans HG.out)
              have HBA : Hid (Below w.heap.size w (wr.alloc (.cells #[.int .i64 (i : Int), .int .i64 (j : Int)] 149))) := Lib.hid (HB.out.alloc (by omega) _)
              have HSD : Hid (rdstep n d ((i : Int), (j : Int)) = if gD d j = (n : Int) ∧ gD d i < 0 then d.set i ((n : Int) + 1) else d) := Lib.hid rfl
              have hgw : g < wr.heap.size := (HO.out.lt g rfl).2
              have hne1 : g ≠ wr.heap.size := by omega
              have hne2 : wr.heap.size ≠ g := by omega
              obtain ⟨vi, hvi⟩ : ∃ x, x = gD d i := ⟨_, rfl⟩
              obtain ⟨vj, hvj⟩ : ∃ x, x = gD d j := ⟨_, rfl⟩
              rw [← hvi] at hci
              rw [← hvj] at hcj
              rw [← hvi, ← hvj] at HSD
              clear hvi hvj hoi hoj
              have hw1 : IntKind.i64.wrap ((n : Int) + 1) = (n : Int) + 1 := IntWalk.i64_in _ (by omega)
              by_cases q1 : vj = (n : Int)
              · have p1 : decide (vj = (n : Int)) = true := decide_eq_true q1
                by_cases q2 : vi < 0
                · have p2 : decide (vi < 0) = true := decide_eq_true q2
                  have HD := Lib.hid (HSD.out.trans (if_pos ⟨q1, q2⟩))
                  subst q1
                  clear HSD
                  go_wp2_with fail
                  go_roundw
                  case rel =>
                    have hst := HO.out.stored i (intC ((n : Int) + 1))
                    have hbw := (HO.out.lt g rfl).1
                    refine ⟨m + 1, d.set i ((n : Int) + 1), by omega, by go_num, Lib.hid (by rw [HT.out, ← HD.out]; exact HS.out), Lib.hid (by rw [List.map_set]; exact hst.1.alloc _), Lib.hid ((Below.heap_alloc _ _ _ (by rw [World.size_setCell]; exact hgl)).trans ((heap_setCell_other _ _ _ _ (fun e => hne (by exact (show w.heap.size = g from e).symm))).trans HG.out)), Lib.hid ((HB.out.setCell (by exact hbw) _).alloc (by rw [World.size_setCell]; omega) _)⟩
                  case measure => simp [intOf]; omega
                · have p2 : decide (vi < 0) = false := decide_eq_false q2
                  have HD := Lib.hid (HSD.out.trans (if_neg (fun h => q2 h.2)))
                  subst q1
                  clear HSD
                  go_wp2_with fail
                  go_roundw
                  case rel => exact ⟨m + 1, d, by omega, by go_num, Lib.hid (by have := HS.out; rw [HD.out] at this; rw [HT.out]; exact this), HOA, HGA, HBA⟩
                  case measure => simp [intOf]; omega
              · have p1 : decide (vj = (n : Int)) = false := decide_eq_false q1
                have HD := Lib.hid (HSD.out.trans (if_neg (fun h => q1 h.1)))
                clear HSD
                go_wp2_with fail
                go_roundw
                case rel => exact ⟨m + 1, d, by omega, by go_num, Lib.hid (by have := HS.out; rw [HD.out] at this; rw [HT.out]; exact this), HOA, HGA, HBA⟩
                case measure => simp [intOf]; omega
            · have hmm : m = es.length := by omega
              subst hmm
              have HR2 : Hid (RD k es tgt (n + 1) [] d ∧ ∀ a, gD d a ≤ ((n + 1 : Nat) : Int)) := Lib.hid ⟨by have := HR.out.1; rw [List.take_length] at this; exact this.next, fun a => by have := HR.out.2 a; omega⟩
              go_wp2_with fail
              go_roundw
              case rel => exact ⟨n + 1, d, by omega, by go_num, HR2, HO, HG, HB⟩
              case measure => simp [intOf]; omega
        · have hnn : n = k := by omega
          subst hnn
          have HDS := Lib.hid (HR.out.1.dist HV.out)
          go_wp2_with fail
          go_ret
          exact ⟨g, oc, d, rfl, HO.out, HDS.out, HB.out⟩
end Go.Proofs.YtenfkejbndifdaaGreatDoor

namespace Go.Proofs.YtenfkejbndifdaaGreatDoor
set_option linter.unusedVariables false
set_option linter.unusedSimpArgs false
open Go Go.RowKit

set_option maxRecDepth 100000 in
set_option maxHeartbeats 4000000 in
theorem redge_any (a : Option Addr) (N c : Nat) (ev : Value) (es : List (Int × Int)) (x y : Int) (w : World) (hes : es.length ≤ 1000000000) (hE : EdgesOf w.heap.size ev es w) :
    Calls Tryz.prog 110 #[.agg #[.slice a N c, ev], .int .i64 x, .int .i64 y] w fun e w' => e = .returned (.bool (decide ((x, y) ∈ es))) ∧ Below w.heap.size w w' := by
  obtain ⟨ao, ec, rfl, hE2⟩ := hE
  have HE := Lib.hid hE2
  have HB0 : Hid (Below w.heap.size w (w.alloc (.cells #[.slice a N c, .slice ao es.length ec] 100))) := Lib.hid (bel_alloc _ _)
  have hg1 : (w.alloc (.cells #[.slice a N c, .slice ao es.length ec] 100)).cell? ⟨w.heap.size, 1, none⟩ = some (.slice ao es.length ec) := cell_of_row _ _ 1 _ _ _ (World.alloc_heap_new w _)
  clear hE2
  go_enter Tryz.func110, Tryz.ntmps110
  go_wp2_with fail
  go_loopw [7] (fun q wr => ∃ k : Nat, k ≤ es.length ∧ q = .int .i64 k ∧ Hid ((x, y) ∉ es.take k) ∧ Hid (wr = w.alloc (.cells #[.slice a N c, .slice ao es.length ec] 100))) (fun q _ => es.length - (intOf q).toNat)
  case atStart => exact ⟨0, by omega, rfl, Lib.hid (by simp), Lib.hid rfl⟩
  case round =>
    obtain ⟨k, hk, rfl, HO, HW⟩ := hrel
    have hgr : wr.cell? ⟨w.heap.size, 1, none⟩ = some (.slice ao es.length ec) := by rw [HW.out]; exact hg1
    have HBW : Hid (Below w.heap.size w wr) := Lib.hid (by rw [HW.out]; exact HB0.out)
    by_cases hlt : k < es.length
    · have hk0 : (0 : Int) ≤ (k : Int) := by omega
      have hk1 : (k : Int) < (es.length : Int) := by omega
      obtain ⟨b, off, rfl, hb, hc1, hc2⟩ := HE.out k es[k] (by simp [hlt])
      have hc1 := (HBW.out.cell (p := ⟨b, off + k * 2, none⟩) hb).trans hc1
      have hc2 := (HBW.out.cell (p := ⟨b, off + k * 2 + 1, none⟩) hb).trans hc2
      have HY : Hid (es[k].1 = x ∧ es[k].2 = y → decide ((x, y) ∈ es) = true) := Lib.hid fun h => decide_eq_true (by
        have : es[k] = (x, y) := Prod.ext h.1 h.2
        rw [← this]
        exact List.getElem_mem hlt)
      have HNO : Hid (¬ (es[k].1 = x ∧ es[k].2 = y) → (x, y) ∉ es.take (k + 1)) := Lib.hid fun h hm => by
        rw [List.take_succ_eq_append_getElem hlt] at hm
        rcases List.mem_append.1 hm with hm | hm
        · exact HO.out hm
        · rw [List.mem_singleton] at hm
          exact h ⟨by rw [← hm], by rw [← hm]⟩
      obtain ⟨x1, hx1⟩ : ∃ z, z = es[k].1 := ⟨_, rfl⟩
      obtain ⟨x2, hx2⟩ : ∃ z, z = es[k].2 := ⟨_, rfl⟩
      rw [← hx1] at hc1 HY HNO
      rw [← hx2] at hc2 HY HNO
      clear hx1 hx2
      by_cases q1 : x1 = x
      · have p1 : decide (x1 = x) = true := decide_eq_true q1
        by_cases q2 : x2 = y
        · have p2 : decide (x2 = y) = true := decide_eq_true q2
          have HX := Lib.hid (HY.out ⟨q1, q2⟩)
          subst q1
          subst q2
          clear HY HNO
          go_wp2_with fail
          go_ret
          exact ⟨by rw [HX.out]; rfl, HBW.out⟩
        · have p2 : decide (x2 = y) = false := decide_eq_false q2
          have HX := Lib.hid (HNO.out (fun h => q2 h.2))
          subst q1
          clear HY HNO
          go_wp2_with fail
          go_roundw
          case rel => exact ⟨k + 1, by omega, by go_num, HX, HW⟩
          case measure => simp [intOf]; omega
      · have p1 : decide (x1 = x) = false := decide_eq_false q1
        have HX := Lib.hid (HNO.out (fun h => q1 h.1))
        clear HY HNO
        go_wp2_with fail
        go_roundw
        case rel => exact ⟨k + 1, by omega, by go_num, HX, HW⟩
        case measure => simp [intOf]; omega
    · have hkk : k = es.length := by omega
      subst hkk
      have HX : Hid (decide ((x, y) ∈ es) = false) := Lib.hid (decide_eq_false (by have := HO.out; rwa [List.take_length] at this))
      go_wp2_with fail
      go_ret
      exact ⟨by rw [HX.out]; rfl, HBW.out⟩

def nearP (N : Nat) (es : List (Int × Int)) (far : List Int) (n m j : Nat) : Prop := ((n : Int), (j : Int)) ∈ es ∧ gD far j = (m : Int)
theorem desc_find {N : Nat} {es : List (Int × Int)} {far : List Int} {n m j : Nat} (hn : n < N) (hj : j < N) (hp : nearP N es far n m j) (hmin : ∀ i, i < j → ¬ nearP N es far n m i) : ((sucs N es).getD n []).find? (fun k => gD far k == (m : Int)) = some j := by
  have e : (sucs N es).getD n [] = (List.range N).filter fun k : Nat => es.contains ((n : Int), (k : Int)) := by rw [sucs_getD _ _ _ hn]; rfl
  rw [e, List.find?_filter]
  rw [List.find?_eq_some_iff_append]
  have hb : ∀ i : Nat, (decide (es.contains ((n : Int), (i : Int)) = true ∧ (gD far i == (m : Int)) = true)) = true ↔ nearP N es far n m i := fun i => by
    unfold nearP
    simp
  refine ⟨(hb j).2 hp, List.range j, (List.range (N - j - 1)).map (· + (j + 1)), ?_, fun i hi => ?_⟩
  · have e : N = j + (1 + (N - j - 1)) := by omega
    rw [e, List.range_add, List.range_add]
    have e2 : j + (1 + (N - j - 1)) - j - 1 = N - j - 1 := by omega
    simp [List.range_succ, Function.comp_def, Nat.add_comm, Nat.add_left_comm]
  · have h1 := hmin i (List.mem_range.1 hi)
    unfold nearP at h1
    simp only [not_and] at h1
    by_cases q : ((n : Int), (i : Int)) ∈ es
    · have := h1 q
      simpa using Or.inr this
    · simpa using Or.inl q

def NX (N : Nat) (es : List (Int × Int)) (far : List Int) (n m t : Nat) (nx : Value) : Prop := (nx = .int .i64 (-1) ∧ ∀ j, t ≤ j → j < N → ¬ nearP N es far n m j) ∨ ∃ j, nx = natC j ∧ t ≤ j ∧ j < N ∧ nearP N es far n m j ∧ ∀ i, t ≤ i → i < j → ¬ nearP N es far n m i
theorem NX.hit {N : Nat} {es : List (Int × Int)} {far : List Int} {n m t : Nat} (ht : t < N) (hp : nearP N es far n m t) : NX N es far n m t (natC t) := .inr ⟨t, rfl, Nat.le_refl _, ht, hp, fun i h1 h2 => by omega⟩
theorem NX.miss {N : Nat} {es : List (Int × Int)} {far : List Int} {n m t : Nat} {nx : Value} (h : NX N es far n m (t + 1) nx) (hp : ¬ nearP N es far n m t) : NX N es far n m t nx := by
  rcases h with ⟨h1, h2⟩ | ⟨j, h1, h2, h3, h4, h5⟩
  · refine .inl ⟨h1, fun j a b => ?_⟩
    by_cases e : j = t
    · rw [e]; exact hp
    · exact h2 j (by omega) b
  · refine .inr ⟨j, h1, by omega, h3, h4, fun i a b => ?_⟩
    by_cases e : i = t
    · rw [e]; exact hp
    · exact h5 i (by omega) b

set_option maxRecDepth 100000 in
set_option maxHeartbeats 4000000 in
theorem rPath_yes (a : Option Addr) (N c : Nat) (ev : Value) (es : List (Int × Int)) (x y : Nat) (w : World) (hE : EdgesOf w.heap.size ev es w) (hv : validG N es = true) (hx : x < N) (hy : y < N) :
    Calls Tryz.prog 62 #[.agg #[.slice a N c, ev], natC x, natC y] w fun e w' => ∃ v, e = .returned v ∧ w'.ownsRow w.heap.size 3 1 v (pathF N es x y).length ((pathF N es x y).map natC) ∧ Below w.heap.size w w' := by
  obtain ⟨hN, hes⟩ := validG_n hv
  have hb1 : Below w.heap.size w ((w.alloc (.cells #[.slice a N c, ev] 100)).alloc (.cells #[natC x, natC y] 3)) := ((Below.refl _ _).alloc (Nat.le_refl _) _).alloc (by simp) _
  have hT : ((w.alloc (.cells #[.slice a N c, ev] 100)).alloc (.cells #[natC x, natC y] 3)).heap[w.heap.size + 1]? = some (.cells (([x, y] : List Nat).map natC).toArray 3 (0, 0)) := by (simp only [alloc_get, World.size_alloc]; repeat (first | rw [if_pos trivial] | rw [if_neg (by omega)] | rw [if_pos (by omega)])); rfl
  have hL := row_lit (c := 2) (l := [x, y]) hT
  have hall : (validG N es && (([x, y] : List Nat).map fun n : Nat => (n : Int)).all (nodeB N)) = true := by
    rw [hv]
    unfold nodeB
    simp
    omega
  have hxx := rexist_any a N c ev _ es _ _ (by omega) (by omega) ((hE.below hb1 (Nat.le_refl _)).mono hb1.size) (by simp) hL
  rw [hall] at hxx
  have hE0 := hE
  obtain ⟨ao, ec, rfl, _⟩ := hE
  have hblk : ((w.alloc (.cells #[.slice a N c, .slice ao es.length ec] 100)).alloc (.cells #[natC x, natC y] 3)).heap[w.heap.size]? = some (.cells #[.slice a N c, .slice ao es.length ec] 100 (0, 0)) := by (simp only [alloc_get, World.size_alloc]; repeat (first | rw [if_pos trivial] | rw [if_neg (by omega)] | rw [if_pos (by omega)]))
  have hs0 : ((w.alloc (.cells #[.slice a N c, .slice ao es.length ec] 100)).alloc (.cells #[natC x, natC y] 3)).heap.size = w.heap.size + 2 := by simp
  have HX := Lib.hid hxx
  have HB1 := Lib.hid hb1
  have HE := Lib.hid hE0
  have HV := Lib.hid hv
  have HBK := Lib.hid hblk
  have hx0 : (0 : Int) ≤ (x : Int) := by omega
  have hx1 : (x : Int) < (N : Int) := by omega
  clear hxx hb1 hT hL hall hE0 hv hblk
  go_enter Tryz.func62, Tryz.ntmps62
  go_wp2_with fail
  refine HX.out.mono ?_
  rintro e w1 ⟨rfl, hb⟩
  have hs1 := hb.size
  rw [hs0] at hs1
  have HG1 := Lib.hid ((hb.block w.heap.size (by omega)).trans HBK.out)
  have hg0 : w1.cell? ⟨w.heap.size, 0, none⟩ = some (.slice a N c) := cell_of_row _ _ 0 _ _ _ HG1.out
  have hg1 : w1.cell? ⟨w.heap.size, 1, none⟩ = some (.slice ao es.length ec) := cell_of_row _ _ 1 _ _ _ HG1.out
  have HW1 := Lib.hid (HB1.out.trans (hb.mono (by omega)))
  have hd := rdist_any a N c _ es y w1 HV.out ((HE.out.below HW1.out (Nat.le_refl _)).mono (by omega)) hy
  have HD := Lib.hid hd
  clear hb hd
  go_wp2_with fail
  refine HD.out.mono ?_
  rintro e w2 ⟨g, cap, far, rfl, ho, hdr, hb2⟩
  have hs2 := hb2.size
  have HG2 := Lib.hid ((hb2.block w.heap.size (by omega)).trans HG1.out)
  have HW2 := Lib.hid (HW1.out.trans (hb2.mono (by omega)))
  have hfl := hdr.len
  rw [sucs_length] at hfl
  have hcx := own_cell ho x (intC (gD far x)) (by rw [List.getElem?_map, gD_get (by omega)]; rfl)
  have HP : Hid (pathF N es x y = if gD far x < 0 then [] else descP (sucs N es) far (gD far x).toNat x) := Lib.hid (by unfold pathF; simp only; rw [← hdr.eq sucs_lt (by rw [sucs_length]; exact hy)])
  have HO := Lib.hid ho
  have HDR := Lib.hid hdr
  clear ho hdr hb2 hg0 hg1 HD
  have hlo := HDR.out.lo x
  obtain ⟨fx, hfx⟩ : ∃ z, z = gD far x := ⟨_, rfl⟩
  rw [← hfx] at hcx HP hlo
  have HFX := Lib.hid hfx
  clear hfx
  by_cases hneg : fx < 0
  · have hnd : decide (fx < 0) = true := decide_eq_true hneg
    have HPN := Lib.hid (HP.out.trans (if_pos hneg))
    go_wp2_with fail
    go_ret
    refine ⟨_, rfl, ?_, HW2.out⟩
    rw [HPN.out]
    exact World.ownsRow_nil _ _ _ _
  · have hnd : decide (fx < 0) = false := decide_eq_false hneg
    have HPY := Lib.hid (HP.out.trans (if_neg hneg))
    obtain ⟨i0, hi0', hz0, hz1, hz2⟩ := info_parts info_ints
    have hbd := HDR.out.bound sucs_lt (by rw [sucs_length]; exact hy) x
    rw [sucs_length, ← HFX.out] at hbd
    have HO3 := Lib.hid (own_made w2.heap.size 3 1 [natC x] w2 (Nat.le_refl _) (by decide) rfl)
    have HB3 : Hid (Below w2.heap.size w2 (w2.alloc (.cells #[natC x] 3))) := Lib.hid (bel_alloc _ _)
    go_wp2_with fail
    go_loopw [8, 9] (fun o q wr => ∃ (n m : Nat) (pre : List Nat), q = natC n ∧ n < N ∧ pre.length + m = fx.toNat ∧ Hid (gD far n = (m : Int)) ∧ Hid (wr.ownsRow w2.heap.size 3 1 o (pre.length + 1) ((pre ++ [n]).map natC)) ∧ Hid (descP (sucs N es) far fx.toNat x = pre ++ descP (sucs N es) far m n) ∧ Hid (Below w2.heap.size w2 wr)) (fun o _ _ => fx.toNat + 2 - vlen o)
    case atStart => exact ⟨x, fx.toNat, [], rfl, hx, by simp, Lib.hid (by rw [← HFX.out]; omega), HO3, Lib.hid rfl, HB3⟩
    case round =>
      clear HO3 HB3
      obtain ⟨n, m, pre, rfl, hnN, hpm, HGN, HOO, HDE, HB⟩ := hrel
      have hsr := HB.out.size
      obtain ⟨oa, oc, rfl⟩ := own_any HOO.out
      have HGR : Hid (∀ W : World, Below w2.heap.size w2 W → (W.cell? ⟨w.heap.size, 0, none⟩ = some (.slice a N c) ∧ W.cell? ⟨w.heap.size, 1, none⟩ = some (.slice ao es.length ec)) ∧ EdgesOf W.heap.size (.slice ao es.length ec) es W ∧ ∀ j, j < N → W.cell? ⟨g, j, none⟩ = some (intC (gD far j))) := Lib.hid fun W hW => ⟨⟨cell_of_row _ _ 0 _ _ _ ((hW.block _ (by omega)).trans HG2.out), cell_of_row _ _ 1 _ _ _ ((hW.block _ (by omega)).trans HG2.out)⟩, (HE.out.below (HW2.out.trans (hW.mono (by omega))) (Nat.le_refl _)).mono (by have := hW.size; omega), fun j hj => (hW.cell (p := ⟨g, j, none⟩) (HO.out.lt g rfl).2).trans (own_cell HO.out j _ (by rw [List.getElem?_map, gD_get (by omega)]; rfl))⟩
      by_cases hny : (n : Int) = (y : Int)
      · have hnd2 : decide ((n : Int) = (y : Int)) = true := decide_eq_true hny
        have eny : n = y := by omega
        subst eny
        have hm0 : m = 0 := by have h1 := HGN.out; rw [HDR.out.t0] at h1; omega
        subst hm0
        have HR : Hid (pathF N es x n = pre ++ [n]) := Lib.hid (by rw [HPY.out, HDE.out]; rfl)
        clear HGR
        go_wp2_with fail
        go_ret
        refine ⟨_, rfl, ?_, HW2.out.trans (HB.out.mono (by omega))⟩
        rw [HR.out, List.length_append, List.length_singleton]
        exact ⟨HOO.out.1, HOO.out.2.imp id fun ⟨g, cap, cur, h1, h2, h3⟩ => ⟨g, cap, cur, h1, by omega, h3⟩⟩
      · have hnd2 : decide ((n : Int) = (y : Int)) = false := decide_eq_false hny
        have hnd3 : ((n : Int) != (y : Int)) = true := bne_iff_ne.2 hny
        obtain ⟨m', rfl⟩ : ∃ m', m = m' + 1 := ⟨m - 1, by
          have : m ≠ 0 := fun e => by
            have h1 := HGN.out
            rw [e] at h1
            have := HDR.out.zero n (by simpa using h1)
            omega
          omega⟩
        have hnn0 : (0 : Int) ≤ (n : Int) := by omega
        have hnn1 : (n : Int) < (N : Int) := by omega
        obtain ⟨⟨hg0, hg1⟩, _, hfar⟩ := HGR.out wr HB.out
        have hwN : IntKind.i64.wrap ((N : Int) - 1) = (N : Int) - 1 := IntWalk.i64_in _ (by omega)
        clear hfar
        go_wp2_with fail
        obtain ⟨wo, rfl⟩ : ∃ wo : World, wo = wr := ⟨_, rfl⟩
        go_loopw [10, 11] (fun nx q wr => ∃ t : Nat, t ≤ N ∧ q = .int .i64 ((t : Int) - 1) ∧ Hid (NX N es far n m' t nx) ∧ Hid (Below wo.heap.size wo wr)) (fun _ q _ => (intOf q + 1).toNat)
        case atStart => exact ⟨N, by omega, rfl, Lib.hid (.inl ⟨rfl, fun j h1 h2 => by omega⟩), Lib.hid (Below.refl _ _)⟩
        case round =>
          clear hg0 hg1
          obtain ⟨t, ht, rfl, HNX, HBI⟩ := hrel
          have HBT := Lib.hid (HB.out.trans (HBI.out.mono hsr))
          obtain ⟨⟨hg0, hg1⟩, hee, hfar⟩ := HGR.out wr HBT.out
          cases t with
          | zero =>
            have hq : ¬ (0 : Int) ≤ ((0 : Nat) : Int) - 1 := by omega
            have hqd : decide ((0 : Int) ≤ ((0 : Nat) : Int) - 1) = false := decide_eq_false hq
            obtain ⟨j, hnx, _, hjN, hnp, hmin⟩ : ∃ j, _ = natC j ∧ 0 ≤ j ∧ j < N ∧ nearP N es far n m' j ∧ ∀ i, 0 ≤ i → i < j → ¬ nearP N es far n m' i := by
              rcases HNX.out with ⟨_, h2⟩ | h
              · exfalso
                obtain ⟨k, hk1, hk2⟩ := HDR.out.desc n m' (by rw [HGN.out]; simp)
                obtain ⟨_, h4, h5⟩ := mem_sucs.1 hk1
                exact h2 k (by omega) h4 ⟨h5, hk2⟩
              · exact h
            have HDJ := Lib.hid (desc_find hnN hjN hnp (fun i hi => hmin i (by omega) hi))
            have HGJ := Lib.hid hnp.2
            subst hnx
            clear hee hfar hnp hmin HNX
            have HOT : Hid (wr.ownsRow w2.heap.size 3 1 (.slice oa (pre.length + 1) oc) (pre.length + 1) ((pre ++ [n]).map natC)) := Lib.hid (own_far HOO.out (fun i hi => HBI.out.block i (HOO.out.lt i hi).2))
            have hst := HBT.out.size
            go_wp2_with (at_builtin; refine wpList_append_own _ rfl _ _ 79 rfl w2.heap.size 3 i0 (.int .i64 0) 1 8 Tryz.underlying79 hi0' hz0 hz1 hz2 rfl (by decide) _ _ _ (by rfl) (HOT.out.alloc _) ⟨wr.heap.size, 0, none⟩ 1 1 [natC j] (by rfl) (by rfl) (World.news_of_block (cs := #[natC j]) (t := 3) (fr := (0, 0)) (heap_alloc_new wr _)) (by simp [Value.oneCell']) (by unfold maxLen; omega) (by omega) (by simp; omega) ?_; intro v' w5 hown' hgrow _)
            go_roundw
            case rel =>
              refine ⟨j, m', pre ++ [n], rfl, hjN, by simp; omega, HGJ, Lib.hid (by rw [List.length_append, List.length_singleton, List.map_append]; exact hown'), Lib.hid ?_, Lib.hid ((HBT.out.alloc hst _).grown hgrow (by simp; omega) (fun i hi => (HOT.out.lt i hi).1))⟩
              rw [HDE.out, List.append_assoc]
              congr 1
              show n :: _ = n :: _
              rw [HDJ.out]
              rfl
            case measure =>
              have e9 := vlen_own hown'
              simp only [vlen] at e9 ⊢
              omega
          | succ t =>
            have et : ((t + 1 : Nat) : Int) - 1 = (t : Int) := by omega
            rw [et]
            have ht0 : (0 : Int) ≤ (t : Int) := by omega
            have ht1 : (t : Int) < (N : Int) := by omega
            have hct := hfar t (by omega)
            have hcn := hfar n hnN
            rw [HGN.out] at hcn
            obtain ⟨ft, hft⟩ : ∃ z, z = gD far t := ⟨_, rfl⟩
            rw [← hft] at hct
            have hwm : IntKind.i64.wrap (((m' + 1 : Nat) : Int) - 1) = (m' : Int) := by rw [show ((m' + 1 : Nat) : Int) - 1 = (m' : Int) by omega]; exact IntWalk.i64_in _ (by omega)
            have hwm2 : IntKind.i64.wrap ((m' : Int) + 1 - 1) = (m' : Int) := by rw [Int.add_sub_cancel]; exact IntWalk.i64_in _ (by omega)
            have hwm3 : IntKind.i64.wrap (m' : Int) = (m' : Int) := IntWalk.i64_in _ (by omega)
            have hwt : IntKind.i64.wrap ((t : Int) - 1) = (t : Int) - 1 := IntWalk.i64_in _ (by omega)
            have HBD : Hid (Below w2.heap.size w2 wr.drew) := Lib.hid HBT.out.drew
            have hed := redge_any a N c (.slice ao es.length ec) es (n : Int) (t : Int) wr.drew (by omega) hee
            have HED := Lib.hid hed
            have HFT := Lib.hid hft
            clear hfar hee hed hft et
            by_cases q1 : ft = (m' : Int)
            · have p1 : decide (ft = (m' : Int)) = true := decide_eq_true q1
              subst q1
              by_cases q2 : ((n : Int), (t : Int)) ∈ es
              · have HEX : Hid (decide (((n : Int), (t : Int)) ∈ es) = true) := Lib.hid (decide_eq_true q2)
                have HMS : Hid (NX N es far n m' t (natC t)) := Lib.hid (NX.hit (by omega) ⟨q2, HFT.out.symm⟩)
                have HED2 : Hid (Calls Tryz.prog 110 #[.agg #[.slice a N c, .slice ao es.length ec], .int .i64 (n : Int), .int .i64 (t : Int)] wr.drew fun e w' => e = .returned (.bool true) ∧ Below wr.drew.heap.size wr.drew w') := Lib.hid (by have := HED.out; rw [HEX.out] at this; exact this)
                clear q2 HED HEX HNX
                go_wp2_with fail
                refine wp_region_still_tail 14 (by kernel_rfl) (by kernel_rfl) ?_
                simp only [List.take_succ_cons, List.take_zero, List.drop_succ_cons, List.drop_zero]
                refine Sealed.out ?_
                iterate 14 (refine seal_yes (by rfl) (fun K hK => ?_); go_simp; refine hK _ ?_; clear hK K)
                refine seal_nil ?_
                go_wp2_with fail
                refine HED2.out.mono ?_
                rintro e w5 ⟨rfl, hb5⟩
                go_wp2_with fail
                go_roundw
                case rel => exact ⟨t, by omega, by go_num, HMS, Lib.hid (HBI.out.trans (Below.trans (Below.drew (Below.refl _ _)) (hb5.mono (show wo.heap.size ≤ wr.heap.size from HBI.out.size))))⟩
                case measure => simp [intOf]
              · have HEX : Hid (decide (((n : Int), (t : Int)) ∈ es) = false) := Lib.hid (decide_eq_false q2)
                have HMS := Lib.hid (HNX.out.miss (fun h => q2 h.1))
                have HED2 : Hid (Calls Tryz.prog 110 #[.agg #[.slice a N c, .slice ao es.length ec], .int .i64 (n : Int), .int .i64 (t : Int)] wr.drew fun e w' => e = .returned (.bool false) ∧ Below wr.drew.heap.size wr.drew w') := Lib.hid (by have := HED.out; rw [HEX.out] at this; exact this)
                clear q2 HED HEX HNX
                go_wp2_with fail
                refine wp_region_still_tail 14 (by kernel_rfl) (by kernel_rfl) ?_
                simp only [List.take_succ_cons, List.take_zero, List.drop_succ_cons, List.drop_zero]
                refine Sealed.out ?_
                iterate 14 (refine seal_yes (by rfl) (fun K hK => ?_); go_simp; refine hK _ ?_; clear hK K)
                refine seal_nil ?_
                go_wp2_with fail
                refine HED2.out.mono ?_
                rintro e w5 ⟨rfl, hb5⟩
                go_wp2_with fail
                go_roundw
                case rel => exact ⟨t, by omega, by go_num, HMS, Lib.hid (HBI.out.trans (Below.trans (Below.drew (Below.refl _ _)) (hb5.mono (show wo.heap.size ≤ wr.heap.size from HBI.out.size))))⟩
                case measure => simp [intOf]
            · have p1 : decide (ft = (m' : Int)) = false := decide_eq_false q1
              have p3 : (ft == (m' : Int)) = false := by rw [beq_eq_false_iff_ne]; exact q1
              have HMS := Lib.hid (HNX.out.miss (fun h => q1 (HFT.out.trans h.2)))
              go_wp2_with fail
              refine wp_region_still_tail 14 (by kernel_rfl) (by kernel_rfl) ?_
              simp only [List.take_succ_cons, List.take_zero, List.drop_succ_cons, List.drop_zero]
              refine Sealed.out ?_
              iterate 11 (refine seal_yes (by rfl) (fun K hK => ?_); go_simp; refine hK _ ?_; clear hK K)
              iterate 3 (refine seal_no (by rfl) ?_; go_simp)
              refine seal_nil ?_
              go_wp2_with fail
              go_roundw
              case rel => exact ⟨t, by omega, by go_num, HMS, Lib.hid HBI.out.drew⟩
              case measure => simp [intOf]
end Go.Proofs.YtenfkejbndifdaaGreatDoor
