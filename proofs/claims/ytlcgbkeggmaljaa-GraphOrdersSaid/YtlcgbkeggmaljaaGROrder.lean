/- Contract of the reference's Order. -/
import Derived.Test.YtlcgbkeggmaljaaGRComps
import Derived.Test.YtlcgbkeggmaljaaGRCycle
import Derived.Test.YtlcgbkeggmaljaaGPlainROrd
namespace Go.Proofs.Ytlcgbkeggmaljaa
set_option linter.unusedVariables false
set_option linter.unusedSimpArgs false
open Go Go.RowKit

set_option maxRecDepth 100000 in
set_option maxHeartbeats 2000000 in
theorem rOrder_yes (a : Option Addr) (ns : List ByteArray) (N c : Nat) (ev : Value) (es : List (Int × Int)) (w : World) (hNN : N = ns.length) (hE : EdgesOf w.heap.size ev es w) (hR : RowOf Value.string w.heap.size (.slice a N c) ns w) (hval : validG N es = true) :
    Calls Try.prog 26 #[.agg #[.slice a N c, ev]] w fun e w' => ∃ v, e = .returned (.tuple #[v, .bool (decide (cycF N es N = []))]) ∧ RowOf natC w'.heap.size v (if cycF N es N = [] then listF (sucs N es) else []) w' ∧ Below w.heap.size w w' := by
  obtain ⟨hNn, hNe⟩ := validG_n hval
  have hb1 : Below w.heap.size w (w.alloc (.cells #[.slice a N c, ev] 25)) := bel_alloc _ _
  have hv := rValid_any a N c ev es _ (by omega) (by omega) ((hE.below hb1 (Nat.le_refl _)).mono hb1.size)
  rw [hval] at hv
  have hE0 := hE
  obtain ⟨ao, ec, rfl, _⟩ := hE
  have HGOLD := Lib.hid (World.alloc_heap_new w (.cells #[.slice a N c, .slice ao es.length ec] 25))
  have HVC := Lib.hid hv
  have HV := Lib.hid hval
  have HB1 := Lib.hid hb1
  have HE0 := Lib.hid hE0
  have HR := Lib.hid hR
  have HNN := Lib.hid hNN
  obtain ⟨j0, hj0', hy0, hy1, hy2⟩ := info_parts info_ints
  clear hv hb1 hE0 hR hval hNN
  obtain ⟨ok, hok⟩ : ∃ ok, ok = decide (cycF N es N = []) := ⟨_, rfl⟩
  obtain ⟨out, hout⟩ : ∃ out, out = (if cycF N es N = [] then listF (sucs N es) else []) := ⟨_, rfl⟩
  rw [← hok, ← hout]
  have HOK := Lib.hid hok
  have HOUT := Lib.hid hout
  clear hok hout
  go_enter Try.func26, Try.ntmps26
  go_wp2_with fail
  refine HVC.out.mono ?_
  rintro e w1 ⟨rfl, hb⟩
  have hs1 := hb.size
  simp only [World.size_alloc] at hs1
  have HG1 := Lib.hid ((hb.block w.heap.size (by simp)).trans HGOLD.out)
  have HW1 := Lib.hid (HB1.out.trans (hb.mono (by simp)))
  have hg0 : w1.cell? ⟨w.heap.size, 0, none⟩ = some (.slice a N c) := cell_of_row _ _ 0 _ _ _ HG1.out
  have hg1 : w1.cell? ⟨w.heap.size, 1, none⟩ = some (.slice ao es.length ec) := cell_of_row _ _ 1 _ _ _ HG1.out
  have hcy := rCycle_yes a c (.slice ao es.length ec) ns es w1 ((HE0.out.below HW1.out (Nat.le_refl _)).mono (by omega)) (by rw [← HNN.out]; exact HV.out)
  rw [← HNN.out, (rcAll_eq (N := N) (es := es) N (Nat.le_refl _)).1] at hcy
  have HCY := Lib.hid hcy
  clear hb HVC HB1 HGOLD hcy
  go_wp2_with fail
  refine HCY.out.mono ?_
  rintro e w2 ⟨v2, rfl, hr2, hl2, hb2⟩
  have hs2 := hb2.size
  have HG2 := Lib.hid ((hb2.block w.heap.size (by omega)).trans HG1.out)
  have HW2 := Lib.hid (HW1.out.trans (hb2.mono (by omega)))
  obtain ⟨a2, c2, hv2, _⟩ := rowOf_open hr2
  subst hv2
  have hg0 : w2.cell? ⟨w.heap.size, 0, none⟩ = some (.slice a N c) := cell_of_row _ _ 0 _ _ _ HG2.out
  have hg1 : w2.cell? ⟨w.heap.size, 1, none⟩ = some (.slice ao es.length ec) := cell_of_row _ _ 1 _ _ _ HG2.out
  clear hb2 hr2 HCY
  by_cases hC : cycF N es N = []
  case neg =>
    have hp := List.length_pos_iff.2 hC
    have e1 : ok = false := by rw [HOK.out]; exact decide_eq_false hC
    have e2 : out = [] := by rw [HOUT.out]; exact if_neg hC
    subst e1 e2
    clear HOK HOUT
    obtain ⟨cl, hcl⟩ : ∃ cl, cl = (cycF N es N).length := ⟨_, rfl⟩
    rw [← hcl] at hp ⊢
    have z1 : (0 : Int) < (cl : Int) := by omega
    have z2 : decide ((0 : Int) < (cl : Int)) = true := decide_eq_true z1
    clear hC hcl hl2
    go_wp2_with fail
    refine bodyPost_ret (v := .tuple #[.slice none 0 0, .bool false]) (by simp [results, Try.results26, go_sem]) rfl ?_
    exact ⟨.slice none 0 0, rfl, .inl ⟨rfl, _, _, rfl⟩, HW2.out⟩
  case pos =>
    have e1 : ok = true := by rw [HOK.out]; exact decide_eq_true hC
    have e2 : out = (compsG N es).flatten := by rw [HOUT.out, if_pos hC, acyc_comps hC]
    subst e1
    have HC2 : Hid (out = (compsG N es).flatten) := Lib.hid e2
    clear e2 HOK HOUT
    have HFL : Hid ((compsG N es).flatten.length = N) := Lib.hid (by rw [acyc_comps hC, listF_length, sucs_length])
    rw [hC, List.length_nil]
    have HCO := Lib.hid (rComponents_yes a ns N c (.slice ao es.length ec) es w2 HNN.out ((HE0.out.below HW2.out (Nat.le_refl _)).mono (by omega)) ((HR.out.below HW2.out (Nat.le_refl _)).mono (by omega)) HV.out)
    clear hC hl2
    go_wp2_with fail
    refine HCO.out.mono ?_
    rintro e w3 ⟨v3, rfl, hr3, hb3⟩
    have hs3 := hb3.size
    have HW3 := Lib.hid (HW2.out.trans (hb3.mono (by omega)))
    obtain ⟨a3, c3, hv3⟩ := rows_shape hr3
    subst hv3
    have HR3 := Lib.hid hr3
    have hcl : (compsG N es).length ≤ N := by rw [comps_len]; exact (nodesG_len (numbered N es)).1
    have HO0 : Hid ((w3.alloc (.cells #[] 3)).ownsRow w3.heap.size 3 1 (.slice (some ⟨w3.heap.size, 0, none⟩) 0 0) 0 []) := Lib.hid (own_made w3.heap.size 3 0 [] w3 (Nat.le_refl _) (by decide) rfl)
    have HB0 : Hid (Below w3.heap.size w3 (w3.alloc (.cells #[] 3))) := Lib.hid (bel_alloc _ _)
    clear hb3 hr3 HCO hg0 hg1
    go_wp2_with fail
    go_loopw [5, 6] (fun o q wr => ∃ i : Nat, i ≤ (compsG N es).length ∧ q = .int .i64 i ∧ Hid (wr.ownsRow w3.heap.size 3 1 o ((compsG N es).take i).flatten.length (((compsG N es).take i).flatten.map natC)) ∧ Hid (Below w3.heap.size w3 wr)) (fun _ q _ => (compsG N es).length - (intOf q).toNat)
    case atStart => exact ⟨0, by omega, rfl, HO0, HB0⟩
    case round =>
      clear HO0 HB0
      obtain ⟨i, hi, rfl, HO, HB⟩ := hrel
      have hsr := HB.out.size
      obtain ⟨oa, oc, rfl⟩ := own_any HO.out
      by_cases hlt : i < (compsG N es).length
      case pos =>
        have hi0 : (0 : Int) ≤ (i : Int) := by omega
        have hi1 : (i : Int) < ((compsG N es).length : Int) := by omega
        obtain ⟨row, hrow⟩ : ∃ row, (compsG N es)[i]? = some row := ⟨(compsG N es)[i], by simp [hlt]⟩
        have hrd : (compsG N es).getD i [] = row := by rw [List.getD_eq_getElem?_getD, hrow]; rfl
        obtain ⟨b, off, cap, hta, hbl, r, hcr, hrr⟩ := rows_at HR3.out i hlt
        cases hta
        rw [hrd] at hrr
        have HT : Hid (((compsG N es).take (i + 1)).flatten = ((compsG N es).take i).flatten ++ row) := Lib.hid (by
          obtain ⟨_, e⟩ := List.getElem?_eq_some_iff.1 hrow
          rw [List.take_succ_eq_append_getElem hlt, List.flatten_append, e]
          simp)
        have hlen : ((compsG N es).take (i + 1)).flatten.length ≤ N := by
          have h1 := HFL.out
          rw [← List.take_append_drop (i + 1) (compsG N es), List.flatten_append, List.length_append] at h1
          omega
        rw [HT.out, List.length_append] at hlen
        obtain ⟨pos, hpos⟩ := pos_ok N es
        have hrp := (hpos.srt i row hrow).2
        have hcr := (HB.out.cell (p := ⟨b, off + i, none⟩) hbl).trans hcr
        obtain ⟨rb, ro, rc, hr, hrbl, hrc⟩ : ∃ rb ro rc, r = .slice (some ⟨rb, ro, none⟩) row.length rc ∧ rb < w3.heap.size ∧ ∀ j x, row[j]? = some x → w3.cell? ⟨rb, ro + j, none⟩ = some (natC x) := by
          rcases hrr with ⟨h, _⟩ | ⟨rb, ro, rc, h1, h2, h3⟩
          · rw [h] at hrp; simp at hrp
          · exact ⟨rb, ro, rc, h1, h2, h3⟩
        subst hr
        have HNW : Hid (∀ j u, (row.map natC)[j]? = some u → wr.cell? ((⟨rb, ro, none⟩ : Addr).add j) = some u) := Lib.hid (fun j u hu => by
          rw [List.getElem?_map, Option.map_eq_some_iff] at hu
          obtain ⟨y, hy, rfl⟩ := hu
          rw [Addr.add_lit]
          exact (HB.out.cell (p := ⟨rb, ro + j, none⟩) hrbl).trans (hrc j y hy))
        clear hrow hrd hrr hrc hpos pos
        generalize ((compsG N es).take i).flatten = fl at *
        go_wp2_with (at_builtin; refine wpList_append_own _ rfl _ _ 26 rfl w3.heap.size 3 j0 (.int .i64 0) 1 8 Try.underlying26 hj0' hy0 hy1 hy2 rfl (by decide) _ _ _ (by rfl) HO.out ⟨rb, ro, none⟩ row.length rc (row.map natC) (by rfl) (by rw [List.length_map, Nat.mul_one]) HNW.out (fun y hy => by obtain ⟨z, _, rfl⟩ := List.mem_map.1 hy; rfl) (by unfold maxLen; omega) (by omega) hsr ?_; intro v' w5 hown' hgrow _)
        go_roundw
        case rel => exact ⟨i + 1, by omega, by go_num, Lib.hid (by rw [HT.out, List.length_append, List.map_append]; exact hown'), Lib.hid (HB.out.grown hgrow hsr (fun b hb => (HO.out.lt b hb).1))⟩
        case measure => simp [intOf]; omega
      case neg =>
        have hii : i = (compsG N es).length := by omega
        subst hii
        rw [List.take_length] at HO
        have HRW := Lib.hid (own_row (l := (compsG N es).flatten) HO.out).2
        go_wp2_with fail
        refine bodyPost_ret (v := .tuple #[.slice oa (compsG N es).flatten.length oc, .bool true]) (by simp [results, Try.results26, go_sem]) rfl ?_
        exact ⟨.slice oa (compsG N es).flatten.length oc, rfl, by rw [HC2.out]; exact HRW.out, HW3.out.trans (HB.out.mono (by omega))⟩
end Go.Proofs.Ytlcgbkeggmaljaa
