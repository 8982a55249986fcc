/- The law GraphShortest returns true. -/
import Derived.Test.YtlcgbkeggmaljaaGReaches
import Derived.Test.YtlcgbkeggmaljaaGEdges
import Derived.Test.YtlcgbkeggmaljaaGPlainShort
namespace Go.Proofs.Ytlcgbkeggmaljaa
set_option linter.unusedVariables false
set_option linter.unusedSimpArgs false
open Go Go.RowKit

/-- the lengths of the ways found so far. -/
def LenP (N : Nat) (es : List (Int × Int)) (x k : Nat) (d : List Int) : Prop := d.length = N ∧ ∀ b, b < k → gD d b = ((pathF N es x b).length : Int)

set_option maxRecDepth 100000 in
set_option maxHeartbeats 8000000 in
theorem GraphShortest_any (a : Option Addr) (c : Nat) (ev : Value) (ns : List ByteArray) (es : List (Int × Int)) (f : Nat) (hf : f < 256) (w : World) (hE : EdgesOf w.heap.size ev es w) (hR : RowOf Value.string w.heap.size (.slice a ns.length c) ns w) :
    Calls Try.prog 6 #[.agg #[.slice a ns.length c, ev], .int .u8 (f : Int)] w fun e w' => e = .returned (.bool true) ∧ Below w.heap.size w w' := by
  have hE0 := hE
  obtain ⟨ao, ec, rfl, _⟩ := hE
  have HE := Lib.hid hE0
  have HR := Lib.hid hR
  have HB0 : Hid (Below w.heap.size w (w.alloc (.cells #[.slice a ns.length c, .slice ao es.length ec] 25))) := Lib.hid (bel_alloc _ _)
  have HG0 : Hid ((w.alloc (.cells #[.slice a ns.length c, .slice ao es.length ec] 25)).heap[w.heap.size]? = some (.cells #[.slice a ns.length c, .slice ao es.length ec] 25 (0, 0))) := Lib.hid (World.alloc_heap_new w _)
  have HAW := Lib.hid (awake_any (w.alloc (.cells #[.slice a ns.length c, .slice ao es.length ec] 25)))
  clear hE0 hR
  go_enter Try.func6, Try.ntmps6
  go_wp2_with fail
  refine HAW.out.mono ?_
  rintro e w1 ⟨rfl, hb1⟩
  have hs1 := hb1.size
  simp only [World.size_alloc] at hs1
  have HG1 := Lib.hid ((hb1.block w.heap.size (by simp)).trans HG0.out)
  have HB1 := Lib.hid (HB0.out.trans (hb1.mono (by simp)))
  have hg0 : w1.cell? ⟨w.heap.size, 0, none⟩ = some (.slice a ns.length c) := cell_of_row _ _ 0 _ _ _ HG1.out
  have hg1 : w1.cell? ⟨w.heap.size, 1, none⟩ = some (.slice ao es.length ec) := cell_of_row _ _ 1 _ _ _ HG1.out
  have HFW := Lib.hid (Few_any a ao ns.length c es.length ec w1)
  clear hb1 HAW
  go_wp2_with fail
  refine HFW.out.mono ?_
  rintro e w2 ⟨rfl, hb2⟩
  have hs2 := hb2.size
  have HG2 := Lib.hid ((hb2.block w.heap.size (by omega)).trans HG1.out)
  have HB2 := Lib.hid (HB1.out.trans (hb2.mono (by omega)))
  have hg0 : w2.cell? ⟨w.heap.size, 0, none⟩ = some (.slice a ns.length c) := cell_of_row _ _ 0 _ _ _ HG2.out
  have hg1 : w2.cell? ⟨w.heap.size, 1, none⟩ = some (.slice ao es.length ec) := cell_of_row _ _ 1 _ _ _ HG2.out
  clear hb2 HFW
  by_cases hfw : (decide (ns.length ≤ 14) && decide (es.length ≤ 60)) = true
  case neg =>
    have hf2 : (decide (ns.length ≤ 14) && decide (es.length ≤ 60)) = false := by simpa using hfw
    rw [hf2]
    clear hfw hf2
    go_wp2_with fail
    go_ret
    exact ⟨rfl, HB2.out⟩
  case pos =>
    have hN : ns.length ≤ 14 := by rw [Bool.and_eq_true] at hfw; exact of_decide_eq_true hfw.1
    have hes : es.length ≤ 60 := by rw [Bool.and_eq_true] at hfw; exact of_decide_eq_true hfw.2
    rw [hfw]
    clear hfw
    have HVW := Lib.hid (rValid_any a ns.length c (.slice ao es.length ec) es w2 (by omega) (by omega) ((HE.out.below HB2.out (Nat.le_refl _)).mono (by omega)))
    go_wp2_with fail
    refine HVW.out.mono ?_
    rintro e w3 ⟨rfl, hb3⟩
    have hs3 := hb3.size
    have HG3 := Lib.hid ((hb3.block w.heap.size (by omega)).trans HG2.out)
    have HB3 := Lib.hid (HB2.out.trans (hb3.mono (by omega)))
    have hg0 : w3.cell? ⟨w.heap.size, 0, none⟩ = some (.slice a ns.length c) := cell_of_row _ _ 0 _ _ _ HG3.out
    have hg1 : w3.cell? ⟨w.heap.size, 1, none⟩ = some (.slice ao es.length ec) := cell_of_row _ _ 1 _ _ _ HG3.out
    clear hb3 HVW
    by_cases hv : validG ns.length es = true
    case neg =>
      have hv2 : validG ns.length es = false := by simpa using hv
      rw [hv2]
      clear hv hv2
      go_wp2_with fail
      go_ret
      exact ⟨rfl, HB3.out⟩
    case pos =>
      have HV := Lib.hid hv
      rw [hv]
      clear hv
      by_cases h0 : ns.length = 0
      case pos =>
        have h1 : (ns.length : Int) = 0 := by omega
        have h2 : decide ((ns.length : Int) = 0) = true := decide_eq_true h1
        go_wp2_with fail
        go_ret
        exact ⟨rfl, HB3.out⟩
      case neg =>
        have h1 : ¬ (ns.length : Int) = 0 := by omega
        have h2 : decide ((ns.length : Int) = 0) = false := decide_eq_false h1
        obtain ⟨x, hx⟩ : ∃ x, x = f % ns.length := ⟨_, rfl⟩
        have hxN : x < ns.length := by rw [hx]; exact Nat.mod_lt _ (by omega)
        have hw1 : IntKind.i64.wrap (f : Int) = (f : Int) := IntWalk.i64_in _ (by omega)
        have hrem : Int.tmod (f : Int) (ns.length : Int) = (x : Int) := by rw [hx]; rfl
        have hw2 : IntKind.i64.wrap (x : Int) = (x : Int) := IntWalk.i64_in _ (by omega)
        clear hx
        obtain ⟨W3, hW3⟩ : ∃ W, W = w3.alloc (.cells #[.int .i64 (x : Int)] 3) := ⟨_, rfl⟩
        have hB3' : Below w.heap.size w W3 := by rw [hW3]; exact HB3.out.alloc (by omega) _
        have hsW3 : W3.heap.size = w3.heap.size + 1 := by rw [hW3]; simp
        have hrow : RowOf intC W3.heap.size (.slice (some ⟨w3.heap.size, 0, none⟩) 1 1) ([x].map Int.ofNat) W3 := .inr ⟨w3.heap.size, 0, 1, rfl, by omega, fun i y hy => by
          match i, hy with
          | 0, hy =>
            cases hy
            rw [hW3]
            exact cell_of_row _ _ 0 _ _ _ (World.alloc_heap_new w3 _)
          | i + 1, hy => simp at hy⟩
        have hRW := Reach_yes a ns.length c (.slice ao es.length ec) (.slice (some ⟨w3.heap.size, 0, none⟩) 1 1) es [x] W3 ((HE.out.below hB3' (Nat.le_refl _)).mono (by omega)) (by simp) hrow HV.out (by simpa using hxN)
        have HG3' : Hid (W3.heap[w.heap.size]? = some (.cells #[.slice a ns.length c, .slice ao es.length ec] 25 (0, 0))) := Lib.hid (by rw [hW3]; exact (Below.heap_alloc _ _ _ (by omega)).trans HG3.out)
        have HB3' := Lib.hid hB3'
        rw [hW3] at hRW
        have HRW := Lib.hid hRW
        rw [hW3] at HB3' HG3' hsW3
        clear hrow hRW hB3' hW3
        go_wp2_with fail
        refine HRW.out.mono ?_
        rintro e w4 ⟨v4, lr, rfl, hrs, hown, hb4⟩
        have hs4 := hb4.size
        rw [hsW3] at hs4
        have HG4 := Lib.hid ((hb4.block w.heap.size (by rw [hsW3]; omega)).trans HG3'.out)
        have HB4 := Lib.hid (HB3'.out.trans (hb4.mono (by rw [hsW3]; omega)))
        have hg0 : w4.cell? ⟨w.heap.size, 0, none⟩ = some (.slice a ns.length c) := cell_of_row _ _ 0 _ _ _ HG4.out
        have hg1 : w4.cell? ⟨w.heap.size, 1, none⟩ = some (.slice ao es.length ec) := cell_of_row _ _ 1 _ _ _ HG4.out
        have hrow := row_of_own hown
        have hlr := reachS_len hrs
        have HRS : Hid (∀ k, k ∈ lr ↔ k < ns.length ∧ Rch (sucs ns.length es) x k) := Lib.hid (fun k => by
          rw [hrs.2 k]
          refine and_congr_right fun _ => ⟨?_, fun h => ⟨x, by simp, h⟩⟩
          rintro ⟨y, hy, h⟩
          have : y = x := by have := List.mem_singleton.1 hy; exact Int.ofNat.inj this
          exact this ▸ h)
        obtain ⟨a4, c4, rfl⟩ := own_any hown
        have HRR := Lib.hid hrow
        have hmk := make_ints ns.length (by omega) w4
        obtain ⟨W5, hW5⟩ : ∃ W, W = w4.alloc (.cells (Array.replicate ns.length (.int .i64 0)) 3) := ⟨_, rfl⟩
        have hg05 := cellA (.cells (Array.replicate ns.length (.int .i64 0)) 3) hg0
        have hb5 : Below w4.heap.size w4 W5 := by rw [hW5]; exact bel_alloc _ _
        have HI5 : Hid (Ints W5 w4.heap.size (List.replicate ns.length 0)) := Lib.hid (by rw [hW5]; exact (World.alloc_heap_new w4 _).trans (by simp))
        have HG5 := Lib.hid ((hb5.block w.heap.size (by omega)).trans HG4.out)
        have HB5 := Lib.hid (HB4.out.trans (hb5.mono (by omega)))
        have HRR5 := Lib.hid (HRR.out.below hb5 (Nat.le_refl _))
        have HL0 : Hid (LenP ns.length es x 0 (List.replicate ns.length 0)) := Lib.hid ⟨by simp, fun b hb => absurd hb (Nat.not_lt_zero _)⟩
        clear hb4 hrs hown hrow HRW HRR hb5
        go_wp2_with fail
        rw [← hW5]
        clear hW5 hmk hg05 hg0 hg1
        have hsW5 : w4.heap.size < W5.heap.size := ints_row HI5.out
        go_loopw [46] (fun q wr => ∃ (k : Nat) (d : List Int), k ≤ ns.length ∧ q = .int .i64 k ∧ Hid (LenP ns.length es x k d) ∧ Hid (Ints wr w4.heap.size d) ∧ Hid (wr.heap[w.heap.size]? = some (.cells #[.slice a ns.length c, .slice ao es.length ec] 25 (0, 0))) ∧ Hid (RowOf intC w4.heap.size (.slice a4 lr.length c4) (lr.map fun n : Nat => (n : Int)) wr) ∧ Hid (Below w.heap.size w wr)) (fun q _ => ns.length - (intOf q).toNat)
        case atStart => exact ⟨0, _, by omega, rfl, HL0, HI5, HG5, HRR5, HB5⟩
        case round =>
          clear HL0 HI5 HG5 HRR5 HB5
          obtain ⟨k, d, hk, rfl, HL, HI, HG, HRR, HB⟩ := hrel
          have hsr : w4.heap.size < wr.heap.size := ints_row HI.out
          have hg0 : wr.cell? ⟨w.heap.size, 0, none⟩ = some (.slice a ns.length c) := cell_of_row _ _ 0 _ _ _ HG.out
          have hg1 : wr.cell? ⟨w.heap.size, 1, none⟩ = some (.slice ao es.length ec) := cell_of_row _ _ 1 _ _ _ HG.out
          by_cases hlt : k < ns.length
          · have hk1 : (k : Int) < (ns.length : Int) := by omega
            have hk0 : (0 : Int) ≤ (k : Int) := by omega
            have HPW := Lib.hid (Path_yes (.slice a ns.length c) (.slice ao es.length ec) ns es x k wr ((HE.out.below HB.out (Nat.le_refl _)).mono (by omega)) ((HR.out.below HB.out (Nat.le_refl _)).mono (by omega)) HV.out hxN hlt)
            go_wp2_with fail
            refine HPW.out.mono ?_
            rintro e w6 ⟨v6, rfl, hown6, hb6⟩
            have hs6 := hb6.size
            have hpl := pathF_len HV.out hxN hlt
            have HL1 : Hid (∀ u : List Int, u = d.set k ((pathF ns.length es x k).length : Int) → LenP ns.length es x (k + 1) u) := Lib.hid (by
              rintro u rfl
              refine ⟨by rw [List.length_set]; exact HL.out.1, fun b hb => ?_⟩
              have hdl := HL.out.1
              by_cases e : b = k
              · subst e; rw [gD_set _ _ _ _ (by omega), if_pos rfl]
              · rw [gD_set _ _ _ _ (by omega), if_neg e]; exact HL.out.2 b (by omega))
            have HI6 : Hid (Ints w6 w4.heap.size d) := Lib.hid ((hb6.block _ hsr).trans HI.out)
            have HG6 := Lib.hid ((hb6.block w.heap.size (by omega)).trans HG.out)
            have HB6 := Lib.hid (HB.out.trans (hb6.mono (by omega)))
            have HRR6 := Lib.hid (HRR.out.below hb6 (by omega))
            have HCW := Lib.hid (Contains_ints (.slice a4 lr.length c4) (lr.map fun n : Nat => (n : Int)) (k : Int) w4.heap.size w6 (by rw [List.length_map]; omega) HRR6.out)
            have hmem : ((k : Int) ∈ lr.map fun n : Nat => (n : Int)) ↔ Rch (sucs ns.length es) x k := by
              rw [List.mem_map]
              constructor
              · rintro ⟨y, hy, e⟩
                have : y = k := by omega
                subst this
                exact ((HRS.out y).1 hy).2
              · exact fun h => ⟨k, (HRS.out k).2 ⟨hlt, h⟩, rfl⟩
            have hdk : k < d.length := by have := HL.out.1; omega
            have hck := HI6.out.cell k _ (gD_get hdk)
            have hfk := frozen_of_row _ _ k _ _ HI6.out
            have hne0 : w.heap.size ≠ w4.heap.size := by omega
            have HRRs : Hid (∀ z, RowOf intC w4.heap.size (.slice a4 lr.length c4) (lr.map fun n : Nat => (n : Int)) (w6.setCell ⟨w4.heap.size, k, none⟩ z)) := Lib.hid (fun z => HRR6.out.below (Below.setCell (Below.refl _ _) (by exact Nat.le_refl _) _) (Nat.le_refl _))
            have HGs : Hid (∀ z, (w6.setCell ⟨w4.heap.size, k, none⟩ z).heap[w.heap.size]? = some (.cells #[.slice a ns.length c, .slice ao es.length ec] 25 (0, 0))) := Lib.hid (fun z => (heap_setCell_other _ _ _ _ (by exact hne0)).trans HG6.out)
            have HBs : Hid (∀ z, Below w.heap.size w (w6.setCell ⟨w4.heap.size, k, none⟩ z)) := Lib.hid (fun z => HB6.out.setCell (by show w.heap.size ≤ w4.heap.size; omega) _)
            clear hb6 HL HI HG HB HRR HPW hg0 hg1
            by_cases hr : Rch (sucs ns.length es) x k
            case neg =>
              have hnil := (pathF_nil (es := es) (a := x) hlt).2 hr
              have hdec : decide ((k : Int) ∈ lr.map fun n : Nat => (n : Int)) = false := decide_eq_false (fun h => hr (hmem.1 h))
              rw [hdec] at HCW
              rw [hnil] at hown6 HL1
              clear hdec hmem hnil hr hpl
              obtain ⟨a6, c6, hv6⟩ := own_any hown6
              rw [List.length_nil] at hv6
              subst hv6
              clear hown6
              go_wp2_with fail
              refine HCW.out.mono ?_
              rintro e w' ⟨rfl, rfl⟩
              go_wp2_with fail
              go_roundw
              case rel => exact ⟨k + 1, _, by omega, by go_num, Lib.hid (HL1.out _ rfl), Lib.hid (HI6.out.set k 0), Lib.hid (HGs.out _), Lib.hid (HRRs.out _), Lib.hid (HBs.out _)⟩
              case measure => simp [intOf]; omega
            case pos =>
              obtain ⟨⟨hw1, hw2, hw3⟩, m, hm, _, _⟩ := pathF_way (es := es) hlt hr
              have hdec : decide ((k : Int) ∈ lr.map fun n : Nat => (n : Int)) = true := decide_eq_true (hmem.2 hr)
              rw [hdec] at HCW
              obtain ⟨L, hL⟩ : ∃ L, L = pathF ns.length es x k := ⟨_, rfl⟩
              rw [← hL] at hown6 HL1 hw1 hw2 hw3 hm hpl
              have HWY := Lib.hid hw3
              clear hdec hmem hr hL hw3
              have hLp : 0 < L.length := by omega
              have hLp1 : (0 : Int) < (L.length : Int) := by omega
              have hLd : decide ((0 : Int) < (L.length : Int)) = true := decide_eq_true hLp1
              have hL0 : ¬ (L.length : Int) = 0 := by omega
              have hLe : decide ((L.length : Int) = 0) = false := decide_eq_false hL0
              have hLq : ((L.length : Int) == 0) = false := by simpa using hL0
              obtain ⟨g6, c6, hv6, hg6b, hg6l, _⟩ := own_shape hown6 hLp
              subst hv6
              have hcells : ∀ (i y : Nat), L[i]? = some y → w6.cell? ⟨g6, i, none⟩ = some (natC y) := fun i y hy => own_cell hown6 i (natC y) (by rw [List.getElem?_map, hy]; rfl)
              have hgne : g6 ≠ w4.heap.size := by omega
              have hcells2 : ∀ (z : Value) (i y : Nat), L[i]? = some y → (w6.setCell ⟨w4.heap.size, k, none⟩ z).cell? ⟨g6, i, none⟩ = some (natC y) := fun z i y hy => (World.cell?_setCell_far w6 _ _ _ (by exact hgne.symm)).trans (hcells i y hy)
              obtain ⟨e1, he1⟩ : ∃ e1, L.length = e1 + 1 := ⟨m, hm⟩
              have hx0 : L[0]? = some x := by rw [← List.head?_eq_getElem?]; exact hw1
              have hxl : L[e1]? = some k := by rw [List.getLast?_eq_getElem?, he1] at hw2; exact hw2
              have hc0 := hcells2 (.int .i64 (L.length : Int)) 0 x hx0
              have hcl := hcells2 (.int .i64 (L.length : Int)) e1 k hxl
              have HCS := Lib.hid (hcells2 (.int .i64 (L.length : Int)))
              have hwl : IntKind.i64.wrap ((L.length : Int) - 1) = (e1 : Int) := (IntWalk.i64_in _ (by omega)).trans (by omega)
              have he0 : (0 : Int) ≤ (e1 : Int) := by omega
              have hel : (e1 : Int) < (L.length : Int) := by omega
              have HE1 := Lib.hid he1
              clear hm hcells hcells2 hown6 hw1 hw2 hx0 hxl he1
              go_wp2_with fail
              refine HCW.out.mono ?_
              rintro e w7 ⟨rfl, hw7⟩
              rw [hw7]
              clear hw7 w7
              go_wp2_with fail
              obtain ⟨W7, hW7⟩ : ∃ W, W = w6.setCell ⟨w4.heap.size, k, none⟩ (.int .i64 (L.length : Int)) := ⟨_, rfl⟩
              rw [← hW7]
              have hs7 : W7.heap.size = w6.heap.size := by rw [hW7]; exact World.size_setCell _ _ _
              have HI7 : Hid (Ints W7 w4.heap.size (d.set k (L.length : Int))) := Lib.hid (by rw [hW7]; exact HI6.out.set k _)
              have HG7 : Hid (W7.heap[w.heap.size]? = some (.cells #[.slice a ns.length c, .slice ao es.length ec] 25 (0, 0))) := Lib.hid (by rw [hW7]; exact HGs.out _)
              have HRR7 : Hid (RowOf intC w4.heap.size (.slice a4 lr.length c4) (lr.map fun n : Nat => (n : Int)) W7) := Lib.hid (by rw [hW7]; exact HRRs.out _)
              have HB7 : Hid (Below w.heap.size w W7) := Lib.hid (by rw [hW7]; exact HBs.out _)
              rw [← hW7] at HCS
              clear hW7 HI6 HG6 HRR6 HB6 HGs HRRs HBs hc0 hcl hck hfk HCW
              have hg67 : g6 < W7.heap.size := by omega
              have hw7l : w.heap.size < W7.heap.size := by omega
              have HLE : Hid (L.length ≤ ns.length + 1) := Lib.hid hpl
              clear hpl
              go_loopw [10] (fun q wr => ∃ i : Nat, 1 ≤ i ∧ i ≤ L.length ∧ q = .int .i64 i ∧ Hid (Below W7.heap.size W7 wr)) (fun q _ => L.length - (intOf q).toNat)
              case atStart => exact ⟨1, by omega, by omega, rfl, Lib.hid (Below.refl _ _)⟩
              case round =>
                obtain ⟨i, hi1, hil, rfl, HBI⟩ := hrel
                have hsi := HBI.out.size
                by_cases hlt2 : i < L.length
                · have ii1 : (i : Int) < (L.length : Int) := by omega
                  have ii0 : (0 : Int) ≤ (i : Int) := by omega
                  obtain ⟨j, hj⟩ : ∃ j, i = j + 1 := ⟨i - 1, by omega⟩
                  have hlL := HLE.out
                  have hwj : IntKind.i64.wrap ((i : Int) - 1) = (j : Int) := (IntWalk.i64_in _ (by omega)).trans (by omega)
                  have hj0 : (0 : Int) ≤ (j : Int) := by omega
                  have hj1 : (j : Int) < (L.length : Int) := by omega
                  have hjL : j < L.length := by omega
                  obtain ⟨y, hy⟩ : ∃ y, L[j]? = some y := ⟨L[j], by simp [hjL]⟩
                  obtain ⟨z, hz⟩ : ∃ z, L[i]? = some z := ⟨L[i], by simp [hlt2]⟩
                  have hed : ((y : Int), (z : Int)) ∈ es := (mem_sucs.1 (HWY.out j y z hy (by rw [← hj]; exact hz))).2.2
                  have hcy := HCS.out j y hy
                  have hcz := HCS.out i z hz
                  have HCYZ : Hid (∀ W, Below W7.heap.size W7 W → HeldR ⟨w.heap.size, 1, none⟩ ⟨g6, j, none⟩ ⟨g6, i, none⟩ (.slice ao es.length ec) (natC y) (natC z) W) := Lib.hid fun W hW => ⟨cell_of_row _ _ 1 _ _ _ ((hW.block _ hw7l).trans HG7.out), (hW.cell (p := ⟨g6, j, none⟩) hg67).trans hcy, (hW.cell (p := ⟨g6, i, none⟩) hg67).trans hcz⟩
                  have hep : 0 < es.length := List.length_pos_of_mem hed
                  have HBId : Hid (Below W7.heap.size W7 wr.drew) := Lib.hid HBI.out.drew
                  have hec := EdgeContains_any (.slice ao es.length ec) es (y : Int) (z : Int) wr.drew (by omega) hep ((HE.out.below (HB7.out.trans (HBId.out.mono (by omega))) (Nat.le_refl _)).mono (by have := HBId.out.size; omega))
                  rw [decide_eq_true hed] at hec
                  have HEC := Lib.hid hec
                  have hSd := HCYZ.out _ HBId.out
                  have HJ := Lib.hid hj
                  clear hj hy hz hed hcy hcz hec hep
                  go_wp2_with fail
                  refine region_plainP (S := HeldR ⟨w.heap.size, 1, none⟩ ⟨g6, j, none⟩ ⟨g6, i, none⟩ (.slice ao es.length ec) (natC y) (natC z)) (by kernel_rfl) ?_
                  (refine wpAnyH_take (i := 0) (v := ?_) rfl (by kernel_rfl) (by kernel_rfl) (by kernel_rfl) (fun _ _ _ h => h) (Or.inl ⟨by rfl, ?_⟩) (by assumption) ?_; rotate_left; (· (intro w hSw; obtain ⟨c0, c1, c2⟩ := hSw; go_simp; try with_reducible rfl)); (try simp only [List.getElem_toArray, List.getElem_cons_zero, List.getElem_cons_succ, Act.put, List.setIfInBounds_toArray, List.set_cons_zero, List.set_cons_succ]))
                  (refine wpAnyH_take (i := 1) (v := ?_) rfl (by kernel_rfl) (by kernel_rfl) (by kernel_rfl) (fun _ _ _ h => h) (Or.inl ⟨by rfl, ?_⟩) (by assumption) ?_; rotate_left; (· (intro w hSw; obtain ⟨c0, c1, c2⟩ := hSw; go_simp; try with_reducible rfl)); (try simp only [List.getElem_toArray, List.getElem_cons_zero, List.getElem_cons_succ, Act.put, List.setIfInBounds_toArray, List.set_cons_zero, List.set_cons_succ]))
                  (refine wpAnyH_take (i := 2) (v := ?_) rfl (by kernel_rfl) (by kernel_rfl) (by kernel_rfl) (fun _ _ _ h => h) (Or.inl ⟨by rfl, ?_⟩) (by assumption) ?_; rotate_left; (· (intro w hSw; obtain ⟨c0, c1, c2⟩ := hSw; go_simp; try with_reducible rfl)); (try simp only [List.getElem_toArray, List.getElem_cons_zero, List.getElem_cons_succ, Act.put, List.setIfInBounds_toArray, List.set_cons_zero, List.set_cons_succ]))
                  (refine wpAnyH_take (i := 3) (v := ?_) rfl (by kernel_rfl) (by kernel_rfl) (by kernel_rfl) (fun _ _ _ h => h) (Or.inl ⟨by rfl, ?_⟩) (by assumption) ?_; rotate_left; (· (intro w hSw; obtain ⟨c0, c1, c2⟩ := hSw; go_simp; try with_reducible rfl)); (try simp only [List.getElem_toArray, List.getElem_cons_zero, List.getElem_cons_succ, Act.put, List.setIfInBounds_toArray, List.set_cons_zero, List.set_cons_succ]))
                  (refine wpAnyH_take (i := 4) (v := ?_) rfl (by kernel_rfl) (by kernel_rfl) (by kernel_rfl) (fun _ _ _ h => h) (Or.inl ⟨by rfl, ?_⟩) (by assumption) ?_; rotate_left; (· (intro w hSw; obtain ⟨c0, c1, c2⟩ := hSw; go_simp; try with_reducible rfl)); (try simp only [List.getElem_toArray, List.getElem_cons_zero, List.getElem_cons_succ, Act.put, List.setIfInBounds_toArray, List.set_cons_zero, List.set_cons_succ]))
                  (refine wpAnyH_take (i := 5) (v := ?_) rfl (by kernel_rfl) (by kernel_rfl) (by kernel_rfl) (fun _ _ _ h => h) (Or.inl ⟨by rfl, ?_⟩) (by assumption) ?_; rotate_left; (· (intro w hSw; obtain ⟨c0, c1, c2⟩ := hSw; go_simp; try with_reducible rfl)); (try simp only [List.getElem_toArray, List.getElem_cons_zero, List.getElem_cons_succ, Act.put, List.setIfInBounds_toArray, List.set_cons_zero, List.set_cons_succ]))
                  (refine wpAnyH_take (i := 6) (v := ?_) rfl (by kernel_rfl) (by kernel_rfl) (by kernel_rfl) (fun _ _ _ h => h) (Or.inl ⟨by rfl, ?_⟩) (by assumption) ?_; rotate_left; (· (intro w hSw; obtain ⟨c0, c1, c2⟩ := hSw; go_simp; try with_reducible rfl)); (try simp only [List.getElem_toArray, List.getElem_cons_zero, List.getElem_cons_succ, Act.put, List.setIfInBounds_toArray, List.set_cons_zero, List.set_cons_succ]))
                  (refine wpAnyH_take (i := 7) (v := ?_) rfl (by kernel_rfl) (by kernel_rfl) (by kernel_rfl) (fun _ _ _ h => h) (Or.inl ⟨by rfl, ?_⟩) (by assumption) ?_; rotate_left; (· (intro w hSw; obtain ⟨c0, c1, c2⟩ := hSw; go_simp; try with_reducible rfl)); (try simp only [List.getElem_toArray, List.getElem_cons_zero, List.getElem_cons_succ, Act.put, List.setIfInBounds_toArray, List.set_cons_zero, List.set_cons_succ]))
                  (refine wpAnyH_take (i := 8) (v := ?_) rfl (by kernel_rfl) (by kernel_rfl) (by kernel_rfl) (fun _ _ _ h => h) (Or.inl ⟨by rfl, ?_⟩) (by assumption) ?_; rotate_left; (· (intro w hSw; obtain ⟨c0, c1, c2⟩ := hSw; go_simp; try with_reducible rfl)); (try simp only [List.getElem_toArray, List.getElem_cons_zero, List.getElem_cons_succ, Act.put, List.setIfInBounds_toArray, List.set_cons_zero, List.set_cons_succ]))
                  (refine wpAnyH_take (i := 9) (v := ?_) rfl (by kernel_rfl) (by kernel_rfl) (by kernel_rfl) (fun _ _ _ h => h) (Or.inl ⟨by rfl, ?_⟩) (by assumption) ?_; rotate_left; (· (intro w hSw; obtain ⟨c0, c1, c2⟩ := hSw; go_simp; try with_reducible rfl)); (try simp only [List.getElem_toArray, List.getElem_cons_zero, List.getElem_cons_succ, Act.put, List.setIfInBounds_toArray, List.set_cons_zero, List.set_cons_succ]))
                  (refine wpAnyH_take (i := 10) (v := ?_) rfl (by kernel_rfl) (by kernel_rfl) (by kernel_rfl) (fun _ _ _ h => h) (Or.inl ⟨by rfl, ?_⟩) (by assumption) ?_; rotate_left; (· (intro w hSw; obtain ⟨c0, c1, c2⟩ := hSw; go_simp; try with_reducible rfl)); (try simp only [List.getElem_toArray, List.getElem_cons_zero, List.getElem_cons_succ, Act.put, List.setIfInBounds_toArray, List.set_cons_zero, List.set_cons_succ]))
                  (refine wpAnyH_take (i := 11) (v := ?_) rfl (by kernel_rfl) (by kernel_rfl) (by kernel_rfl) (fun _ _ _ h => h) (Or.inl ⟨by rfl, ?_⟩) (by assumption) ?_; rotate_left; (· (intro w hSw; obtain ⟨c0, c1, c2⟩ := hSw; go_simp; try with_reducible rfl)); (try simp only [List.getElem_toArray, List.getElem_cons_zero, List.getElem_cons_succ, Act.put, List.setIfInBounds_toArray, List.set_cons_zero, List.set_cons_succ]))
                  refine wpAnyH_ready (rs := [12]) (by kernel_rfl) (by simp) (AllReadyH.cons rfl (fun K hK => ?_) AllReadyH.nil)
                  go_simp
                  refine HEC.out.mono ?_
                  rintro e w8 ⟨rfl, hb8⟩
                  have HB8 := Lib.hid (HBId.out.trans (hb8.mono HBId.out.size))
                  have hSw := HCYZ.out _ HB8.out
                  clear hb8
                  try go_simp
                  refine hK.out _ _ hSw (fun _ => ?_)
                  clear hK K
                  (try simp only [List.getElem_toArray, List.getElem_cons_zero, List.getElem_cons_succ, Act.put, List.setIfInBounds_toArray, List.set_cons_zero, List.set_cons_succ])
                  (refine wpAnyH_take (i := 13) (v := ?_) rfl (by kernel_rfl) (by kernel_rfl) (by kernel_rfl) (fun _ _ _ h => h) (Or.inl ⟨by rfl, ?_⟩) (by assumption) ?_; rotate_left; (· (intro w hSw; obtain ⟨c0, c1, c2⟩ := hSw; go_simp; try with_reducible rfl)); (try simp only [List.getElem_toArray, List.getElem_cons_zero, List.getElem_cons_succ, Act.put, List.setIfInBounds_toArray, List.set_cons_zero, List.set_cons_succ]))
                  refine wpAnyH_done (by kernel_rfl) ?_ _
                  refine NoPanic.normal ?_
                  go_wp2_with fail
                  go_roundw
                  case rel => exact ⟨i + 1, by omega, by omega, by go_num, HB8⟩
                  case measure => simp [intOf]; omega
                · have hii : i = L.length := by omega
                  subst hii
                  go_wp2_with fail
                  go_roundw
                  case rel => exact ⟨k + 1, _, by omega, by go_num, Lib.hid (HL1.out _ rfl), Lib.hid ((HBI.out.block _ (by omega)).trans HI7.out), Lib.hid ((HBI.out.block _ (by omega)).trans HG7.out), Lib.hid (HRR7.out.below HBI.out (by omega)), Lib.hid (HB7.out.trans (HBI.out.mono (by omega)))⟩
                  case measure => simp [intOf]; omega
          · have hkk : k = ns.length := by omega
            have hlen := HL.out
            rw [hkk] at hlen
            have HLN := Lib.hid hlen
            clear hk hlt hlen HL
            go_wp2_with fail
            obtain ⟨w9, hw9⟩ : ∃ W : World, W = wr := ⟨_, rfl⟩
            subst hw9
            have hgl9 : w.heap.size < w9.heap.size := by omega
            clear hg0
            go_loopw [107] (fun q wr => ∃ m : Nat, m ≤ es.length ∧ q = .int .i64 m ∧ Hid (Below w9.heap.size w9 wr)) (fun q _ => es.length - (intOf q).toNat)
            case atStart => exact ⟨0, by omega, rfl, Lib.hid (Below.refl _ _)⟩
            case round =>
              obtain ⟨m, hm, rfl, HBM⟩ := hrel
              have hsm := HBM.out.size
              by_cases hlt2 : m < es.length
              · have hm0 : (0 : Int) ≤ (m : Int) := by omega
                have hm1 : (m : Int) < (es.length : Int) := by omega
                obtain ⟨ao', ec', hao, hE2⟩ := HE.out
                cases hao
                obtain ⟨b, off, rfl, hb, hc1, hc2⟩ := hE2 m es[m] (by simp [hlt2])
                have HBW : Hid (Below w.heap.size w wr) := Lib.hid (HB.out.trans (HBM.out.mono (by omega)))
                have hc1 := (HBW.out.cell (p := ⟨b, off + m * 2, none⟩) hb).trans hc1
                have hc2 := (HBW.out.cell (p := ⟨b, off + m * 2 + 1, none⟩) hb).trans hc2
                have hed := validG_edge HV.out (List.getElem_mem hlt2)
                have hmm := List.getElem_mem hlt2
                obtain ⟨⟨x1, x2⟩, hx⟩ : ∃ x, x = es[m] := ⟨_, rfl⟩
                rw [← hx] at hc1 hc2 hed hmm
                clear hx hE2
                obtain ⟨i, rfl⟩ : ∃ i : Nat, x1 = (i : Int) := ⟨x1.toNat, by simp at hed; omega⟩
                obtain ⟨j, rfl⟩ : ∃ j : Nat, x2 = (j : Int) := ⟨x2.toNat, by simp at hed; omega⟩
                simp only at hc1 hc2 hed
                obtain ⟨hi0, hi1, hj0, hj1⟩ := hed
                have hiN : i < ns.length := by omega
                have hjN : j < ns.length := by omega
                have hsh := pathF_edge (a := x) hiN hjN hmm
                have hpi := pathF_len HV.out hxN hiN
                have hpj := pathF_len HV.out hxN hjN
                have hvi := HLN.out.2 i hiN
                have hvj := HLN.out.2 j hjN
                have hIm : Ints wr w4.heap.size d := (HBM.out.block _ (by omega)).trans HI.out
                have hdl := HLN.out.1
                have hoi := hIm.cell i _ (gD_get (by omega))
                have hoj := hIm.cell j _ (gD_get (by omega))
                rw [hvi] at hoi
                rw [hvj] at hoj
                generalize (pathF ns.length es x i).length = pi at *
                generalize (pathF ns.length es x j).length = pj at *
                have hci := cellA (.cells #[.int .i64 (i : Int), .int .i64 (j : Int)] 39) hoi
                have hcj := cellA (.cells #[.int .i64 (i : Int), .int .i64 (j : Int)] 39) hoj
                have HBA : Hid (Below w9.heap.size w9 (wr.alloc (.cells #[.int .i64 (i : Int), .int .i64 (j : Int)] 39))) := Lib.hid (HBM.out.alloc (by omega) _)
                have hwp : IntKind.i64.wrap ((pi : Int) + 1) = (pi : Int) + 1 := IntWalk.i64_in _ (by omega)
                clear hIm hoi hoj hvi hvj hmm
                by_cases q1 : 0 < pi
                · have p1 : decide ((0 : Int) < (pi : Int)) = true := decide_eq_true (by omega)
                  have p2 : decide ((pi : Int) + 1 < (pj : Int)) = false := decide_eq_false (by have := hsh q1; omega)
                  clear hsh hpi hpj
                  go_wp2_with fail
                  go_quiet (fail)
                  go_wp2_with fail
                  go_roundw
                  case rel => exact ⟨m + 1, by omega, by go_num, Lib.hid (below_drewN HBA.out _)⟩
                  case measure => simp [intOf]; omega
                · have p1 : decide ((0 : Int) < (pi : Int)) = false := decide_eq_false (by omega)
                  clear hsh hpi hpj
                  go_wp2_with fail
                  go_quiet (fail)
                  go_wp2_with fail
                  go_roundw
                  case rel => exact ⟨m + 1, by omega, by go_num, Lib.hid (below_drewN HBA.out _)⟩
                  case measure => simp [intOf]; omega
              · have hdl := HLN.out.1
                have hIm : Ints wr w4.heap.size d := (HBM.out.block _ (by omega)).trans HI.out
                have hox := hIm.cell x _ (gD_get (by omega))
                rw [HLN.out.2 x hxN, pathF_self hxN] at hox
                have hx0 : (0 : Int) ≤ (x : Int) := by omega
                have hx1 : (x : Int) < (ns.length : Int) := by omega
                go_wp2_with fail
                go_ret
                exact ⟨rfl, HB.out.trans (HBM.out.mono (by omega))⟩
end Go.Proofs.Ytlcgbkeggmaljaa
