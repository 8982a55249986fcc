/- The law GraphPartition returns true. -/
import Derived.Test.YtlcgbkeggmaljaaGConvLaw
import Derived.Test.YtlcgbkeggmaljaaGSorted
import Derived.Test.YtlcgbkeggmaljaaGPlainPart
namespace Go.Proofs.Ytlcgbkeggmaljaa
set_option linter.unusedVariables false
set_option linter.unusedSimpArgs false
open Go Go.RowKit

theorem Kept1.drewN {g : Nat} {A B : World} (h : Kept1 g A B) (q : Nat) : Kept1 g A (B.drewN q) := ⟨below_drewN h.bel q, h.size, h.blk⟩

set_option maxRecDepth 100000 in
set_option maxHeartbeats 4000000 in
theorem part1_any (Bb gl N x y ux uy : Nat) (W : World) (hN : N ≤ 1000000) (hb : W.cell? ⟨Bb, 0, none⟩ = some (.slice (some ⟨gl, 0, none⟩) N N)) (hx : W.cell? ⟨gl, x, none⟩ = some (.int .i64 (ux : Int))) (hy : W.cell? ⟨gl, y, none⟩ = some (.int .i64 (uy : Int))) (hxN : x < N) (hyN : y < N) (h : uy ≤ ux) :
    Calls Try.prog 38 #[.agg #[.int .i64 (x : Int), .int .i64 (y : Int)], .pointer (some ⟨Bb, 0, none⟩)] W fun e w' => e = .returned (.bool false) ∧ Below W.heap.size W w' := by
  have hb2 := cellA (.cells #[.int .i64 (x : Int), .int .i64 (y : Int)] 39) hb
  have hx2 := cellA (.cells #[.int .i64 (x : Int), .int .i64 (y : Int)] 39) hx
  have hy2 := cellA (.cells #[.int .i64 (x : Int), .int .i64 (y : Int)] 39) hy
  have HB := Lib.hid (bel_alloc W (.cells #[.int .i64 (x : Int), .int .i64 (y : Int)] 39))
  have hx0 : (0 : Int) ≤ (x : Int) := by omega
  have hx1 : (x : Int) < (N : Int) := by omega
  have hy0 : (0 : Int) ≤ (y : Int) := by omega
  have hy1 : (y : Int) < (N : Int) := by omega
  have p1 : decide ((ux : Int) < (uy : Int)) = false := decide_eq_false (by omega)
  have p2 : decide (ux < uy) = false := decide_eq_false (by omega)
  clear hb hx hy
  go_enter Try.func38, Try.ntmps38
  go_wp2_with fail
  go_quiet (fail)
  go_wp2_with fail
  go_ret
  exact ⟨by first | rfl | rw [p1] | rw [p2], below_drewN HB.out _⟩

set_option maxRecDepth 100000 in
set_option maxHeartbeats 8000000 in
theorem GraphPartition_any (a : Option Addr) (c : Nat) (ev : Value) (ns : List ByteArray) (es : List (Int × Int)) (w : World) (hE : EdgesOf w.heap.size ev es w) (hR : RowOf Value.string w.heap.size (.slice a ns.length c) ns w) :
    Calls Try.prog 9 #[.agg #[.slice a ns.length c, ev]] w fun e w' => e = .returned (.bool true) ∧ Below w.heap.size w w' := by
  have hE0 := hE
  obtain ⟨ao, ec, rfl, _⟩ := hE
  have HE := Lib.hid hE0
  have HR := Lib.hid hR
  have HB0 : Hid (Below w.heap.size w (w.alloc (.cells #[.slice a ns.length c, .slice ao es.length ec] 25))) := Lib.hid (bel_alloc _ _)
  have HG0 : Hid ((w.alloc (.cells #[.slice a ns.length c, .slice ao es.length ec] 25)).heap[w.heap.size]? = some (.cells #[.slice a ns.length c, .slice ao es.length ec] 25 (0, 0))) := Lib.hid (World.alloc_heap_new w _)
  have HAW := Lib.hid (awake_any (w.alloc (.cells #[.slice a ns.length c, .slice ao es.length ec] 25)))
  clear hE0 hR
  go_enter Try.func9, Try.ntmps9
  go_wp2_with fail
  refine HAW.out.mono ?_
  rintro e w1 ⟨rfl, hb1⟩
  have hs1 := hb1.size
  simp only [World.size_alloc] at hs1
  have HG1 := Lib.hid ((hb1.block w.heap.size (by simp)).trans HG0.out)
  have HB1 := Lib.hid (HB0.out.trans (hb1.mono (by simp)))
  have hg0 : w1.cell? ⟨w.heap.size, 0, none⟩ = some (.slice a ns.length c) := cell_of_row _ _ 0 _ _ _ HG1.out
  have hg1 : w1.cell? ⟨w.heap.size, 1, none⟩ = some (.slice ao es.length ec) := cell_of_row _ _ 1 _ _ _ HG1.out
  have HFW := Lib.hid (Few_any a ao ns.length c es.length ec w1)
  clear hb1 HAW
  go_wp2_with fail
  refine HFW.out.mono ?_
  rintro e w2 ⟨rfl, hb2⟩
  have hs2 := hb2.size
  have HG2 := Lib.hid ((hb2.block w.heap.size (by omega)).trans HG1.out)
  have HB2 := Lib.hid (HB1.out.trans (hb2.mono (by omega)))
  have hg0 : w2.cell? ⟨w.heap.size, 0, none⟩ = some (.slice a ns.length c) := cell_of_row _ _ 0 _ _ _ HG2.out
  have hg1 : w2.cell? ⟨w.heap.size, 1, none⟩ = some (.slice ao es.length ec) := cell_of_row _ _ 1 _ _ _ HG2.out
  clear hb2 HFW
  by_cases hfw : (decide (ns.length ≤ 14) && decide (es.length ≤ 60)) = true
  case neg =>
    have hf2 : (decide (ns.length ≤ 14) && decide (es.length ≤ 60)) = false := by simpa using hfw
    rw [hf2]
    clear hfw hf2
    go_wp2_with fail
    go_ret
    exact ⟨rfl, HB2.out⟩
  case pos =>
    have hN : ns.length ≤ 14 := by rw [Bool.and_eq_true] at hfw; exact of_decide_eq_true hfw.1
    have hes : es.length ≤ 60 := by rw [Bool.and_eq_true] at hfw; exact of_decide_eq_true hfw.2
    rw [hfw]
    clear hfw
    by_cases hv : validG ns.length es = true
    case neg =>
      have hv2 : validG ns.length es = false := by simpa using hv
      have HCN := Lib.hid (Components_no (.slice a ns.length c) (.slice ao es.length ec) ns es w2 (by omega) ((HE.out.below HB2.out (Nat.le_refl _)).mono (by omega)) ((HR.out.below HB2.out (Nat.le_refl _)).mono (by omega)) hv2)
      go_wp2_with fail
      refine HCN.out.mono ?_
      rintro e w3 ⟨rfl, hb3⟩
      have hs3 := hb3.size
      have HB3 := Lib.hid (HB2.out.trans (hb3.mono (by omega)))
      have HG3 := Lib.hid ((hb3.block w.heap.size (by omega)).trans HG2.out)
      have hg0 : w3.cell? ⟨w.heap.size, 0, none⟩ = some (.slice a ns.length c) := cell_of_row _ _ 0 _ _ _ HG3.out
      have hg1 : w3.cell? ⟨w.heap.size, 1, none⟩ = some (.slice ao es.length ec) := cell_of_row _ _ 1 _ _ _ HG3.out
      have hvv := Valid_any a ns.length c (.slice ao es.length ec) es w3 (by omega) ((HE.out.below HB3.out (Nat.le_refl _)).mono (by omega))
      rw [hv2] at hvv
      have HVV := Lib.hid hvv
      clear hvv hv hv2 HCN hb3
      go_wp2_with fail
      refine HVV.out.mono ?_
      rintro e w4 ⟨rfl, hb4⟩
      have HB4 := Lib.hid (HB3.out.trans (hb4.mono (by omega)))
      clear hb4
      go_wp2_with fail
      go_ret
      exact ⟨rfl, HB4.out⟩
    case pos =>
      have HV := Lib.hid hv
      have HCY := Lib.hid (Components_yes (.slice a ns.length c) (.slice ao es.length ec) ns es w2 ((HE.out.below HB2.out (Nat.le_refl _)).mono (by omega)) ((HR.out.below HB2.out (Nat.le_refl _)).mono (by omega)) hv (numbered _ _))
      go_wp2_with fail
      refine HCY.out.mono ?_
      rintro e w3 ⟨v3, rfl, hro3, hb3⟩
      have hs3 := hb3.size
      have HB3 := Lib.hid (HB2.out.trans (hb3.mono (by omega)))
      have HG3 := Lib.hid ((hb3.block w.heap.size (by omega)).trans HG2.out)
      have hg0 : w3.cell? ⟨w.heap.size, 0, none⟩ = some (.slice a ns.length c) := cell_of_row _ _ 0 _ _ _ HG3.out
      have hg1 : w3.cell? ⟨w.heap.size, 1, none⟩ = some (.slice ao es.length ec) := cell_of_row _ _ 1 _ _ _ HG3.out
      have hvv := Valid_any a ns.length c (.slice ao es.length ec) es w3 (by omega) ((HE.out.below HB3.out (Nat.le_refl _)).mono (by omega))
      rw [hv] at hvv
      have HVV := Lib.hid hvv
      have HRO3 := Lib.hid hro3
      obtain ⟨ta, tc, rfl⟩ := rows_shape hro3
      clear hvv HCY hb3 hro3 hv
      go_wp2_with fail
      refine HVV.out.mono ?_
      rintro e w4 ⟨rfl, hb4⟩
      have hs4 := hb4.size
      have HB4 := Lib.hid (HB3.out.trans (hb4.mono (by omega)))
      have HG4 := Lib.hid ((hb4.block w.heap.size (by omega)).trans HG3.out)
      have HRO4 := Lib.hid (HRO3.out.below hb4 (Nat.le_refl _))
      have hg0 : w4.cell? ⟨w.heap.size, 0, none⟩ = some (.slice a ns.length c) := cell_of_row _ _ 0 _ _ _ HG4.out
      have hmk := make_ints ns.length (by omega) w4
      obtain ⟨W5, hW5⟩ : ∃ W, W = ((w4.alloc (.cells (Array.replicate ns.length (.int .i64 0)) 3)).alloc (.cells #[.slice (some ⟨w4.heap.size, 0, none⟩) ns.length ns.length] 26)) := ⟨_, rfl⟩
      have hs5 : W5.heap.size = w4.heap.size + 1 + 1 := by rw [hW5]; simp
      have hb5 : Below w4.heap.size w4 W5 := by rw [hW5]; exact ((Below.refl _ _).alloc (Nat.le_refl _) _).alloc (by simp) _
      have HI5 : Hid (Ints W5 w4.heap.size (List.replicate ns.length 0)) := Lib.hid (by
        rw [hW5]
        exact (Below.heap_alloc _ _ _ (by simp)).trans ((World.alloc_heap_new w4 _).trans (by simp)))
      have HA5 : Hid (W5.heap[w4.heap.size + 1]? = some (.cells #[.slice (some ⟨w4.heap.size, 0, none⟩) ns.length ns.length] 26 (0, 0))) := Lib.hid (by
        rw [hW5]
        have := World.alloc_heap_new (w4.alloc (.cells (Array.replicate ns.length (.int .i64 0)) 3)) (.cells #[.slice (some ⟨w4.heap.size, 0, none⟩) ns.length ns.length] 26)
        rw [World.size_alloc] at this
        exact this)
      have HG5 := Lib.hid ((hb5.block w.heap.size (by omega)).trans HG4.out)
      have HB5 := Lib.hid (HB4.out.trans (hb5.mono (by omega)))
      have HRO5 := Lib.hid (HRO4.out.below hb5 (by omega))
      obtain ⟨lv, hlv⟩ := pos_ok ns.length es
      have hll : (compsG ns.length es).length ≤ ns.length := by rw [comps_len]; exact (nodesG_len (numbered _ _)).1
      have HLV := Lib.hid hlv
      have HLV0 := Lib.hid (LvA.start ns.length es lv)
      clear hb4 hb5 hlv HVV HRO3 HRO4
      go_wp2_with fail
      rw [← hW5]
      clear hg0 hg1 hmk hW5
      go_loopw [31] (fun q wr => ∃ (i : Nat) (d : List Int), i ≤ (compsG ns.length es).length ∧ q = .int .i64 i ∧ Hid (LvA ns.length es lv i [] d) ∧ Hid (Ints wr w4.heap.size d) ∧ Hid (Kept1 w4.heap.size W5 wr)) (fun q _ => (compsG ns.length es).length - (intOf q).toNat)
      case atStart => exact ⟨0, _, by omega, rfl, HLV0, HI5, Lib.hid (Kept1.refl _ _)⟩
      case round =>
        clear HLV0 HI5
        obtain ⟨i, d, hi, rfl, HL, HI, HK⟩ := hrel
        have hsk := HK.out.size
        by_cases hlt : i < (compsG ns.length es).length
        · have hi0 : (0 : Int) ≤ (i : Int) := by omega
          have hi1 : (i : Int) < ((compsG ns.length es).length : Int) := by omega
          obtain ⟨row, hrow⟩ : ∃ row, (compsG ns.length es)[i]? = some row := ⟨(compsG ns.length es)[i], by simp [hlt]⟩
          have hrd : (compsG ns.length es).getD i [] = row := by rw [List.getD_eq_getElem?_getD, hrow]; rfl
          obtain ⟨b, off, cap, hta, hbl, r, hcr0, hrr0⟩ := rows_at HRO5.out i hlt
          cases hta
          rw [hrd] at hrr0
          obtain ⟨hsrt, hrp⟩ := HLV.out.srt i row hrow
          have hmem := HLV.out.mem i row hrow
          have hrl : row.length ≤ ns.length := by
            have hp : row.Perm ((List.range ns.length).filter fun k => decide (k ∈ row)) := (List.perm_ext_iff_of_nodup (hsrt.imp fun h => Nat.ne_of_lt h) (List.nodup_range.filter _)).2 fun k => by
              rw [List.mem_filter, List.mem_range, decide_eq_true_eq]
              exact ⟨fun hk => ⟨((hmem k).1 hk).1, hk⟩, fun hk => hk.2⟩
            rw [hp.length_eq]
            have := List.length_filter_le (fun k => decide (k ∈ row)) (List.range ns.length)
            rwa [List.length_range] at this
          have hcr := (HK.out.cell (i := off + i) (by omega)).trans hcr0
          have hrr : RowOf natC w3.heap.size r row wr := by
            rcases hrr0 with h | ⟨b', off', cap', e1, e2, e3⟩
            · exact .inl h
            · exact .inr ⟨b', off', cap', e1, e2, fun j x hx => (HK.out.cell (i := off' + j) (by omega)).trans (e3 j x hx)⟩
          have HIS := Lib.hid (IsSorted_ints r row w3.heap.size wr (by omega) hrp hrr hsrt)
          have HRR0 := Lib.hid hrr0
          obtain ⟨ra, rc, rfl, _⟩ := rowOf_open hrr0
          have HSRT := Lib.hid hsrt
          have HMEM := Lib.hid hmem
          have HL' : Hid (LvA ns.length es lv i (row.take 0) d) := Lib.hid (by rw [List.take_zero]; exact HL.out)
          have hp0 : ¬ (row.length : Int) = 0 := by omega
          have hp1 : decide ((row.length : Int) = 0) = false := decide_eq_false hp0
          have hp2 : ((row.length : Int) == 0) = false := by simpa using hp0
          have HBL := Lib.hid hbl
          clear hsrt hmem hrd hrow hcr0 hrr0 hrr HL hbl
          go_wp2_with fail
          refine HIS.out.mono ?_
          rintro e wx ⟨rfl, q, hwx⟩
          have HIx : Hid (Ints wx w4.heap.size d) := Lib.hid (by rw [hwx]; exact HI.out)
          have HKx : Hid (Kept1 w4.heap.size W5 wx) := Lib.hid (by rw [hwx]; exact HK.out.drewN q)
          clear HIS hcr HI HK hsk hwx
          go_wp2_with fail
          go_loopw [46] (fun q wr => ∃ (m : Nat) (d : List Int), m ≤ row.length ∧ q = .int .i64 m ∧ Hid (LvA ns.length es lv i (row.take m) d) ∧ Hid (Ints wr w4.heap.size d) ∧ Hid (Kept1 w4.heap.size W5 wr)) (fun q _ => row.length - (intOf q).toNat)
          case atStart => exact ⟨0, d, by omega, rfl, HL', HIx, HKx⟩
          case round =>
            clear HL' HIx HKx
            obtain ⟨m, d, hm, rfl, HL, HI, HK⟩ := hrel
            have hsk := HK.out.size
            by_cases hlt2 : m < row.length
            · have hm0 : (0 : Int) ≤ (m : Int) := by omega
              have hm1 : (m : Int) < (row.length : Int) := by omega
              obtain ⟨n, hn⟩ : ∃ n, row[m]? = some n := ⟨row[m], by simp [hlt2]⟩
              obtain ⟨ra', rc', hra, hcells⟩ := rowOf_open HRR0.out
              cases hra
              obtain ⟨rb, ro, rfl, h5, h7⟩ := hcells m n hn
              obtain ⟨hnN, hnl⟩ := (HMEM.out n).1 (List.mem_of_getElem? hn)
              have hz := HL.out.zero hn HSRT.out hnN hnl
              have hcm := (HK.out.cell (i := ro + m) (by omega)).trans h7
              have hdl := HL.out.1
              have hcn := HI.out.cell n _ (gD_get (by omega))
              rw [hz] at hcn
              have hfn := frozen_of_row _ _ n _ _ HI.out
              have hba : wr.cell? ⟨w4.heap.size + 1, 0, none⟩ = some (.slice (some ⟨w4.heap.size, 0, none⟩) ns.length ns.length) := cell_of_row _ _ 0 _ _ _ ((HK.out.blk _ (by omega)).trans HA5.out)
              have hn0 : (0 : Int) ≤ (n : Int) := by omega
              have hn1 : (n : Int) < (ns.length : Int) := by omega
              have p1 : decide ((n : Int) < 0) = false := decide_eq_false (by omega)
              have p2 : decide ((ns.length : Int) ≤ (n : Int)) = false := decide_eq_false (by omega)
              have hwi : IntKind.i64.wrap ((i : Int) + 1) = (i : Int) + 1 := IntWalk.i64_in _ (by omega)
              have HL2 : Hid (LvA ns.length es lv i (row.take (m + 1)) (d.set n ((i : Int) + 1))) := Lib.hid (by
                have h9 : row.take (m + 1) = row.take m ++ [n] := by
                  obtain ⟨_, e⟩ := List.getElem?_eq_some_iff.1 hn
                  rw [List.take_succ_eq_append_getElem hlt2, e]
                rw [h9]
                exact HL.out.set hnN hnl)
              clear hz h7 hn hnl h5 HL hcells
              go_wp2_with fail
              go_roundw
              case rel => exact ⟨m + 1, _, by omega, by go_num, HL2, Lib.hid (HI.out.set n _), Lib.hid (HK.out.set n _)⟩
              case measure => simp [intOf]; omega
            · have hmm : m = row.length := by omega
              subst hmm
              have HL2 : Hid (LvA ns.length es lv (i + 1) [] d) := Lib.hid (by
                have := HL.out
                rw [List.take_length] at this
                exact this.next HMEM.out)
              go_wp2_with fail
              go_roundw
              case rel => exact ⟨i + 1, d, by omega, by go_num, HL2, HI, HK⟩
              case measure => simp [intOf]; omega
        · have hii : i = (compsG ns.length es).length := by omega
          have HF : Hid (d.length = ns.length ∧ ∀ n, n < ns.length → gD d n = ((lv (clG ns.length es n) + 1 : Nat) : Int)) := Lib.hid ⟨HL.out.1, fun n hn => by
            rw [HL.out.2 n hn, if_pos (.inl (by rw [hii]; exact HLV.out.lt n hn))]⟩
          obtain ⟨w9, hw9⟩ : ∃ W : World, W = wr := ⟨_, rfl⟩
          subst hw9
          have HG9 := Lib.hid ((HK.out.blk w.heap.size (by omega)).trans HG5.out)
          have HA9 := Lib.hid ((HK.out.blk (w4.heap.size + 1) (by omega)).trans HA5.out)
          have HB9 : Hid (Below w.heap.size w w9) := Lib.hid (HB5.out.trans (HK.out.bel.mono (by omega)))
          have hba : w9.cell? ⟨w4.heap.size + 1, 0, none⟩ = some (.slice (some ⟨w4.heap.size, 0, none⟩) ns.length ns.length) := cell_of_row _ _ 0 _ _ _ HA9.out
          subst hii
          clear hi hlt HL HK
          go_wp2_with fail
          go_loopw [74] (fun q wr => ∃ i : Nat, i ≤ ns.length ∧ q = .int .i64 i ∧ Hid (Below w9.heap.size w9 wr)) (fun q _ => ns.length - (intOf q).toNat)
          case atStart => exact ⟨0, by omega, rfl, Lib.hid (Below.refl _ _)⟩
          case round =>
            obtain ⟨i, hi, rfl, HBI⟩ := hrel
            have hsi := HBI.out.size
            clear hba
            by_cases hlt3 : i < ns.length
            · have hi0 : (0 : Int) ≤ (i : Int) := by omega
              have hi1 : (i : Int) < (ns.length : Int) := by omega
              have hIi : Ints wr w4.heap.size d := (HBI.out.block _ (by omega)).trans HI.out
              have hdl := HF.out.1
              have hcu := hIi.cell i _ (gD_get (by omega))
              rw [HF.out.2 i hlt3] at hcu
              obtain ⟨ui, hui⟩ : ∃ ui, ui = lv (clG ns.length es i) + 1 := ⟨_, rfl⟩
              rw [← hui] at hcu
              have hu0 : ¬ (ui : Int) = 0 := by omega
              have hu1 : decide ((ui : Int) = 0) = false := decide_eq_false hu0
              have hu2 : ((ui : Int) == 0) = false := by simpa using hu0
              have HUI := Lib.hid hui
              have hba : wr.cell? ⟨w4.heap.size + 1, 0, none⟩ = some (.slice (some ⟨w4.heap.size, 0, none⟩) ns.length ns.length) := cell_of_row _ _ 0 _ _ _ ((HBI.out.block _ (by omega)).trans HA9.out)
              clear hIi hui
              go_wp2_with fail
              clear hcu hba
              go_loopw [84] (fun q wr => ∃ k : Nat, k ≤ ns.length ∧ q = .int .i64 k ∧ Hid (Below w9.heap.size w9 wr)) (fun q _ => ns.length - (intOf q).toNat)
              case atStart => exact ⟨0, by omega, rfl, HBI⟩
              case round =>
                clear hsi HBI
                obtain ⟨k, hk, rfl, HBK⟩ := hrel
                have hsk := HBK.out.size
                by_cases hlt4 : k < ns.length
                · have hk0 : (0 : Int) ≤ (k : Int) := by omega
                  have hk1 : (k : Int) < (ns.length : Int) := by omega
                  have hg0 : wr.cell? ⟨w.heap.size, 0, none⟩ = some (.slice a ns.length c) := cell_of_row _ _ 0 _ _ _ ((HBK.out.block _ (by omega)).trans HG9.out)
                  have hg1 : wr.cell? ⟨w.heap.size, 1, none⟩ = some (.slice ao es.length ec) := cell_of_row _ _ 1 _ _ _ ((HBK.out.block _ (by omega)).trans HG9.out)
                  have HR1 := Lib.hid (reach1_any a ns.length c (.slice ao es.length ec) es i wr ((HE.out.below (HB9.out.trans (HBK.out.mono (by omega))) (Nat.le_refl _)).mono (by omega)) HV.out hlt3)
                  go_wp2_with fail
                  refine HR1.out.mono ?_
                  rintro e w10 ⟨ra, rl, rc, rfl, hb10, hcon⟩
                  have hs10 := hb10.size
                  have hc1 := hcon w10 k (Below.refl _ _)
                  have HB10 := Lib.hid (HBK.out.trans (hb10.mono hsk))
                  clear hcon hb10 HR1 hg0 hg1
                  have hg0 : w10.cell? ⟨w.heap.size, 0, none⟩ = some (.slice a ns.length c) := cell_of_row _ _ 0 _ _ _ ((HB10.out.block _ (by omega)).trans HG9.out)
                  have hg1 : w10.cell? ⟨w.heap.size, 1, none⟩ = some (.slice ao es.length ec) := cell_of_row _ _ 1 _ _ _ ((HB10.out.block _ (by omega)).trans HG9.out)
                  have HR2 := Lib.hid (reach1_any a ns.length c (.slice ao es.length ec) es k w10 ((HE.out.below (HB9.out.trans (HB10.out.mono (by omega))) (Nat.le_refl _)).mono (by omega)) HV.out hlt4)
                  have hdl := HF.out.1
                  obtain ⟨uk, huk⟩ : ∃ uk, uk = lv (clG ns.length es k) + 1 := ⟨_, rfl⟩
                  have HEQ : Hid (ui = uk ↔ rchB ns.length es i k = true ∧ rchB ns.length es k i = true) := Lib.hid (by
                    rw [huk, HUI.out, rchB_iff, rchB_iff]
                    constructor
                    · intro e
                      have := (clG_eq hlt3 hlt4).1 ((HLV.out.inj i k hlt3 hlt4).1 (by omega))
                      exact ⟨⟨hlt4, this.1⟩, hlt3, this.2⟩
                    · intro e
                      have := (HLV.out.inj i k hlt3 hlt4).2 ((clG_eq hlt3 hlt4).2 ⟨e.1.2, e.2.2⟩)
                      omega)
                  have HCI : Hid (∀ W, Below w9.heap.size w9 W → W.cell? ⟨w4.heap.size + 1, 0, none⟩ = some (.slice (some ⟨w4.heap.size, 0, none⟩) ns.length ns.length) ∧ W.cell? ⟨w4.heap.size, i, none⟩ = some (.int .i64 (ui : Int)) ∧ W.cell? ⟨w4.heap.size, k, none⟩ = some (.int .i64 (uk : Int))) := Lib.hid fun W hW => by
                    have hIi : Ints W w4.heap.size d := (hW.block _ (by omega)).trans HI.out
                    have h1 := hIi.cell k _ (gD_get (by omega))
                    have h2 := hIi.cell i _ (gD_get (by omega))
                    rw [HF.out.2 k hlt4, ← huk] at h1
                    rw [HF.out.2 i hlt3, ← HUI.out] at h2
                    exact ⟨cell_of_row _ _ 0 _ _ _ ((hW.block _ (by omega)).trans HA9.out), h2, h1⟩
                  clear huk
                  cases hr1 : rchB ns.length es i k with
                  | false =>
                    rw [hr1] at hc1
                    have HC1 := Lib.hid hc1
                    have hne : ¬ ui = uk := fun e => by have := (HEQ.out.1 e).1; rw [hr1] at this; cases this
                    have q1 : ¬ (ui : Int) = (uk : Int) := by omega
                    have q2 : decide ((ui : Int) = (uk : Int)) = false := decide_eq_false q1
                    have q3 : ((ui : Int) == (uk : Int)) = false := by simpa using q1
                    have q4 : (ui == uk) = false := by simpa using hne
                    obtain ⟨hba, hci, hck⟩ := HCI.out _ HB10.out
                    clear hc1 hr1 hg0 hg1
                    go_wp2_with fail
                    refine HC1.out.mono ?_
                    rintro e w11 ⟨rfl, hw11⟩
                    rw [hw11]
                    clear hw11 w11 HC1 HR2
                    go_wp2_with fail
                    go_quiet (fail)
                    go_wp2_with fail
                    go_roundw
                    case rel => exact ⟨k + 1, by omega, by go_num, Lib.hid (below_drewN HB10.out _)⟩
                    case measure => simp [intOf]; omega
                  | true =>
                    rw [hr1] at hc1
                    have HC1 := Lib.hid hc1
                    clear hc1
                    go_wp2_with fail
                    refine HC1.out.mono ?_
                    rintro e w11 ⟨rfl, hw11⟩
                    rw [hw11]
                    clear hw11 w11 HC1
                    go_wp2_with fail
                    refine HR2.out.mono ?_
                    rintro e w12 ⟨ra2, rl2, rc2, rfl, hb12, hcon2⟩
                    have hs12 := hb12.size
                    have hc2 := hcon2 w12 i (Below.refl _ _)
                    have HB12 := Lib.hid (HB10.out.trans (hb12.mono (by omega)))
                    obtain ⟨hba, hci, hck⟩ := HCI.out _ HB12.out
                    clear hcon2 hb12 HR2 hg0 hg1
                    cases hr2 : rchB ns.length es k i with
                    | false =>
                      rw [hr2] at hc2
                      have HC2 := Lib.hid hc2
                      have hne : ¬ ui = uk := fun e => by have := (HEQ.out.1 e).2; rw [hr2] at this; cases this
                      have q1 : ¬ (ui : Int) = (uk : Int) := by omega
                      have q2 : decide ((ui : Int) = (uk : Int)) = false := decide_eq_false q1
                      have q3 : ((ui : Int) == (uk : Int)) = false := by simpa using q1
                      have q4 : (ui == uk) = false := by simpa using hne
                      clear hc2 hr1 hr2
                      go_wp2_with fail
                      refine HC2.out.mono ?_
                      rintro e w13 ⟨rfl, hw13⟩
                      rw [hw13]
                      clear hw13 w13 HC2
                      go_wp2_with fail
                      go_quiet (fail)
                      go_wp2_with fail
                      go_roundw
                      case rel => exact ⟨k + 1, by omega, by go_num, Lib.hid (below_drewN HB12.out _)⟩
                      case measure => simp [intOf]; omega
                    | true =>
                      rw [hr2] at hc2
                      have HC2 := Lib.hid hc2
                      have heq : ui = uk := HEQ.out.2 ⟨hr1, hr2⟩
                      rw [← heq] at hck
                      clear heq
                      clear hc2 hr1 hr2
                      go_wp2_with fail
                      refine HC2.out.mono ?_
                      rintro e w13 ⟨rfl, hw13⟩
                      rw [hw13]
                      clear hw13 w13 HC2
                      go_wp2_with fail
                      go_quiet (fail)
                      go_wp2_with fail
                      go_roundw
                      case rel => exact ⟨k + 1, by omega, by go_num, Lib.hid (below_drewN HB12.out _)⟩
                      case measure => simp [intOf]; omega
                · have hkk : k = ns.length := by omega
                  subst hkk
                  go_wp2_with fail
                  go_roundw
                  case rel => exact ⟨i + 1, by omega, by go_num, HBK⟩
                  case measure => simp [intOf]; omega
            · have hii : i = ns.length := by omega
              have hEr := (HE.out.below (HB9.out.trans (HBI.out.mono (by omega))) (Nat.le_refl _)).mono (B' := wr.heap.size) (by omega)
              have hany := has_edge 38 #[.pointer (some ⟨w4.heap.size + 1, 0, none⟩)] (enters_of Try.func38 (by kernel_rfl) rfl) (fun _ => false) (.slice ao es.length ec) es wr (by omega) hEr (fun W x hx hW => by
                have hBW := HBI.out.trans (hW.mono hsi)
                have hed := validG_edge HV.out hx
                have hdl := HF.out.1
                obtain ⟨x1, x2⟩ := x
                simp only at hed
                obtain ⟨i1, rfl⟩ : ∃ i1 : Nat, x1 = (i1 : Int) := ⟨x1.toNat, by omega⟩
                obtain ⟨j1, rfl⟩ : ∃ j1 : Nat, x2 = (j1 : Int) := ⟨x2.toNat, by omega⟩
                have hi1N : i1 < ns.length := by omega
                have hj1N : j1 < ns.length := by omega
                have hIi : Ints W w4.heap.size d := (hBW.block _ (by omega)).trans HI.out
                have h1 := hIi.cell i1 _ (gD_get (by omega))
                have h2 := hIi.cell j1 _ (gD_get (by omega))
                rw [HF.out.2 i1 hi1N] at h1
                rw [HF.out.2 j1 hj1N] at h2
                have hdn := HLV.out.down i1 j1 hi1N (mem_sucs.2 ⟨hi1N, hj1N, hx⟩)
                refine (part1_any (w4.heap.size + 1) w4.heap.size ns.length i1 j1 _ _ W (by omega) (cell_of_row _ _ 0 _ _ _ ((hBW.block _ (by omega)).trans HA9.out)) h1 h2 hi1N hj1N (by omega)).mono fun e w' h => ⟨h.1, hW.trans (h.2.mono hW.size)⟩)
              rw [show (es.any fun _ => false) = false from by simp] at hany
              have HANY := Lib.hid hany
              have hg1 : wr.cell? ⟨w.heap.size, 1, none⟩ = some (.slice ao es.length ec) := cell_of_row _ _ 1 _ _ _ ((HBI.out.block _ (by omega)).trans HG9.out)
              clear hany hEr
              go_wp2_with fail
              refine HANY.out.mono ?_
              rintro e wz ⟨rfl, hbz⟩
              have HBZ := Lib.hid (HB9.out.trans ((HBI.out.mono (by omega)).trans (hbz.mono (by omega))))
              clear hbz
              go_wp2_with fail
              go_ret
              exact ⟨rfl, HBZ.out⟩
end Go.Proofs.Ytlcgbkeggmaljaa
