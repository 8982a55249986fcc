/- Contract of the reference's Same: two lists of lists are equal. -/
import Derived.Test.YtlcgbkeggmaljaaGOrder
namespace Go.Proofs.Ytlcgbkeggmaljaa
set_option linter.unusedVariables false
set_option linter.unusedSimpArgs false
open Go Go.RowKit

/-- a row of a slice of slices. -/
theorem rows_at {B : Nat} {v : Value} {S : List (List Nat)} {W : World} (h : RowsOf B v S W) (i : Nat) (hi : i < S.length) : ∃ b off cap, v = .slice (some ⟨b, off, none⟩) S.length cap ∧ b < B ∧ ∃ r, W.cell? ⟨b, off + i, none⟩ = some r ∧ RowOf natC B r (S.getD i []) W := by
  rcases h with ⟨h, _⟩ | ⟨b, off, cap, h1, h2, h3⟩
  · rw [h] at hi; simp at hi
  · obtain ⟨r, hr, hl⟩ := h3 i (S.getD i []) (by rw [List.getD_eq_getElem?_getD, List.getElem?_eq_getElem hi]; rfl)
    exact ⟨b, off, cap, h1, h2, r, hr, hl⟩
theorem rows_shape {B : Nat} {v : Value} {S : List (List Nat)} {W : World} (h : RowsOf B v S W) : ∃ a c, v = .slice a S.length c := by
  rcases h with ⟨h0, a, c, rfl⟩ | ⟨b, off, cap, rfl, _⟩
  · exact ⟨a, c, by rw [h0]; rfl⟩
  · exact ⟨_, cap, rfl⟩
theorem take_eq_succ {α : Type} [Inhabited α] {A B : List α} {i : Nat} (hA : i < A.length) (hB : i < B.length) (h : A.take i = B.take i) (he : A[i] = B[i]) : A.take (i + 1) = B.take (i + 1) := by
  rw [List.take_succ_eq_append_getElem hA, List.take_succ_eq_append_getElem hB, h, he]
theorem ne_of_at {α : Type} {A B : List α} {i : Nat} (hA : i < A.length) (hB : i < B.length) (he : A[i] ≠ B[i]) : A ≠ B := fun e => by subst e; exact he rfl

set_option maxRecDepth 100000 in
set_option maxHeartbeats 4000000 in
theorem Same_any (a b : Value) (A B : List (List Nat)) (w : World) (hA : RowsOf w.heap.size a A w) (hB : RowsOf w.heap.size b B w) (hAl : A.length ≤ 1000000000) (hBl : B.length ≤ 1000000000) (hAr : ∀ i, (A.getD i []).length ≤ 1000000000) (hBr : ∀ i, (B.getD i []).length ≤ 1000000000) :
    Calls Try.prog 27 #[a, b] w fun e w' => e = .returned (.bool (decide (A = B))) ∧ Below w.heap.size w w' := by
  obtain ⟨aa, ac, rfl⟩ := rows_shape hA
  obtain ⟨ba, bc, rfl⟩ := rows_shape hB
  have HA := Lib.hid hA
  have HB := Lib.hid hB
  have HAR := Lib.hid hAr
  have HBR := Lib.hid hBr
  clear hA hB hAr hBr
  by_cases hlen : A.length = B.length
  case neg =>
    have hd : decide (A = B) = false := decide_eq_false (fun e => hlen (by rw [e]))
    rw [hd]
    have hl2 : ¬ (A.length : Int) = (B.length : Int) := by omega
    have hl3 : decide ((A.length : Int) = (B.length : Int)) = false := decide_eq_false hl2
    clear hd hlen
    go_enter Try.func27, Try.ntmps27
    go_wp2_with fail
    go_ret
    exact ⟨rfl, Below.refl _ _⟩
  case pos =>
    obtain ⟨N, hN⟩ : ∃ N, N = A.length := ⟨_, rfl⟩
    have hNB : B.length = N := by omega
    rw [← hN, hNB]
    have HLA := Lib.hid hN
    have HLB := Lib.hid hNB
    clear hlen
    have hNl : N ≤ 1000000000 := by omega
    clear hN hNB hAl hBl
    go_enter Try.func27, Try.ntmps27
    go_wp2_with fail
    go_loopw [5] (fun q wr => ∃ i : Nat, i ≤ N ∧ q = .int .i64 i ∧ Hid (A.take i = B.take i) ∧ Hid (Below w.heap.size w wr)) (fun q _ => N - (intOf q).toNat)
    case atStart => exact ⟨0, by omega, rfl, Lib.hid (by simp), Lib.hid (Below.refl _ _)⟩
    case round =>
      obtain ⟨i, hi, rfl, HT, HW⟩ := hrel
      by_cases hlt : i < N
      · have hi0 : (0 : Int) ≤ (i : Int) := by omega
        have hi1 : (i : Int) < (N : Int) := by omega
        have hiA : i < A.length := by rw [← HLA.out]; exact hlt
        have hiB : i < B.length := by rw [HLB.out]; exact hlt
        obtain ⟨b1, o1, c1, hv1, hb1, r1, hr1, hrow1⟩ := rows_at HA.out i hiA
        obtain ⟨b2, o2, c2, hv2, hb2, r2, hr2, hrow2⟩ := rows_at HB.out i hiB
        rw [← HLA.out] at hv1
        rw [HLB.out] at hv2
        cases hv1
        cases hv2
        have hx1 := HAR.out i
        have hx2 := HBR.out i
        have hg1 : A.getD i [] = A[i] := by rw [List.getD_eq_getElem?_getD, List.getElem?_eq_getElem hiA]; rfl
        have hg2 : B.getD i [] = B[i] := by rw [List.getD_eq_getElem?_getD, List.getElem?_eq_getElem hiB]; rfl
        have HNX : Hid (A.getD i [] = B.getD i [] → A.take (i + 1) = B.take (i + 1)) := Lib.hid fun h => take_eq_succ hiA hiB HT.out (by rw [← hg1, ← hg2]; exact h)
        have HNE : Hid (A.getD i [] ≠ B.getD i [] → decide (A = B) = false) := Lib.hid fun h => decide_eq_false (ne_of_at hiA hiB (by rw [← hg1, ← hg2]; exact h))
        obtain ⟨x1, hx1e⟩ : ∃ x, x = A.getD i [] := ⟨_, rfl⟩
        obtain ⟨x2, hx2e⟩ : ∃ x, x = B.getD i [] := ⟨_, rfl⟩
        rw [← hx1e] at hrow1 hx1 HNX HNE
        rw [← hx2e] at hrow2 hx2 HNX HNE
        clear hx1e hx2e hg1 hg2 hiA hiB
        obtain ⟨ra1, rc1, rfl, hq1⟩ := rowOf_open hrow1
        obtain ⟨ra2, rc2, rfl, hq2⟩ := rowOf_open hrow2
        have HQ1 := Lib.hid hq1
        have HQ2 := Lib.hid hq2
        clear hrow1 hrow2 hq1 hq2
        have hs1 := (HW.out.cell (p := ⟨b1, o1 + i, none⟩) hb1).trans hr1
        have hs2 := (HW.out.cell (p := ⟨b2, o2 + i, none⟩) hb2).trans hr2
        by_cases hle : x1.length = x2.length
        · have hled : decide ((x1.length : Int) = (x2.length : Int)) = true := decide_eq_true (by omega)
          obtain ⟨M, hM⟩ : ∃ M, M = x1.length := ⟨_, rfl⟩
          have hM2 : x2.length = M := by omega
          rw [← hM] at hr1 hx1 hs1
          rw [hM2] at hr2 hs2
          have HR1 := Lib.hid hr1
          have HR2 := Lib.hid hr2
          clear hr1 hr2
          have HM1 := Lib.hid hM
          have HM2 := Lib.hid hM2
          clear hled hle hx2 hM hM2
          go_wp2_with fail
          go_quiet (fail)
          go_wp2_with fail
          obtain ⟨wo, rfl⟩ : ∃ wo : World, wo = wr := ⟨_, rfl⟩
          go_loopw [6] (fun q wr => ∃ j : Nat, j ≤ M ∧ q = .int .i64 j ∧ Hid (x1.take j = x2.take j) ∧ Hid (Below w.heap.size w wr)) (fun q _ => M - (intOf q).toNat)
          case atStart => exact ⟨0, by omega, rfl, Lib.hid (by simp), Lib.hid ⟨HW.out.os, HW.out.tape, HW.out.output, HW.out.size, HW.out.block⟩⟩
          case round =>
            clear hs1 hs2
            obtain ⟨j, hj, rfl, HTJ, HWJ⟩ := hrel
            have hs1 := (HWJ.out.cell (p := ⟨b1, o1 + i, none⟩) hb1).trans HR1.out
            have hs2 := (HWJ.out.cell (p := ⟨b2, o2 + i, none⟩) hb2).trans HR2.out
            by_cases hjl : j < M
            · have hj0 : (0 : Int) ≤ (j : Int) := by omega
              have hj1 : (j : Int) < (M : Int) := by omega
              have hl1 : j < x1.length := by rw [← HM1.out]; exact hjl
              have hl2 : j < x2.length := by rw [HM2.out]; exact hjl
              obtain ⟨d1, e1, rfl, hd1, hc1⟩ := HQ1.out j x1[j] (by simp [hl1])
              obtain ⟨d2, e2, rfl, hd2, hc2⟩ := HQ2.out j x2[j] (by simp [hl2])
              have hc1 := (HWJ.out.cell (p := ⟨d1, e1 + j, none⟩) hd1).trans hc1
              have hc2 := (HWJ.out.cell (p := ⟨d2, e2 + j, none⟩) hd2).trans hc2
              have HNJ : Hid (x1[j] = x2[j] → x1.take (j + 1) = x2.take (j + 1)) := Lib.hid fun h => take_eq_succ hl1 hl2 HTJ.out h
              have HEJ : Hid (x1[j] ≠ x2[j] → decide (A = B) = false) := Lib.hid fun h => HNE.out (ne_of_at hl1 hl2 h)
              generalize x1[j] = y1 at *
              generalize x2[j] = y2 at *
              by_cases hxy : (y1 : Int) = (y2 : Int)
              · have hxyd : decide ((y1 : Int) = (y2 : Int)) = true := decide_eq_true hxy
                have hxy2 : y1 = y2 := by omega
                have HXY := Lib.hid (HNJ.out hxy2)
                subst hxy2
                clear HNJ HEJ hl1 hl2
                go_wp2_with fail
                go_quiet (fail)
                go_wp2_with fail
                go_roundw
                case rel => exact ⟨j + 1, by omega, by go_num, HXY, Lib.hid ⟨HWJ.out.os, HWJ.out.tape, HWJ.out.output, HWJ.out.size, HWJ.out.block⟩⟩
                case measure => simp [intOf]; omega
              · have hxyd : decide ((y1 : Int) = (y2 : Int)) = false := decide_eq_false hxy
                have HD := Lib.hid (HEJ.out (fun e => hxy (by rw [e])))
                clear HNJ HEJ hl1 hl2
                go_wp2_with fail
                go_quiet (fail)
                go_wp2_with fail
                go_ret
                exact ⟨by rw [HD.out]; rfl, ⟨HWJ.out.os, HWJ.out.tape, HWJ.out.output, HWJ.out.size, HWJ.out.block⟩⟩
            · have hjj : j = M := by omega
              subst hjj
              have HX := Lib.hid (HNX.out (by
                have := HTJ.out
                rw [List.take_of_length_le (by rw [← HM1.out]; exact Nat.le_refl _), List.take_of_length_le (by rw [HM2.out]; exact Nat.le_refl _)] at this
                exact this))
              go_wp2_with fail
              go_roundw
              case rel => exact ⟨i + 1, by omega, by go_num, HX, HWJ⟩
              case measure => simp [intOf]; omega
        · have hled : decide ((x1.length : Int) = (x2.length : Int)) = false := decide_eq_false (by omega)
          have HD := Lib.hid (HNE.out (fun e => hle (by rw [e])))
          go_wp2_with fail
          go_quiet (fail)
          go_wp2_with fail
          go_ret
          exact ⟨by rw [HD.out]; rfl, ⟨HW.out.os, HW.out.tape, HW.out.output, HW.out.size, HW.out.block⟩⟩
      · have hii : i = N := by omega
        subst hii
        have HE : Hid (decide (A = B) = true) := Lib.hid (decide_eq_true (by
          have := HT.out
          rw [List.take_of_length_le (by rw [← HLA.out]; exact Nat.le_refl _), List.take_of_length_le (by rw [HLB.out]; exact Nat.le_refl _)] at this
          exact this))
        go_wp2_with fail
        go_ret
        exact ⟨by rw [HE.out]; rfl, HW.out⟩
end Go.Proofs.Ytlcgbkeggmaljaa
