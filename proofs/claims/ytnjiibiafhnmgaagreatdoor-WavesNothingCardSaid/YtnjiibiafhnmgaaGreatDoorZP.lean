/- Contract of the reference's Same (plans). Contracts for Check: Equal at strings, append of a whole row of strings. The library's IsSorted at strings. -/
import Derived.Test.YtnjiibiafhnmgaaGreatDoorZO
import Derived.Shelf.SlSorted.IsSorted
namespace Go.Proofs.YtnjiibiafhnmgaaGreatDoor
open Go Go.RowKit

theorem names_shape {B : Nat} {v : Value} {S : List (List ByteArray)} {W : World} (h : NamesOf B v S W) : ∃ a c, v = .slice a S.length c := by
  obtain ⟨a, c, e, _⟩ := h
  exact ⟨a, c, e⟩
theorem names_row {B : Nat} {v : Value} {S : List (List ByteArray)} {W : World} (h : NamesOf B v S W) (i : Nat) (hi : i < S.length) : ∃ b off cap, v = .slice (some ⟨b, off, none⟩) S.length cap ∧ b < B ∧ ∃ r, W.cell? ⟨b, off + i, none⟩ = some r ∧ RowOf Value.string B r (S.getD i []) W := by
  obtain ⟨a, c, rfl, h⟩ := h
  obtain ⟨b, off, r, rfl, h2, h3, h4⟩ := h i (S.getD i []) (by rw [List.getD_eq_getElem?_getD, List.getElem?_eq_getElem hi]; rfl)
  exact ⟨b, off, c, rfl, h2, r, h3, h4⟩
set_option maxRecDepth 100000 in
set_option maxHeartbeats 4000000 in
theorem Same44_any (a b : Value) (A B : List (List ByteArray)) (w : World) (hA : NamesOf w.heap.size a A w) (hB : NamesOf w.heap.size b B w) (hAl : A.length ≤ 1000000000) (_hBl : B.length ≤ 1000000000) (hAr : ∀ i, (A.getD i []).length ≤ 1000000000) (hBr : ∀ i, (B.getD i []).length ≤ 1000000000) :
    Calls Tryz.prog 22 #[a, b] w fun e w' => e = .returned (.bool (decide (A = B))) ∧ Below w.heap.size w w' := by
  obtain ⟨aa, ac, rfl⟩ := names_shape hA
  obtain ⟨ba, bc, rfl⟩ := names_shape hB
  have HA := Lib.hid hA
  have HB := Lib.hid hB
  have HAR := Lib.hid hAr
  have HBR := Lib.hid hBr
  clear hA hB hAr hBr
  by_cases hlen : A.length = B.length
  case neg =>
    have hd : decide (A = B) = false := decide_eq_false (fun e => hlen (by rw [e]))
    rw [hd]
    have hl2 : ¬ (A.length : Int) = (B.length : Int) := by omega
    have hl3 : decide ((A.length : Int) = (B.length : Int)) = false := decide_eq_false hl2
    clear hd hlen
    go_enter Tryz.func22, Tryz.ntmps22
    go_wp2_with fail
    go_ret
    exact ⟨rfl, Below.refl _ _⟩
  case pos =>
    obtain ⟨N, hN⟩ : ∃ N, N = A.length := ⟨_, rfl⟩
    have hNB : B.length = N := by omega
    rw [← hN, hNB]
    have HLA := Lib.hid hN
    have HLB := Lib.hid hNB
    clear hlen
    have hNl : N ≤ 1000000000 := by omega
    clear hN hNB hAl
    go_enter Tryz.func22, Tryz.ntmps22
    go_wp2_with fail
    go_loopw [5] (fun q wr => ∃ i : Nat, i ≤ N ∧ q = .int .i64 i ∧ Hid (A.take i = B.take i) ∧ Hid (Below w.heap.size w wr)) (fun q _ => N - (intOf q).toNat)
    case atStart => exact ⟨0, by omega, rfl, Lib.hid (by simp), Lib.hid (Below.refl _ _)⟩
    case round =>
      obtain ⟨i, hi, rfl, HT, HW⟩ := hrel
      by_cases hlt : i < N
      · have hi0 : (0 : Int) ≤ (i : Int) := by omega
        have hi1 : (i : Int) < (N : Int) := by omega
        have hiA : i < A.length := by rw [← HLA.out]; exact hlt
        have hiB : i < B.length := by rw [HLB.out]; exact hlt
        obtain ⟨b1, o1, c1, hv1, hb1, r1, hr1, hrow1⟩ := names_row HA.out i hiA
        obtain ⟨b2, o2, c2, hv2, hb2, r2, hr2, hrow2⟩ := names_row HB.out i hiB
        rw [← HLA.out] at hv1
        rw [HLB.out] at hv2
        cases hv1
        cases hv2
        have hx1 := HAR.out i
        have hx2 := HBR.out i
        have hg1 : A.getD i [] = A[i] := by rw [List.getD_eq_getElem?_getD, List.getElem?_eq_getElem hiA]; rfl
        have hg2 : B.getD i [] = B[i] := by rw [List.getD_eq_getElem?_getD, List.getElem?_eq_getElem hiB]; rfl
        have HNX : Hid (A.getD i [] = B.getD i [] → A.take (i + 1) = B.take (i + 1)) := Lib.hid fun h => take_eq_succ hiA hiB HT.out (by rw [← hg1, ← hg2]; exact h)
        have HNE : Hid (A.getD i [] ≠ B.getD i [] → decide (A = B) = false) := Lib.hid fun h => decide_eq_false (ne_of_at hiA hiB (by rw [← hg1, ← hg2]; exact h))
        obtain ⟨x1, hx1e⟩ : ∃ x, x = A.getD i [] := ⟨_, rfl⟩
        obtain ⟨x2, hx2e⟩ : ∃ x, x = B.getD i [] := ⟨_, rfl⟩
        rw [← hx1e] at hrow1 hx1 HNX HNE
        rw [← hx2e] at hrow2 hx2 HNX HNE
        clear hx1e hx2e hg1 hg2 hiA hiB
        obtain ⟨ra1, rc1, rfl, hq1⟩ := rowOf_open hrow1
        obtain ⟨ra2, rc2, rfl, hq2⟩ := rowOf_open hrow2
        have HQ1 := Lib.hid hq1
        have HQ2 := Lib.hid hq2
        clear hrow1 hrow2 hq1 hq2
        have hs1 := (HW.out.cell (p := ⟨b1, o1 + i, none⟩) hb1).trans hr1
        have hs2 := (HW.out.cell (p := ⟨b2, o2 + i, none⟩) hb2).trans hr2
        by_cases hle : x1.length = x2.length
        · have hled : decide ((x1.length : Int) = (x2.length : Int)) = true := decide_eq_true (by omega)
          obtain ⟨M, hM⟩ : ∃ M, M = x1.length := ⟨_, rfl⟩
          have hM2 : x2.length = M := by omega
          rw [← hM] at hr1 hx1 hs1
          rw [hM2] at hr2 hs2
          have HR1 := Lib.hid hr1
          have HR2 := Lib.hid hr2
          clear hr1 hr2
          have HM1 := Lib.hid hM
          have HM2 := Lib.hid hM2
          clear hled hle hx2 hM hM2
          go_wp2_with fail
          go_quiet (fail)
          go_wp2_with fail
          obtain ⟨wo, rfl⟩ : ∃ wo : World, wo = wr := ⟨_, rfl⟩
          go_loopw [6] (fun q wr => ∃ j : Nat, j ≤ M ∧ q = .int .i64 j ∧ Hid (x1.take j = x2.take j) ∧ Hid (Below w.heap.size w wr)) (fun q _ => M - (intOf q).toNat)
          case atStart => exact ⟨0, by omega, rfl, Lib.hid (by simp), Lib.hid ⟨HW.out.os, HW.out.tape, HW.out.output, HW.out.size, HW.out.block⟩⟩
          case round =>
            clear hs1 hs2
            obtain ⟨j, hj, rfl, HTJ, HWJ⟩ := hrel
            have hs1 := (HWJ.out.cell (p := ⟨b1, o1 + i, none⟩) hb1).trans HR1.out
            have hs2 := (HWJ.out.cell (p := ⟨b2, o2 + i, none⟩) hb2).trans HR2.out
            by_cases hjl : j < M
            · have hj0 : (0 : Int) ≤ (j : Int) := by omega
              have hj1 : (j : Int) < (M : Int) := by omega
              have hl1 : j < x1.length := by rw [← HM1.out]; exact hjl
              have hl2 : j < x2.length := by rw [HM2.out]; exact hjl
              obtain ⟨d1, e1, rfl, hd1, hc1⟩ := HQ1.out j x1[j] (by simp [hl1])
              obtain ⟨d2, e2, rfl, hd2, hc2⟩ := HQ2.out j x2[j] (by simp [hl2])
              have hc1 := (HWJ.out.cell (p := ⟨d1, e1 + j, none⟩) hd1).trans hc1
              have hc2 := (HWJ.out.cell (p := ⟨d2, e2 + j, none⟩) hd2).trans hc2
              have HNJ : Hid (x1[j] = x2[j] → x1.take (j + 1) = x2.take (j + 1)) := Lib.hid fun h => take_eq_succ hl1 hl2 HTJ.out h
              have HEJ : Hid (x1[j] ≠ x2[j] → decide (A = B) = false) := Lib.hid fun h => HNE.out (ne_of_at hl1 hl2 h)
              generalize x1[j] = y1 at *
              generalize x2[j] = y2 at *
              by_cases hxy : y1 = y2
              · have hxyd : (y1.toList == y2.toList) = true := by rw [eqs_dec]; exact decide_eq_true hxy
                have hxy2 : y1 = y2 := hxy
                have HXY := Lib.hid (HNJ.out hxy2)
                subst hxy2
                clear HNJ HEJ hl1 hl2
                go_wp2_with fail
                go_quiet (fail)
                go_wp2_with fail
                go_roundw
                case rel => exact ⟨j + 1, by omega, by go_num, HXY, Lib.hid ⟨HWJ.out.os, HWJ.out.tape, HWJ.out.output, HWJ.out.size, HWJ.out.block⟩⟩
                case measure => simp [intOf]; omega
              · have hxyd : (y1.toList == y2.toList) = false := by rw [eqs_dec]; exact decide_eq_false hxy
                have HD := Lib.hid (HEJ.out hxy)
                clear HNJ HEJ hl1 hl2
                go_wp2_with fail
                go_quiet (fail)
                go_wp2_with fail
                go_ret
                exact ⟨by rw [HD.out]; rfl, ⟨HWJ.out.os, HWJ.out.tape, HWJ.out.output, HWJ.out.size, HWJ.out.block⟩⟩
            · have hjj : j = M := by omega
              subst hjj
              have HX := Lib.hid (HNX.out (by
                have := HTJ.out
                rw [List.take_of_length_le (by rw [← HM1.out]; exact Nat.le_refl _), List.take_of_length_le (by rw [HM2.out]; exact Nat.le_refl _)] at this
                exact this))
              go_wp2_with fail
              go_roundw
              case rel => exact ⟨i + 1, by omega, by go_num, HX, HWJ⟩
              case measure => simp [intOf]; omega
        · have hled : decide ((x1.length : Int) = (x2.length : Int)) = false := decide_eq_false (by omega)
          have HD := Lib.hid (HNE.out (fun e => hle (by rw [e])))
          go_wp2_with fail
          go_quiet (fail)
          go_wp2_with fail
          go_ret
          exact ⟨by rw [HD.out]; rfl, ⟨HW.out.os, HW.out.tape, HW.out.output, HW.out.size, HW.out.block⟩⟩
      · have hii : i = N := by omega
        subst hii
        have HE : Hid (decide (A = B) = true) := Lib.hid (decide_eq_true (by
          have := HT.out
          rw [List.take_of_length_le (by rw [← HLA.out]; exact Nat.le_refl _), List.take_of_length_le (by rw [HLB.out]; exact Nat.le_refl _)] at this
          exact this))
        go_wp2_with fail
        go_ret
        exact ⟨by rw [HE.out]; rfl, HW.out⟩
end Go.Proofs.YtnjiibiafhnmgaaGreatDoor

namespace Go.Proofs.YtnjiibiafhnmgaaGreatDoor
open Go Go.RowKit Go.Maps

theorem equal_rows (v1 v2 : Value) (L1 L2 : List ByteArray) (w : World) (h1l : L1.length ≤ 1000000000) (h2l : L2.length ≤ 1000000000) (h1 : RowOf Value.string w.heap.size v1 L1 w) (h2 : RowOf Value.string w.heap.size v2 L2 w) :
    Calls Tryz.prog 20 #[v1, v2] w fun e w' => e = .returned (.bool (decide (L1 = L2))) ∧ Below w.heap.size w w' := by
  rcases h1 with ⟨rfl, a1, c1, rfl⟩ | ⟨b1, o1, c1, rfl, hb1, h1⟩
  · obtain ⟨a2, c2, rfl, _⟩ := rowOf_open h2
    refine (Tryz.slices_Equal_string_empty a1 a2 c1 L2.length c2 w (by omega)).mono ?_
    rintro e w' ⟨rfl, rfl⟩
    refine ⟨?_, Below.refl _ _⟩
    congr 2
    cases L2 with
    | nil => rfl
    | cons x L => simp
  · rcases h2 with ⟨rfl, a2, c2, rfl⟩ | ⟨b2, o2, c2, rfl, hb2, h2⟩
    · cases L1 with
      | nil =>
        refine (Tryz.slices_Equal_string_empty (some ⟨b1, o1, none⟩) a2 c1 0 c2 w (by omega)).mono ?_
        rintro e w' ⟨rfl, rfl⟩
        exact ⟨rfl, Below.refl _ _⟩
      | cons x L =>
        refine (Tryz.slices_Equal_string_lens (some ⟨b1, o1, none⟩) a2 (x :: L).length c1 0 c2 w (by simp)).mono ?_
        rintro e w' ⟨rfl, rfl⟩
        exact ⟨by simp, Below.refl _ _⟩
    · refine (Tryz.slices_Equal_string b1 o1 L1.length c1 b2 o2 L2.length c2 L1 L2 w (Nat.le_refl _) (Nat.le_refl _) (by omega) (by omega) (fun j hj => by
        have := h1 j L1[j] (by simp [hj])
        rw [this, List.getD_eq_getElem?_getD, List.getElem?_eq_getElem hj]
        rfl) (fun j hj => by
        have := h2 j L2[j] (by simp [hj])
        rw [this, List.getD_eq_getElem?_getD, List.getElem?_eq_getElem hj]
        rfl)).mono ?_
      rintro e w' ⟨rfl, q, rfl⟩
      exact ⟨by rw [List.take_length, List.take_length], below_drewN (Below.refl _ _) q⟩
theorem wpList_app_strs {w : World} {ops : Array Oper} {rest : List Oper} {o : Oper} {a : Act} {Q : Exit → Act → World → Prop} (hgd : o.guard = none) (s x : Operand)
    (ho : o.op = .call { callee := .builtin .append, args := #[s, x], argTypes := #[29, 29] })
    (base : Nat) (v : Value) (n : Nat) (L : List ByteArray) (hs : a.eval s = v) (hown : w.ownsRow base 9 1 v n (strsC L)) (r : Value) (M : List ByteArray) (hx : a.eval x = r) (hM : RowOf Value.string w.heap.size r M w)
    (hb : n + M.length ≤ 100000000) (hbase : base ≤ w.heap.size)
    (h : ∀ v' w', w'.ownsRow base 9 1 v' (n + M.length) (strsC (L ++ M)) → w.grownBy w' v.ownBlock → wpList Tryz.prog ops Q rest (a.put o.dst v') w') : wpList Tryz.prog ops Q (o :: rest) a w := by
  obtain ⟨i0, hi, hz0, hz1, hz2⟩ := info_parts info_strW
  obtain ⟨ao, cap, rfl, hE⟩ := rowOf_open hM
  cases ao with
  | none =>
    have h0 : M = [] := by
      cases M with
      | nil => rfl
      | cons y M => obtain ⟨b, off, h1, _⟩ := hE 0 y rfl; cases h1
    subst h0
    refine wpList_plain hgd fun K hK => ?_
    have hrun := run_app_nothing (P := Tryz.prog) (w := w) base 29 o.type 9 i0 1 Tryz.underlying29 hi v n _ hown cap
    unfold Oper.wp
    simp [execOp, ho, resolve, invoke, builtin, hs, hx, hrun, Result.andThen]
    exact hK _ _ (h v w (by simpa using hown) (World.grownBy.refl w _))
  | some ad =>
    refine wpList_append_own _ hgd s x 29 ho base 9 i0 _ 1 16 Tryz.underlying29 hi hz0 hz1 hz2 rfl (by decide) v n _ hs hown ad M.length cap (strsC M) hx (by unfold strsC; rw [List.length_map, Nat.mul_one]) (fun j u hu => ?_) (fun u hu => ?_) (by unfold maxLen; omega) (by omega) hbase (fun v' w' h1 h2 _ => h v' w' (by unfold strsC at h1 ⊢; rw [List.map_append]; exact h1) h2)
    · unfold strsC at hu
      rw [List.getElem?_map] at hu
      cases hj : M[j]? with
      | none => rw [hj] at hu; cases hu
      | some p =>
        rw [hj] at hu
        cases hu
        obtain ⟨b, off, h1, _, h3⟩ := hE j p hj
        cases h1
        rw [Addr.add_lit]
        exact h3
    · obtain ⟨p, _, rfl⟩ := List.mem_map.1 hu
      rfl
end Go.Proofs.YtnjiibiafhnmgaaGreatDoor

namespace Go.Proofs.YtnjiibiafhnmgaaGreatDoor
open Go Go.RowKit Go.Shelf Go.Lib

def sortedRenS : Ren := ⟨fun x => if x = 11 then 61 else if x = 19 then 93 else 125, fun x => if x = 0 then 0 else if x = 3 then 3 else if x = 4 then 4 else if x = 25 then 29 else 9, fun x => x⟩
theorem sortedLaysS : SlLaysO.n11 Tryz.prog sortedRenS := {
  mixed := by kernel_rfl
  f11 := ⟨Tryz.f61.name, by decide, Tryz.func61.trans (congrArg some (by kernel_rfl))⟩
  f19 := ⟨Tryz.f93.name, by decide, Tryz.func93.trans (congrArg some (by kernel_rfl))⟩
  f25 := ⟨Tryz.f125.name, by decide, Tryz.func125.trans (congrArg some (by kernel_rfl))⟩
  t0 := Tryz.underlying0
  a0 := Tryz.isAgg0
  z0 := Tryz.sizeOf0
  v0 := Tryz.zeroValue0
  t3 := Tryz.underlying3
  a3 := Tryz.isAgg3
  z3 := Tryz.sizeOf3
  v3 := Tryz.zeroValue3
  t4 := Tryz.underlying4
  a4 := Tryz.isAgg4
  z4 := Tryz.sizeOf4
  v4 := Tryz.zeroValue4
  t25 := Tryz.underlying29
  a25 := Tryz.isAgg29
  z25 := Tryz.sizeOf29
  v25 := Tryz.zeroValue29
  t27 := Tryz.underlying9
  a27 := Tryz.isAgg9
  z27 := Tryz.sizeOf9
  v27 := Tryz.zeroValue9 }
def sortB (l : List ByteArray) : Bool := Lib.downOK (fun x y : ByteArray => decide (x.data.toList < y.data.toList)) l.toArray (l.length - 1)
theorem sorted_strs (v : Value) (l : List ByteArray) (w : World) (hl : l.length ≤ 1000000000) (h : RowOf Value.string w.heap.size v l w) :
    Calls Tryz.prog 61 #[v] w fun e w' => e = .returned (.bool (sortB l)) ∧ Below w.heap.size w w' := by
  rcases h with ⟨rfl, a, c, rfl⟩ | ⟨b, off, cap, rfl, _, h⟩
  · have hc := AnyO.slices_IsSorted_string_none sortedLaysS a c w
    refine hc.mono ?_
    rintro e w' ⟨rfl, rfl⟩
    exact ⟨rfl, Below.refl _ _⟩
  · have hsz : l.toArray.size = l.length := by simp
    have hc := AnyO.slices_IsSorted_string sortedLaysS b off cap l.toArray w (fun i hi => by
      rw [getElem!_pos _ i hi]
      exact h i l[i] (by simp at hi; simp [hi])) (by rw [hsz]; omega)
    rw [hsz] at hc
    refine hc.mono ?_
    rintro e w' ⟨rfl, q, rfl⟩
    exact ⟨rfl, below_drewN (Below.refl _ _) q⟩
theorem ltB_dec (a b : ByteArray) : ltB a b = decide (a.data.toList < b.data.toList) := by
  have e : ∀ x : ByteArray, x.toList = x.data.toList := fun x => toList_data x
  unfold ltB
  rw [e, e]
  exact bytesLess_eq _ _
theorem sortB_iff (l : List ByteArray) : sortB l = true ↔ ∀ i, i + 1 < l.length → ltB (l.getD (i + 1) default) (l.getD i default) = false := by
  unfold sortB
  rw [Lib.downOK_iff]
  have hg : ∀ i, i < l.length → l.toArray[i]! = l.getD i default := fun i hi => by
    rw [getElem!_pos _ i (by simpa using hi), List.getD_eq_getElem?_getD, List.getElem?_eq_getElem hi]
    simp
  constructor
  · intro h i hi
    have := h i (by omega)
    rw [hg i (by omega), hg (i + 1) hi] at this
    rw [ltB_dec]
    exact this
  · intro h i hi
    rw [hg i (by omega), hg (i + 1) (by omega)]
    have h2 := h i (by omega)
    rw [ltB_dec] at h2
    exact h2
end Go.Proofs.YtnjiibiafhnmgaaGreatDoor

namespace Go.Proofs.YtnjiibiafhnmgaaGreatDoor
open Go Go.Lib

def sortL (l : List ByteArray) : List ByteArray := ((l.map fun p => p.data.toList).mergeSort fun x y => decide (x ≤ y)).map fun x => ⟨x.toArray⟩
theorem sortL_perm (l : List ByteArray) : (sortL l).Perm l := by
  have hp := (List.mergeSort_perm (l.map fun p => p.data.toList) (fun x y => decide (x ≤ y))).map (fun x : List UInt8 => (⟨x.toArray⟩ : ByteArray))
  have e : (l.map fun p => p.data.toList).map (fun x : List UInt8 => (⟨x.toArray⟩ : ByteArray)) = l := by
    rw [List.map_map]
    exact (List.map_congr_left fun p _ => rfl).trans (List.map_id l)
  rw [e] at hp
  exact hp
theorem sortL_weak (l : List ByteArray) : (sortL l).Pairwise fun a b => ltB b a = false := by
  have hs := List.pairwise_mergeSort (le := fun (x y : List UInt8) => decide (x ≤ y)) (fun a b c h1 h2 => by
    simp only [decide_eq_true_eq] at *
    exact List.le_trans h1 h2) (fun a b => by
    have := List.le_total a b
    simpa using this) (l.map fun p => p.data.toList)
  unfold sortL
  rw [List.pairwise_map]
  refine hs.imp fun {a b} h => ?_
  rw [ltB_dec]
  simp only [decide_eq_true_eq] at h
  exact decide_eq_false (List.not_lt.2 h)
theorem IncB.nodupW {l : List ByteArray} (h : IncB l) : l.Nodup := h.imp fun {a b} hab e => by rw [e, ltB_irrefl] at hab; cases hab
theorem inc_weak {l : List ByteArray} (h : l.Pairwise fun a b => ltB b a = false) (hn : l.Nodup) : IncB l := (h.and hn).imp fun {a b} ⟨h1, h2⟩ => by
  cases h : ltB a b with
  | true => rfl
  | false => exact absurd (ltB_tri h h1) h2
theorem adj_weak : ∀ {l : List ByteArray}, (∀ i, i + 1 < l.length → ltB (l.getD (i + 1) default) (l.getD i default) = false) → l.Pairwise fun a b => ltB b a = false
  | [], _ => List.Pairwise.nil
  | [a], _ => List.pairwise_singleton _ _
  | a :: b :: l, h => by
    have ih := adj_weak (l := b :: l) (fun i hi => h (i + 1) (by simp at hi ⊢; omega))
    have h0 : ltB b a = false := h 0 (by simp)
    refine List.pairwise_cons.2 ⟨fun c hc => ?_, ih⟩
    rcases List.mem_cons.1 hc with rfl | hc
    · exact h0
    · have h1 := (List.pairwise_cons.1 ih).1 c hc
      cases h2 : ltB c a with
      | false => rfl
      | true =>
        cases h3 : ltB a b with
        | true => rw [ltB_trans h2 h3] at h1; cases h1
        | false => rw [ltB_tri h3 h0] at h2; rw [h2] at h1; cases h1
theorem sortB_weak {l : List ByteArray} (h : sortB l = true) : l.Pairwise fun a b => ltB b a = false := adj_weak ((sortB_iff l).1 h)
theorem sortB_inc {l : List ByteArray} (h : IncB l) : sortB l = true := (sortB_iff l).2 fun i hi => ltB_asymm (h.at (Nat.lt_succ_self i) hi)
theorem sub_nodup {α : Type} {L : List (List α)} {l : List α} (h : L.flatten.Nodup) (hl : l ∈ L) : l.Nodup := (List.sublist_flatten_of_mem hl).nodup h
theorem plan_first {ms : List ByteArray} {plan : List (List ByteArray)} (hi : IncB ms) : ((∀ l ∈ plan, l ≠ [] ∧ sortB l = true) ∧ sortL plan.flatten = ms) ↔ ((∀ l ∈ plan, l ≠ [] ∧ IncB l) ∧ plan.flatten.Nodup ∧ ∀ p, p ∈ plan.flatten ↔ p ∈ ms) := by
  constructor
  · rintro ⟨h1, h2⟩
    have hp := sortL_perm plan.flatten
    rw [h2] at hp
    have hn : plan.flatten.Nodup := hp.nodup_iff.1 hi.nodupW
    exact ⟨fun l hl => ⟨(h1 l hl).1, inc_weak (sortB_weak (h1 l hl).2) (sub_nodup hn hl)⟩, hn, fun p => (hp.mem_iff).symm⟩
  · rintro ⟨h1, h2, h3⟩
    refine ⟨fun l hl => ⟨(h1 l hl).1, sortB_inc (h1 l hl).2⟩, ?_⟩
    have hp := sortL_perm plan.flatten
    exact IncB.unique (inc_weak (sortL_weak _) (hp.nodup_iff.2 h2)) hi fun p => (hp.mem_iff).trans (h3 p)
end Go.Proofs.YtnjiibiafhnmgaaGreatDoor
