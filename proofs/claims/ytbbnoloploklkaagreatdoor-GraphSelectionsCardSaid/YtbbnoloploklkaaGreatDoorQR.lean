/- Contract of the graph's listed. The law GraphSelections returns true. A slice of the call's own that may begin behind its block's head: cut and appended to. Ranges over a function inside a loop: the marks that pile up, and a loop by a count of rounds. Contract of slices.Repeat at one number; the graph's exist. -/
import Derived.Test.YtbbnoloploklkaaGreatDoorQQ
import Derived.Test.YtbbnoloploklkaaGreatDoorQM
import Derived.Test.YtbbnoloploklkaaGreatDoorQH
import Derived.ArgAppend
import Derived.Test.YtbbnoloploklkaaGreatDoorQC
import Derived.RangeFuncLeaves
import Derived.Test.YtbbnoloploklkaaGreatDoorQJ
import Derived.Laws.CopyOwn
import Derived.Deep.RegionLaw
import Derived.IntWalk
namespace Go.Proofs.YtbbnoloploklkaaGreatDoor
set_option linter.unusedVariables false
set_option linter.unusedSimpArgs false
open Go Go.RowKit

theorem own_any {W : World} {B e s n : Nat} {v : Value} {xs : List Value} (h : W.ownsRow B e s v n xs) : ∃ a c, v = .slice a n c := by
  rcases h.2 with ⟨rfl, rfl⟩ | ⟨g, cap, cur, rfl, _⟩
  · exact ⟨_, _, rfl⟩
  · exact ⟨_, _, rfl⟩
def vlen : Value → Nat
  | .slice _ n _ => n
  | _ => 0
theorem vlen_own {W : World} {B e s n : Nat} {v : Value} {xs : List Value} (h : W.ownsRow B e s v n xs) : vlen v = n := by
  obtain ⟨a, c, rfl⟩ := own_any h
  rfl
theorem rowOf_cast {B : Nat} {v : Value} {l : List Nat} {W : World} (h : RowOf natC B v l W) : RowOf intC B v (l.map (fun n : Nat => (n : Int))) W := by
  rcases h with ⟨rfl, h⟩ | ⟨b, off, cap, rfl, hb, h⟩
  · exact .inl ⟨rfl, h⟩
  · refine .inr ⟨b, off, cap, by rw [List.length_map], hb, fun i x hx => ?_⟩
    rw [List.getElem?_map] at hx
    cases e : l[i]? with
    | none => rw [e] at hx; cases hx
    | some y => rw [e] at hx; cases hx; exact h i y e

theorem listed1_any (j g N B : Nat) (done : List Bool) (w : World) (hd : done.length = N) (hj : j < N) (hx : w.cell? ⟨B, 0, none⟩ = some (.slice (some ⟨g, 0, none⟩) N N)) (hf : Flags w g done) :
    Calls Tryz.prog 203 #[natC j, .pointer (some ⟨B, 0, none⟩)] w fun e w' => e = .returned (.bool (!bD done j)) ∧ w = w' := by
  have hj0 : (0 : Int) ≤ (j : Int) := by omega
  have hj1 : (j : Int) < (N : Int) := by omega
  have hc := hf.cell j done[j] (by simp [hd, hj])
  have e : bD done j = done[j] := by unfold bD; rw [List.getD_eq_getElem?_getD, List.getElem?_eq_getElem (by omega)]; rfl
  rw [e]
  generalize done[j] = b at *
  clear hf e
  cases b with
  | true =>
    go_enter Tryz.func203, Tryz.ntmps203
    go_wp2
    go_ret
    exact ⟨rfl, rfl⟩
  | false =>
    go_enter Tryz.func203, Tryz.ntmps203
    go_wp2
    go_ret
    exact ⟨rfl, rfl⟩

set_option maxRecDepth 100000 in
set_option maxHeartbeats 4000000 in
theorem listed_any (v : Value) (S : List (List Nat)) (w : World) (hR : RowsOf w.heap.size v S w) (hS : S.length ≤ 1000000) (hSl : ∀ a, (S.getD a []).length ≤ 1000000000) (hSk : ∀ a, ∀ k ∈ S.getD a [], k < S.length) :
    Calls Tryz.prog 167 #[v] w fun e w' => ∃ u, e = .returned u ∧ w'.ownsRow w.heap.size 3 1 u (listF S).length ((listF S).map natC) ∧ Below w.heap.size w w' := by
  have hv : ∃ a c, v = .slice a S.length c := by
    rcases hR with ⟨rfl, a, c, rfl⟩ | ⟨b, off, cap, rfl, _⟩
    · exact ⟨a, c, rfl⟩
    · exact ⟨_, cap, rfl⟩
  obtain ⟨va, vc, rfl⟩ := hv
  have hmk := make_bools S.length (by omega)
  have HR := Lib.hid hR
  have HSK := Lib.hid hSk
  have HSL := Lib.hid hSl
  clear hR hSl hSk
  obtain ⟨i0, hi0', hz0, hz1, hz2⟩ := info_parts info_ints
  go_enter Tryz.func167, Tryz.ntmps167
  go_wp2_with fail
  clear hmk
  have hF0 : Flags ((w.alloc (.cells (Array.replicate S.length (.bool false)) 4)).alloc (.cells #[.slice (some ⟨w.heap.size, 0, none⟩) S.length S.length] 163)) w.heap.size (List.replicate S.length false) := by
    unfold Flags
    refine (Below.heap_alloc _ _ _ (by simp)).trans ((World.alloc_heap_new w _).trans ?_)
    simp
  have hX0 : Boxed ((w.alloc (.cells (Array.replicate S.length (.bool false)) 4)).alloc (.cells #[.slice (some ⟨w.heap.size, 0, none⟩) S.length S.length] 163)) (w.heap.size + 1) 163 (.slice (some ⟨w.heap.size, 0, none⟩) S.length S.length) := by
    have := Boxed.new (w.alloc (.cells (Array.replicate S.length (.bool false)) 4)) 163 (.slice (some ⟨w.heap.size, 0, none⟩) S.length S.length)
    rwa [World.size_alloc] at this
  have hB0 : Below w.heap.size w ((w.alloc (.cells (Array.replicate S.length (.bool false)) 4)).alloc (.cells #[.slice (some ⟨w.heap.size, 0, none⟩) S.length S.length] 163)) := ((Below.refl _ _).alloc (Nat.le_refl _) _).alloc (by simp) _
  go_loopw [4] (fun o wr => ∃ k : Nat, k ≤ S.length ∧ Hid (wr.ownsRow w.heap.size 3 1 o k ((lrun S k).2.map natC)) ∧ Hid (Flags wr w.heap.size (lrun S k).1) ∧ Hid (Boxed wr (w.heap.size + 1) 163 (.slice (some ⟨w.heap.size, 0, none⟩) S.length S.length)) ∧ Hid (Below w.heap.size w wr)) (fun o _ => S.length - vlen o)
  case atStart => exact ⟨0, by omega, Lib.hid (World.ownsRow_nil _ _ _ _), Lib.hid hF0, Lib.hid hX0, Lib.hid hB0⟩
  case round =>
    clear hF0 hX0 hB0
    obtain ⟨k, hk, HO0, HF0, HX0, HB0⟩ := hrel
    obtain ⟨oa, oc, rfl⟩ := own_any HO0.out
    by_cases hlt : k < S.length
    · have hkl : (k : Int) < (S.length : Int) := by omega
      have hdl := (lrun_len S k).1
      go_wp2_with fail
      obtain ⟨wo, rfl⟩ : ∃ wo : World, wo = wr := ⟨_, rfl⟩
      go_loopw [5, 17] (fun n5 q wr => n5 = .int .i64 0 ∧ ∃ j : Nat, j ≤ S.length ∧ q = .int .i64 j ∧ Hid (NoneRdy S (lrun S k).1 j) ∧ Hid (wr.ownsRow w.heap.size 3 1 (.slice oa k oc) k ((lrun S k).2.map natC)) ∧ Hid (Flags wr w.heap.size (lrun S k).1) ∧ Hid (Boxed wr (w.heap.size + 1) 163 (.slice (some ⟨w.heap.size, 0, none⟩) S.length S.length)) ∧ Hid (Below w.heap.size w wr)) (fun _ q _ => S.length - (intOf q).toNat)
      case atStart => exact ⟨rfl, 0, by omega, rfl, Lib.hid (fun j hj => by omega), HO0, HF0, HX0, HB0⟩
      case round =>
        clear HO0 HF0 HX0 HB0
        obtain ⟨rfl, j, hj, rfl, HNR, HO, HF, HX, HB⟩ := hrel
        by_cases hjl : j < S.length
        · have hj0 : (0 : Int) ≤ (j : Int) := by omega
          have hj1 : (j : Int) < (S.length : Int) := by omega
          have hcx := HX.out.cell
          have hcf := HF.out.cell j (lrun S k).1[j] (by simp [hdl, hjl])
          have ebd : bD (lrun S k).1 j = (lrun S k).1[j] := by unfold bD; rw [List.getD_eq_getElem?_getD, List.getElem?_eq_getElem (by omega)]; rfl
          rw [← ebd] at hcf
          clear ebd
          have HRR := (HR.out.below HB.out (Nat.le_refl _))
          obtain ⟨b, off, cap, hva, hbw, hrow⟩ : ∃ b off cap, (.slice va S.length vc : Value) = .slice (some ⟨b, off, none⟩) S.length cap ∧ b < w.heap.size ∧ ∀ i l, S[i]? = some l → ∃ r, wr.cell? ⟨b, off + i, none⟩ = some r ∧ RowOf natC w.heap.size r l wr := by
            rcases HRR with ⟨h, _⟩ | h
            · rw [h] at hjl; simp at hjl
            · exact h
          cases hva
          have hgS : S.getD j [] = S[j] := by rw [List.getD_eq_getElem?_getD, List.getElem?_eq_getElem hjl]; rfl
          obtain ⟨r, hcr, hrr⟩ := hrow j (S.getD j []) (by rw [hgS]; simp)
          obtain ⟨lj, hlj⟩ : ∃ lj, lj = S.getD j [] := ⟨_, rfl⟩
          have hskj := HSK.out j
          have hslj := HSL.out j
          rw [← hlj] at hrr hskj hslj
          have HLJ := Lib.hid hlj
          have hpd : PredI 203 #[.pointer (some ⟨w.heap.size + 1, 0, none⟩)] (lj.map (fun n : Nat => (n : Int))) (fun x => !bD (lrun S k).1 x.toNat) wr := by
            intro W x hx hW
            obtain ⟨y, hy, rfl⟩ := List.mem_map.1 hx
            have hxl := HX.out.lt
            refine (listed1_any y w.heap.size S.length (w.heap.size + 1) (lrun S k).1 W hdl (hskj y hy) ?_ ?_).mono ?_
            · exact (hW.cell (p := ⟨w.heap.size + 1, 0, none⟩) (by show w.heap.size + 1 < _; omega)).trans hcx
            · exact (hW.block _ (by omega)).trans HF.out
            · rintro e w' ⟨rfl, rfl⟩
              exact ⟨rfl, hW⟩
          have hhas := has_int 203 _ (enters_of Tryz.func203 (by kernel_rfl) rfl) _ r _ wr (by rw [List.length_map]; omega) ((rowOf_cast hrr).mono (by have := HB.out.size; omega)) hpd
          have hany : (lj.map (fun n : Nat => (n : Int))).any (fun x => !bD (lrun S k).1 x.toNat) = lj.any fun y => !bD (lrun S k).1 y := by rw [List.any_map]; rfl
          rw [hany] at hhas
          obtain ⟨ra, rc, rfl, _⟩ := rowOf_open hrr
          have HHAS := Lib.hid hhas
          have HLR : Hid (lrdy S (lrun S k).1 j = (!bD (lrun S k).1 j && !(lj.any fun y => !bD (lrun S k).1 y))) := Lib.hid (by rw [hlj]; rfl)
          clear hhas hpd hany hrow hrr HRR hgS hlj hskj hslj
          generalize bD (lrun S k).1 j = dj at *
          generalize (lj.any fun y => !bD (lrun S k).1 y) = qj at *
          have HNX : Hid (lrdy S (lrun S k).1 j = false → NoneRdy S (lrun S k).1 (j + 1)) := Lib.hid fun h i hi => by
            by_cases e : i = j
            · rw [e]; exact h
            · exact HNR.out i (by omega)
          cases dj with
          | true =>
            go_wp2_with fail
            go_roundw
            case rel => exact ⟨rfl, j + 1, by omega, by go_num, Lib.hid (HNX.out (by rw [HLR.out]; rfl)), HO, HF, HX, HB⟩
            case measure => simp [intOf]; omega
          | false =>
            cases qj with
            | true =>
              go_wp2_with fail
              refine HHAS.out.mono ?_
              rintro e w5 ⟨rfl, hb5⟩
              go_wp2_with fail
              go_roundw
              case rel =>
                refine ⟨rfl, j + 1, by omega, by go_num, Lib.hid (HNX.out (by rw [HLR.out]; rfl)), Lib.hid (own_far HO.out (fun i hi => hb5.block i (HO.out.lt i hi).2)), Lib.hid ((hb5.block _ (by have := HX.out.lt; omega)).trans HF.out), Lib.hid ((hb5.block _ HX.out.lt).trans HX.out), Lib.hid (HB.out.trans (hb5.mono HB.out.size))⟩
              case measure => simp [intOf]; omega
            | false =>
              have HST : Hid (lrun S (k + 1) = ((lrun S k).1.set j true, (lrun S k).2 ++ [j])) := Lib.hid (by
                show lstep S (lrun S k) = _
                unfold lstep
                rw [lpick_at hjl HNR.out (by rw [HLR.out]; rfl)])
              go_wp2_with fail
              refine HHAS.out.mono ?_
              rintro e w5 ⟨rfl, hb5⟩
              have HO2 : Hid (w5.ownsRow w.heap.size 3 1 (.slice oa k oc) k ((lrun S k).2.map natC)) := Lib.hid (own_far HO.out (fun i hi => hb5.block i (HO.out.lt i hi).2))
              have HF2 : Hid (Flags w5 w.heap.size (lrun S k).1) := Lib.hid ((hb5.block _ (by have := HX.out.lt; omega)).trans HF.out)
              have HX2 : Hid (Boxed w5 (w.heap.size + 1) 163 (.slice (some ⟨w.heap.size, 0, none⟩) S.length S.length)) := Lib.hid ((hb5.block _ HX.out.lt).trans HX.out)
              have HB2 : Hid (Below w.heap.size w w5) := Lib.hid (HB.out.trans (hb5.mono HB.out.size))
              clear HO HF HX HB hcx hcf hcr hb5
              have HO := HO2
              have HF := HF2
              have HX := HX2
              have HB := HB2
              clear HO2 HF2 HX2 HB2
              have hsb := HB.out.size
              have hxl := HX.out.lt
              have hnl : j < (lrun S k).1.length := by rw [(lrun_len S k).1]; omega
              have hcX := HX.out.cell
              have hcF := HF.out.cell j _ (List.getElem?_eq_getElem hnl)
              have hfz : w5.frozen? ⟨w.heap.size, j, none⟩ = false := frozen_of_row _ _ j _ _ HF.out
              have hn0 : (0 : Int) ≤ ((j : Nat) : Int) := by omega
              have hn1 : ((j : Nat) : Int) < (S.length : Int) := by omega
              have HO5 : Hid (((w5.setCell ⟨w.heap.size, j, none⟩ (.bool true)).alloc (.cells #[natC j] 3)).ownsRow w.heap.size 3 1 (.slice oa k oc) k ((lrun S k).2.map natC)) := Lib.hid ((own_far HO.out (fun j hj => heap_setCell_other _ _ _ _ (fun e => by
                have e : j = w.heap.size := e
                rw [e] at hj
                exact blk_ne HF.out HO.out (by decide) hj.symm))).alloc _)
              have hz5 : (w5.setCell ⟨w.heap.size, j, none⟩ (.bool true)).heap.size = w5.heap.size := by simp
              have HN5 : Hid (∀ (t9 : Nat) (u : Value), [natC j][t9]? = some u → ((w5.setCell ⟨w.heap.size, j, none⟩ (.bool true)).alloc (.cells #[natC j] 3)).cell? ((⟨w5.heap.size, 0, none⟩ : Addr).add t9) = some u) := Lib.hid (by
                have := World.news_of_block (cs := #[natC j]) (t := 3) (fr := (0, 0)) (heap_alloc_new (w5.setCell ⟨w.heap.size, j, none⟩ (.bool true)) (.cells #[natC j] 3))
                rw [hz5] at this
                exact this)
              go_wp2_with (at_builtin; refine wpList_append_own _ rfl _ _ 86 rfl w.heap.size 3 i0 (.int .i64 0) 1 8 Tryz.underlying86 hi0' hz0 hz1 hz2 rfl (by decide) _ _ _ (by rfl) HO5.out ⟨w5.heap.size, 0, none⟩ 1 1 [natC j] (by rfl) (by rfl) HN5.out (by simp [Value.oneCell']) (by unfold maxLen; omega) (by omega) (by simp; omega) ?_; intro v' w7 hown' hgrow _)
              go_roundw
              case rel =>
                have hb5 : Below w.heap.size w ((w5.setCell ⟨w.heap.size, j, none⟩ (.bool true)).alloc (.cells #[natC j] 3)) := (HB.out.setCell (by exact Nat.le_refl _) _).alloc (by rw [hz5]; omega) _
                have hf5 : Flags ((w5.setCell ⟨w.heap.size, j, none⟩ (.bool true)).alloc (.cells #[natC j] 3)) w.heap.size ((lrun S k).1.set j true) := (Below.heap_alloc _ _ _ (by rw [hz5]; omega)).trans (HF.out.set j true)
                have hx5 : Boxed ((w5.setCell ⟨w.heap.size, j, none⟩ (.bool true)).alloc (.cells #[natC j] 3)) (w.heap.size + 1) 163 (.slice (some ⟨w.heap.size, 0, none⟩) S.length S.length) := (Below.heap_alloc _ _ _ (by rw [hz5]; have := HX.out.lt; omega)).trans ((heap_setCell_other _ _ _ _ (fun e => by have e : w.heap.size + 1 = w.heap.size := e; omega)).trans HX.out)
                refine ⟨k + 1, by omega, Lib.hid (by rw [HST.out, List.map_append]; exact hown'), Lib.hid ?_, Lib.hid ?_, Lib.hid (hb5.grown hgrow (by rw [World.size_alloc, hz5]; omega) (fun j hj => (HO5.out.lt j hj).1))⟩
                · rw [HST.out]
                  exact (hgrow.block _ (by have := (Array.getElem?_eq_some_iff.1 hf5).1; exact this) (blk_ne hf5 HO5.out (by decide))).trans hf5
                · exact (hgrow.block _ hx5.lt (blk_ne hx5 HO5.out (by decide))).trans hx5
              case measure =>
                have e9 := vlen_own hown'
                simp only [vlen] at e9 ⊢
                omega
        · have hjj : j = S.length := by omega
          subst hjj
          have HST : Hid (lrun S (k + 1) = ((lrun S k).1.set 0 true, (lrun S k).2 ++ [0])) := Lib.hid (by
            show lstep S (lrun S k) = _
            unfold lstep
            rw [lpick_none HNR.out])
          have hsb := HB.out.size
          have hxl := HX.out.lt
          have hnl : 0 < (lrun S k).1.length := by rw [(lrun_len S k).1]; omega
          have hcX := HX.out.cell
          have hcF := HF.out.cell 0 _ (List.getElem?_eq_getElem hnl)
          have hfz : wr.frozen? ⟨w.heap.size, 0, none⟩ = false := frozen_of_row _ _ 0 _ _ HF.out
          have hn0 : (0 : Int) ≤ ((0 : Nat) : Int) := by omega
          have hn1 : ((0 : Nat) : Int) < (S.length : Int) := by omega
          have HO5 : Hid (((wr.setCell ⟨w.heap.size, 0, none⟩ (.bool true)).alloc (.cells #[natC 0] 3)).ownsRow w.heap.size 3 1 (.slice oa k oc) k ((lrun S k).2.map natC)) := Lib.hid ((own_far HO.out (fun j hj => heap_setCell_other _ _ _ _ (fun e => by
            have e : j = w.heap.size := e
            rw [e] at hj
            exact blk_ne HF.out HO.out (by decide) hj.symm))).alloc _)
          have hz5 : (wr.setCell ⟨w.heap.size, 0, none⟩ (.bool true)).heap.size = wr.heap.size := by simp
          have HN5 : Hid (∀ (t9 : Nat) (u : Value), [natC 0][t9]? = some u → ((wr.setCell ⟨w.heap.size, 0, none⟩ (.bool true)).alloc (.cells #[natC 0] 3)).cell? ((⟨wr.heap.size, 0, none⟩ : Addr).add t9) = some u) := Lib.hid (by
            have := World.news_of_block (cs := #[natC 0]) (t := 3) (fr := (0, 0)) (heap_alloc_new (wr.setCell ⟨w.heap.size, 0, none⟩ (.bool true)) (.cells #[natC 0] 3))
            rw [hz5] at this
            exact this)
          go_wp2_with (at_builtin; refine wpList_append_own _ rfl _ _ 86 rfl w.heap.size 3 i0 (.int .i64 0) 1 8 Tryz.underlying86 hi0' hz0 hz1 hz2 rfl (by decide) _ _ _ (by rfl) HO5.out ⟨wr.heap.size, 0, none⟩ 1 1 [natC 0] (by rfl) (by rfl) HN5.out (by simp [Value.oneCell']) (by unfold maxLen; omega) (by omega) (by simp; omega) ?_; intro v' w7 hown' hgrow _)
          go_roundw
          case rel =>
            have hb5 : Below w.heap.size w ((wr.setCell ⟨w.heap.size, 0, none⟩ (.bool true)).alloc (.cells #[natC 0] 3)) := (HB.out.setCell (by exact Nat.le_refl _) _).alloc (by rw [hz5]; omega) _
            have hf5 : Flags ((wr.setCell ⟨w.heap.size, 0, none⟩ (.bool true)).alloc (.cells #[natC 0] 3)) w.heap.size ((lrun S k).1.set 0 true) := (Below.heap_alloc _ _ _ (by rw [hz5]; omega)).trans (HF.out.set 0 true)
            have hx5 : Boxed ((wr.setCell ⟨w.heap.size, 0, none⟩ (.bool true)).alloc (.cells #[natC 0] 3)) (w.heap.size + 1) 163 (.slice (some ⟨w.heap.size, 0, none⟩) S.length S.length) := (Below.heap_alloc _ _ _ (by rw [hz5]; have := HX.out.lt; omega)).trans ((heap_setCell_other _ _ _ _ (fun e => by have e : w.heap.size + 1 = w.heap.size := e; omega)).trans HX.out)
            refine ⟨k + 1, by omega, Lib.hid (by rw [HST.out, List.map_append]; exact hown'), Lib.hid ?_, Lib.hid ?_, Lib.hid (hb5.grown hgrow (by rw [World.size_alloc, hz5]; omega) (fun j hj => (HO5.out.lt j hj).1))⟩
            · rw [HST.out]
              exact (hgrow.block _ (by have := (Array.getElem?_eq_some_iff.1 hf5).1; exact this) (blk_ne hf5 HO5.out (by decide))).trans hf5
            · exact (hgrow.block _ hx5.lt (blk_ne hx5 HO5.out (by decide))).trans hx5
          case measure =>
            have e9 := vlen_own hown'
            simp only [vlen] at e9 ⊢
            omega
    · have hkk : k = S.length := by omega
      subst hkk
      go_wp2_with fail
      go_ret
      refine ⟨_, rfl, ?_, HB0.out⟩
      rw [listF_length]
      exact HO0.out
end Go.Proofs.YtbbnoloploklkaaGreatDoor

namespace Go.Proofs.YtbbnoloploklkaaGreatDoor
set_option linter.unusedVariables false
set_option linter.unusedSimpArgs false
open Go Go.RowKit

theorem reqsOf_few {X : List RelL} {C : Nat} (h : ∀ x ∈ X, x.reqs.length ≤ C) (y : SelL) : (reqsOf X y).length ≤ C := by
  unfold reqsOf
  cases hf : findR X y with
  | none => simp
  | some r =>
    unfold findR at hf
    exact h r (List.mem_of_find?_eq_some hf)
theorem ofV_len {X : List RelL} {s : List SelL} {ns : List ByteArray} {es : List (Int × Int)} {E : Int} (hs : s.length ≤ 14) (hr : ∀ x ∈ X, x.reqs.length ≤ 20) (h : ofV X s = ((ns, es), E)) : ns.length ≤ 14 ∧ es.length ≤ 280 := by
  unfold ofV at h
  split at h
  · cases h; simp
  · split at h
    · cases h
      have := edgesK_len X s 20 (reqsOf_few hr) s.length
      rw [List.length_map]
      omega
    · cases h; simp
theorem ofV_sat {X : List RelL} {roots : List ReqL} {s : List SelL} (h : SatP X roots s) : ofV X s = ((s.map (·.1), edgesK X s s.length), 0) := ofV_ok h.ok h.incr fun j hj => by
  refine h.found _ ?_
  rw [List.getD_eq_getElem?_getD, List.getElem?_eq_getElem hj]
  exact List.getElem_mem hj

set_option maxRecDepth 100000 in
set_option maxHeartbeats 8000000 in
theorem GraphSelections_any (hAW : ∀ W : World, Calls Tryz.prog 47 #[] W fun e w' => e = .returned (.bool true) ∧ Below W.heap.size W w')
    (a : Option Addr) (c : Nat) (iv rov sv : Value) (X : List RelL) (roots : List ReqL) (s : List SelL) (w : World) (hm : MaxOk w) (hX : X.length ≤ 9223372036854775807) (hXr : ∀ x ∈ X, x.reqs.length ≤ 9223372036854775807) (hR : RelsOf w.heap.size (.slice a X.length c) X w)
    (hro : roots.length ≤ 9223372036854775807) (hRo : ReqsOf w.heap.size rov roots w) (hs : s.length ≤ 9223372036854775807) (hy : ∀ y ∈ s, SelBd y) (hS : SelsOf w.heap.size sv s w) :
    Calls Tryz.prog 11 #[.agg #[.slice a X.length c, iv], rov, sv] w fun e w' => e = .returned (.bool true) ∧ Below w.heap.size w w' := by
  have HR := Lib.hid hR
  have HRo := Lib.hid hRo
  have HS := Lib.hid hS
  have HMX := Lib.hid hm
  obtain ⟨ra, rc, rfl⟩ : ∃ ra rc, rov = .slice ra roots.length rc := by obtain ⟨a, c, e, _⟩ := hRo; exact ⟨a, c, e⟩
  obtain ⟨sa, sc, rfl⟩ : ∃ sa sc, sv = .slice sa s.length sc := by obtain ⟨a, c, e, _⟩ := hS; exact ⟨a, c, e⟩
  have hwp := hm.pos
  clear hR hRo hS hm
  have HB0 : Hid (Below w.heap.size w (w.alloc (.cells #[.slice a X.length c, iv] 25))) := Lib.hid (belQ _ _)
  have HI0 : Hid ((w.alloc (.cells #[.slice a X.length c, iv] 25)).heap[w.heap.size]? = some (.cells #[.slice a X.length c, iv] 25 (0, 0))) := Lib.hid (World.alloc_heap_new w _)
  have hw0 : w.heap.size < (w.alloc (.cells #[.slice a X.length c, iv] 25)).heap.size := by simp
  go_enter Tryz.func11, Tryz.ntmps11
  go_upto_region 1 with fail
  generalize w.alloc (.cells #[.slice a X.length c, iv] 25) = W at *
  go_wp2_with fail
  refine (hAW _).mono ?_
  rintro e w1 ⟨rfl, hb1⟩
  have HB1 := Lib.hid (HB0.out.trans (hb1.mono HB0.out.size))
  have HI1 := Lib.hid ((hb1.block w.heap.size hw0).trans HI0.out)
  have hw1 : w.heap.size < w1.heap.size := Nat.lt_of_lt_of_le hw0 hb1.size
  clear hb1 hAW
  have HR1 := Lib.hid ((HR.out.below HB1.out (Nat.le_refl _)).mono HB1.out.size)
  have HRo1 := Lib.hid ((HRo.out.below HB1.out (Nat.le_refl _)).mono HB1.out.size)
  have HS1 := Lib.hid ((HS.out.below HB1.out (Nat.le_refl _)).mono HB1.out.size)
  have c0 : w1.cell? ⟨w.heap.size, 0, none⟩ = some (.slice a X.length c) := cell_of_row _ _ 0 _ _ _ HI1.out
  have c1 : w1.cell? ⟨w.heap.size, 1, none⟩ = some iv := cell_of_row _ _ 1 _ _ _ HI1.out
  have HF1 := Lib.hid (FewR_any (.slice a X.length c) X 30 w1 (by omega) hX hXr HR1.out)
  have HF2 := Lib.hid (FewQ_any (.slice ra roots.length rc) roots w1 hro HRo1.out)
  go_wp2_with fail
  refine HF1.out.mono ?_
  rintro e w2 ⟨b1, rfl, hb1, hww⟩
  obtain rfl : w1 = w2 := hww.symm
  cases b1 with
  | false =>
    go_wp2_with fail
    go_ret
    exact ⟨rfl, HB1.out⟩
  | true =>
    have HFR := Lib.hid (hb1 rfl)
    clear hb1
    go_wp2_with fail
    refine HF2.out.mono ?_
    rintro e w2 ⟨b2, rfl, hb2, hww⟩
    obtain rfl : w1 = w2 := hww.symm
    cases b2 with
    | false =>
      go_wp2_with fail
      go_ret
      exact ⟨rfl, HB1.out⟩
    | true =>
      have HFQ := Lib.hid (hb2 rfl)
      clear hb2
      by_cases h14 : s.length ≤ 14
      case neg =>
        have h14a : (14 : Int) < (s.length : Int) := by omega
        have h14b : decide ((14 : Int) < (s.length : Int)) = true := decide_eq_true h14a
        go_wp2_with fail
        go_ret
        exact ⟨rfl, HB1.out⟩
      have h14a : ¬ (14 : Int) < (s.length : Int) := by omega
      have h14b : decide ((14 : Int) < (s.length : Int)) = false := decide_eq_false h14a
      have HRB : Hid (∀ x ∈ X, RelBd x) := Lib.hid (fun x hx => by
        obtain ⟨h1, _, _, _, h5⟩ := HFR.out.all x hx
        exact ⟨by omega, by have := h5.len; omega, fun q hq => by have := h5.all q hq; omega⟩)
      have hXl : X.length ≤ 1000000 := by have := HFR.out.len; omega
      have HOF := Lib.hid (Of_any (.slice a X.length c) iv (.slice sa s.length sc) X s w1 (HMX.out.below HB1.out hwp) hXl HRB.out HR1.out (by omega) hy HS1.out)
      obtain ⟨⟨⟨ns, es⟩, E⟩, hg⟩ : ∃ g, ofV X s = g := ⟨_, rfl⟩
      have HG := Lib.hid hg
      rw [hg] at HOF
      clear hg HF1 HF2
      go_wp2_with fail
      refine HOF.out.mono ?_
      rintro e w2 ⟨nv, ev, rfl, hn2, he2, hb2⟩
      have HB2 := Lib.hid (HB1.out.trans (hb2.mono HB1.out.size))
      have hw2 : w.heap.size < w2.heap.size := Nat.lt_of_lt_of_le hw1 hb2.size
      have HI2 := Lib.hid ((hb2.block w.heap.size hw1).trans HI1.out)
      obtain ⟨na, nc, rfl, _⟩ := rowOf_open hn2
      have HN2 := Lib.hid hn2
      have HE2 := Lib.hid he2
      obtain ⟨ea, ec, rfl, _⟩ := he2
      clear hn2 hb2 c0 c1
      simp only
      have HB3 := Lib.hid (HB2.out.trans ((belQ w2 (.cells #[.slice na ns.length nc, .slice ea es.length ec] 78)).mono HB2.out.size))
      have HI3 := Lib.hid (((belQ w2 (.cells #[.slice na ns.length nc, .slice ea es.length ec] 78)).block w.heap.size hw2).trans HI2.out)
      have HN3 := Lib.hid (HN2.out.below (belQ w2 (.cells #[.slice na ns.length nc, .slice ea es.length ec] 78)) (Nat.le_refl _))
      have HE3 := Lib.hid (HE2.out.below (belQ w2 (.cells #[.slice na ns.length nc, .slice ea es.length ec] 78)) (Nat.le_refl _))
      have HG3 := Lib.hid (World.alloc_heap_new w2 (.cells #[.slice na ns.length nc, .slice ea es.length ec] 78))
      have hw3 : w2.heap.size < (w2.alloc (.cells #[.slice na ns.length nc, .slice ea es.length ec] 78)).heap.size := by simp
      go_upto_region 6 with fail
      generalize w2.alloc (.cells #[.slice na ns.length nc, .slice ea es.length ec] 78) = W3 at *
      have c0 : W3.cell? ⟨w.heap.size, 0, none⟩ = some (.slice a X.length c) := cell_of_row _ _ 0 _ _ _ HI3.out
      have c1 : W3.cell? ⟨w.heap.size, 1, none⟩ = some iv := cell_of_row _ _ 1 _ _ _ HI3.out
      have HR3 := Lib.hid ((HR.out.below HB3.out (Nat.le_refl _)).mono HB3.out.size)
      have HS3 := Lib.hid ((HS.out.below HB3.out (Nat.le_refl _)).mono HB3.out.size)
      have HOF3 := Lib.hid (rOf_any (.slice a X.length c) iv (.slice sa s.length sc) X s W3 hXl HRB.out HR3.out (by omega) HS3.out)
      rw [HG.out] at HOF3
      go_wp2_with fail
      refine HOF3.out.mono ?_
      rintro e w4 ⟨mv, fv, rfl, hn4, he4, hb4⟩
      have hw4 : w2.heap.size < w4.heap.size := Nat.lt_of_lt_of_le hw3 hb4.size
      have HB34 := Lib.hid hb4
      have HG4 := Lib.hid ((hb4.block _ hw3).trans HG3.out)
      obtain ⟨ma, mc, rfl, _⟩ := rowOf_open hn4
      have HN4 := Lib.hid hn4
      have HE4 := Lib.hid he4
      obtain ⟨fa, fc, rfl, _⟩ := he4
      clear hn4 hb4 c0 c1
      simp only
      have HB45 := Lib.hid (HB34.out.trans ((belQ w4 (.cells #[.slice ma ns.length mc, .slice fa es.length fc] 78)).mono HB34.out.size))
      have HN5 := Lib.hid (HN4.out.below (belQ w4 (.cells #[.slice ma ns.length mc, .slice fa es.length fc] 78)) (Nat.le_refl _))
      have HE5 := Lib.hid (HE4.out.below (belQ w4 (.cells #[.slice ma ns.length mc, .slice fa es.length fc] 78)) (Nat.le_refl _))
      have HH5 := Lib.hid (World.alloc_heap_new w4 (.cells #[.slice ma ns.length mc, .slice fa es.length fc] 78))
      have HG5 := Lib.hid (((belQ w4 (.cells #[.slice ma ns.length mc, .slice fa es.length fc] 78)).block _ hw4).trans HG4.out)
      have hw5 : w4.heap.size < (w4.alloc (.cells #[.slice ma ns.length mc, .slice fa es.length fc] 78)).heap.size := by simp
      go_upto_region 7 with fail
      generalize w4.alloc (.cells #[.slice ma ns.length mc, .slice fa es.length fc] 78) = W5 at *
      have g0 : W5.cell? ⟨w2.heap.size, 0, none⟩ = some (.slice na ns.length nc) := cell_of_row _ _ 0 _ _ _ HG5.out
      have g1 : W5.cell? ⟨w2.heap.size, 1, none⟩ = some (.slice ea es.length ec) := cell_of_row _ _ 1 _ _ _ HG5.out
      have h0 : W5.cell? ⟨w4.heap.size, 0, none⟩ = some (.slice ma ns.length mc) := cell_of_row _ _ 0 _ _ _ HH5.out
      have h1 : W5.cell? ⟨w4.heap.size, 1, none⟩ = some (.slice fa es.length fc) := cell_of_row _ _ 1 _ _ _ HH5.out
      have HLEN := ofV_len h14 (fun x hx => (HFR.out.all x hx).2.2.2.2.len) HG.out
      have HN35 := Lib.hid ((HN3.out.below (Below.refl W3.heap.size W3) (Nat.le_of_lt hw3)).below HB45.out (Nat.le_of_lt hw3))
      have HE35 := Lib.hid (HE3.out.below HB45.out (Nat.le_of_lt hw3))
      have hw45 : W3.heap.size ≤ w4.heap.size := HB34.out.size
      have HQ1 := Lib.hid (Equal_strs_same (.slice na ns.length nc) (.slice ma ns.length mc) w4.heap.size ns W5 (by omega) (HN35.out.mono (by omega)) HN5.out)
      go_wp2_with fail
      refine HQ1.out.mono ?_
      rintro e w6 ⟨rfl, q1, rfl⟩
      have HD1 : Hid (Below W5.heap.size W5 (W5.drewN q1)) := Lib.hid (below_drewNV (Below.refl _ _) _)
      have HQ2 := Lib.hid (Equal_edges_same (.slice ea es.length ec) (.slice fa es.length fc) w4.heap.size es (W5.drewN q1) (by omega) ((HE35.out.mono (by omega)).below HD1.out (by omega)) (HE5.out.below HD1.out (by omega)))
      clear HQ1
      go_wp2_with fail
      refine HQ2.out.mono ?_
      rintro e w7 ⟨rfl, q2, rfl⟩
      have HD2 : Hid (Below W5.heap.size W5 ((W5.drewN q1).drewN q2)) := Lib.hid (below_drewNV HD1.out _)
      have hB7 := HB3.out.trans ((HB45.out.trans (HD2.out.mono HB45.out.size)).mono HB3.out.size)
      have HB7 := Lib.hid hB7
      clear HQ2 hB7 g0 g1 h0 h1
      have hz7 : W5.heap.size = ((W5.drewN q1).drewN q2).heap.size := rfl
      generalize ((W5.drewN q1).drewN q2) = W7 at *
      have HZ7 := Lib.hid hz7
      clear hz7
      have HI7 := Lib.hid ((HD2.out.block w.heap.size (by omega)).trans ((HB45.out.block w.heap.size (by omega)).trans HI3.out))
      have c0 : W7.cell? ⟨w.heap.size, 0, none⟩ = some (.slice a X.length c) := cell_of_row _ _ 0 _ _ _ HI7.out
      have c1 : W7.cell? ⟨w.heap.size, 1, none⟩ = some iv := cell_of_row _ _ 1 _ _ _ HI7.out
      have HSO := Lib.hid (Solves_any (.slice a X.length c) iv (.slice ra roots.length rc) (.slice sa s.length sc) X roots s W7 (HMX.out.below HB7.out hwp) hXl HRB.out ((HR.out.below HB7.out (Nat.le_refl _)).mono HB7.out.size)
        (by have := HFQ.out.len; omega) (fun q hq => by have := HFQ.out.all q hq; omega) ((HRo.out.below HB7.out (Nat.le_refl _)).mono HB7.out.size) (by omega) hy ((HS.out.below HB7.out (Nat.le_refl _)).mono HB7.out.size))
      go_wp2_with fail
      refine HSO.out.mono ?_
      rintro e w8 ⟨hb8, E8, rfl, he8, hn8⟩
      have HB8 := Lib.hid (HB7.out.trans (hb8.mono HB7.out.size))
      have HG8 := Lib.hid ((hb8.block w2.heap.size (by have := HZ7.out; omega)).trans ((HD2.out.block w2.heap.size (by omega)).trans HG5.out))
      have HB58 := Lib.hid (HD2.out.trans (hb8.mono HD2.out.size))
      clear hb8 HSO c0 c1
      by_cases h8 : E8 = 0
      case neg =>
        have h8b : (E8 != 0) = true := by simpa using h8
        go_wp2_with fail
        go_ret
        exact ⟨rfl, HB8.out⟩
      subst h8
      have HSAT := Lib.hid (he8.1 (.inl rfl))
      have HND := Lib.hid (hn8 rfl)
      have HGE := HG.out.symm.trans (ofV_sat HSAT.out)
      obtain ⟨hns, hes⟩ : ns = s.map (·.1) ∧ es = edgesK X s s.length := by injection HGE with h1 h2; injection h1 with h3 h4; exact ⟨h3, h4⟩
      have HNS := Lib.hid hns
      have HES := Lib.hid hes
      have HNL := Lib.hid (show ns.length = s.length by rw [hns]; exact List.length_map _)
      clear he8 hn8 HGE hns hes
      have h80 : w2.heap.size < w8.heap.size := (Array.getElem?_eq_some_iff.1 HG8.out).1
      have h58 : W5.heap.size ≤ w8.heap.size := HB58.out.size
      have HN8 := Lib.hid ((HN35.out.below HB58.out (by omega)).mono (show w2.heap.size ≤ w8.heap.size by omega))
      have HE8 := Lib.hid ((HE35.out.below HB58.out (by omega)).mono (show w2.heap.size ≤ w8.heap.size by omega))
      have g0 : w8.cell? ⟨w2.heap.size, 0, none⟩ = some (.slice na ns.length nc) := cell_of_row _ _ 0 _ _ _ HG8.out
      obtain ⟨na2, nc2, ene, hat⟩ := rowOf_open HN8.out
      injection ene with e1 e2 e3
      subst e1
      subst e3
      have HAT := Lib.hid hat
      clear e2 hat HI7 HI3 HI1 HI0 HI2 HG3 HG4 HG5 HH5 HN2 HN3 HN4 HN5 HE2 HE3 HE4 HE5 HN35 HE35 HD1 HD2 HB34 HB45 HOF3 HOF HR1 HRo1 HS1 HR3 HS3
      go_wp2_with fail
      clear g0
      obtain ⟨i0, hi0', hz0, hz1, hz2⟩ := info_parts info_ints
      go_loopw [11, 69] (fun ov p wr => ∃ k : Nat, k ≤ ns.length ∧ p = .int .i64 k ∧ Hid (wr.ownsRow w8.heap.size 3 1 ov (namedK roots s k).length ((namedK roots s k).map natC)) ∧ Hid (Below w8.heap.size w8 wr)) (fun _ p _ => ns.length - (intOf p).toNat)
      case atStart => exact ⟨0, Nat.zero_le _, rfl, Lib.hid (World.ownsRow_nil _ _ _ _), Lib.hid (Below.refl _ _)⟩
      case round =>
        obtain ⟨k, hk, rfl, HO, HB⟩ := hrel
        obtain ⟨oa, oc, rfl⟩ := own_any HO.out
        have hs9 := HB.out.size
        by_cases hlt : k < ns.length
        case neg =>
          have hk2 : k = ns.length := by omega
          subst hk2
          have HG9 := Lib.hid ((HB.out.block w2.heap.size h80).trans HG8.out)
          have g0 : wr.cell? ⟨w2.heap.size, 0, none⟩ = some (.slice na ns.length nc) := cell_of_row _ _ 0 _ _ _ HG9.out
          have g1 : wr.cell? ⟨w2.heap.size, 1, none⟩ = some (.slice ea es.length ec) := cell_of_row _ _ 1 _ _ _ HG9.out
          have hkl := namedK_le roots s ns.length
          have hkn : ∀ i ∈ namedK roots s ns.length, i < ns.length := fun i hi => namedK_lt hi
          have HRO := Lib.hid (own_row HO.out).2
          have HRE := Lib.hid (Reach_yes na ns.length nc (.slice ea es.length ec) (.slice oa (namedK roots s ns.length).length oc) es (namedK roots s ns.length) wr ((HE8.out.below HB.out (Nat.le_refl _)).mono hs9) (by omega) (rowOf_cast HRO.out) (by rw [HES.out, HNL.out]; exact edgesK_valid h14 (reqsOf_few fun x hx => (HFR.out.all x hx).2.2.2.2.len)) hkn)
          have HEND : Hid (∀ l : List Nat, ReachS ns.length es ((namedK roots s ns.length).map Int.ofNat) l → l.length = s.length) := Lib.hid (fun l hl => by
            rw [HNL.out, HES.out] at hl
            exact sel_reach HSAT.out.incr HND.out hl)
          clear hkn
          go_wp2_with fail
          refine HRE.out.mono ?_
          rintro e wA ⟨v, l, rfl, hl, how, hbA⟩
          have HLL := Lib.hid (HEND.out l hl)
          obtain ⟨va, vc, rfl⟩ := own_any how
          have HBA := Lib.hid (HB8.out.trans ((HB.out.trans (hbA.mono hs9)).mono HB8.out.size))
          clear hl how hbA HEND HRE
          rw [HLL.out]
          go_wp2_with fail
          go_ret
          exact ⟨by simp, HBA.out⟩
        case pos =>
          obtain ⟨b, off, rfl, hbl, hcl⟩ := HAT.out k ns[k] (by simp [hlt])
          have d0 := (HB.out.cell (p := ⟨b, off + k, none⟩) hbl).trans hcl
          have HNK : Hid (namedK roots s (k + 1) = if (roots.any fun q => decide (q.1 = ns[k])) = true then namedK roots s k ++ [k] else namedK roots s k) := Lib.hid (by
            rw [namedK_succ]
            have : (s.getD k default).1 = ns[k] := by
              have hk2 : k < s.length := by have := HNL.out; omega
              have h1 : ns[k]? = (s.map (·.1))[k]? := by rw [← HNS.out]
              rw [List.getElem?_eq_getElem hlt, List.getElem?_map, List.getElem?_eq_getElem hk2] at h1
              rw [List.getD_eq_getElem?_getD, List.getElem?_eq_getElem hk2]
              injection h1 with h1
              exact h1.symm
            rw [this])
          have hkl := namedK_le roots s k
          generalize ns[k] = p at *
          obtain ⟨bb, hbb⟩ : ∃ bb, (roots.any fun q => decide (q.1 = p)) = bb := ⟨_, rfl⟩
          have HBX : Hid ((wr.alloc (.cells #[.string p] 9)).heap[wr.heap.size]? = some (.cells #[.string p] 9 (0, 0))) := Lib.hid (World.alloc_heap_new wr _)
          have HB9 : Hid (Below w8.heap.size w8 (wr.alloc (.cells #[.string p] 9))) := Lib.hid (HB.out.alloc hs9 _)
          have HRO9 := Lib.hid ((HRo.out.below (HB8.out.trans (HB9.out.mono HB8.out.size)) (Nat.le_refl _)).mono (HB8.out.trans (HB9.out.mono HB8.out.size)).size)
          have HHAS := Lib.hid (has_req 54 _ (enters_of Tryz.func54 (by kernel_rfl) rfl) _ (.slice ra roots.length rc) roots (wr.alloc (.cells #[.string p] 9)) (by have := HFQ.out.len; omega) HRO9.out (samepath_pred p roots wr.heap.size _ (cell_of_row _ _ 0 _ _ _ HBX.out)))
          rw [hbb] at HNK HHAS
          clear hbb hcl hbl HRO9
          go_wp2_with fail
          refine HHAS.out.mono ?_
          rintro e wA ⟨rfl, hbA⟩
          have HBA := Lib.hid (HB9.out.trans (hbA.mono HB9.out.size))
          have HOA : Hid (wA.ownsRow w8.heap.size 3 1 (.slice oa (namedK roots s k).length oc) (namedK roots s k).length ((namedK roots s k).map natC)) := Lib.hid (own_far HO.out (fun i hi => ((hbA.block i (by have := (HO.out.lt i hi).2; simp; omega)).trans ((belQ wr _).block i (HO.out.lt i hi).2))))
          have hsA := HBA.out.size
          clear hbA HHAS HBX HB9 HO HB d0
          cases bb with
          | false =>
            rw [if_neg (by decide)] at HNK
            go_wp2_with fail
            go_roundw
            case rel => exact ⟨k + 1, by omega, by go_num, Lib.hid (by rw [HNK.out]; exact HOA.out), HBA⟩
            case measure => simp [intOf]; omega
          | true =>
            rw [if_pos rfl] at HNK
            have HN9 : Hid ((wA.alloc (.cells #[.int .i64 (k : Int)] 3)).heap[wA.heap.size]? = some (.cells #[.int .i64 (k : Int)] 3)) := Lib.hid (heap_alloc_new wA _)
            go_wp2_with (at_builtin; refine wpList_append_own _ rfl _ _ 86 rfl w8.heap.size 3 i0 _ 1 8 Tryz.underlying86 hi0' hz0 hz1 hz2 rfl (by decide) (.slice oa (namedK roots s k).length oc) _ _ (by rfl) (HOA.out.alloc _) ⟨wA.heap.size, 0, none⟩ 1 1 [.int .i64 (k : Int)] (by rfl) (by rfl) (World.news_of_block HN9.out) (by simp [Value.oneCell']) (by unfold maxLen; omega) (by omega) (by simp; omega) ?_; intro v' wB hown' hgrow _; have HOW := Lib.hid hown'; have HGR := Lib.hid hgrow; clear hown' hgrow; obtain ⟨g3, gc3, rfl⟩ := ownsRow_succ HOW.out)
            go_roundw
            case rel => exact ⟨k + 1, by omega, by go_num, Lib.hid (by rw [HNK.out, List.length_append, List.map_append]; exact HOW.out), Lib.hid ((HBA.out.alloc hsA _).grown HGR.out (by simp; omega) (fun b hb => (HOA.out.lt b hb).1))⟩
            case measure => simp [intOf]; omega
end Go.Proofs.YtbbnoloploklkaaGreatDoor

namespace Go.Proofs.YtbbnoloploklkaaGreatDoor
set_option linter.unusedVariables false
set_option linter.unusedSimpArgs false
open Go Go.RowKit

def Seg (W : World) (B : Nat) (e : TypeId) (v : Value) (xs : List Value) : Prop :=
  (v = .slice none 0 0 ∧ xs = []) ∨ ∃ g off cap cur, v = .slice (some ⟨g, off, none⟩) xs.length cap ∧ B ≤ g ∧ W.heap[g]? = some (.cells cur e (0, 0)) ∧ xs.length ≤ cap ∧ off + cap ≤ cur.size ∧ ∀ j x, xs[j]? = some x → cur[off + j]? = some x
theorem Seg.lt {W : World} {B : Nat} {e : TypeId} {v : Value} {xs : List Value} (h : Seg W B e v xs) : ∀ k, v.ownBlock = some k → B ≤ k ∧ k < W.heap.size := by
  intro k hk
  rcases h with ⟨rfl, _⟩ | ⟨g, off, cap, cur, rfl, hb, hg, _⟩
  · simp [Value.ownBlock] at hk
  · simp [Value.ownBlock] at hk
    subst hk
    exact ⟨hb, (Array.getElem?_eq_some_iff.1 hg).1⟩
theorem Seg.far {W W' : World} {B : Nat} {e : TypeId} {v : Value} {xs : List Value} (h : Seg W B e v xs) (hk : ∀ k, v.ownBlock = some k → W'.heap[k]? = W.heap[k]?) : Seg W' B e v xs := by
  rcases h with h | ⟨g, off, cap, cur, rfl, hb, hg, r⟩
  · exact .inl h
  · exact .inr ⟨g, off, cap, cur, rfl, hb, (hk g rfl).trans hg, r⟩
theorem Seg.shape {W : World} {B : Nat} {e : TypeId} {v : Value} {xs : List Value} (h : Seg W B e v xs) : ∃ a c, v = .slice a xs.length c := by
  rcases h with ⟨rfl, rfl⟩ | ⟨g, off, cap, cur, rfl, _⟩
  · exact ⟨none, 0, rfl⟩
  · exact ⟨_, _, rfl⟩
theorem seg_ne {W : World} {b B t e : Nat} {cs : Array Value} {f : Nat × Nat} {v : Value} {xs : List Value} (hb : W.heap[b]? = some (.cells cs t f)) (h : Seg W B e v xs) (ht : t ≠ e) : some b ≠ v.ownBlock := by
  rcases h with ⟨rfl, _⟩ | ⟨g, off, cap, cur, rfl, _, hg, _⟩
  · simp [Value.ownBlock]
  · intro h3
    simp [Value.ownBlock] at h3
    subst h3
    rw [hb] at hg
    simp at hg
    exact ht hg.2.1
theorem Seg.of_own {W : World} {B e n : Nat} {v : Value} {xs : List Value} (h : W.ownsRow B e 1 v n xs) : Seg W B e v xs := by
  have hl : xs.length = n := by have := h.1; omega
  subst hl
  rcases h.2 with ⟨rfl, h0⟩ | ⟨g, cap, cur, rfl, hb, hg, hc, _, hs, ht⟩
  · exact .inl ⟨rfl, List.length_eq_zero_iff.1 h0⟩
  · refine .inr ⟨g, 0, cap, cur, rfl, hb, hg, hc, by omega, fun j x hx => ?_⟩
    have hj := (List.getElem?_eq_some_iff.1 hx).1
    rw [Nat.zero_add, ← Array.getElem?_toList, ← hx]
    conv => rhs; rw [← ht]
    rw [List.getElem?_take_of_lt (by omega)]
theorem Seg.head {W : World} {B : Nat} {e : TypeId} {v : Value} {x : Value} {xs : List Value} (h : Seg W B e v (x :: xs)) :
    ∃ g off cap a, v = .slice (some ⟨g, off, none⟩) (xs.length + 1) (cap + 1) ∧ W.cell? ⟨g, off, none⟩ = some x ∧ Seg W B e (.slice a xs.length cap) xs ∧ (if cap = 0 then some ⟨g, off, none⟩ else some ⟨g, off + 1, none⟩) = a ∧ (Value.slice a xs.length cap).ownBlock = v.ownBlock := by
  rcases h with ⟨_, h⟩ | ⟨g, off, cap, cur, rfl, hb, hg, hc, hs, hr⟩
  · cases h
  · simp only [List.length_cons] at hc
    obtain ⟨cap, rfl⟩ : ∃ c, cap = c + 1 := ⟨cap - 1, by omega⟩
    have hcx : W.cell? ⟨g, off, none⟩ = some x := by rw [cell_of_row _ _ _ _ _ _ hg]; exact hr 0 x rfl
    by_cases h1 : cap + 1 = 1
    · have h0 : cap = 0 := by omega
      subst h0
      have : xs = [] := List.length_eq_zero_iff.1 (by omega)
      subst this
      exact ⟨g, off, 0, _, rfl, hcx, .inr ⟨g, off, 0, cur, rfl, hb, hg, by simp, by omega, fun j x hx => by simp at hx⟩, by simp, rfl⟩
    · refine ⟨g, off, cap, _, rfl, hcx, .inr ⟨g, off + 1, cap, cur, rfl, hb, hg, by omega, by omega, fun j y hy => ?_⟩, by rw [if_neg (by omega)], rfl⟩
      have := hr (j + 1) y (by simpa using hy)
      rwa [show off + 1 + j = off + (j + 1) by omega]

theorem run_append_seg {P : Program} (w : World) (t ty e : TypeId) (i : TypeInfo) (z : Value) (bytes : Nat) (ht : P.underlying t = some (.slice e)) (hi : P.info? e = some i) (hz : i.zero = some z) (hsize : i.size = 1) (hby : i.bytes = bytes) (hzs : z.cells.size = 1)
    (B : Nat) (v : Value) (xs : List Value) (h : Seg w B e v xs) (hB : B ≤ w.heap.size) (x : Value) (a : Addr) (c : Nat) (hx : w.cell? a = some x) (h1 : x.oneCell' = true) (hl : xs.length + 1 ≤ 1000000000) (hb : bytes ≤ 1000) :
    ∃ v' w', (Builtin.append_ #[t, t] ty #[v, .slice (some a) 1 c]).run P w = .ok v' w' ∧ Seg w' B e v' (xs ++ [x]) ∧ w.grownBy w' v.ownBlock ∧ (v'.ownBlock = v.ownBlock ∨ ∀ k, v'.ownBlock = some k → w.heap.size ≤ k) := by
  have hbytes : (xs.length + 1) * bytes ≤ 140737488355328 := Nat.le_trans (Nat.mul_le_mul hl hb) (by decide)
  have hnews : ∀ j u, [x][j]? = some u → w.cell? (a.add j) = some u := fun j u hu => by
    cases j with
    | zero =>
      simp at hu
      subst hu
      have : a.add 0 = a := by unfold Addr.add; split <;> simp_all
      rw [this]; exact hx
    | succ j => simp at hu
  rcases h with ⟨rfl, rfl⟩ | ⟨g, off, cap, cur, rfl, hbg, hg, hc, hs, hr⟩
  · obtain ⟨v', w', hrun, ho, hgr, _⟩ := run_append_own (P := P) w w.heap.size t ty e i z 1 bytes ht hi hz hsize hby hzs (by decide) (.slice none 0 0) 0 [] (World.ownsRow_nil _ _ _ _) a 1 c [x] rfl hnews (by simpa using h1) (by unfold maxLen; omega) (by simpa using hbytes) (Nat.le_refl _)
    exact ⟨v', w', hrun, Seg.of_own ⟨ho.1, ho.2.imp id fun ⟨g, cap, cur, h1, h2, h3⟩ => ⟨g, cap, cur, h1, Nat.le_trans hB h2, h3⟩⟩, hgr, .inr fun k hk => (ho.lt k hk).1⟩
  · by_cases hroom : xs.length + 1 ≤ cap
    · have hrun := run_append_room_cells (P := P) w t ty e i ht hi g off xs.length cap a 1 c [x] (by rw [hsize]; rfl) hnews (by simpa using h1) hroom
        (fun j hj => by
          have : j = 0 := by simpa using hj
          subst this
          rw [hsize, cell_of_row _ _ _ _ _ _ hg]
          simp
          omega)
        (fun j hj => frozen_of_row _ _ _ _ _ hg)
      rw [hsize, Nat.mul_one] at hrun
      refine ⟨_, _, hrun, .inr ⟨g, off, cap, _, by rw [List.length_append]; rfl, hbg, heap_setCell_same w g (off + xs.length) cur e x hg, by simpa using hroom, by simpa using hs, fun j y hy => ?_⟩, ?_⟩
      · by_cases hj : j < xs.length
        · rw [List.getElem?_append_left hj] at hy
          rw [Array.getElem?_setIfInBounds_ne (by omega)]
          exact hr j y hy
        · rw [List.getElem?_append_right (by omega)] at hy
          have : j = xs.length := by
            have := (List.getElem?_eq_some_iff.1 hy).1
            simp at this
            omega
          subst this
          simp at hy
          subst hy
          rw [Array.getElem?_setIfInBounds_self_of_lt (by omega)]
      · exact ⟨⟨rfl, rfl, rfl, by simp [World.setCells], fun k _ hk => heap_setCell_other w ⟨g, off + xs.length, none⟩ k x (fun e => hk (by simp [Value.ownBlock, e]))⟩, .inl rfl⟩
    · obtain ⟨v', w', hrun, ho, hgr⟩ := run_append_arg_grows (P := P) w t ty e i z 1 bytes ht hi hz hsize hby hzs (by decide) ⟨g, off, none⟩ xs.length cap xs (by simp)
        (fun j u hu => by
          have e : ((⟨g, off, none⟩ : Addr).add j) = ⟨g, off + j, none⟩ := by unfold Addr.add; split <;> simp_all
          rw [e, cell_of_row _ _ _ _ _ _ hg]
          exact hr j u hu) a 1 c [x] rfl hnews (by omega) (by unfold maxLen; omega) hbytes
      refine ⟨v', w', hrun, Seg.of_own ⟨ho.1, ho.2.imp id fun ⟨g, cap, cur, h1, h2, h3⟩ => ⟨g, cap, cur, h1, Nat.le_trans hB h2, h3⟩⟩, hgr.but _, .inr fun k hk => (ho.lt k hk).1⟩

theorem wpListIn_append_seg {F : Fence} {n : Nat} {P : Program} (w : World) {ops : Array Oper} {rest : List Oper} {o : Oper} {ac : Act} {Q : Exit → Act → World → Prop}
    (hg : o.guard = none) (s x : Operand) (t : TypeId) (hop : o.op = Op.call { callee := Callee.builtin Builtin.append, args := #[s, x], argTypes := #[t, t] })
    (e : TypeId) (i : TypeInfo) (z : Value) (bytes : Nat) (ht : P.underlying t = some (.slice e)) (hi : P.info? e = some i) (hz : i.zero = some z) (hsize : i.size = 1) (hby : i.bytes = bytes) (hzs : z.cells.size = 1)
    (B : Nat) (v : Value) (xs : List Value) (hs : ac.eval s = v) (h : Seg w B e v xs) (hB : B ≤ w.heap.size) (u : Value) (a : Addr) (c : Nat) (hx : ac.eval x = .slice (some a) 1 c) (hu : w.cell? a = some u) (h1 : u.oneCell' = true) (hl : xs.length + 1 ≤ 1000000000) (hb : bytes ≤ 1000)
    (hK : ∀ v' w', Seg w' B e v' (xs ++ [u]) → w.grownBy w' v.ownBlock → (v'.ownBlock = v.ownBlock ∨ ∀ k, v'.ownBlock = some k → w.heap.size ≤ k) → wpListIn F n P ops Q rest (ac.put o.dst v') w') :
    wpListIn F n P ops Q (o :: rest) ac w := by
  refine wpListIn_plain hg fun K hK' => ?_
  obtain ⟨v', w', hrun, r1, r2, r3⟩ := run_append_seg (P := P) w t o.type e i z bytes ht hi hz hsize hby hzs B v xs h hB u a c hu h1 hl hb
  unfold Oper.wpIn
  refine ⟨?_, ?_⟩
  · simp [Oper.about, hop, resolve, Target.leads, Sem.run_pure]
  · rw [Oper.semAt_plain F _ _ (by rw [hop]; intro c hc'; cases hc')]
    simp [execOp, hop, resolve, invoke, builtin, hs, hx, hrun, Result.andThen]
    exact hK' _ _ (hK v' w' r1 r2 r3)
end Go.Proofs.YtbbnoloploklkaaGreatDoor

namespace Go.Proofs.YtbbnoloploklkaaGreatDoor
set_option linter.unusedVariables false
set_option linter.unusedSimpArgs false
open Go Go.RowKit

theorem wpIn_loop_gas {F : Fence} {n : Nat} {P : Program} {Q : Exit → Act → World → Prop} {a : Act} {w : World} {c : Code} (I : Nat → Act → World → Prop) (m : Nat) (h0 : I m a w)
    (round : ∀ j a w, I j a w → c.wpIn F n P (Exit.then (fun a' w' => ∃ j', j' < j ∧ I j' a' w') Q) a w) : (Code.loop c).wpIn F n P Q a w := by
  have key : ∀ k j a w, j < k → I j a w → Code.roundsIn F n P c Q k a w := by
    intro k
    induction k with
    | zero => intro j a w h; omega
    | succ k ih =>
      intro j a w hj hI
      rw [roundsIn_succ]
      refine Code.wpIn_mono (fun e a' w' q => ?_) (round j a w hI)
      cases e <;> first | exact q | (obtain ⟨j', h1, h2⟩ := q; exact ih j' a' w' (by omega) h2)
  exact wpIn_loop_rounds (m + 1) (key _ _ _ _ (Nat.lt_succ_self m) h0)

def Marks (B : Nat) : List Deferred → World → Prop
  | [], _ => True
  | d :: ds, W => (∃ D, d = { target := .collected D, args := #[] } ∧ B ≤ D ∧ W.heap[D]? = some (.deferred (some [])) ∧ ∀ d' ∈ ds, ∀ D', d' = { target := .collected D', args := #[] } → D' < D) ∧ Marks B ds W
def NoCells (B : Nat) (W W' : World) : Prop := ∀ k, B ≤ k → (∃ o : Obj, W.heap[k]? = some o ∧ o.isCells = false) → W'.heap[k]? = W.heap[k]?
theorem NoCells.of_keeps {B : Nat} {W W' : World} (h : KeepsFrom B W W') : NoCells B W W' := fun k hk ⟨o, ho, hc⟩ => (h.same k o hk ho hc).trans ho.symm
theorem Marks.keep {B : Nat} : ∀ {ds : List Deferred} {W W' : World}, Marks B ds W → NoCells B W W' → Marks B ds W'
  | [], _, _, _, _ => trivial
  | _ :: _, _, _, ⟨⟨D, h1, h2, h3, h4⟩, hr⟩, hk => ⟨⟨D, h1, h2, (hk D h2 ⟨_, h3, rfl⟩).trans h3, h4⟩, hr.keep hk⟩
theorem Marks.grown {B : Nat} {ds : List Deferred} {W W' : World} {row : Option Nat} (h : Marks B ds W) (hg : W.grownBy W' row) (hr : ∀ r, row = some r → ∃ o : Obj, W.heap[r]? = some o ∧ o.isCells = true) : Marks B ds W' :=
  h.keep (fun k _ ⟨o, ho, hc⟩ => hg.block k (Array.getElem?_eq_some_iff.1 ho).1 (fun e => by
    obtain ⟨o', ho', hc'⟩ := hr k e.symm
    rw [ho] at ho'
    cases ho'
    rw [hc] at hc'
    cases hc'))
theorem Marks.lt {B : Nat} : ∀ {ds : List Deferred} {W : World}, Marks B ds W → ∀ d ∈ ds, ∀ D, d = { target := .collected D, args := #[] } → D < W.heap.size
  | [], _, _, d, hd, _, _ => by cases hd
  | _ :: _, W, ⟨⟨D0, h1, _, h3, _⟩, hr⟩, d, hd, D, e => by
    rcases List.mem_cons.1 hd with rfl | hd
    · have e2 := h1.symm.trans e
      simp at e2
      subst e2
      exact (Array.getElem?_eq_some_iff.1 h3).1
    · exact hr.lt d hd D e
theorem Marks.push {B B2 D : Nat} {ds : List Deferred} {W W0 : World} (h : Marks B ds W) (h0 : Marks B ds W0) (hB : B ≤ B2) (hB2 : W0.heap.size ≤ B2) (hD : B2 ≤ D) (hK : W.heap[D]? = some (.deferred (some []))) : Marks B ({ target := .collected D, args := #[] } :: ds) W :=
  ⟨⟨D, rfl, by omega, hK, fun d hd D' e => by have := h0.lt d hd D' e; omega⟩, h⟩
theorem Marks.turn {B : Nat} : ∀ {ds : List Deferred} {Wl X Y : World} {row : Option Nat}, Marks B ds Wl → Marks B ds X → X.grownBy Y row → (∀ r, row = some r → Wl.heap.size ≤ r) → Marks B ds Y
  | [], _, _, _, _, _, _, _, _ => trivial
  | _ :: _, _, _, _, _, ⟨⟨D0, e0, _, h0, _⟩, hl⟩, ⟨⟨D, h1, h2, h3, h4⟩, hr⟩, hg, hrow => by
    refine ⟨⟨D, h1, h2, (hg.block D (Array.getElem?_eq_some_iff.1 h3).1 (fun e => ?_)).trans h3, h4⟩, Marks.turn hl hr hg hrow⟩
    have := hrow D e.symm
    have e2 := e0.symm.trans h1
    simp at e2
    subst e2
    have := (Array.getElem?_eq_some_iff.1 h0).1
    omega
structure Shut (B : Nat) (W W' : World) : Prop where
  os : W'.os = W.os
  tape : W'.tape = W.tape
  output : W'.output = W.output
  size : W'.heap.size = W.heap.size
  low : ∀ k, k < B → W'.heap[k]? = W.heap[k]?
  cells : ∀ (k : Nat) (o : Obj), W.heap[k]? = some o → o.isCells = true → W'.heap[k]? = some o
theorem Shut.refl (B : Nat) (W : World) : Shut B W W := ⟨rfl, rfl, rfl, rfl, fun _ _ => rfl, fun _ _ h _ => h⟩
theorem Shut.below {B B' : Nat} {W W' : World} (h : Shut B W W') (hB : B' ≤ B) : Below B' W W' := ⟨h.os, h.tape, h.output, by rw [h.size]; exact Nat.le_refl _, fun k hk => h.low k (by omega)⟩
theorem Shut.blk {B b t : Nat} {W W' : World} {cs : Array Value} {f : Nat × Nat} (h : Shut B W W') (hb : W.heap[b]? = some (.cells cs t f)) : W'.heap[b]? = some (.cells cs t f) := h.cells b _ hb rfl
theorem leave_marks {F : Fence} {n : Nat} {P : Program} {fn : Func} {tmps : Array Value} {R : Ending → World → Prop} {B : Nat} : ∀ {ds : List Deferred} {W W0 : World}, Marks B ds W → Shut B W0 W → (∀ W', Shut B W0 W' → ∃ v, (results fn tmps).run P W' = .ok v W' ∧ R (.returned v) W') → LeavesInM F n P fn tmps R ds .returning W
  | [], W, W0, _, hs, h => h W hs
  | d :: ds, W, W0, ⟨⟨D, hd, hB, hK, hu⟩, hr⟩, hs, h => by
    refine ⟨by simp, .inl ⟨D, _, by rw [hd], run_takeDeferred hK, ?_⟩⟩
    have hr2 : Marks B ds (W.putObj D (.deferred none)) := by
      have : ∀ (l : List Deferred), (∀ d' ∈ l, ∀ D', d' = { target := .collected D', args := #[] } → D' < D) → Marks B l W → Marks B l (W.putObj D (.deferred none)) := by
        intro l
        induction l with
        | nil => intro _ _; trivial
        | cons x l ih =>
          rintro hl ⟨⟨D1, h1, h2, h3, h4⟩, hm⟩
          have := hl x (by simp) D1 h1
          exact ⟨⟨D1, h1, h2, (World.putObj_heap_other (by omega)).trans h3, h4⟩, ih (fun d' hd' => hl d' (by simp [hd'])) hm⟩
      exact this ds hu hr
    refine leave_marks hr2 ⟨hs.os, hs.tape, hs.output, ?_, fun k hk => ?_, fun k o ho hc => ?_⟩ h
    · rw [← hs.size]; simp [World.putObj]
    · rw [World.putObj_heap_other (by omega)]; exact hs.low k hk
    · have h1 := hs.cells k o ho hc
      rw [World.putObj_heap_other (fun e => by subst e; rw [hK] at h1; cases h1; cases hc)]
      exact h1
end Go.Proofs.YtbbnoloploklkaaGreatDoor

namespace Go.Proofs.YtbbnoloploklkaaGreatDoor
set_option linter.unusedVariables false
set_option linter.unusedSimpArgs false
open Go Go.RowKit

theorem splice_rep (c N m : Nat) (x z : Value) (h : c + m ≤ N) : splice (List.replicate c x ++ List.replicate (N - c) z) c (List.replicate m x) = List.replicate (c + m) x ++ List.replicate (N - (c + m)) z := by
  unfold splice
  rw [List.take_append_of_le_length (by simp), List.take_of_length_le (by simp), List.length_replicate, List.drop_append, List.drop_eq_nil_of_le (by simp), List.nil_append, List.drop_replicate, List.length_replicate, ← List.append_assoc, List.replicate_append_replicate]
  congr 2
  omega

set_option maxRecDepth 100000 in
set_option maxHeartbeats 4000000 in
theorem Repeat_any (b c N : Nat) (x : Int) (w : World) (hN : N ≤ 1000000) (hx : w.cell? ⟨b, 0, none⟩ = some (intC x)) (hb : b < w.heap.size) :
    Calls Tryz.prog 202 #[.slice (some ⟨b, 0, none⟩) 1 c, .int .i64 (N : Int)] w fun e w' => ∃ g, e = .returned (.slice (some ⟨g, 0, none⟩) N N) ∧ w.heap.size ≤ g ∧ w'.heap[g]? = some (.cells (List.replicate N (intC x)).toArray 3 (0, 0)) ∧ Below w.heap.size w w' := by
  have hmk := make_ints N (by omega)
  have hmul := Tryz.bits_Mul 1 N (by omega) (by omega) w
  have e1 : 1 * N / 18446744073709551616 = 0 := by omega
  have e2 : 1 * N % 18446744073709551616 = N := by omega
  rw [e1, e2] at hmul
  have HM := Lib.hid hmul
  clear hmul e1 e2
  have h0 : (0 : Int) ≤ (N : Int) := by omega
  have h1 : (N : Int) ≤ 1000000 := by omega
  go_enter Tryz.func202, Tryz.ntmps202
  go_wp2_with fail
  refine HM.out.mono ?_
  rintro e w' ⟨rfl, rfl⟩
  have hcells : ∀ j v, (List.replicate (Nat.min 1 N) (intC x))[j]? = some v → (w'.alloc (.cells (Array.replicate N (.int .i64 0)) 3)).cell? ((⟨b, 0, none⟩ : Addr).add j) = some v := fun j v hv => by
    have hj : j < Nat.min 1 N := by have := (List.getElem?_eq_some_iff.1 hv).1; simpa using this
    have hv2 : intC x = v := by have := List.getElem?_eq_some_iff.1 hv; obtain ⟨_, h⟩ := this; simpa using h
    have hj0 : j = 0 := by have : Nat.min 1 N ≤ 1 := Nat.min_le_left 1 N; omega
    subst hj0
    rw [← hv2]
    exact cellA _ hx
  have HC := Lib.hid hcells
  clear hcells
  have hbw : Below w'.heap.size w' (w'.alloc (.cells (Array.replicate N (.int .i64 0)) 3)) := (Below.refl _ _).alloc (Nat.le_refl _) _
  have HBW := Lib.hid hbw
  clear hbw
  go_wp2_with (with_reducible refine wpList_copy_splice rfl (.tmp 31) (.tmp 32) 86 86 rfl 3 Tryz.underlying86 (by kernel_rfl) (some ⟨w'.heap.size, 0, none⟩) (some ⟨b, 0, none⟩) N N 1 c rfl rfl w'.heap.size 0 (List.replicate N (.int .i64 0)) 3 (by have := World.alloc_heap_new w' (.cells (Array.replicate N (.int .i64 0)) 3); simpa using this) (List.replicate (Nat.min 1 N) (intC x)) (by simp) (fun _ => ⟨rfl, _, rfl, HC.out⟩) (by simp; exact Nat.min_le_right 1 N) (by simp [Value.oneCell']) w'.heap.size w' HBW.out (Nat.le_refl _) ?_; intro w2 HG2 hb2)
  have HG3 : Hid (w2.heap[w'.heap.size]? = some (.cells (List.replicate (Nat.min 1 N) (intC x) ++ List.replicate (N - Nat.min 1 N) (intC 0)).toArray 3 (0, 0))) := Lib.hid (by
    have := HG2.out
    have e := splice_rep 0 N (Nat.min 1 N) (intC x) (intC 0) (by have : Nat.min 1 N ≤ N := Nat.min_le_right 1 N; omega)
    simp only [List.replicate_zero, List.nil_append, Nat.zero_add, Nat.sub_zero] at e
    rw [e] at this
    exact this)
  have HB2 := Lib.hid hb2
  clear HG2 hb2 hmk HM HC HBW
  have hm1 : Nat.min 1 N ≤ N := Nat.min_le_right 1 N
  have hm2 : 0 < N → 0 < Nat.min 1 N := fun h => by rw [show Nat.min 1 N = 1 from Nat.min_eq_left h]; omega
  generalize Nat.min 1 N = c1 at *
  have HM2 := Lib.hid hm2
  clear hm2
  go_loopw [8] (fun s wr => ∃ k : Nat, k ≤ N ∧ s = .int .i64 k ∧ Hid (0 < N → 0 < k) ∧ Hid (wr.heap[w'.heap.size]? = some (.cells (List.replicate k (intC x) ++ List.replicate (N - k) (intC 0)).toArray 3 (0, 0))) ∧ Hid (Below w'.heap.size w' wr)) (fun s _ => N - (intOf s).toNat)
  case atStart => exact ⟨c1, hm1, rfl, HM2, HG3, HB2⟩
  case round =>
    clear HM2 HG3 HB2 hm1
    obtain ⟨k, hk, rfl, HP, HG, HB⟩ := hrel
    by_cases hlt : k < N
    · have hlt2 : (k : Int) < (N : Int) := by omega
      have hle2 : (k : Int) ≤ (N : Int) := by omega
      have hk0 : (0 : Int) ≤ (k : Int) := by omega
      have hkne : ¬ N = k := by omega
      have hpos : 0 < k := HP.out (by omega)
      have HC : Hid (∀ j v, (List.replicate (Nat.min k (N - k)) (intC x))[j]? = some v → wr.drew.cell? ((⟨w'.heap.size, 0, none⟩ : Addr).add j) = some v) := Lib.hid (fun j v hv => by
        have hj : j < Nat.min k (N - k) := by have := (List.getElem?_eq_some_iff.1 hv).1; simpa using this
        have hj2 : j < k := by have : Nat.min k (N - k) ≤ k := Nat.min_le_left _ _; omega
        have hv2 : intC x = v := by have := List.getElem?_eq_some_iff.1 hv; obtain ⟨_, h⟩ := this; simpa using h
        rw [← hv2]
        have e : ((⟨w'.heap.size, 0, none⟩ : Addr).add j) = ⟨w'.heap.size, j, none⟩ := by unfold Addr.add; split <;> simp_all
        rw [e]
        refine (cell_of_row wr _ j _ _ _ HG.out).trans ?_
        rw [List.getElem?_toArray, List.getElem?_append_left (by simpa using hj2), List.getElem?_replicate, if_pos hj2])
      have hmn : Nat.min k (N - k) ≤ N - k := Nat.min_le_right _ _
      have hmp : 0 < Nat.min k (N - k) := by
        rcases Nat.le_total k (N - k) with h | h
        · rw [show Nat.min k (N - k) = k from Nat.min_eq_left h]; omega
        · rw [show Nat.min k (N - k) = N - k from Nat.min_eq_right h]; omega
      have HMN : Hid (Nat.min k (N - k) = Nat.min k (N - k)) := Lib.hid rfl
      go_wp2_with fail
      go_region_held3 (fun _ => True) (trivial) ((refine step_copy_splice rfl (.tmp 41) (.tmp 44) 86 86 rfl 3 Tryz.underlying86 (by kernel_rfl) (some ⟨w'.heap.size, k, none⟩) (some ⟨w'.heap.size, 0, none⟩) (N - k) (N - k) k N (by rfl) (by rfl) w'.heap.size k (List.replicate k (intC x) ++ List.replicate (N - k) (intC 0)) 3 HG.out (List.replicate (Nat.min k (N - k)) (intC x)) (by simp) (fun _ => ⟨rfl, _, rfl, HC.out⟩) (by simp; omega) (fun v hv => by rw [List.eq_of_mem_replicate hv]; rfl) w'.heap.size w' HB.out.drew (Nat.le_refl _) ?_; intro w2 HG2 hb2))
      all_goals
        have hl2 : (List.replicate (Nat.min k (N - k)) (intC x)).length = Nat.min k (N - k) := by simp
        have HGN : Hid (w2.heap[w'.heap.size]? = some (.cells (List.replicate (k + Nat.min k (N - k)) (intC x) ++ List.replicate (N - (k + Nat.min k (N - k))) (intC 0)).toArray 3 (0, 0))) := Lib.hid (by
          have := HG2.out
          rw [splice_rep k N (Nat.min k (N - k)) (intC x) (intC 0) (by omega)] at this
          exact this)
        have HB2 := Lib.hid hb2
        clear HG2 hb2
        generalize Nat.min k (N - k) = m at *
        clear hl2
        have hw : IntKind.i64.wrap ((k : Int) + (m : Int)) = ((k + m : Nat) : Int) := by rw [Int.natCast_add]; exact IntWalk.i64_in _ (by omega)
        go_wp2_with fail
        go_roundw
        case rel => exact ⟨k + m, by omega, by go_num, Lib.hid (fun h => by omega), HGN, HB2⟩
        case measure => simp [intOf]; omega
    · have hkk : k = N := by omega
      subst hkk
      go_wp2_with fail
      go_ret
      refine ⟨_, rfl, Nat.le_refl _, ?_, HB.out⟩
      have := HG.out
      simpa using this
end Go.Proofs.YtbbnoloploklkaaGreatDoor
