/- Contract of the graph's listed. -/
import Derived.Test.YtlcgbkeggmaljaaGPlainList
import Derived.Test.YtlcgbkeggmaljaaGReach
namespace Go.Proofs.Ytlcgbkeggmaljaa
set_option linter.unusedVariables false
set_option linter.unusedSimpArgs false
open Go Go.RowKit

theorem own_any {W : World} {B e s n : Nat} {v : Value} {xs : List Value} (h : W.ownsRow B e s v n xs) : ∃ a c, v = .slice a n c := by
  rcases h.2 with ⟨rfl, rfl⟩ | ⟨g, cap, cur, rfl, _⟩
  · exact ⟨_, _, rfl⟩
  · exact ⟨_, _, rfl⟩
/-- a slice's length. -/
def vlen : Value → Nat
  | .slice _ n _ => n
  | _ => 0
theorem vlen_own {W : World} {B e s n : Nat} {v : Value} {xs : List Value} (h : W.ownsRow B e s v n xs) : vlen v = n := by
  obtain ⟨a, c, rfl⟩ := own_any h
  rfl
theorem rowOf_cast {B : Nat} {v : Value} {l : List Nat} {W : World} (h : RowOf natC B v l W) : RowOf intC B v (l.map (fun n : Nat => (n : Int))) W := by
  rcases h with ⟨rfl, h⟩ | ⟨b, off, cap, rfl, hb, h⟩
  · exact .inl ⟨rfl, h⟩
  · refine .inr ⟨b, off, cap, by rw [List.length_map], hb, fun i x hx => ?_⟩
    rw [List.getElem?_map] at hx
    cases e : l[i]? with
    | none => rw [e] at hx; cases hx
    | some y => rw [e] at hx; cases hx; exact h i y e

theorem listed1_any (j g N B : Nat) (done : List Bool) (w : World) (hd : done.length = N) (hj : j < N) (hx : w.cell? ⟨B, 0, none⟩ = some (.slice (some ⟨g, 0, none⟩) N N)) (hf : Flags w g done) :
    Calls Try.prog 66 #[natC j, .pointer (some ⟨B, 0, none⟩)] w fun e w' => e = .returned (.bool (!bD done j)) ∧ w = w' := by
  have hj0 : (0 : Int) ≤ (j : Int) := by omega
  have hj1 : (j : Int) < (N : Int) := by omega
  have hc := hf.cell j done[j] (by simp [hd, hj])
  have e : bD done j = done[j] := by unfold bD; rw [List.getD_eq_getElem?_getD, List.getElem?_eq_getElem (by omega)]; rfl
  rw [e]
  generalize done[j] = b at *
  clear hf e
  cases b with
  | true =>
    go_enter Try.func66, Try.ntmps66
    go_wp2
    go_ret
    exact ⟨rfl, rfl⟩
  | false =>
    go_enter Try.func66, Try.ntmps66
    go_wp2
    go_ret
    exact ⟨rfl, rfl⟩

set_option maxRecDepth 100000 in
set_option maxHeartbeats 4000000 in
theorem listed_any (v : Value) (S : List (List Nat)) (w : World) (hR : RowsOf w.heap.size v S w) (hS : S.length ≤ 1000000) (hSl : ∀ a, (S.getD a []).length ≤ 1000000000) (hSk : ∀ a, ∀ k ∈ S.getD a [], k < S.length) :
    Calls Try.prog 54 #[v] w fun e w' => ∃ u, e = .returned u ∧ w'.ownsRow w.heap.size 3 1 u (listF S).length ((listF S).map natC) ∧ Below w.heap.size w w' := by
  have hv : ∃ a c, v = .slice a S.length c := by
    rcases hR with ⟨rfl, a, c, rfl⟩ | ⟨b, off, cap, rfl, _⟩
    · exact ⟨a, c, rfl⟩
    · exact ⟨_, cap, rfl⟩
  obtain ⟨va, vc, rfl⟩ := hv
  have hmk := make_bools S.length (by omega)
  have HR := Lib.hid hR
  have HSK := Lib.hid hSk
  have HSL := Lib.hid hSl
  clear hR hSl hSk
  obtain ⟨i0, hi0', hz0, hz1, hz2⟩ := info_parts info_ints
  go_enter Try.func54, Try.ntmps54
  go_wp2_with fail
  clear hmk
  have hF0 : Flags ((w.alloc (.cells (Array.replicate S.length (.bool false)) 4)).alloc (.cells #[.slice (some ⟨w.heap.size, 0, none⟩) S.length S.length] 55)) w.heap.size (List.replicate S.length false) := by
    unfold Flags
    refine (Below.heap_alloc _ _ _ (by simp)).trans ((World.alloc_heap_new w _).trans ?_)
    simp
  have hX0 : Boxed ((w.alloc (.cells (Array.replicate S.length (.bool false)) 4)).alloc (.cells #[.slice (some ⟨w.heap.size, 0, none⟩) S.length S.length] 55)) (w.heap.size + 1) 55 (.slice (some ⟨w.heap.size, 0, none⟩) S.length S.length) := by
    have := Boxed.new (w.alloc (.cells (Array.replicate S.length (.bool false)) 4)) 55 (.slice (some ⟨w.heap.size, 0, none⟩) S.length S.length)
    rwa [World.size_alloc] at this
  have hB0 : Below w.heap.size w ((w.alloc (.cells (Array.replicate S.length (.bool false)) 4)).alloc (.cells #[.slice (some ⟨w.heap.size, 0, none⟩) S.length S.length] 55)) := ((Below.refl _ _).alloc (Nat.le_refl _) _).alloc (by simp) _
  go_loopw [4] (fun o wr => ∃ k : Nat, k ≤ S.length ∧ Hid (wr.ownsRow w.heap.size 3 1 o k ((lrun S k).2.map natC)) ∧ Hid (Flags wr w.heap.size (lrun S k).1) ∧ Hid (Boxed wr (w.heap.size + 1) 55 (.slice (some ⟨w.heap.size, 0, none⟩) S.length S.length)) ∧ Hid (Below w.heap.size w wr)) (fun o _ => S.length - vlen o)
  case atStart => exact ⟨0, by omega, Lib.hid (World.ownsRow_nil _ _ _ _), Lib.hid hF0, Lib.hid hX0, Lib.hid hB0⟩
  case round =>
    clear hF0 hX0 hB0
    obtain ⟨k, hk, HO0, HF0, HX0, HB0⟩ := hrel
    obtain ⟨oa, oc, rfl⟩ := own_any HO0.out
    by_cases hlt : k < S.length
    · have hkl : (k : Int) < (S.length : Int) := by omega
      have hdl := (lrun_len S k).1
      go_wp2_with fail
      obtain ⟨wo, rfl⟩ : ∃ wo : World, wo = wr := ⟨_, rfl⟩
      go_loopw [5, 17] (fun n5 q wr => n5 = .int .i64 0 ∧ ∃ j : Nat, j ≤ S.length ∧ q = .int .i64 j ∧ Hid (NoneRdy S (lrun S k).1 j) ∧ Hid (wr.ownsRow w.heap.size 3 1 (.slice oa k oc) k ((lrun S k).2.map natC)) ∧ Hid (Flags wr w.heap.size (lrun S k).1) ∧ Hid (Boxed wr (w.heap.size + 1) 55 (.slice (some ⟨w.heap.size, 0, none⟩) S.length S.length)) ∧ Hid (Below w.heap.size w wr)) (fun _ q _ => S.length - (intOf q).toNat)
      case atStart => exact ⟨rfl, 0, by omega, rfl, Lib.hid (fun j hj => by omega), HO0, HF0, HX0, HB0⟩
      case round =>
        clear HO0 HF0 HX0 HB0
        obtain ⟨rfl, j, hj, rfl, HNR, HO, HF, HX, HB⟩ := hrel
        by_cases hjl : j < S.length
        · have hj0 : (0 : Int) ≤ (j : Int) := by omega
          have hj1 : (j : Int) < (S.length : Int) := by omega
          have hcx := HX.out.cell
          have hcf := HF.out.cell j (lrun S k).1[j] (by simp [hdl, hjl])
          have ebd : bD (lrun S k).1 j = (lrun S k).1[j] := by unfold bD; rw [List.getD_eq_getElem?_getD, List.getElem?_eq_getElem (by omega)]; rfl
          rw [← ebd] at hcf
          clear ebd
          have HRR := (HR.out.below HB.out (Nat.le_refl _))
          obtain ⟨b, off, cap, hva, hbw, hrow⟩ : ∃ b off cap, (.slice va S.length vc : Value) = .slice (some ⟨b, off, none⟩) S.length cap ∧ b < w.heap.size ∧ ∀ i l, S[i]? = some l → ∃ r, wr.cell? ⟨b, off + i, none⟩ = some r ∧ RowOf natC w.heap.size r l wr := by
            rcases HRR with ⟨h, _⟩ | h
            · rw [h] at hjl; simp at hjl
            · exact h
          cases hva
          have hgS : S.getD j [] = S[j] := by rw [List.getD_eq_getElem?_getD, List.getElem?_eq_getElem hjl]; rfl
          obtain ⟨r, hcr, hrr⟩ := hrow j (S.getD j []) (by rw [hgS]; simp)
          obtain ⟨lj, hlj⟩ : ∃ lj, lj = S.getD j [] := ⟨_, rfl⟩
          have hskj := HSK.out j
          have hslj := HSL.out j
          rw [← hlj] at hrr hskj hslj
          have HLJ := Lib.hid hlj
          have hpd : PredI 66 #[.pointer (some ⟨w.heap.size + 1, 0, none⟩)] (lj.map (fun n : Nat => (n : Int))) (fun x => !bD (lrun S k).1 x.toNat) wr := by
            intro W x hx hW
            obtain ⟨y, hy, rfl⟩ := List.mem_map.1 hx
            have hxl := HX.out.lt
            refine (listed1_any y w.heap.size S.length (w.heap.size + 1) (lrun S k).1 W hdl (hskj y hy) ?_ ?_).mono ?_
            · exact (hW.cell (p := ⟨w.heap.size + 1, 0, none⟩) (by show w.heap.size + 1 < _; omega)).trans hcx
            · exact (hW.block _ (by omega)).trans HF.out
            · rintro e w' ⟨rfl, rfl⟩
              exact ⟨rfl, hW⟩
          have hhas := has_int 66 _ (enters_of Try.func66 (by kernel_rfl) rfl) _ r _ wr (by rw [List.length_map]; omega) ((rowOf_cast hrr).mono (by have := HB.out.size; omega)) hpd
          have hany : (lj.map (fun n : Nat => (n : Int))).any (fun x => !bD (lrun S k).1 x.toNat) = lj.any fun y => !bD (lrun S k).1 y := by rw [List.any_map]; rfl
          rw [hany] at hhas
          obtain ⟨ra, rc, rfl, _⟩ := rowOf_open hrr
          have HHAS := Lib.hid hhas
          have HLR : Hid (lrdy S (lrun S k).1 j = (!bD (lrun S k).1 j && !(lj.any fun y => !bD (lrun S k).1 y))) := Lib.hid (by rw [hlj]; rfl)
          clear hhas hpd hany hrow hrr HRR hgS hlj hskj hslj
          generalize bD (lrun S k).1 j = dj at *
          generalize (lj.any fun y => !bD (lrun S k).1 y) = qj at *
          have HNX : Hid (lrdy S (lrun S k).1 j = false → NoneRdy S (lrun S k).1 (j + 1)) := Lib.hid fun h i hi => by
            by_cases e : i = j
            · rw [e]; exact h
            · exact HNR.out i (by omega)
          cases dj with
          | true =>
            go_wp2_with fail
            go_roundw
            case rel => exact ⟨rfl, j + 1, by omega, by go_num, Lib.hid (HNX.out (by rw [HLR.out]; rfl)), HO, HF, HX, HB⟩
            case measure => simp [intOf]; omega
          | false =>
            cases qj with
            | true =>
              go_wp2_with fail
              refine HHAS.out.mono ?_
              rintro e w5 ⟨rfl, hb5⟩
              go_wp2_with fail
              go_roundw
              case rel =>
                refine ⟨rfl, j + 1, by omega, by go_num, Lib.hid (HNX.out (by rw [HLR.out]; rfl)), Lib.hid (own_far HO.out (fun i hi => hb5.block i (HO.out.lt i hi).2)), Lib.hid ((hb5.block _ (by have := HX.out.lt; omega)).trans HF.out), Lib.hid ((hb5.block _ HX.out.lt).trans HX.out), Lib.hid (HB.out.trans (hb5.mono HB.out.size))⟩
              case measure => simp [intOf]; omega
            | false =>
              have HST : Hid (lrun S (k + 1) = ((lrun S k).1.set j true, (lrun S k).2 ++ [j])) := Lib.hid (by
                show lstep S (lrun S k) = _
                unfold lstep
                rw [lpick_at hjl HNR.out (by rw [HLR.out]; rfl)])
              go_wp2_with fail
              refine HHAS.out.mono ?_
              rintro e w5 ⟨rfl, hb5⟩
              have HO2 : Hid (w5.ownsRow w.heap.size 3 1 (.slice oa k oc) k ((lrun S k).2.map natC)) := Lib.hid (own_far HO.out (fun i hi => hb5.block i (HO.out.lt i hi).2))
              have HF2 : Hid (Flags w5 w.heap.size (lrun S k).1) := Lib.hid ((hb5.block _ (by have := HX.out.lt; omega)).trans HF.out)
              have HX2 : Hid (Boxed w5 (w.heap.size + 1) 55 (.slice (some ⟨w.heap.size, 0, none⟩) S.length S.length)) := Lib.hid ((hb5.block _ HX.out.lt).trans HX.out)
              have HB2 : Hid (Below w.heap.size w w5) := Lib.hid (HB.out.trans (hb5.mono HB.out.size))
              clear HO HF HX HB hcx hcf hcr hb5
              have HO := HO2
              have HF := HF2
              have HX := HX2
              have HB := HB2
              clear HO2 HF2 HX2 HB2
              have hsb := HB.out.size
              have hxl := HX.out.lt
              have hnl : j < (lrun S k).1.length := by rw [(lrun_len S k).1]; omega
              have hcX := HX.out.cell
              have hcF := HF.out.cell j _ (List.getElem?_eq_getElem hnl)
              have hfz : w5.frozen? ⟨w.heap.size, j, none⟩ = false := frozen_of_row _ _ j _ _ HF.out
              have hn0 : (0 : Int) ≤ ((j : Nat) : Int) := by omega
              have hn1 : ((j : Nat) : Int) < (S.length : Int) := by omega
              have HO5 : Hid (((w5.setCell ⟨w.heap.size, j, none⟩ (.bool true)).alloc (.cells #[natC j] 3)).ownsRow w.heap.size 3 1 (.slice oa k oc) k ((lrun S k).2.map natC)) := Lib.hid ((own_far HO.out (fun j hj => heap_setCell_other _ _ _ _ (fun e => by
                have e : j = w.heap.size := e
                rw [e] at hj
                exact blk_ne HF.out HO.out (by decide) hj.symm))).alloc _)
              have hz5 : (w5.setCell ⟨w.heap.size, j, none⟩ (.bool true)).heap.size = w5.heap.size := by simp
              have HN5 : Hid (∀ (t9 : Nat) (u : Value), [natC j][t9]? = some u → ((w5.setCell ⟨w.heap.size, j, none⟩ (.bool true)).alloc (.cells #[natC j] 3)).cell? ((⟨w5.heap.size, 0, none⟩ : Addr).add t9) = some u) := Lib.hid (by
                have := World.news_of_block (cs := #[natC j]) (t := 3) (fr := (0, 0)) (heap_alloc_new (w5.setCell ⟨w.heap.size, j, none⟩ (.bool true)) (.cells #[natC j] 3))
                rw [hz5] at this
                exact this)
              go_wp2_with (at_builtin; refine wpList_append_own _ rfl _ _ 26 rfl w.heap.size 3 i0 (.int .i64 0) 1 8 Try.underlying26 hi0' hz0 hz1 hz2 rfl (by decide) _ _ _ (by rfl) HO5.out ⟨w5.heap.size, 0, none⟩ 1 1 [natC j] (by rfl) (by rfl) HN5.out (by simp [Value.oneCell']) (by unfold maxLen; omega) (by omega) (by simp; omega) ?_; intro v' w7 hown' hgrow _)
              go_roundw
              case rel =>
                have hb5 : Below w.heap.size w ((w5.setCell ⟨w.heap.size, j, none⟩ (.bool true)).alloc (.cells #[natC j] 3)) := (HB.out.setCell (by exact Nat.le_refl _) _).alloc (by rw [hz5]; omega) _
                have hf5 : Flags ((w5.setCell ⟨w.heap.size, j, none⟩ (.bool true)).alloc (.cells #[natC j] 3)) w.heap.size ((lrun S k).1.set j true) := (Below.heap_alloc _ _ _ (by rw [hz5]; omega)).trans (HF.out.set j true)
                have hx5 : Boxed ((w5.setCell ⟨w.heap.size, j, none⟩ (.bool true)).alloc (.cells #[natC j] 3)) (w.heap.size + 1) 55 (.slice (some ⟨w.heap.size, 0, none⟩) S.length S.length) := (Below.heap_alloc _ _ _ (by rw [hz5]; have := HX.out.lt; omega)).trans ((heap_setCell_other _ _ _ _ (fun e => by have e : w.heap.size + 1 = w.heap.size := e; omega)).trans HX.out)
                refine ⟨k + 1, by omega, Lib.hid (by rw [HST.out, List.map_append]; exact hown'), Lib.hid ?_, Lib.hid ?_, Lib.hid (hb5.grown hgrow (by rw [World.size_alloc, hz5]; omega) (fun j hj => (HO5.out.lt j hj).1))⟩
                · rw [HST.out]
                  exact (hgrow.block _ (by have := (Array.getElem?_eq_some_iff.1 hf5).1; exact this) (blk_ne hf5 HO5.out (by decide))).trans hf5
                · exact (hgrow.block _ hx5.lt (blk_ne hx5 HO5.out (by decide))).trans hx5
              case measure =>
                have e9 := vlen_own hown'
                simp only [vlen] at e9 ⊢
                omega
        · have hjj : j = S.length := by omega
          subst hjj
          have HST : Hid (lrun S (k + 1) = ((lrun S k).1.set 0 true, (lrun S k).2 ++ [0])) := Lib.hid (by
            show lstep S (lrun S k) = _
            unfold lstep
            rw [lpick_none HNR.out])
          have hsb := HB.out.size
          have hxl := HX.out.lt
          have hnl : 0 < (lrun S k).1.length := by rw [(lrun_len S k).1]; omega
          have hcX := HX.out.cell
          have hcF := HF.out.cell 0 _ (List.getElem?_eq_getElem hnl)
          have hfz : wr.frozen? ⟨w.heap.size, 0, none⟩ = false := frozen_of_row _ _ 0 _ _ HF.out
          have hn0 : (0 : Int) ≤ ((0 : Nat) : Int) := by omega
          have hn1 : ((0 : Nat) : Int) < (S.length : Int) := by omega
          have HO5 : Hid (((wr.setCell ⟨w.heap.size, 0, none⟩ (.bool true)).alloc (.cells #[natC 0] 3)).ownsRow w.heap.size 3 1 (.slice oa k oc) k ((lrun S k).2.map natC)) := Lib.hid ((own_far HO.out (fun j hj => heap_setCell_other _ _ _ _ (fun e => by
            have e : j = w.heap.size := e
            rw [e] at hj
            exact blk_ne HF.out HO.out (by decide) hj.symm))).alloc _)
          have hz5 : (wr.setCell ⟨w.heap.size, 0, none⟩ (.bool true)).heap.size = wr.heap.size := by simp
          have HN5 : Hid (∀ (t9 : Nat) (u : Value), [natC 0][t9]? = some u → ((wr.setCell ⟨w.heap.size, 0, none⟩ (.bool true)).alloc (.cells #[natC 0] 3)).cell? ((⟨wr.heap.size, 0, none⟩ : Addr).add t9) = some u) := Lib.hid (by
            have := World.news_of_block (cs := #[natC 0]) (t := 3) (fr := (0, 0)) (heap_alloc_new (wr.setCell ⟨w.heap.size, 0, none⟩ (.bool true)) (.cells #[natC 0] 3))
            rw [hz5] at this
            exact this)
          go_wp2_with (at_builtin; refine wpList_append_own _ rfl _ _ 26 rfl w.heap.size 3 i0 (.int .i64 0) 1 8 Try.underlying26 hi0' hz0 hz1 hz2 rfl (by decide) _ _ _ (by rfl) HO5.out ⟨wr.heap.size, 0, none⟩ 1 1 [natC 0] (by rfl) (by rfl) HN5.out (by simp [Value.oneCell']) (by unfold maxLen; omega) (by omega) (by simp; omega) ?_; intro v' w7 hown' hgrow _)
          go_roundw
          case rel =>
            have hb5 : Below w.heap.size w ((wr.setCell ⟨w.heap.size, 0, none⟩ (.bool true)).alloc (.cells #[natC 0] 3)) := (HB.out.setCell (by exact Nat.le_refl _) _).alloc (by rw [hz5]; omega) _
            have hf5 : Flags ((wr.setCell ⟨w.heap.size, 0, none⟩ (.bool true)).alloc (.cells #[natC 0] 3)) w.heap.size ((lrun S k).1.set 0 true) := (Below.heap_alloc _ _ _ (by rw [hz5]; omega)).trans (HF.out.set 0 true)
            have hx5 : Boxed ((wr.setCell ⟨w.heap.size, 0, none⟩ (.bool true)).alloc (.cells #[natC 0] 3)) (w.heap.size + 1) 55 (.slice (some ⟨w.heap.size, 0, none⟩) S.length S.length) := (Below.heap_alloc _ _ _ (by rw [hz5]; have := HX.out.lt; omega)).trans ((heap_setCell_other _ _ _ _ (fun e => by have e : w.heap.size + 1 = w.heap.size := e; omega)).trans HX.out)
            refine ⟨k + 1, by omega, Lib.hid (by rw [HST.out, List.map_append]; exact hown'), Lib.hid ?_, Lib.hid ?_, Lib.hid (hb5.grown hgrow (by rw [World.size_alloc, hz5]; omega) (fun j hj => (HO5.out.lt j hj).1))⟩
            · rw [HST.out]
              exact (hgrow.block _ (by have := (Array.getElem?_eq_some_iff.1 hf5).1; exact this) (blk_ne hf5 HO5.out (by decide))).trans hf5
            · exact (hgrow.block _ hx5.lt (blk_ne hx5 HO5.out (by decide))).trans hx5
          case measure =>
            have e9 := vlen_own hown'
            simp only [vlen] at e9 ⊢
            omega
    · have hkk : k = S.length := by omega
      subst hkk
      go_wp2_with fail
      go_ret
      refine ⟨_, rfl, ?_, HB0.out⟩
      rw [listF_length]
      exact HO0.out
end Go.Proofs.Ytlcgbkeggmaljaa
