/- Graphs, plain: the components in order. Contract of the graph's listed. Contract of the graph's Components. -/
import Derived.Test.YtnjiibiafhnmgaaGreatDoorYF
import Derived.Test.YtnjiibiafhnmgaaGreatDoorYW
import Derived.Test.YtnjiibiafhnmgaaGreatDoorYV
import Derived.Test.YtnjiibiafhnmgaaGreatDoorZD
namespace Go.Proofs.YtnjiibiafhnmgaaGreatDoor
set_option linter.unusedVariables false
set_option linter.unusedSimpArgs false

abbrev bD (d : List Bool) (a : Nat) : Bool := d.getD a false
def lrdy (S : List (List Nat)) (done : List Bool) (k : Nat) : Bool := !bD done k && !((S.getD k []).any fun j => !bD done j)
def lpick (S : List (List Nat)) (done : List Bool) : Nat := ((List.range S.length).find? (lrdy S done)).getD 0
def lstep (S : List (List Nat)) (st : List Bool × List Nat) : List Bool × List Nat := (st.1.set (lpick S st.1) true, st.2 ++ [lpick S st.1])
def lrun (S : List (List Nat)) : Nat → List Bool × List Nat
  | 0 => (List.replicate S.length false, [])
  | k + 1 => lstep S (lrun S k)
def listF (S : List (List Nat)) : List Nat := (lrun S S.length).2
theorem lrun_len (S : List (List Nat)) : ∀ k, (lrun S k).1.length = S.length ∧ (lrun S k).2.length = k
  | 0 => by simp [lrun]
  | k + 1 => by
    obtain ⟨h1, h2⟩ := lrun_len S k
    unfold lrun lstep
    simp [h1, h2]
theorem lpick_lt (S : List (List Nat)) (done : List Bool) (h : 0 < S.length) : lpick S done < S.length := by
  unfold lpick
  cases e : (List.range S.length).find? (lrdy S done) with
  | none => exact h
  | some x => exact List.mem_range.1 (List.mem_of_find?_eq_some e)
theorem lrun_lt (S : List (List Nat)) : ∀ k, k ≤ S.length → ∀ x ∈ (lrun S k).2, x < S.length
  | 0, _, x, hx => by simp [lrun] at hx
  | k + 1, hk, x, hx => by
    unfold lrun lstep at hx
    simp only [List.mem_append, List.mem_singleton] at hx
    rcases hx with hx | rfl
    · exact lrun_lt S k (by omega) x hx
    · exact lpick_lt S _ (by omega)
theorem listF_length (S : List (List Nat)) : (listF S).length = S.length := (lrun_len S _).2
theorem listF_lt (S : List (List Nat)) : ∀ x ∈ listF S, x < S.length := lrun_lt S _ (Nat.le_refl _)
def NoneRdy (S : List (List Nat)) (done : List Bool) (k : Nat) : Prop := ∀ j, j < k → lrdy S done j = false
theorem lpick_at {S : List (List Nat)} {done : List Bool} {k : Nat} (hk : k < S.length) (hn : NoneRdy S done k) (hr : lrdy S done k = true) : lpick S done = k := by
  unfold lpick
  have : (List.range S.length).find? (lrdy S done) = some k := by
    rw [List.find?_eq_some_iff_append]
    refine ⟨hr, List.range k, (List.range (S.length - k - 1)).map (· + (k + 1)), ?_, fun a ha => ?_⟩
    · have e : S.length = k + (1 + (S.length - k - 1)) := by omega
      rw [e, List.range_add, List.range_add]
      have e2 : k + (1 + (S.length - k - 1)) - k - 1 = S.length - k - 1 := by omega
      simp [List.range_succ, Function.comp_def, Nat.add_comm, Nat.add_left_comm]
    · rw [hn a (List.mem_range.1 ha)]; rfl
  rw [this]; rfl
theorem lpick_none {S : List (List Nat)} {done : List Bool} (hn : NoneRdy S done S.length) : lpick S done = 0 := by
  unfold lpick
  have : (List.range S.length).find? (lrdy S done) = none := by
    rw [List.find?_eq_none]
    intro x hx
    rw [hn x (List.mem_range.1 hx)]; simp
  rw [this]; rfl
end Go.Proofs.YtnjiibiafhnmgaaGreatDoor

namespace Go.Proofs.YtnjiibiafhnmgaaGreatDoor
set_option linter.unusedVariables false
set_option linter.unusedSimpArgs false
open Go Go.RowKit

def vlen : Value → Nat
  | .slice _ n _ => n
  | _ => 0
theorem vlen_own {W : World} {B e s n : Nat} {v : Value} {xs : List Value} (h : W.ownsRow B e s v n xs) : vlen v = n := by
  obtain ⟨a, c, rfl⟩ := own_any h
  rfl
theorem rowOf_cast {B : Nat} {v : Value} {l : List Nat} {W : World} (h : RowOf natC B v l W) : RowOf intC B v (l.map (fun n : Nat => (n : Int))) W := by
  rcases h with ⟨rfl, h⟩ | ⟨b, off, cap, rfl, hb, h⟩
  · exact .inl ⟨rfl, h⟩
  · refine .inr ⟨b, off, cap, by rw [List.length_map], hb, fun i x hx => ?_⟩
    rw [List.getElem?_map] at hx
    cases e : l[i]? with
    | none => rw [e] at hx; cases hx
    | some y => rw [e] at hx; cases hx; exact h i y e

theorem listed1_any (j g N B : Nat) (done : List Bool) (w : World) (hd : done.length = N) (hj : j < N) (hx : w.cell? ⟨B, 0, none⟩ = some (.slice (some ⟨g, 0, none⟩) N N)) (hf : Flags w g done) :
    Calls Tryz.prog 111 #[natC j, .pointer (some ⟨B, 0, none⟩)] w fun e w' => e = .returned (.bool (!bD done j)) ∧ w = w' := by
  have hj0 : (0 : Int) ≤ (j : Int) := by omega
  have hj1 : (j : Int) < (N : Int) := by omega
  have hc := hf.cell j done[j] (by simp [hd, hj])
  have e : bD done j = done[j] := by unfold bD; rw [List.getD_eq_getElem?_getD, List.getElem?_eq_getElem (by omega)]; rfl
  rw [e]
  generalize done[j] = b at *
  clear hf e
  cases b with
  | true =>
    go_enter Tryz.func111, Tryz.ntmps111
    go_wp2
    go_ret
    exact ⟨rfl, rfl⟩
  | false =>
    go_enter Tryz.func111, Tryz.ntmps111
    go_wp2
    go_ret
    exact ⟨rfl, rfl⟩

set_option maxRecDepth 100000 in
set_option maxHeartbeats 4000000 in
theorem listed_any (v : Value) (S : List (List Nat)) (w : World) (hR : RowsOf w.heap.size v S w) (hS : S.length ≤ 1000000) (hSl : ∀ a, (S.getD a []).length ≤ 1000000000) (hSk : ∀ a, ∀ k ∈ S.getD a [], k < S.length) :
    Calls Tryz.prog 80 #[v] w fun e w' => ∃ u, e = .returned u ∧ w'.ownsRow w.heap.size 3 1 u (listF S).length ((listF S).map natC) ∧ Below w.heap.size w w' := by
  have hv : ∃ a c, v = .slice a S.length c := by
    rcases hR with ⟨rfl, a, c, rfl⟩ | ⟨b, off, cap, rfl, _⟩
    · exact ⟨a, c, rfl⟩
    · exact ⟨_, cap, rfl⟩
  obtain ⟨va, vc, rfl⟩ := hv
  have hmk := make_bools S.length (by omega)
  have HR := Lib.hid hR
  have HSK := Lib.hid hSk
  have HSL := Lib.hid hSl
  clear hR hSl hSk
  obtain ⟨i0, hi0', hz0, hz1, hz2⟩ := info_parts info_ints
  go_enter Tryz.func80, Tryz.ntmps80
  go_wp2_with fail
  clear hmk
  have hF0 : Flags ((w.alloc (.cells (Array.replicate S.length (.bool false)) 4)).alloc (.cells #[.slice (some ⟨w.heap.size, 0, none⟩) S.length S.length] 127)) w.heap.size (List.replicate S.length false) := by
    unfold Flags
    refine (Below.heap_alloc _ _ _ (by simp)).trans ((World.alloc_heap_new w _).trans ?_)
    simp
  have hX0 : Boxed ((w.alloc (.cells (Array.replicate S.length (.bool false)) 4)).alloc (.cells #[.slice (some ⟨w.heap.size, 0, none⟩) S.length S.length] 127)) (w.heap.size + 1) 127 (.slice (some ⟨w.heap.size, 0, none⟩) S.length S.length) := by
    have := Boxed.new (w.alloc (.cells (Array.replicate S.length (.bool false)) 4)) 127 (.slice (some ⟨w.heap.size, 0, none⟩) S.length S.length)
    rwa [World.size_alloc] at this
  have hB0 : Below w.heap.size w ((w.alloc (.cells (Array.replicate S.length (.bool false)) 4)).alloc (.cells #[.slice (some ⟨w.heap.size, 0, none⟩) S.length S.length] 127)) := ((Below.refl _ _).alloc (Nat.le_refl _) _).alloc (by simp) _
  go_loopw [4] (fun o wr => ∃ k : Nat, k ≤ S.length ∧ Hid (wr.ownsRow w.heap.size 3 1 o k ((lrun S k).2.map natC)) ∧ Hid (Flags wr w.heap.size (lrun S k).1) ∧ Hid (Boxed wr (w.heap.size + 1) 127 (.slice (some ⟨w.heap.size, 0, none⟩) S.length S.length)) ∧ Hid (Below w.heap.size w wr)) (fun o _ => S.length - vlen o)
  case atStart => exact ⟨0, by omega, Lib.hid (World.ownsRow_nil _ _ _ _), Lib.hid hF0, Lib.hid hX0, Lib.hid hB0⟩
  case round =>
    clear hF0 hX0 hB0
    obtain ⟨k, hk, HO0, HF0, HX0, HB0⟩ := hrel
    obtain ⟨oa, oc, rfl⟩ := own_any HO0.out
    by_cases hlt : k < S.length
    · have hkl : (k : Int) < (S.length : Int) := by omega
      have hdl := (lrun_len S k).1
      go_wp2_with fail
      obtain ⟨wo, rfl⟩ : ∃ wo : World, wo = wr := ⟨_, rfl⟩
      go_loopw [5, 17] (fun n5 q wr => n5 = .int .i64 0 ∧ ∃ j : Nat, j ≤ S.length ∧ q = .int .i64 j ∧ Hid (NoneRdy S (lrun S k).1 j) ∧ Hid (wr.ownsRow w.heap.size 3 1 (.slice oa k oc) k ((lrun S k).2.map natC)) ∧ Hid (Flags wr w.heap.size (lrun S k).1) ∧ Hid (Boxed wr (w.heap.size + 1) 127 (.slice (some ⟨w.heap.size, 0, none⟩) S.length S.length)) ∧ Hid (Below w.heap.size w wr)) (fun _ q _ => S.length - (intOf q).toNat)
      case atStart => exact ⟨rfl, 0, by omega, rfl, Lib.hid (fun j hj => by omega), HO0, HF0, HX0, HB0⟩
      case round =>
        clear HO0 HF0 HX0 HB0
        obtain ⟨rfl, j, hj, rfl, HNR, HO, HF, HX, HB⟩ := hrel
        by_cases hjl : j < S.length
        · have hj0 : (0 : Int) ≤ (j : Int) := by omega
          have hj1 : (j : Int) < (S.length : Int) := by omega
          have hcx := HX.out.cell
          have hcf := HF.out.cell j (lrun S k).1[j] (by simp [hdl, hjl])
          have ebd : bD (lrun S k).1 j = (lrun S k).1[j] := by unfold bD; rw [List.getD_eq_getElem?_getD, List.getElem?_eq_getElem (by omega)]; rfl
          rw [← ebd] at hcf
          clear ebd
          have HRR := (HR.out.below HB.out (Nat.le_refl _))
          obtain ⟨b, off, cap, hva, hbw, hrow⟩ : ∃ b off cap, (.slice va S.length vc : Value) = .slice (some ⟨b, off, none⟩) S.length cap ∧ b < w.heap.size ∧ ∀ i l, S[i]? = some l → ∃ r, wr.cell? ⟨b, off + i, none⟩ = some r ∧ RowOf natC w.heap.size r l wr := by
            rcases HRR with ⟨h, _⟩ | h
            · rw [h] at hjl; simp at hjl
            · exact h
          cases hva
          have hgS : S.getD j [] = S[j] := by rw [List.getD_eq_getElem?_getD, List.getElem?_eq_getElem hjl]; rfl
          obtain ⟨r, hcr, hrr⟩ := hrow j (S.getD j []) (by rw [hgS]; simp)
          obtain ⟨lj, hlj⟩ : ∃ lj, lj = S.getD j [] := ⟨_, rfl⟩
          have hskj := HSK.out j
          have hslj := HSL.out j
          rw [← hlj] at hrr hskj hslj
          have HLJ := Lib.hid hlj
          have hpd : PredI 111 #[.pointer (some ⟨w.heap.size + 1, 0, none⟩)] (lj.map (fun n : Nat => (n : Int))) (fun x => !bD (lrun S k).1 x.toNat) wr := by
            intro W x hx hW
            obtain ⟨y, hy, rfl⟩ := List.mem_map.1 hx
            have hxl := HX.out.lt
            refine (listed1_any y w.heap.size S.length (w.heap.size + 1) (lrun S k).1 W hdl (hskj y hy) ?_ ?_).mono ?_
            · exact (hW.cell (p := ⟨w.heap.size + 1, 0, none⟩) (by show w.heap.size + 1 < _; omega)).trans hcx
            · exact (hW.block _ (by omega)).trans HF.out
            · rintro e w' ⟨rfl, rfl⟩
              exact ⟨rfl, hW⟩
          have hhas := has_int 111 _ (enters_of Tryz.func111 (by kernel_rfl) rfl) _ r _ wr (by rw [List.length_map]; omega) ((rowOf_cast hrr).mono (by have := HB.out.size; omega)) hpd
          have hany : (lj.map (fun n : Nat => (n : Int))).any (fun x => !bD (lrun S k).1 x.toNat) = lj.any fun y => !bD (lrun S k).1 y := by rw [List.any_map]; rfl
          rw [hany] at hhas
          obtain ⟨ra, rc, rfl, _⟩ := rowOf_open hrr
          have HHAS := Lib.hid hhas
          have HLR : Hid (lrdy S (lrun S k).1 j = (!bD (lrun S k).1 j && !(lj.any fun y => !bD (lrun S k).1 y))) := Lib.hid (by rw [hlj]; rfl)
          clear hhas hpd hany hrow hrr HRR hgS hlj hskj hslj
          generalize bD (lrun S k).1 j = dj at *
          generalize (lj.any fun y => !bD (lrun S k).1 y) = qj at *
          have HNX : Hid (lrdy S (lrun S k).1 j = false → NoneRdy S (lrun S k).1 (j + 1)) := Lib.hid fun h i hi => by
            by_cases e : i = j
            · rw [e]; exact h
            · exact HNR.out i (by omega)
          cases dj with
          | true =>
            go_wp2_with fail
            go_roundw
            case rel => exact ⟨rfl, j + 1, by omega, by go_num, Lib.hid (HNX.out (by rw [HLR.out]; rfl)), HO, HF, HX, HB⟩
            case measure => simp [intOf]; omega
          | false =>
            cases qj with
            | true =>
              go_wp2_with fail
              refine HHAS.out.mono ?_
              rintro e w5 ⟨rfl, hb5⟩
              go_wp2_with fail
              go_roundw
              case rel =>
                refine ⟨rfl, j + 1, by omega, by go_num, Lib.hid (HNX.out (by rw [HLR.out]; rfl)), Lib.hid (own_far HO.out (fun i hi => hb5.block i (HO.out.lt i hi).2)), Lib.hid ((hb5.block _ (by have := HX.out.lt; omega)).trans HF.out), Lib.hid ((hb5.block _ HX.out.lt).trans HX.out), Lib.hid (HB.out.trans (hb5.mono HB.out.size))⟩
              case measure => simp [intOf]; omega
            | false =>
              have HST : Hid (lrun S (k + 1) = ((lrun S k).1.set j true, (lrun S k).2 ++ [j])) := Lib.hid (by
                show lstep S (lrun S k) = _
                unfold lstep
                rw [lpick_at hjl HNR.out (by rw [HLR.out]; rfl)])
              go_wp2_with fail
              refine HHAS.out.mono ?_
              rintro e w5 ⟨rfl, hb5⟩
              have HO2 : Hid (w5.ownsRow w.heap.size 3 1 (.slice oa k oc) k ((lrun S k).2.map natC)) := Lib.hid (own_far HO.out (fun i hi => hb5.block i (HO.out.lt i hi).2))
              have HF2 : Hid (Flags w5 w.heap.size (lrun S k).1) := Lib.hid ((hb5.block _ (by have := HX.out.lt; omega)).trans HF.out)
              have HX2 : Hid (Boxed w5 (w.heap.size + 1) 127 (.slice (some ⟨w.heap.size, 0, none⟩) S.length S.length)) := Lib.hid ((hb5.block _ HX.out.lt).trans HX.out)
              have HB2 : Hid (Below w.heap.size w w5) := Lib.hid (HB.out.trans (hb5.mono HB.out.size))
              clear HO HF HX HB hcx hcf hcr hb5
              have HO := HO2
              have HF := HF2
              have HX := HX2
              have HB := HB2
              clear HO2 HF2 HX2 HB2
              have hsb := HB.out.size
              have hxl := HX.out.lt
              have hnl : j < (lrun S k).1.length := by rw [(lrun_len S k).1]; omega
              have hcX := HX.out.cell
              have hcF := HF.out.cell j _ (List.getElem?_eq_getElem hnl)
              have hfz : w5.frozen? ⟨w.heap.size, j, none⟩ = false := frozen_of_row _ _ j _ _ HF.out
              have hn0 : (0 : Int) ≤ ((j : Nat) : Int) := by omega
              have hn1 : ((j : Nat) : Int) < (S.length : Int) := by omega
              have HO5 : Hid (((w5.setCell ⟨w.heap.size, j, none⟩ (.bool true)).alloc (.cells #[natC j] 3)).ownsRow w.heap.size 3 1 (.slice oa k oc) k ((lrun S k).2.map natC)) := Lib.hid ((own_far HO.out (fun j hj => heap_setCell_other _ _ _ _ (fun e => by
                have e : j = w.heap.size := e
                rw [e] at hj
                exact blk_ne HF.out HO.out (by decide) hj.symm))).alloc _)
              have hz5 : (w5.setCell ⟨w.heap.size, j, none⟩ (.bool true)).heap.size = w5.heap.size := by simp
              have HN5 : Hid (∀ (t9 : Nat) (u : Value), [natC j][t9]? = some u → ((w5.setCell ⟨w.heap.size, j, none⟩ (.bool true)).alloc (.cells #[natC j] 3)).cell? ((⟨w5.heap.size, 0, none⟩ : Addr).add t9) = some u) := Lib.hid (by
                have := World.news_of_block (cs := #[natC j]) (t := 3) (fr := (0, 0)) (heap_alloc_new (w5.setCell ⟨w.heap.size, j, none⟩ (.bool true)) (.cells #[natC j] 3))
                rw [hz5] at this
                exact this)
              go_wp2_with (at_builtin; refine wpList_append_own _ rfl _ _ 120 rfl w.heap.size 3 i0 (.int .i64 0) 1 8 Tryz.underlying120 hi0' hz0 hz1 hz2 rfl (by decide) _ _ _ (by rfl) HO5.out ⟨w5.heap.size, 0, none⟩ 1 1 [natC j] (by rfl) (by rfl) HN5.out (by simp [Value.oneCell']) (by unfold maxLen; omega) (by omega) (by simp; omega) ?_; intro v' w7 hown' hgrow _)
              go_roundw
              case rel =>
                have hb5 : Below w.heap.size w ((w5.setCell ⟨w.heap.size, j, none⟩ (.bool true)).alloc (.cells #[natC j] 3)) := (HB.out.setCell (by exact Nat.le_refl _) _).alloc (by rw [hz5]; omega) _
                have hf5 : Flags ((w5.setCell ⟨w.heap.size, j, none⟩ (.bool true)).alloc (.cells #[natC j] 3)) w.heap.size ((lrun S k).1.set j true) := (Below.heap_alloc _ _ _ (by rw [hz5]; omega)).trans (HF.out.set j true)
                have hx5 : Boxed ((w5.setCell ⟨w.heap.size, j, none⟩ (.bool true)).alloc (.cells #[natC j] 3)) (w.heap.size + 1) 127 (.slice (some ⟨w.heap.size, 0, none⟩) S.length S.length) := (Below.heap_alloc _ _ _ (by rw [hz5]; have := HX.out.lt; omega)).trans ((heap_setCell_other _ _ _ _ (fun e => by have e : w.heap.size + 1 = w.heap.size := e; omega)).trans HX.out)
                refine ⟨k + 1, by omega, Lib.hid (by rw [HST.out, List.map_append]; exact hown'), Lib.hid ?_, Lib.hid ?_, Lib.hid (hb5.grown hgrow (by rw [World.size_alloc, hz5]; omega) (fun j hj => (HO5.out.lt j hj).1))⟩
                · rw [HST.out]
                  exact (hgrow.block _ (by have := (Array.getElem?_eq_some_iff.1 hf5).1; exact this) (blk_ne hf5 HO5.out (by decide))).trans hf5
                · exact (hgrow.block _ hx5.lt (blk_ne hx5 HO5.out (by decide))).trans hx5
              case measure =>
                have e9 := vlen_own hown'
                simp only [vlen] at e9 ⊢
                omega
        · have hjj : j = S.length := by omega
          subst hjj
          have HST : Hid (lrun S (k + 1) = ((lrun S k).1.set 0 true, (lrun S k).2 ++ [0])) := Lib.hid (by
            show lstep S (lrun S k) = _
            unfold lstep
            rw [lpick_none HNR.out])
          have hsb := HB.out.size
          have hxl := HX.out.lt
          have hnl : 0 < (lrun S k).1.length := by rw [(lrun_len S k).1]; omega
          have hcX := HX.out.cell
          have hcF := HF.out.cell 0 _ (List.getElem?_eq_getElem hnl)
          have hfz : wr.frozen? ⟨w.heap.size, 0, none⟩ = false := frozen_of_row _ _ 0 _ _ HF.out
          have hn0 : (0 : Int) ≤ ((0 : Nat) : Int) := by omega
          have hn1 : ((0 : Nat) : Int) < (S.length : Int) := by omega
          have HO5 : Hid (((wr.setCell ⟨w.heap.size, 0, none⟩ (.bool true)).alloc (.cells #[natC 0] 3)).ownsRow w.heap.size 3 1 (.slice oa k oc) k ((lrun S k).2.map natC)) := Lib.hid ((own_far HO.out (fun j hj => heap_setCell_other _ _ _ _ (fun e => by
            have e : j = w.heap.size := e
            rw [e] at hj
            exact blk_ne HF.out HO.out (by decide) hj.symm))).alloc _)
          have hz5 : (wr.setCell ⟨w.heap.size, 0, none⟩ (.bool true)).heap.size = wr.heap.size := by simp
          have HN5 : Hid (∀ (t9 : Nat) (u : Value), [natC 0][t9]? = some u → ((wr.setCell ⟨w.heap.size, 0, none⟩ (.bool true)).alloc (.cells #[natC 0] 3)).cell? ((⟨wr.heap.size, 0, none⟩ : Addr).add t9) = some u) := Lib.hid (by
            have := World.news_of_block (cs := #[natC 0]) (t := 3) (fr := (0, 0)) (heap_alloc_new (wr.setCell ⟨w.heap.size, 0, none⟩ (.bool true)) (.cells #[natC 0] 3))
            rw [hz5] at this
            exact this)
          go_wp2_with (at_builtin; refine wpList_append_own _ rfl _ _ 120 rfl w.heap.size 3 i0 (.int .i64 0) 1 8 Tryz.underlying120 hi0' hz0 hz1 hz2 rfl (by decide) _ _ _ (by rfl) HO5.out ⟨wr.heap.size, 0, none⟩ 1 1 [natC 0] (by rfl) (by rfl) HN5.out (by simp [Value.oneCell']) (by unfold maxLen; omega) (by omega) (by simp; omega) ?_; intro v' w7 hown' hgrow _)
          go_roundw
          case rel =>
            have hb5 : Below w.heap.size w ((wr.setCell ⟨w.heap.size, 0, none⟩ (.bool true)).alloc (.cells #[natC 0] 3)) := (HB.out.setCell (by exact Nat.le_refl _) _).alloc (by rw [hz5]; omega) _
            have hf5 : Flags ((wr.setCell ⟨w.heap.size, 0, none⟩ (.bool true)).alloc (.cells #[natC 0] 3)) w.heap.size ((lrun S k).1.set 0 true) := (Below.heap_alloc _ _ _ (by rw [hz5]; omega)).trans (HF.out.set 0 true)
            have hx5 : Boxed ((wr.setCell ⟨w.heap.size, 0, none⟩ (.bool true)).alloc (.cells #[natC 0] 3)) (w.heap.size + 1) 127 (.slice (some ⟨w.heap.size, 0, none⟩) S.length S.length) := (Below.heap_alloc _ _ _ (by rw [hz5]; have := HX.out.lt; omega)).trans ((heap_setCell_other _ _ _ _ (fun e => by have e : w.heap.size + 1 = w.heap.size := e; omega)).trans HX.out)
            refine ⟨k + 1, by omega, Lib.hid (by rw [HST.out, List.map_append]; exact hown'), Lib.hid ?_, Lib.hid ?_, Lib.hid (hb5.grown hgrow (by rw [World.size_alloc, hz5]; omega) (fun j hj => (HO5.out.lt j hj).1))⟩
            · rw [HST.out]
              exact (hgrow.block _ (by have := (Array.getElem?_eq_some_iff.1 hf5).1; exact this) (blk_ne hf5 HO5.out (by decide))).trans hf5
            · exact (hgrow.block _ hx5.lt (blk_ne hx5 HO5.out (by decide))).trans hx5
          case measure =>
            have e9 := vlen_own hown'
            simp only [vlen] at e9 ⊢
            omega
    · have hkk : k = S.length := by omega
      subst hkk
      go_wp2_with fail
      go_ret
      refine ⟨_, rfl, ?_, HB0.out⟩
      rw [listF_length]
      exact HO0.out
end Go.Proofs.YtnjiibiafhnmgaaGreatDoor

namespace Go.Proofs.YtnjiibiafhnmgaaGreatDoor
set_option linter.unusedVariables false
set_option linter.unusedSimpArgs false
open Go Go.RowKit

abbrev tarG (N : Nat) (es : List (Int × Int)) : TS := tarjan (sucs N es)
def nodesG (N : Nat) (es : List (Int × Int)) : List (List Nat) := (crun (tarG N es).co (tarG N es).ct N).2
def condG (N : Nat) (es : List (Int × Int)) : List (List Nat) := couts (tarG N es).co (crun (tarG N es).co (tarG N es).ct N).1 (sucs N es) (nodesG N es).length N
def compsG (N : Nat) (es : List (Int × Int)) : List (List Nat) := (listF (condG N es)).map fun c => (nodesG N es).getD c []
def Numbered (N : Nat) (es : List (Int × Int)) : Prop := ∀ n, n < N → 0 ≤ gD (tarG N es).co n ∧ gD (tarG N es).co n < ((tarG N es).ct : Int)
theorem tarG_co (N : Nat) (es : List (Int × Int)) : (tarG N es).co.length = N ∧ (tarG N es).ct ≤ N := by
  have h := tarj_inv (S := sucs N es) sucs_lt (sucs N es).length (Nat.le_refl _)
  rw [sucs_length] at h
  have e : trun (sucs N es) N = tarG N es := by unfold tarG tarjan trun; rw [sucs_length]
  rw [e] at h
  exact ⟨h.lc, by have := h.ct; have := h.nz; omega⟩
theorem nodesG_len {N : Nat} {es : List (Int × Int)} (h : Numbered N es) : (nodesG N es).length ≤ N ∧ ∀ i, ((nodesG N es).getD i []).length ≤ N := by
  have := crun_inv (N := N) h N (Nat.le_refl _)
  exact ⟨this.few, this.row⟩
theorem condG_len (N : Nat) (es : List (Int × Int)) : (condG N es).length = (nodesG N es).length ∧ ∀ i, ((condG N es).getD i []).length ≤ N * N := couts_len (fun a => sucs_row a) N
theorem cedge_lt {co pl : List Int} {n M : Nat} {out : List (List Nat)} (h : ∀ a, ∀ k ∈ out.getD a [], k < M) (k : Nat) (hk : (gD pl (gD co k).toNat).toNat < M) : ∀ a, ∀ j ∈ (cedge co pl n out k).getD a [], j < M := by
  unfold cedge
  split
  · exact h
  · intro a j hj
    rw [getD_set_row] at hj
    split at hj
    · rcases List.mem_append.1 hj with hj | hj
      · exact h _ j hj
      · rw [List.mem_singleton] at hj; omega
    · exact h a j hj
theorem cedges_lt {co pl : List Int} {n M : Nat} : ∀ (l : List Nat) {out : List (List Nat)}, (∀ a, ∀ k ∈ out.getD a [], k < M) → (∀ k ∈ l, (gD pl (gD co k).toNat).toNat < M) → ∀ a, ∀ j ∈ (l.foldl (cedge co pl n) out).getD a [], j < M
  | [], _, h, _ => h
  | k :: l, out, h, hl => cedges_lt l (cedge_lt h k (hl k (by simp))) (fun j hj => hl j (by simp [hj]))
theorem condG_lt {N : Nat} {es : List (Int × Int)} (h : Numbered N es) : ∀ a, ∀ k ∈ (condG N es).getD a [], k < (condG N es).length := by
  have hi := crun_inv (N := N) h N (Nat.le_refl _)
  have key : ∀ m, m ≤ N → ∀ a, ∀ k ∈ (couts (tarG N es).co (crun (tarG N es).co (tarG N es).ct N).1 (sucs N es) (nodesG N es).length m).getD a [], k < (nodesG N es).length := by
    intro m
    induction m with
    | zero =>
      intro _ a k hk
      have : (List.replicate (nodesG N es).length ([] : List Nat)).getD a [] = [] := by
        rw [List.getD_eq_getElem?_getD, List.getElem?_replicate]
        split <;> rfl
      have hk2 : k ∈ (List.replicate (nodesG N es).length ([] : List Nat)).getD a [] := hk
      rw [this] at hk2
      cases hk2
    | succ m ih =>
      intro hm
      rw [couts_succ]
      refine cedges_lt _ (ih (by omega)) (fun k hk => ?_)
      have hkN := sucs_lt (N := N) (es := es) m k hk
      rw [sucs_length] at hkN
      have h1 := hi.hi (gD (tarG N es).co k).toNat
      have h2 := hi.old k hkN
      unfold nodesG
      omega
  intro a k hk
  rw [(condG_len N es).1]
  exact key N (Nat.le_refl _) a k hk

set_option maxRecDepth 100000 in
set_option maxHeartbeats 4000000 in
theorem Components_yes (nv ev : Value) (ns : List ByteArray) (es : List (Int × Int)) (w : World) (hE : EdgesOf w.heap.size ev es w) (hN : RowOf Value.string w.heap.size nv ns w) (hval : validG ns.length es = true) (hco : Numbered ns.length es) :
    Calls Tryz.prog 47 #[.agg #[nv, ev]] w fun e w' => ∃ v, e = .returned v ∧ RowsOf w'.heap.size v (compsG ns.length es) w' ∧ Below w.heap.size w w' := by
  obtain ⟨hNn, hNe⟩ := validG_n hval
  have hN0 := hN
  obtain ⟨na, nc, rfl, _⟩ := rowOf_open hN
  have hb1 : Below w.heap.size w (w.alloc (.cells #[.slice na ns.length nc, ev] 32)) := (Below.refl _ _).alloc (Nat.le_refl _) _
  have hx := GValid_any na ns.length nc _ es _ (by omega) ((hE.below hb1 (Nat.le_refl _)).mono hb1.size)
  rw [hval] at hx
  have hE0 := hE
  obtain ⟨ao, ec, rfl, _⟩ := hE
  have HX := Lib.hid hx
  have HB1 := Lib.hid hb1
  have HV := Lib.hid hval
  have HE := Lib.hid hE0
  have HN := Lib.hid hN0
  have HCO := Lib.hid hco
  obtain ⟨hcl, hct⟩ := tarG_co ns.length es
  clear hx hb1 hval hN hE0 hN0 hco
  obtain ⟨i1, hi1', hy0, hy1, hy2⟩ := info_parts info_rows
  go_enter Tryz.func47, Tryz.ntmps47
  go_wp2_with fail
  refine HX.out.mono ?_
  rintro e w1 ⟨rfl, hb⟩
  have hs1 := hb.size
  simp only [World.size_alloc] at hs1
  have hblk := (hb.block w.heap.size (by simp)).trans (World.alloc_heap_new w _)
  have hg0 : w1.cell? ⟨w.heap.size, 0, none⟩ = some (.slice na ns.length nc) := cell_of_row _ _ 0 _ _ _ hblk
  have hg1 : w1.cell? ⟨w.heap.size, 1, none⟩ = some (.slice ao es.length ec) := cell_of_row _ _ 1 _ _ _ hblk
  have HW1 := Lib.hid (HB1.out.trans (hb.mono (by simp)))
  have hcond := condensed_any (.slice na ns.length nc) (.slice ao es.length ec) ns es w1 ((HE.out.below HW1.out (Nat.le_refl _)).mono (by omega)) ((HN.out.below HW1.out (Nat.le_refl _)).mono (by omega)) HV.out HCO.out hcl hct
  have HCOND := Lib.hid hcond
  clear hb hblk hcond
  go_wp2_with fail
  refine HCOND.out.mono ?_
  rintro e w2 ⟨v1, v2, rfl, hr1, hr2, hb2⟩
  have hs2 := hb2.size
  have hr1' : RowsOf w2.heap.size v1 (nodesG ns.length es) w2 := hr1
  have hr2' : RowsOf w2.heap.size v2 (condG ns.length es) w2 := hr2
  have HW2 := Lib.hid (HW1.out.trans (hb2.mono (by omega)))
  have hnl := nodesG_len HCO.out
  have hlist := listed_any v2 (condG ns.length es) w2 hr2' (by rw [(condG_len _ _).1]; omega) (fun a => by have := (condG_len ns.length es).2 a; have := Nat.mul_le_mul hNn hNn; omega) (condG_lt HCO.out)
  have hln := listF_length (condG ns.length es)
  rw [(condG_len ns.length es).1] at hln
  have HLT := Lib.hid (listF_lt (condG ns.length es))
  have HCP : Hid (compsG ns.length es = (listF (condG ns.length es)).map fun c => (nodesG ns.length es).getD c []) := Lib.hid rfl
  rw [hln] at hlist
  generalize listF (condG ns.length es) = L at *
  have hcn := (condG_len ns.length es).1
  rw [hcn] at HLT
  obtain ⟨va1, vc1, hv1⟩ : ∃ a c, v1 = .slice a (nodesG ns.length es).length c := by
    rcases hr1' with ⟨h0, a, c, rfl⟩ | ⟨b, off, cap, rfl, _⟩
    · exact ⟨a, c, by rw [h0]; rfl⟩
    · exact ⟨_, cap, rfl⟩
  obtain ⟨va2, vl2, vc2, hv2⟩ : ∃ a l c, v2 = .slice a l c := by
    rcases hr2' with ⟨h0, a, c, rfl⟩ | ⟨b, off, cap, rfl, _⟩
    · exact ⟨_, _, _, rfl⟩
    · exact ⟨_, _, _, rfl⟩
  have HR1 := Lib.hid hr1'
  clear hr1 hr2 hr1' hr2' hb2 hg0 hg1 hcn
  generalize nodesG ns.length es = nd at *
  subst hv1
  subst hv2
  have HLIST := Lib.hid hlist
  clear hlist
  go_wp2_with fail
  refine HLIST.out.mono ?_
  rintro e w3 ⟨u, rfl, hou, hb3⟩
  obtain ⟨ua, uc, rfl⟩ := own_any hou
  have hs3 := hb3.size
  have HR3 : Hid (RowsOf w2.heap.size (.slice va1 nd.length vc1) nd w3) := Lib.hid (HR1.out.below hb3 (Nat.le_refl _))
  have HW3 := Lib.hid (HW2.out.trans (hb3.mono (by omega)))
  have HU := Lib.hid hou
  clear hou hb3 HLIST HCOND
  have hndl : nd.length ≤ 1024 := by omega
  go_wp2_with fail
  go_loopw [5, 19] (fun o q wr => ∃ (k : Nat) (hs : List Value), k ≤ nd.length ∧ q = .int .i64 k ∧ Hid (wr.ownsRow w3.heap.size 120 1 o k hs) ∧ Hid (∀ i r, hs[i]? = some r → RowOf natC w2.heap.size r ((compsG ns.length es).getD i []) wr) ∧ Hid (Below w3.heap.size w3 wr)) (fun _ q _ => nd.length - (intOf q).toNat)
  case atStart => exact ⟨0, [], by omega, rfl, Lib.hid (World.ownsRow_nil _ _ _ _), Lib.hid (fun i r h => by simp at h), Lib.hid (Below.refl _ _)⟩
  case round =>
    obtain ⟨k, hs, hk, rfl, HO, HH, HB⟩ := hrel
    have hsb := HB.out.size
    have hlh : hs.length = k := by have := HO.out.1; omega
    by_cases hlt : k < nd.length
    · have hk0 : (0 : Int) ≤ (k : Int) := by omega
      have hk1 : (k : Int) < (nd.length : Int) := by omega
      have hLl : k < L.length := by omega
      have hcU : ∀ j x, (L.map natC)[j]? = some x → ∃ g, (ua = some ⟨g, 0, none⟩ ∧ g < w3.heap.size ∧ w3.cell? ⟨g, j, none⟩ = some x) := fun j x hx => by
        obtain ⟨g, cap, hv, _, hg, _⟩ := own_shape HU.out (by omega)
        cases hv
        exact ⟨g, rfl, hg, own_cell HU.out j x hx⟩
      obtain ⟨g, rfl, hgl, hcg⟩ := hcU k (natC L[k]) (by rw [List.getElem?_map, List.getElem?_eq_getElem hLl]; rfl)
      have hcg := (HB.out.cell (p := ⟨g, k, none⟩) hgl).trans hcg
      have hcl2 : L[k] < nd.length := HLT.out _ (List.getElem_mem hLl)
      have HCK : Hid ((compsG ns.length es).getD k [] = nd.getD L[k] []) := Lib.hid (by rw [HCP.out, List.getD_eq_getElem?_getD, List.getElem?_map, List.getElem?_eq_getElem hLl]; rfl)
      generalize L[k] = c at *
      have hc0 : (0 : Int) ≤ (c : Int) := by omega
      have hc1 : (c : Int) < (nd.length : Int) := by omega
      obtain ⟨b, off, cap, hva, hbw, hrow⟩ : ∃ b off cap, (.slice va1 nd.length vc1 : Value) = .slice (some ⟨b, off, none⟩) nd.length cap ∧ b < w2.heap.size ∧ ∀ i l, nd[i]? = some l → ∃ r, w3.cell? ⟨b, off + i, none⟩ = some r ∧ RowOf natC w2.heap.size r l w3 := by
        rcases HR3.out with ⟨h, _⟩ | h
        · rw [h] at hlt; simp at hlt
        · exact h
      cases hva
      have hgS : nd.getD c [] = nd[c] := by rw [List.getD_eq_getElem?_getD, List.getElem?_eq_getElem hcl2]; rfl
      obtain ⟨r, hcr, hrr⟩ := hrow c (nd.getD c []) (by rw [hgS]; simp)
      have hcr := (HB.out.cell (p := ⟨b, off + c, none⟩) (by show b < _; omega)).trans hcr
      obtain ⟨oa, oc, rfl⟩ := own_any HO.out
      have hone : r.oneCell' = true := by
        obtain ⟨ra, rc, rfl, _⟩ := rowOf_open hrr
        rfl
      have HRR := Lib.hid hrr
      clear hrow hrr hgS hcU
      obtain ⟨ra, rl, rc, rfl⟩ : ∃ a l c, r = .slice a l c := by
        obtain ⟨ra, rc, h, _⟩ := rowOf_open HRR.out
        exact ⟨_, _, _, h⟩
      go_wp2_with (at_builtin; refine wpList_append_own _ rfl _ _ 87 rfl w3.heap.size 120 i1 (.slice none 0 0) 1 24 Tryz.underlying87 hi1' hy0 hy1 hy2 rfl (by decide) _ _ _ (by rfl) (HO.out.alloc _) ⟨wr.heap.size, 0, none⟩ 1 1 [.slice ra rl rc] (by rfl) (by rfl) (World.news_of_block (cs := #[.slice ra rl rc]) (t := 120) (fr := (0, 0)) (heap_alloc_new wr _)) (by simp [Value.oneCell']) (by unfold maxLen; omega) (by omega) (by simp; omega) ?_; intro v' w5 hown' hgrow _)
      go_roundw
      case rel =>
        have hb5 : Below w3.heap.size wr w5 := ((Below.refl _ _).alloc hsb (.cells #[.slice ra rl rc] 120)).grown hgrow (by rw [World.size_alloc]; omega) (fun j hj => (HO.out.lt j hj).1)
        refine ⟨k + 1, hs ++ [.slice ra rl rc], by omega, by go_num, Lib.hid hown', Lib.hid ?_, Lib.hid (HB.out.trans hb5)⟩
        intro i r hr
        rw [List.getElem?_append] at hr
        split at hr
        · exact (HH.out i r hr).below (hb5.mono (by omega)) (Nat.le_refl _)
        · have h1 := (List.getElem?_eq_some_iff.1 hr).1
          simp at h1
          have hik : i = k := by omega
          subst hik
          rw [show i - hs.length = 0 by omega] at hr
          simp at hr
          subst hr
          rw [HCK.out]
          exact (HRR.out.below (HB.out.mono (by omega)) (Nat.le_refl _)).below (hb5.mono (by omega)) (Nat.le_refl _)
      case measure => simp [intOf]; omega
    · have hkk : k = nd.length := by omega
      subst hkk
      go_wp2_with fail
      go_ret
      have hcpl : (compsG ns.length es).length = nd.length := by rw [HCP.out, List.length_map]; exact hln
      refine ⟨_, rfl, ?_, HW3.out.trans (HB.out.mono (by omega))⟩
      rcases HO.out.2 with ⟨rfl, h0⟩ | ⟨g, cap, cur, rfl, hbg, hg, hcc, _⟩
      · exact .inl ⟨List.eq_nil_of_length_eq_zero (by omega), _, _, rfl⟩
      · refine .inr ⟨g, 0, cap, by rw [hcpl]; rfl, (Array.getElem?_eq_some_iff.1 hg).1, fun i l hl => ?_⟩
        have hil : i < hs.length := by have := (List.getElem?_eq_some_iff.1 hl).1; omega
        refine ⟨hs[i], by rw [Nat.zero_add]; exact own_cell HO.out i _ (by simp [hil]), ?_⟩
        have := HH.out i hs[i] (by simp [hil])
        rw [List.getD_eq_getElem?_getD, hl] at this
        exact this.mono (by omega)
end Go.Proofs.YtnjiibiafhnmgaaGreatDoor
