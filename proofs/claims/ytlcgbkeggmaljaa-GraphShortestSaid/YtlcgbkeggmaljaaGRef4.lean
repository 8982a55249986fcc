/- Contracts of the reference's list and Reach. -/
import Derived.Test.YtlcgbkeggmaljaaGRef3
namespace Go.Proofs.Ytlcgbkeggmaljaa
set_option linter.unusedVariables false
set_option linter.unusedSimpArgs false
open Go Go.RowKit

set_option maxRecDepth 100000 in
set_option maxHeartbeats 4000000 in
theorem list_any (g c : Nat) (sn : List Bool) (w : World) (hF : Flags w g sn) (hl : sn.length ≤ 1000000) :
    Calls Try.prog 44 #[.slice (some ⟨g, 0, none⟩) sn.length c] w fun e w' => ∃ v, e = .returned v ∧ w'.ownsRow w.heap.size 3 1 v (marked sn).length ((marked sn).map natC) ∧ Below w.heap.size w w' := by
  obtain ⟨N, hN⟩ : ∃ N, N = sn.length := ⟨_, rfl⟩
  rw [← hN] at hl ⊢
  have HN := Lib.hid hN
  have hgl : g < w.heap.size := (Array.getElem?_eq_some_iff.1 hF).1
  have HF := Lib.hid hF
  clear hN hF
  obtain ⟨i0, hi0', hz0, hz1, hz2⟩ := info_parts info_ints
  have HO0 := Lib.hid (own_made w.heap.size 3 0 [] w (Nat.le_refl _) (by decide) rfl)
  have HB0 : Hid (Below w.heap.size w (w.alloc (.cells #[] 3))) := Lib.hid (bel_alloc _ _)
  go_enter Try.func44, Try.ntmps44
  go_wp2_with fail
  go_loopw [3, 4] (fun o p wr => ∃ k : Nat, k ≤ N ∧ p = .int .i64 k ∧ Hid (wr.ownsRow w.heap.size 3 1 o ((List.range k).filter fun i => sn.getD i false).length (((List.range k).filter fun i => sn.getD i false).map natC)) ∧ Hid (Below w.heap.size w wr)) (fun _ p _ => N - (intOf p).toNat)
  case atStart => exact ⟨0, by omega, rfl, HO0, HB0⟩
  case round =>
    clear HO0 HB0
    obtain ⟨k, hk, rfl, HO, HB⟩ := hrel
    have hsb := HB.out.size
    obtain ⟨oa, oc, rfl⟩ := own_any HO.out
    by_cases hlt : k < N
    · have hk0 : (0 : Int) ≤ (k : Int) := by omega
      have hk1 : (k : Int) < (N : Int) := by omega
      have hsk : k < sn.length := by rw [← HN.out]; exact hlt
      have hc1 := (HB.out.cell (p := ⟨g, k, none⟩) hgl).trans (HF.out.cell k sn[k] (by simp [hsk]))
      have HM := Lib.hid (marked_take sn k hsk)
      have hle : ((List.range k).filter fun i => sn.getD i false).length ≤ k := by
        have := List.length_filter_le (fun i => sn.getD i false) (List.range k)
        simpa using this
      generalize sn[k] = b at *
      cases b with
      | true =>
        have HM2 : Hid ((List.range (k + 1)).filter (fun i => sn.getD i false) = (List.range k).filter (fun i => sn.getD i false) ++ [k]) := Lib.hid (by rw [HM.out, if_pos rfl])
        generalize (List.range k).filter (fun i => sn.getD i false) = lk at *
        go_wp2_with (at_builtin; refine wpList_append_own _ rfl _ _ 26 rfl w.heap.size 3 i0 (.int .i64 0) 1 8 Try.underlying26 hi0' hz0 hz1 hz2 rfl (by decide) _ _ _ (by rfl) (HO.out.alloc _) ⟨wr.heap.size, 0, none⟩ 1 1 [natC k] (by rfl) (by rfl) (World.news_of_block (cs := #[natC k]) (t := 3) (fr := (0, 0)) (heap_alloc_new wr _)) (by simp [Value.oneCell']) (by unfold maxLen; omega) (by omega) (by simp; omega) ?_; intro v' w5 hown' hgrow _)
        go_roundw
        case rel => exact ⟨k + 1, by omega, by go_num, Lib.hid (by rw [HM2.out, List.length_append, List.map_append]; exact hown'), Lib.hid ((HB.out.alloc hsb _).grown hgrow (by simp; omega) (fun j hj => (HO.out.lt j hj).1))⟩
        case measure => simp [intOf]; omega
      | false =>
        go_wp2_with fail
        go_roundw
        case rel => exact ⟨k + 1, by omega, by go_num, Lib.hid (by rw [HM.out, if_neg (by simp)]; exact HO.out), HB⟩
        case measure => simp [intOf]; omega
    · have hkk : k = N := by omega
      subst hkk
      go_wp2_with fail
      go_ret
      refine ⟨_, rfl, ?_, HB.out⟩
      unfold marked
      rw [← HN.out]
      exact HO.out

set_option maxRecDepth 100000 in
set_option maxHeartbeats 4000000 in
theorem rReach_no (a : Option Addr) (N c : Nat) (ev lv : Value) (es : List (Int × Int)) (l : List Int) (w : World) (hN : N ≤ 1000000000000) (hes : es.length ≤ 1000000000000) (hE : EdgesOf w.heap.size ev es w) (hll : l.length ≤ 1000000000) (hL : RowOf intC w.heap.size lv l w) (hno : (validG N es && l.all (nodeB N)) = false) :
    Calls Try.prog 14 #[.agg #[.slice a N c, ev], lv] w fun e w' => e = .returned (.slice none 0 0) ∧ Below w.heap.size w w' := by
  have hb1 : Below w.heap.size w (w.alloc (.cells #[.slice a N c, ev] 25)) := bel_alloc _ _
  have hx := rexist_any a N c ev lv es l _ hN hes ((hE.below hb1 (Nat.le_refl _)).mono hb1.size) hll ((hL.below hb1 (Nat.le_refl _)).mono hb1.size)
  rw [hno] at hx
  obtain ⟨la, lc, rfl, _⟩ := rowOf_open hL
  obtain ⟨ao, ec, rfl, _⟩ := hE
  have HX := Lib.hid hx
  have HB1 := Lib.hid hb1
  clear hx hb1 hL hno
  go_enter Try.func14, Try.ntmps14
  go_wp2_with fail
  refine HX.out.mono ?_
  rintro e w1 ⟨rfl, hb⟩
  go_wp2_with fail
  go_ret
  exact ⟨rfl, HB1.out.trans (hb.mono (by simp))⟩

set_option maxRecDepth 100000 in
set_option maxHeartbeats 4000000 in
theorem rReach_yes (a : Option Addr) (N c : Nat) (ev lv : Value) (es : List (Int × Int)) (fn : List Nat) (w : World) (hE : EdgesOf w.heap.size ev es w) (hll : fn.length ≤ 1000000000) (hL : RowOf intC w.heap.size lv (fn.map Int.ofNat) w) (hv : validG N es = true) (hn : ∀ k ∈ fn, k < N) :
    Calls Try.prog 14 #[.agg #[.slice a N c, ev], lv] w fun e w' => ∃ v l, e = .returned v ∧ ReachS N es (fn.map Int.ofNat) l ∧ w'.ownsRow w.heap.size 3 1 v l.length (l.map natC) ∧ Below w.heap.size w w' := by
  obtain ⟨hN, hes⟩ := validG_n hv
  have hb1 : Below w.heap.size w (w.alloc (.cells #[.slice a N c, ev] 25)) := bel_alloc _ _
  have hall : (fn.map Int.ofNat).all (nodeB N) = true := by
    rw [List.all_eq_true]
    intro x hx
    obtain ⟨y, hy, rfl⟩ := List.mem_map.1 hx
    have := hn y hy
    unfold nodeB
    exact decide_eq_true ⟨Int.natCast_nonneg y, by have h9 : ((y : Nat) : Int) < (N : Int) := by omega
                                                   exact h9⟩
  have hx := rexist_any a N c ev lv es (fn.map Int.ofNat) _ (by omega) (by omega) ((hE.below hb1 (Nat.le_refl _)).mono hb1.size) (by rw [List.length_map]; exact hll) ((hL.below hb1 (Nat.le_refl _)).mono hb1.size)
  rw [hv, hall] at hx
  have hL0 := hL
  have hE0 := hE
  obtain ⟨la, lc, hlv, _⟩ := rowOf_open hL
  rw [List.length_map] at hlv
  subst hlv
  obtain ⟨ao, ec, rfl, _⟩ := hE
  have HX := Lib.hid hx
  have HB1 := Lib.hid hb1
  have HL := Lib.hid hL0
  have HE := Lib.hid hE0
  have HV := Lib.hid hv
  have HN := Lib.hid hn
  clear hx hb1 hL hL0 hE0 hall hv hn
  go_enter Try.func14, Try.ntmps14
  go_wp2_with fail
  refine HX.out.mono ?_
  rintro e w1 ⟨rfl, hb⟩
  have hs1 := hb.size
  simp only [World.size_alloc] at hs1
  have hblk := (hb.block w.heap.size (by simp)).trans (World.alloc_heap_new w _)
  have hg0 : w1.cell? ⟨w.heap.size, 0, none⟩ = some (.slice a N c) := cell_of_row _ _ 0 _ _ _ hblk
  have hg1 : w1.cell? ⟨w.heap.size, 1, none⟩ = some (.slice ao es.length ec) := cell_of_row _ _ 1 _ _ _ hblk
  have HW1 := Lib.hid (HB1.out.trans (hb.mono (by simp)))
  have hm := marks_any a N c _ _ es fn w1 HV.out ((HE.out.below HW1.out (Nat.le_refl _)).mono (by omega)) hll ((HL.out.below HW1.out (Nat.le_refl _)).mono (by omega)) HN.out
  have HM := Lib.hid hm
  clear hb hblk hm
  go_wp2_with fail
  refine HM.out.mono ?_
  rintro e w2 ⟨g, sn, rfl, hg, hF, hms, hb2⟩
  have hsl := hms.1
  have hlist := list_any g N sn w2 hF (by omega)
  rw [hsl] at hlist
  have HLI := Lib.hid hlist
  have hs2 := hb2.size
  have HW2 := Lib.hid (HW1.out.trans (hb2.mono (by omega)))
  have HRS := Lib.hid (reachS_of_mark hms)
  clear hF hms hb2 hlist HM hg0 hg1
  go_wp2_with fail
  refine HLI.out.mono ?_
  rintro e w3 ⟨v, rfl, ho, hb3⟩
  have HO := Lib.hid ho
  have HB3 := Lib.hid hb3
  clear ho hb3
  go_wp2_with fail
  go_ret
  exact ⟨_, _, rfl, HRS.out, ⟨HO.out.1, HO.out.2.imp id fun ⟨g, cap, cur, h1, h2, h3⟩ => ⟨g, cap, cur, h1, by omega, h3⟩⟩, HW2.out.trans (HB3.out.mono (by omega))⟩
end Go.Proofs.Ytlcgbkeggmaljaa
