/- The law GraphOrders returns true. -/
import Derived.Test.YtlcgbkeggmaljaaGROrder
import Derived.Test.YtlcgbkeggmaljaaGRLevels
namespace Go.Proofs.Ytlcgbkeggmaljaa
set_option linter.unusedVariables false
set_option linter.unusedSimpArgs false
open Go Go.RowKit

set_option maxRecDepth 100000 in
set_option maxHeartbeats 2000000 in
theorem rOrder_no (a : Option Addr) (N c : Nat) (ev : Value) (es : List (Int × Int)) (w : World) (hN : N ≤ 1000000000) (hes : es.length ≤ 1000000000) (hE : EdgesOf w.heap.size ev es w) (hval : validG N es = false) :
    Calls Try.prog 26 #[.agg #[.slice a N c, ev]] w fun e w' => e = .returned (.tuple #[.slice none 0 0, .bool false]) ∧ Below w.heap.size w w' := by
  have hb1 : Below w.heap.size w (w.alloc (.cells #[.slice a N c, ev] 25)) := bel_alloc _ _
  have hv := rValid_any a N c ev es _ (by omega) (by omega) ((hE.below hb1 (Nat.le_refl _)).mono hb1.size)
  rw [hval] at hv
  obtain ⟨ao, ec, rfl, hE⟩ := hE
  have HV := Lib.hid hv
  have HB1 := Lib.hid hb1
  clear hv hb1 hE hval
  go_enter Try.func26, Try.ntmps26
  go_wp2_with fail
  refine HV.out.mono ?_
  rintro e w1 ⟨rfl, hb⟩
  have HB := Lib.hid hb
  clear hb
  go_wp2_with fail
  refine bodyPost_ret (v := .tuple #[.slice none 0 0, .bool false]) (by simp [results, Try.results26, go_sem]) rfl ?_
  exact ⟨rfl, HB1.out.trans (HB.out.mono (by simp))⟩
/-- what Order returns. -/
def ordO (N : Nat) (es : List (Int × Int)) : List Nat := if validG N es = true then (if cycF N es N = [] then listF (sucs N es) else []) else []
def ordB (N : Nat) (es : List (Int × Int)) : Bool := validG N es && decide (cycF N es N = [])
def comO (N : Nat) (es : List (Int × Int)) : List (List Nat) := if validG N es = true then compsG N es else []
def levO (N : Nat) (es : List (Int × Int)) : List (List Nat) := if validG N es = true then levelsG N es else []
theorem ordO_len (N : Nat) (es : List (Int × Int)) : (ordO N es).length ≤ N := by
  unfold ordO
  split
  · split
    · rw [listF_length, sucs_length]; exact Nat.le_refl _
    · exact Nat.zero_le _
  · exact Nat.zero_le _
theorem row_len {N : Nat} {row : List Nat} (hs : row.Pairwise (· < ·)) (hm : ∀ k ∈ row, k < N) : row.length ≤ N := by
  have hp : row.Perm ((List.range N).filter fun k => decide (k ∈ row)) := (List.perm_ext_iff_of_nodup (hs.imp fun h => Nat.ne_of_lt h) (List.nodup_range.filter _)).2 fun k => by
    rw [List.mem_filter, List.mem_range, decide_eq_true_eq]
    exact ⟨fun hk => ⟨hm k hk, hk⟩, fun hk => hk.2⟩
  rw [hp.length_eq]
  have := List.length_filter_le (fun k => decide (k ∈ row)) (List.range N)
  rwa [List.length_range] at this
theorem comO_len (N : Nat) (es : List (Int × Int)) : (comO N es).length ≤ N ∧ ∀ i, ((comO N es).getD i []).length ≤ N := by
  have hn := nodesG_len (numbered N es)
  unfold comO
  split
  · refine ⟨by rw [comps_len]; exact hn.1, fun i => ?_⟩
    unfold compsG
    rw [List.getD_eq_getElem?_getD, List.getElem?_map]
    cases (listF (condG N es))[i]? with
    | none => exact Nat.zero_le _
    | some c => exact hn.2 c
  · exact ⟨Nat.zero_le _, fun i => by simp⟩
theorem levO_len (N : Nat) (es : List (Int × Int)) : (levO N es).length ≤ N + 1 ∧ ∀ i, ((levO N es).getD i []).length ≤ N := by
  obtain ⟨lv, h⟩ := levels_ok N es
  unfold levO
  split
  · exact ⟨levs_len h, fun i => row_len (h.srt i) fun k hk => ((h.mem i k).1 hk).1⟩
  · exact ⟨Nat.zero_le _, fun i => by simp⟩
theorem nil_rows (B : Nat) (W : World) : RowsOf B (.slice none 0 0) [] W := .inl ⟨rfl, _, _, rfl⟩
theorem Order_con (a : Option Addr) (c : Nat) (ev : Value) (ns : List ByteArray) (es : List (Int × Int)) (w : World) (hes : es.length ≤ 1000000000) (hE : EdgesOf w.heap.size ev es w) (hN : RowOf Value.string w.heap.size (.slice a ns.length c) ns w) :
    Calls Try.prog 25 #[.agg #[.slice a ns.length c, ev]] w fun e w' => ∃ v, e = .returned (.tuple #[v, .bool (ordB ns.length es)]) ∧ RowOf intC w'.heap.size v ((ordO ns.length es).map fun n : Nat => (n : Int)) w' ∧ Below w.heap.size w w' := by
  unfold ordO ordB
  by_cases hv : validG ns.length es = true
  · simp only [hv, if_true, Bool.true_and]
    refine (Order_yes _ ev ns es w hE hN hv).mono ?_
    rintro e w' ⟨v, rfl, ho, hb⟩
    exact ⟨v, rfl, row_of_own ho, hb⟩
  · have hv2 : validG ns.length es = false := by simpa using hv
    simp only [hv2, if_false, Bool.false_eq_true, Bool.false_and]
    refine (Order_no _ ev ns es w (by omega) hE hN hv2).mono ?_
    rintro e w' ⟨rfl, hb⟩
    exact ⟨_, rfl, .inl ⟨rfl, _, _, rfl⟩, hb⟩
theorem rOrder_con (a : Option Addr) (c : Nat) (ev : Value) (ns : List ByteArray) (es : List (Int × Int)) (w : World) (hNl : ns.length ≤ 1000000000) (hes : es.length ≤ 1000000000) (hE : EdgesOf w.heap.size ev es w) (hN : RowOf Value.string w.heap.size (.slice a ns.length c) ns w) :
    Calls Try.prog 26 #[.agg #[.slice a ns.length c, ev]] w fun e w' => ∃ v, e = .returned (.tuple #[v, .bool (ordB ns.length es)]) ∧ RowOf intC w'.heap.size v ((ordO ns.length es).map fun n : Nat => (n : Int)) w' ∧ Below w.heap.size w w' := by
  unfold ordO ordB
  by_cases hv : validG ns.length es = true
  · simp only [hv, if_true, Bool.true_and]
    refine (rOrder_yes a ns ns.length c ev es w rfl hE hN hv).mono ?_
    rintro e w' ⟨v, rfl, ho, hb⟩
    exact ⟨v, rfl, rowOf_cast ho, hb⟩
  · have hv2 : validG ns.length es = false := by simpa using hv
    simp only [hv2, if_false, Bool.false_eq_true, Bool.false_and]
    refine (rOrder_no a ns.length c ev es w hNl hes hE hv2).mono ?_
    rintro e w' ⟨rfl, hb⟩
    exact ⟨_, rfl, .inl ⟨rfl, _, _, rfl⟩, hb⟩
theorem Components_con (a : Option Addr) (c : Nat) (ev : Value) (ns : List ByteArray) (es : List (Int × Int)) (w : World) (hes : es.length ≤ 1000000000) (hE : EdgesOf w.heap.size ev es w) (hN : RowOf Value.string w.heap.size (.slice a ns.length c) ns w) :
    Calls Try.prog 28 #[.agg #[.slice a ns.length c, ev]] w fun e w' => ∃ v, e = .returned v ∧ RowsOf w'.heap.size v (comO ns.length es) w' ∧ Below w.heap.size w w' := by
  unfold comO
  by_cases hv : validG ns.length es = true
  · simp only [hv, if_true]
    exact Components_yes _ ev ns es w hE hN hv (numbered _ _)
  · have hv2 : validG ns.length es = false := by simpa using hv
    simp only [hv2, if_false, Bool.false_eq_true]
    refine (Components_no _ ev ns es w (by omega) hE hN hv2).mono ?_
    rintro e w' ⟨rfl, hb⟩
    exact ⟨_, rfl, nil_rows _ _, hb⟩
theorem rComponents_con (a : Option Addr) (c : Nat) (ev : Value) (ns : List ByteArray) (es : List (Int × Int)) (w : World) (hNl : ns.length ≤ 1000000000) (hes : es.length ≤ 1000000000) (hE : EdgesOf w.heap.size ev es w) (hN : RowOf Value.string w.heap.size (.slice a ns.length c) ns w) :
    Calls Try.prog 29 #[.agg #[.slice a ns.length c, ev]] w fun e w' => ∃ v, e = .returned v ∧ RowsOf w'.heap.size v (comO ns.length es) w' ∧ Below w.heap.size w w' := by
  unfold comO
  by_cases hv : validG ns.length es = true
  · simp only [hv, if_true]
    exact rComponents_yes a ns ns.length c ev es w rfl hE hN hv
  · have hv2 : validG ns.length es = false := by simpa using hv
    simp only [hv2, if_false, Bool.false_eq_true]
    refine (rComponents_no a ns.length c ev es w hNl hes hE hv2).mono ?_
    rintro e w' ⟨rfl, hb⟩
    exact ⟨_, rfl, nil_rows _ _, hb⟩
theorem Levels_con (a : Option Addr) (c : Nat) (ev : Value) (ns : List ByteArray) (es : List (Int × Int)) (w : World) (hes : es.length ≤ 1000000000) (hE : EdgesOf w.heap.size ev es w) (hN : RowOf Value.string w.heap.size (.slice a ns.length c) ns w) :
    Calls Try.prog 30 #[.agg #[.slice a ns.length c, ev]] w fun e w' => ∃ v, e = .returned v ∧ RowsOf w'.heap.size v (levO ns.length es) w' ∧ Below w.heap.size w w' := by
  unfold levO
  by_cases hv : validG ns.length es = true
  · simp only [hv, if_true]
    exact Levels_yes _ ev ns es w hE hN hv (numbered _ _)
  · have hv2 : validG ns.length es = false := by simpa using hv
    simp only [hv2, if_false, Bool.false_eq_true]
    refine (Levels_no _ ev ns es w (by omega) hE hN hv2).mono ?_
    rintro e w' ⟨rfl, hb⟩
    exact ⟨_, rfl, nil_rows _ _, hb⟩
theorem rLevels_con (a : Option Addr) (c : Nat) (ev : Value) (ns : List ByteArray) (es : List (Int × Int)) (w : World) (hNl : ns.length ≤ 1000000000) (hes : es.length ≤ 1000000000) (hE : EdgesOf w.heap.size ev es w) (hN : RowOf Value.string w.heap.size (.slice a ns.length c) ns w) :
    Calls Try.prog 31 #[.agg #[.slice a ns.length c, ev]] w fun e w' => ∃ v, e = .returned v ∧ RowsOf w'.heap.size v (levO ns.length es) w' ∧ Below w.heap.size w w' := by
  unfold levO
  by_cases hv : validG ns.length es = true
  · simp only [hv, if_true]
    exact rLevels_yes a ns ns.length c ev es w rfl hE hN hv
  · have hv2 : validG ns.length es = false := by simpa using hv
    simp only [hv2, if_false, Bool.false_eq_true]
    refine (rLevels_no a ns.length c ev es w hNl hes hE hv2).mono ?_
    rintro e w' ⟨rfl, hb⟩
    exact ⟨_, rfl, nil_rows _ _, hb⟩
set_option maxRecDepth 100000 in
set_option maxHeartbeats 8000000 in
theorem GraphOrders_any (a : Option Addr) (c : Nat) (ev : Value) (ns : List ByteArray) (es : List (Int × Int)) (w : World) (hE : EdgesOf w.heap.size ev es w) (hR : RowOf Value.string w.heap.size (.slice a ns.length c) ns w) :
    Calls Try.prog 5 #[.agg #[.slice a ns.length c, ev]] w fun e w' => e = .returned (.bool true) ∧ Below w.heap.size w w' := by
  have hE0 := hE
  obtain ⟨ao, ec, rfl, _⟩ := hE
  have HE := Lib.hid hE0
  have HR := Lib.hid hR
  have HB0 : Hid (Below w.heap.size w (w.alloc (.cells #[.slice a ns.length c, .slice ao es.length ec] 25))) := Lib.hid (bel_alloc _ _)
  have HG0 : Hid ((w.alloc (.cells #[.slice a ns.length c, .slice ao es.length ec] 25)).heap[w.heap.size]? = some (.cells #[.slice a ns.length c, .slice ao es.length ec] 25 (0, 0))) := Lib.hid (World.alloc_heap_new w _)
  have HAW := Lib.hid (awake_any (w.alloc (.cells #[.slice a ns.length c, .slice ao es.length ec] 25)))
  clear hE0 hR
  go_enter Try.func5, Try.ntmps5
  go_wp2_with fail
  refine HAW.out.mono ?_
  rintro e w1 ⟨rfl, hb1⟩
  have hs1 := hb1.size
  simp only [World.size_alloc] at hs1
  have HG1 := Lib.hid ((hb1.block w.heap.size (by simp)).trans HG0.out)
  have HB1 := Lib.hid (HB0.out.trans (hb1.mono (by simp)))
  have hg0 : w1.cell? ⟨w.heap.size, 0, none⟩ = some (.slice a ns.length c) := cell_of_row _ _ 0 _ _ _ HG1.out
  have hg1 : w1.cell? ⟨w.heap.size, 1, none⟩ = some (.slice ao es.length ec) := cell_of_row _ _ 1 _ _ _ HG1.out
  have HFW := Lib.hid (Few_any a ao ns.length c es.length ec w1)
  clear hb1 HAW
  go_wp2_with fail
  refine HFW.out.mono ?_
  rintro e w2 ⟨rfl, hb2⟩
  have hs2 := hb2.size
  have HG2 := Lib.hid ((hb2.block w.heap.size (by omega)).trans HG1.out)
  have HB2 := Lib.hid (HB1.out.trans (hb2.mono (by omega)))
  have hg0 : w2.cell? ⟨w.heap.size, 0, none⟩ = some (.slice a ns.length c) := cell_of_row _ _ 0 _ _ _ HG2.out
  have hg1 : w2.cell? ⟨w.heap.size, 1, none⟩ = some (.slice ao es.length ec) := cell_of_row _ _ 1 _ _ _ HG2.out
  clear hb2 HFW
  by_cases hfw : (decide (ns.length ≤ 14) && decide (es.length ≤ 60)) = true
  case neg =>
    have hf2 : (decide (ns.length ≤ 14) && decide (es.length ≤ 60)) = false := by simpa using hfw
    rw [hf2]
    clear hfw hf2
    go_wp2_with fail
    go_ret
    exact ⟨rfl, HB2.out⟩
  case pos =>
    have hN : ns.length ≤ 14 := by rw [Bool.and_eq_true] at hfw; exact of_decide_eq_true hfw.1
    have hes : es.length ≤ 60 := by rw [Bool.and_eq_true] at hfw; exact of_decide_eq_true hfw.2
    rw [hfw]
    clear hfw
    have HEV : Hid (∀ V : World, Below w2.heap.size w2 V → EdgesOf V.heap.size (.slice ao es.length ec) es V) := Lib.hid fun V h => (HE.out.below (HB2.out.trans (h.mono (by omega))) (Nat.le_refl _)).mono (by have := h.size; omega)
    have HRV : Hid (∀ V : World, Below w2.heap.size w2 V → RowOf Value.string V.heap.size (.slice a ns.length c) ns V) := Lib.hid fun V h => (HR.out.below (HB2.out.trans (h.mono (by omega))) (Nat.le_refl _)).mono (by have := h.size; omega)
    have HSC : Hid (∀ W : World, Below w2.heap.size w2 W → HeldC ⟨w.heap.size, 0, none⟩ ⟨w.heap.size, 1, none⟩ (.slice a ns.length c) (.slice ao es.length ec) W) := Lib.hid fun W hW => ⟨cell_of_row _ _ 0 _ _ _ ((hW.block _ (by omega)).trans HG2.out), cell_of_row _ _ 1 _ _ _ ((hW.block _ (by omega)).trans HG2.out)⟩
    have C1 := Lib.hid (Order_con a c _ ns es w2 (by omega) (HEV.out _ (Below.refl _ _)) (HRV.out _ (Below.refl _ _)))
    have hol := ordO_len ns.length es
    obtain ⟨ol, hol'⟩ : ∃ ol, ol = ordO ns.length es := ⟨_, rfl⟩
    obtain ⟨ob, hob⟩ : ∃ ob, ob = ordB ns.length es := ⟨_, rfl⟩
    rw [← hol', ← hob] at C1
    rw [← hol'] at hol
    have HOL := Lib.hid hol'
    have HOB := Lib.hid hob
    clear hol' hob
    go_wp2_with fail
    refine C1.out.mono ?_
    rintro e w3 ⟨v3, rfl, hr3, hb3⟩
    have HB3 := Lib.hid hb3
    have HR3 := Lib.hid hr3
    have hs3 := hb3.size
    obtain ⟨a3, c3, hv3, _⟩ := rowOf_open hr3
    rw [List.length_map] at hv3
    subst hv3
    have hg0 : w3.cell? ⟨w.heap.size, 0, none⟩ = some (.slice a ns.length c) := (HSC.out _ hb3).1
    have hg1 : w3.cell? ⟨w.heap.size, 1, none⟩ = some (.slice ao es.length ec) := (HSC.out _ hb3).2
    have C2 := Lib.hid (rOrder_con a c _ ns es w3 (by omega) (by omega) (HEV.out _ hb3) (HRV.out _ hb3))
    rw [← HOL.out, ← HOB.out] at C2
    clear hb3 hr3 C1
    go_wp2_with fail
    refine C2.out.mono ?_
    rintro e w4 ⟨v4, rfl, hr4, hb4⟩
    have HB4 := Lib.hid (HB3.out.trans (hb4.mono (by omega)))
    have hequ := Equal_ints _ _ _ _ w4.drew ((HR3.out.below hb4 (Nat.le_refl _)).mono hb4.size) hr4 (by rw [List.length_map]; omega) (by rw [List.length_map]; omega)
    have hs4 := hb4.size
    rw [decide_eq_true rfl] at hequ
    have HEQ := Lib.hid hequ
    obtain ⟨a4, c4, hv4, _⟩ := rowOf_open hr4
    rw [List.length_map] at hv4
    subst hv4
    clear hb4 hr4 C2 hequ HR3
    cases ob
    all_goals
      go_wp2_with fail
      refine region_plainP (S := HeldC ⟨w.heap.size, 0, none⟩ ⟨w.heap.size, 1, none⟩ (.slice a ns.length c) (.slice ao es.length ec)) (by kernel_rfl) ?_
      have HBd : Hid (Below w2.heap.size w2 w4.drew) := Lib.hid (HB4.out.drew)
      have hSd := HSC.out _ HBd.out
      (refine wpAnyH_take (i := 0) (v := ?_) rfl (by kernel_rfl) (by kernel_rfl) (by kernel_rfl) (fun _ _ _ h => h) (Or.inl ⟨by rfl, ?_⟩) (by assumption) ?_; rotate_left; (· (intro w hSw; obtain ⟨c0, c1⟩ := hSw; go_simp; try with_reducible rfl)); (try simp only [List.getElem_toArray, List.getElem_cons_zero, List.getElem_cons_succ, Act.put, List.setIfInBounds_toArray, List.set_cons_zero, List.set_cons_succ]))
      (refine wpAnyH_take (i := 1) (v := ?_) rfl (by kernel_rfl) (by kernel_rfl) (by kernel_rfl) (fun _ _ _ h => h) (Or.inl ⟨by rfl, ?_⟩) (by assumption) ?_; rotate_left; (· (intro w hSw; obtain ⟨c0, c1⟩ := hSw; go_simp; try with_reducible rfl)); (try simp only [List.getElem_toArray, List.getElem_cons_zero, List.getElem_cons_succ, Act.put, List.setIfInBounds_toArray, List.set_cons_zero, List.set_cons_succ]))
      refine wpAnyH_ready (rs := [2]) (by kernel_rfl) (by simp) (AllReadyH.cons rfl (fun K hK => ?_) AllReadyH.nil)
      go_simp
      refine (HEQ.out).mono ?_
      rintro e x1 ⟨rfl, n1, hx1⟩
      have HX1 : Hid (Below w2.heap.size w2 x1) := Lib.hid (by rw [hx1]; exact below_drewN HBd.out n1)
      have hS1 := HSC.out _ HX1.out
      clear hx1 HEQ
      try go_simp
      refine hK.out _ _ hS1 (fun _ => ?_)
      clear hK K
      (try simp only [List.getElem_toArray, List.getElem_cons_zero, List.getElem_cons_succ, Act.put, List.setIfInBounds_toArray, List.set_cons_zero, List.set_cons_succ])
      (refine wpAnyH_take (i := 3) (v := ?_) rfl (by kernel_rfl) (by kernel_rfl) (by kernel_rfl) (fun _ _ _ h => h) (Or.inl ⟨by rfl, ?_⟩) (by assumption) ?_; rotate_left; (· (intro w hSw; obtain ⟨c0, c1⟩ := hSw; go_simp; try with_reducible rfl)); (try simp only [List.getElem_toArray, List.getElem_cons_zero, List.getElem_cons_succ, Act.put, List.setIfInBounds_toArray, List.set_cons_zero, List.set_cons_succ]))
      (refine wpAnyH_take (i := 4) (v := ?_) rfl (by kernel_rfl) (by kernel_rfl) (by kernel_rfl) (fun _ _ _ h => h) (Or.inl ⟨by rfl, ?_⟩) (by assumption) ?_; rotate_left; (· (intro w hSw; obtain ⟨c0, c1⟩ := hSw; go_simp; try with_reducible rfl)); (try simp only [List.getElem_toArray, List.getElem_cons_zero, List.getElem_cons_succ, Act.put, List.setIfInBounds_toArray, List.set_cons_zero, List.set_cons_succ]))
      (refine wpAnyH_take (i := 5) (v := ?_) rfl (by kernel_rfl) (by kernel_rfl) (by kernel_rfl) (fun _ _ _ h => h) (Or.inl ⟨by rfl, ?_⟩) (by assumption) ?_; rotate_left; (· (intro w hSw; obtain ⟨c0, c1⟩ := hSw; go_simp; try with_reducible rfl)); (try simp only [List.getElem_toArray, List.getElem_cons_zero, List.getElem_cons_succ, Act.put, List.setIfInBounds_toArray, List.set_cons_zero, List.set_cons_succ]))
      (refine wpAnyH_take (i := 6) (v := ?_) rfl (by kernel_rfl) (by kernel_rfl) (by kernel_rfl) (fun _ _ _ h => h) (Or.inl ⟨by rfl, ?_⟩) (by assumption) ?_; rotate_left; (· (intro w hSw; obtain ⟨c0, c1⟩ := hSw; go_simp; try with_reducible rfl)); (try simp only [List.getElem_toArray, List.getElem_cons_zero, List.getElem_cons_succ, Act.put, List.setIfInBounds_toArray, List.set_cons_zero, List.set_cons_succ]))
      (refine wpAnyH_take (i := 7) (v := ?_) rfl (by kernel_rfl) (by kernel_rfl) (by kernel_rfl) (fun _ _ _ h => h) (Or.inl ⟨by rfl, ?_⟩) (by assumption) ?_; rotate_left; (· (intro w hSw; obtain ⟨c0, c1⟩ := hSw; go_simp; try with_reducible rfl)); (try simp only [List.getElem_toArray, List.getElem_cons_zero, List.getElem_cons_succ, Act.put, List.setIfInBounds_toArray, List.set_cons_zero, List.set_cons_succ]))
      (refine wpAnyH_take (i := 8) (v := ?_) rfl (by kernel_rfl) (by kernel_rfl) (by kernel_rfl) (fun _ _ _ h => h) (Or.inl ⟨by rfl, ?_⟩) (by assumption) ?_; rotate_left; (· (intro w hSw; obtain ⟨c0, c1⟩ := hSw; go_simp; try with_reducible rfl)); (try simp only [List.getElem_toArray, List.getElem_cons_zero, List.getElem_cons_succ, Act.put, List.setIfInBounds_toArray, List.set_cons_zero, List.set_cons_succ]))
      (refine wpAnyH_take (i := 9) (v := ?_) rfl (by kernel_rfl) (by kernel_rfl) (by kernel_rfl) (fun _ _ _ h => h) (Or.inl ⟨by rfl, ?_⟩) (by assumption) ?_; rotate_left; (· (intro w hSw; obtain ⟨c0, c1⟩ := hSw; go_simp; try with_reducible rfl)); (try simp only [List.getElem_toArray, List.getElem_cons_zero, List.getElem_cons_succ, Act.put, List.setIfInBounds_toArray, List.set_cons_zero, List.set_cons_succ]))
      (refine wpAnyH_take (i := 11) (v := ?_) rfl (by kernel_rfl) (by kernel_rfl) (by kernel_rfl) (fun _ _ _ h => h) (Or.inl ⟨by rfl, ?_⟩) (by assumption) ?_; rotate_left; (· (intro w hSw; obtain ⟨c0, c1⟩ := hSw; go_simp; try with_reducible rfl)); (try simp only [List.getElem_toArray, List.getElem_cons_zero, List.getElem_cons_succ, Act.put, List.setIfInBounds_toArray, List.set_cons_zero, List.set_cons_succ]))
      have D1 := Lib.hid (Components_con a c _ ns es _ (by omega) (HEV.out _ HX1.out) (HRV.out _ HX1.out))
      refine wpAnyH_ready (rs := [10]) (by kernel_rfl) (by simp) (AllReadyH.cons rfl (fun K hK => ?_) AllReadyH.nil)
      go_simp
      refine (D1.out).mono ?_
      rintro e x2 ⟨v2, rfl, hr2, hb2⟩
      have HX2 := Lib.hid (HX1.out.trans (hb2.mono HX1.out.size))
      have HR2 := Lib.hid hr2
      have hS2 := HSC.out _ HX2.out
      obtain ⟨aa2, ac2, hv2⟩ := rows_shape hr2
      subst hv2
      clear hb2 hr2 D1
      try go_simp
      refine hK.out _ _ hS2 (fun _ => ?_)
      clear hK K
      (try simp only [List.getElem_toArray, List.getElem_cons_zero, List.getElem_cons_succ, Act.put, List.setIfInBounds_toArray, List.set_cons_zero, List.set_cons_succ])
      have D2 := Lib.hid (rComponents_con a c _ ns es _ (by omega) (by omega) (HEV.out _ HX2.out) (HRV.out _ HX2.out))
      refine wpAnyH_ready (rs := [12]) (by kernel_rfl) (by simp) (AllReadyH.cons rfl (fun K hK => ?_) AllReadyH.nil)
      go_simp
      refine (D2.out).mono ?_
      rintro e x3 ⟨v3, rfl, hr3, hb3⟩
      have HX3 := Lib.hid (HX2.out.trans (hb3.mono HX2.out.size))
      have hS3 := HSC.out _ HX3.out
      have hsa3 := Same_any _ _ _ _ x3 ((HR2.out.below hb3 (Nat.le_refl _)).mono hb3.size) hr3 (by have := (comO_len ns.length es).1; omega) (by have := (comO_len ns.length es).1; omega) (fun i => by have := (comO_len ns.length es).2 i; omega) (fun i => by have := (comO_len ns.length es).2 i; omega)
      rw [decide_eq_true rfl] at hsa3
      have HSA3 := Lib.hid hsa3
      obtain ⟨aa3, ac3, hv3⟩ := rows_shape hr3
      subst hv3
      clear hb3 hr3 D2 hsa3
      try go_simp
      refine hK.out _ _ hS3 (fun _ => ?_)
      clear hK K
      (try simp only [List.getElem_toArray, List.getElem_cons_zero, List.getElem_cons_succ, Act.put, List.setIfInBounds_toArray, List.set_cons_zero, List.set_cons_succ])
      refine wpAnyH_ready (rs := [13]) (by kernel_rfl) (by simp) (AllReadyH.cons rfl (fun K hK => ?_) AllReadyH.nil)
      go_simp
      refine (HSA3.out).mono ?_
      rintro e x4 ⟨rfl, hb4⟩
      have HX4 := Lib.hid (HX3.out.trans (hb4.mono HX3.out.size))
      have hS4 := HSC.out _ HX4.out
      clear hb4 HSA3
      try go_simp
      refine hK.out _ _ hS4 (fun _ => ?_)
      clear hK K
      (try simp only [List.getElem_toArray, List.getElem_cons_zero, List.getElem_cons_succ, Act.put, List.setIfInBounds_toArray, List.set_cons_zero, List.set_cons_succ])
      (refine wpAnyH_take (i := 14) (v := ?_) rfl (by kernel_rfl) (by kernel_rfl) (by kernel_rfl) (fun _ _ _ h => h) (Or.inl ⟨by rfl, ?_⟩) (by assumption) ?_; rotate_left; (· (intro w hSw; obtain ⟨c0, c1⟩ := hSw; go_simp; try with_reducible rfl)); (try simp only [List.getElem_toArray, List.getElem_cons_zero, List.getElem_cons_succ, Act.put, List.setIfInBounds_toArray, List.set_cons_zero, List.set_cons_succ]))
      (refine wpAnyH_take (i := 15) (v := ?_) rfl (by kernel_rfl) (by kernel_rfl) (by kernel_rfl) (fun _ _ _ h => h) (Or.inl ⟨by rfl, ?_⟩) (by assumption) ?_; rotate_left; (· (intro w hSw; obtain ⟨c0, c1⟩ := hSw; go_simp; try with_reducible rfl)); (try simp only [List.getElem_toArray, List.getElem_cons_zero, List.getElem_cons_succ, Act.put, List.setIfInBounds_toArray, List.set_cons_zero, List.set_cons_succ]))
      (refine wpAnyH_take (i := 16) (v := ?_) rfl (by kernel_rfl) (by kernel_rfl) (by kernel_rfl) (fun _ _ _ h => h) (Or.inl ⟨by rfl, ?_⟩) (by assumption) ?_; rotate_left; (· (intro w hSw; obtain ⟨c0, c1⟩ := hSw; go_simp; try with_reducible rfl)); (try simp only [List.getElem_toArray, List.getElem_cons_zero, List.getElem_cons_succ, Act.put, List.setIfInBounds_toArray, List.set_cons_zero, List.set_cons_succ]))
      (refine wpAnyH_take (i := 18) (v := ?_) rfl (by kernel_rfl) (by kernel_rfl) (by kernel_rfl) (fun _ _ _ h => h) (Or.inl ⟨by rfl, ?_⟩) (by assumption) ?_; rotate_left; (· (intro w hSw; obtain ⟨c0, c1⟩ := hSw; go_simp; try with_reducible rfl)); (try simp only [List.getElem_toArray, List.getElem_cons_zero, List.getElem_cons_succ, Act.put, List.setIfInBounds_toArray, List.set_cons_zero, List.set_cons_succ]))
      have D4 := Lib.hid (Levels_con a c _ ns es _ (by omega) (HEV.out _ HX4.out) (HRV.out _ HX4.out))
      refine wpAnyH_ready (rs := [17]) (by kernel_rfl) (by simp) (AllReadyH.cons rfl (fun K hK => ?_) AllReadyH.nil)
      go_simp
      refine (D4.out).mono ?_
      rintro e x5 ⟨v5, rfl, hr5, hb5⟩
      have HX5 := Lib.hid (HX4.out.trans (hb5.mono HX4.out.size))
      have HR5 := Lib.hid hr5
      have hS5 := HSC.out _ HX5.out
      obtain ⟨aa5, ac5, hv5⟩ := rows_shape hr5
      subst hv5
      clear hb5 hr5 D4
      try go_simp
      refine hK.out _ _ hS5 (fun _ => ?_)
      clear hK K
      (try simp only [List.getElem_toArray, List.getElem_cons_zero, List.getElem_cons_succ, Act.put, List.setIfInBounds_toArray, List.set_cons_zero, List.set_cons_succ])
      have D5 := Lib.hid (rLevels_con a c _ ns es _ (by omega) (by omega) (HEV.out _ HX5.out) (HRV.out _ HX5.out))
      refine wpAnyH_ready (rs := [19]) (by kernel_rfl) (by simp) (AllReadyH.cons rfl (fun K hK => ?_) AllReadyH.nil)
      go_simp
      refine (D5.out).mono ?_
      rintro e x6 ⟨v6, rfl, hr6, hb6⟩
      have HX6 := Lib.hid (HX5.out.trans (hb6.mono HX5.out.size))
      have hS6 := HSC.out _ HX6.out
      have hsa6 := Same_any _ _ _ _ x6 ((HR5.out.below hb6 (Nat.le_refl _)).mono hb6.size) hr6 (by have := (levO_len ns.length es).1; omega) (by have := (levO_len ns.length es).1; omega) (fun i => by have := (levO_len ns.length es).2 i; omega) (fun i => by have := (levO_len ns.length es).2 i; omega)
      rw [decide_eq_true rfl] at hsa6
      have HSA6 := Lib.hid hsa6
      obtain ⟨aa6, ac6, hv6⟩ := rows_shape hr6
      subst hv6
      clear hb6 hr6 D5 hsa6
      try go_simp
      refine hK.out _ _ hS6 (fun _ => ?_)
      clear hK K
      (try simp only [List.getElem_toArray, List.getElem_cons_zero, List.getElem_cons_succ, Act.put, List.setIfInBounds_toArray, List.set_cons_zero, List.set_cons_succ])
      refine wpAnyH_ready (rs := [20]) (by kernel_rfl) (by simp) (AllReadyH.cons rfl (fun K hK => ?_) AllReadyH.nil)
      go_simp
      refine (HSA6.out).mono ?_
      rintro e x7 ⟨rfl, hb7⟩
      have HX7 := Lib.hid (HX6.out.trans (hb7.mono HX6.out.size))
      have hS7 := HSC.out _ HX7.out
      clear hb7 HSA6
      try go_simp
      refine hK.out _ _ hS7 (fun _ => ?_)
      clear hK K
      (try simp only [List.getElem_toArray, List.getElem_cons_zero, List.getElem_cons_succ, Act.put, List.setIfInBounds_toArray, List.set_cons_zero, List.set_cons_succ])
      (refine wpAnyH_take (i := 21) (v := ?_) rfl (by kernel_rfl) (by kernel_rfl) (by kernel_rfl) (fun _ _ _ h => h) (Or.inl ⟨by rfl, ?_⟩) (by assumption) ?_; rotate_left; (· (intro w hSw; obtain ⟨c0, c1⟩ := hSw; go_simp; try with_reducible rfl)); (try simp only [List.getElem_toArray, List.getElem_cons_zero, List.getElem_cons_succ, Act.put, List.setIfInBounds_toArray, List.set_cons_zero, List.set_cons_succ]))
      (refine wpAnyH_take (i := 22) (v := ?_) rfl (by kernel_rfl) (by kernel_rfl) (by kernel_rfl) (fun _ _ _ h => h) (Or.inl ⟨by rfl, ?_⟩) (by assumption) ?_; rotate_left; (· (intro w hSw; obtain ⟨c0, c1⟩ := hSw; go_simp; try with_reducible rfl)); (try simp only [List.getElem_toArray, List.getElem_cons_zero, List.getElem_cons_succ, Act.put, List.setIfInBounds_toArray, List.set_cons_zero, List.set_cons_succ]))
      refine wpAnyH_done (by kernel_rfl) ?_ _
      refine NoPanic.normal ?_
      go_wp2_with fail
      go_ret
      exact ⟨rfl, HB2.out.trans (HX7.out.mono (by omega))⟩
end Go.Proofs.Ytlcgbkeggmaljaa
