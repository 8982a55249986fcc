/- Contract of the graph's Order. -/
import Derived.Test.YtlcgbkeggmaljaaGLevels
namespace Go.Proofs.Ytlcgbkeggmaljaa
set_option linter.unusedVariables false
set_option linter.unusedSimpArgs false
open Go Go.RowKit

set_option maxRecDepth 100000 in
set_option maxHeartbeats 4000000 in
theorem Order_no (nv ev : Value) (ns : List ByteArray) (es : List (Int × Int)) (w : World) (hes : es.length ≤ 1000000000000) (hE : EdgesOf w.heap.size ev es w) (hN : RowOf Value.string w.heap.size nv ns w) (hval : validG ns.length es = false) :
    Calls Try.prog 25 #[.agg #[nv, ev]] w fun e w' => e = .returned (.tuple #[.slice none 0 0, .bool false]) ∧ Below w.heap.size w w' := by
  obtain ⟨na, nc, rfl, _⟩ := rowOf_open hN
  have hb1 : Below w.heap.size w (w.alloc (.cells #[.slice na ns.length nc, ev] 25)) := (Below.refl _ _).alloc (Nat.le_refl _) _
  have hx := Valid_any na ns.length nc _ es _ hes ((hE.below hb1 (Nat.le_refl _)).mono hb1.size)
  rw [hval] at hx
  obtain ⟨ao, ec, rfl, _⟩ := hE
  have HX := Lib.hid hx
  have HB1 := Lib.hid hb1
  clear hx hb1 hval hN
  go_enter Try.func25, Try.ntmps25
  go_wp2_with fail
  refine HX.out.mono ?_
  rintro e w1 ⟨rfl, hb⟩
  go_wp2_with fail
  refine bodyPost_ret (v := .tuple #[.slice none 0 0, .bool false]) (by simp [results, Try.results25, go_sem]) rfl ?_
  exact ⟨rfl, HB1.out.trans (hb.mono (by simp))⟩

set_option maxRecDepth 100000 in
set_option maxHeartbeats 4000000 in
theorem Order_yes (nv ev : Value) (ns : List ByteArray) (es : List (Int × Int)) (w : World) (hE : EdgesOf w.heap.size ev es w) (hN : RowOf Value.string w.heap.size nv ns w) (hval : validG ns.length es = true) :
    Calls Try.prog 25 #[.agg #[nv, ev]] w fun e w' => ∃ v, e = .returned (.tuple #[v, .bool (decide (cycF ns.length es ns.length = []))]) ∧
      w'.ownsRow w.heap.size 3 1 v (if cycF ns.length es ns.length = [] then listF (sucs ns.length es) else []).length ((if cycF ns.length es ns.length = [] then listF (sucs ns.length es) else []).map natC) ∧ Below w.heap.size w w' := by
  obtain ⟨cy, hcye⟩ : ∃ cy, cy = cycF ns.length es ns.length := ⟨_, rfl⟩
  rw [← hcye]
  have HCYE := Lib.hid hcye
  clear hcye
  obtain ⟨hNn, hNe⟩ := validG_n hval
  have hN0 := hN
  obtain ⟨na, nc, rfl, _⟩ := rowOf_open hN
  have hb1 : Below w.heap.size w (w.alloc (.cells #[.slice na ns.length nc, ev] 25)) := (Below.refl _ _).alloc (Nat.le_refl _) _
  have hx := Valid_any na ns.length nc _ es _ (by omega) ((hE.below hb1 (Nat.le_refl _)).mono hb1.size)
  rw [hval] at hx
  have hE0 := hE
  obtain ⟨ao, ec, rfl, _⟩ := hE
  have HX := Lib.hid hx
  have HB1 := Lib.hid hb1
  have HV := Lib.hid hval
  have HE := Lib.hid hE0
  have HN := Lib.hid hN0
  clear hx hb1 hval hN hE0 hN0
  go_enter Try.func25, Try.ntmps25
  go_wp2_with fail
  refine HX.out.mono ?_
  rintro e w1 ⟨rfl, hb⟩
  have hs1 := hb.size
  simp only [World.size_alloc] at hs1
  have hblk := (hb.block w.heap.size (by simp)).trans (World.alloc_heap_new w _)
  have hg0 : w1.cell? ⟨w.heap.size, 0, none⟩ = some (.slice na ns.length nc) := cell_of_row _ _ 0 _ _ _ hblk
  have hg1 : w1.cell? ⟨w.heap.size, 1, none⟩ = some (.slice ao es.length ec) := cell_of_row _ _ 1 _ _ _ hblk
  have HW1 := Lib.hid (HB1.out.trans (hb.mono (by simp)))
  have hcyc := Cycle_yes (.slice na ns.length nc) (.slice ao es.length ec) ns es w1 ((HE.out.below HW1.out (Nat.le_refl _)).mono (by omega)) ((HN.out.below HW1.out (Nat.le_refl _)).mono (by omega)) HV.out
  rw [← HCYE.out] at hcyc
  have HCYC := Lib.hid hcyc
  have HBLK := Lib.hid hblk
  clear hb hblk hcyc
  go_wp2_with fail
  refine HCYC.out.mono ?_
  rintro e w2 ⟨v2, rfl, ho2, hb2, hn2⟩
  have hs2 := hb2.size
  have hblk2 := (hb2.block w.heap.size (by omega)).trans HBLK.out
  have hg0 : w2.cell? ⟨w.heap.size, 0, none⟩ = some (.slice na ns.length nc) := cell_of_row _ _ 0 _ _ _ hblk2
  have hg1 : w2.cell? ⟨w.heap.size, 1, none⟩ = some (.slice ao es.length ec) := cell_of_row _ _ 1 _ _ _ hblk2
  have HW2 := Lib.hid (HW1.out.trans (hb2.mono (by omega)))
  clear hblk2 hb2 HCYC
  by_cases hc : cy = []
  · have hv2 := hn2 hc
    subst hv2
    have HDC : Hid (decide (cy = []) = true) := Lib.hid (decide_eq_true hc)
    have HC := Lib.hid hc
    have HNS := Lib.hid (newSucc_any na nc ns.length _ es w2 ((HE.out.below HW2.out (Nat.le_refl _)).mono (by omega)) HV.out)
    clear ho2 hn2 hc
    go_wp2_with fail
    refine HNS.out.mono ?_
    rintro e w3 ⟨v3, vs3, rfl, hgr3, hb3⟩
    have hs3 := hb3.size
    have hr3 := hgr3.rows
    have hlist := listed_any v3 (sucs ns.length es) w3 hr3 (by rw [sucs_length]; omega) (fun a => by have := sucs_row (N := ns.length) (es := es) a; omega) sucs_lt
    obtain ⟨sa, sc, hv3⟩ := hgr3.shape
    rw [List.length_map, sucs_length] at hv3
    subst hv3
    have HLIST := Lib.hid hlist
    have HW3 := Lib.hid (HW2.out.trans (hb3.mono (by omega)))
    clear hgr3 hr3 hlist hb3
    go_wp2_with fail
    refine HLIST.out.mono ?_
    rintro e w4 ⟨u, rfl, ho4, hb4⟩
    have HO4 := Lib.hid ho4
    have HB4 := Lib.hid hb4
    clear ho4 hb4
    go_wp2_with fail
    refine bodyPost_ret (v := .tuple #[u, .bool true]) (by simp [results, Try.results25, go_sem]) rfl ?_
    refine ⟨u, rfl, ?_, HW3.out.trans (HB4.out.mono (by omega))⟩
    exact ⟨HO4.out.1, HO4.out.2.imp id fun ⟨g, cap, cur, h1, h2, h3⟩ => ⟨g, cap, cur, h1, by omega, h3⟩⟩
  · have hpos : 0 < (cy).length := List.length_pos_iff.2 hc
    obtain ⟨g, cap, hv, _⟩ := own_shape ho2 hpos
    subst hv
    have HDC : Hid (decide (cy = []) = false) := Lib.hid (decide_eq_false hc)
    have HC := Lib.hid hc
    clear ho2 hn2 hc hpos
    go_wp2_with fail
    refine bodyPost_ret (v := .tuple #[.slice none 0 0, .bool false]) (by simp [results, Try.results25, go_sem]) rfl ?_
    refine ⟨.slice none 0 0, rfl, ?_, HW2.out⟩
    exact World.ownsRow_nil _ _ _ _
end Go.Proofs.Ytlcgbkeggmaljaa
