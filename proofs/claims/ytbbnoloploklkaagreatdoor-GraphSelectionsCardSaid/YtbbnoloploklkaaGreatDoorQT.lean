/- Contract of the graph's Path. -/
import Derived.Test.YtbbnoloploklkaaGreatDoorQS
import Derived.Test.YtbbnoloploklkaaGreatDoorQM
namespace Go.Proofs.YtbbnoloploklkaaGreatDoor
set_option linter.unusedVariables false
set_option linter.unusedSimpArgs false
open Go Go.RowKit

theorem ints_row {W : World} {g : Nat} {l : List Int} (h : Ints W g l) : g < W.heap.size := (Array.getElem?_eq_some_iff.1 h).1

set_option maxRecDepth 100000 in
set_option maxHeartbeats 4000000 in
theorem Path_yes (nv ev : Value) (ns : List ByteArray) (es : List (Int × Int)) (a b : Nat) (w : World) (hE : EdgesOf w.heap.size ev es w) (hN : RowOf Value.string w.heap.size nv ns w) (hval : validG ns.length es = true) (ha : a < ns.length) (hbn : b < ns.length) :
    Calls Tryz.prog 115 #[.agg #[nv, ev], natC a, natC b] w fun e w' => ∃ v, e = .returned v ∧ w'.ownsRow w.heap.size 3 1 v (pathF ns.length es a b).length ((pathF ns.length es a b).map natC) ∧ Below w.heap.size w w' := by
  obtain ⟨hNn, hNe⟩ := validG_n hval
  have hN0 := hN
  obtain ⟨na, nc, rfl, _⟩ := rowOf_open hN
  have hb1 : Below w.heap.size w ((w.alloc (.cells #[.slice na ns.length nc, ev] 78)).alloc (.cells #[natC a, natC b] 3)) := ((Below.refl _ _).alloc (Nat.le_refl _) _).alloc (by simp) _
  have hL : RowOf intC ((w.alloc (.cells #[.slice na ns.length nc, ev] 78)).alloc (.cells #[natC a, natC b] 3)).heap.size (.slice (some ⟨w.heap.size + 1, 0, none⟩) 2 2) [(a : Int), (b : Int)] ((w.alloc (.cells #[.slice na ns.length nc, ev] 78)).alloc (.cells #[natC a, natC b] 3)) := by
    have h := World.alloc_heap_new (w.alloc (.cells #[.slice na ns.length nc, ev] 78)) (.cells #[natC a, natC b] 3)
    rw [World.size_alloc] at h
    refine .inr ⟨w.heap.size + 1, 0, 2, rfl, by simp, fun i x hx => ?_⟩
    rw [cell_of_row _ _ _ _ _ _ h]
    match i, hx with
    | 0, hx => simp at hx; subst hx; rfl
    | 1, hx => simp at hx; subst hx; rfl
    | j + 2, hx => simp at hx
  have hx := exist_any na ns.length nc ev _ es [(a : Int), (b : Int)] _ (by omega) ((hE.below hb1 (Nat.le_refl _)).mono hb1.size) (by simp) hL
  have e : (validG ns.length es && [(a : Int), (b : Int)].all (nodeB ns.length)) = true := by
    rw [hval]
    unfold nodeB
    simp
    omega
  rw [e] at hx
  have hE0 := hE
  obtain ⟨ao, ec, rfl, _⟩ := hE
  have hg0 : ((w.alloc (.cells #[.slice na ns.length nc, .slice ao es.length ec] 78)).alloc (.cells #[natC a, natC b] 3)).heap[w.heap.size]? = some (.cells #[.slice na ns.length nc, .slice ao es.length ec] 78 (0, 0)) := (Below.heap_alloc _ _ _ (by simp)).trans (World.alloc_heap_new w _)
  have HG0 := Lib.hid hg0
  have HX := Lib.hid hx
  have HB1 := Lib.hid hb1
  have HV := Lib.hid hval
  have HE := Lib.hid hE0
  have HN := Lib.hid hN0
  clear hx hb1 hL e hval hN hg0 hE0 hN0
  have ha0 : (0 : Int) ≤ (a : Int) := by omega
  have ha1 : (a : Int) < (ns.length : Int) := by omega
  go_enter Tryz.func115, Tryz.ntmps115
  go_wp2_with fail
  refine HX.out.mono ?_
  rintro e w1 ⟨rfl, hb⟩
  have hs1 := hb.size
  simp only [World.size_alloc] at hs1
  have hblk := (hb.block w.heap.size (by simp; omega)).trans HG0.out
  have hg0 : w1.cell? ⟨w.heap.size, 0, none⟩ = some (.slice na ns.length nc) := cell_of_row _ _ 0 _ _ _ hblk
  have hg1 : w1.cell? ⟨w.heap.size, 1, none⟩ = some (.slice ao es.length ec) := cell_of_row _ _ 1 _ _ _ hblk
  have HBLK := Lib.hid hblk
  have HW1 := Lib.hid (HB1.out.trans (hb.mono (by simp; omega)))
  have hrv := Reverse_any _ _ ns es w1 (by omega) ((HE.out.below HW1.out (Nat.le_refl _)).mono (by omega)) ((HN.out.below HW1.out (Nat.le_refl _)).mono (by omega))
  have e1 : revN ns es = ns := if_pos HV.out
  have e2 : revE ns.length es = es.map swapE := if_pos HV.out
  rw [e1, e2] at hrv
  have HRV := Lib.hid hrv
  clear hb hblk hrv e1 e2
  go_wp2_with fail
  refine HRV.out.mono ?_
  rintro e w2 ⟨a2, c2, v2, rfl, hn2, he2, hb2⟩
  have hs2 := hb2.size
  have HN2 := Lib.hid (newSucc_any a2 c2 ns.length v2 (es.map swapE) w2 he2 (validG_swap HV.out))
  have HW2 := Lib.hid (HW1.out.trans (hb2.mono (by omega)))
  have HBLK2 := Lib.hid ((hb2.block w.heap.size (by omega)).trans HBLK.out)
  obtain ⟨a3, n3, c3, rfl⟩ : ∃ a n c, v2 = .slice a n c := by obtain ⟨x, y, h, _⟩ := he2; exact ⟨_, _, _, h⟩
  clear hn2 he2 hb2 HRV hg0 hg1
  go_wp2_with fail
  refine HN2.out.mono ?_
  rintro e w3 ⟨v3, vs3, rfl, hgr3, hb3⟩
  have hs3 := hb3.size
  have hr3 := hgr3.rows
  obtain ⟨a4, c4, hv3⟩ := hgr3.shape
  rw [List.length_map, sucs_length] at hv3
  subst hv3
  have hdd : Calls Tryz.prog 168 #[.slice a4 ns.length c4, natC b, .int .i64 0] w3 _ := distances_any _ (sucs ns.length (es.map swapE)) b 0 w3 hr3 (by rw [sucs_length]; omega) (by rw [sucs_length]; exact hbn) (fun x => by have := sucs_row (N := ns.length) (es := es.map swapE) x; omega) sucs_lt
  rw [sucs_length] at hdd
  have HDD := Lib.hid hdd
  have HW3 := Lib.hid (HW2.out.trans (hb3.mono (by omega)))
  have HBLK3 := Lib.hid ((hb3.block w.heap.size (by omega)).trans HBLK2.out)
  clear hgr3 hb3 hr3 hdd
  go_wp2_with fail
  refine HDD.out.mono ?_
  rintro e w4 ⟨gf, far, rfl, hgf, hi4, hd4, hb4⟩
  have hs4 := hb4.size
  have hfl := hd4.len
  rw [sucs_length] at hfl
  have hblk4 := (hb4.block w.heap.size (by omega)).trans HBLK3.out
  have hg0 : w4.cell? ⟨w.heap.size, 0, none⟩ = some (.slice na ns.length nc) := cell_of_row _ _ 0 _ _ _ hblk4
  have hg1 : w4.cell? ⟨w.heap.size, 1, none⟩ = some (.slice ao es.length ec) := cell_of_row _ _ 1 _ _ _ hblk4
  have hca := hi4.cell a _ (gD_get (by rw [hfl]; exact ha))
  have hfe := hd4.eq sucs_lt (by rw [sucs_length]; exact hbn)
  have hlo := hd4.lo a
  obtain ⟨fv, hfv⟩ : ∃ fv, fv = gD far a := ⟨_, rfl⟩
  rw [← hfv] at hca hlo
  have HFV := Lib.hid hfv
  have HFE := Lib.hid hfe
  have HD4 := Lib.hid hd4
  have HI4 := Lib.hid hi4
  have HW4 := Lib.hid (HW3.out.trans (hb4.mono (by omega)))
  have HP : Hid (pathF ns.length es a b = if fv < 0 then [] else descP (sucs ns.length es) far fv.toNat a) := Lib.hid (by unfold pathF; simp only; rw [← hfe, ← hfv])
  have hgl := ints_row hi4
  clear hfv hfe hd4 hi4 hb4 HDD hblk4
  by_cases hneg : fv < 0
  · have HP2 := Lib.hid (HP.out.trans (if_pos hneg))
    go_wp2_with fail
    go_ret
    refine ⟨_, rfl, ?_, HW4.out⟩
    rw [HP2.out]
    exact World.ownsRow_nil _ _ _ _
  · have HP2 := Lib.hid (HP.out.trans (if_neg hneg))
    have hnn : ¬ fv < 0 := hneg
    have HN4 := Lib.hid (newSucc_any na nc ns.length _ es w4 ((HE.out.below HW4.out (Nat.le_refl _)).mono (by omega)) HV.out)
    go_wp2_with fail
    refine HN4.out.mono ?_
    rintro e w5 ⟨v5, vs5, rfl, hgr5, hb5⟩
    have hs5 := hb5.size
    have hr5 := hgr5.rows
    obtain ⟨a6, c6, hv5⟩ := hgr5.shape
    rw [List.length_map, sucs_length] at hv5
    subst hv5
    have hde := descend_any _ (sucs ns.length es) a gf far w5 hr5 (by rw [sucs_length]; omega) (by rw [sucs_length]; exact hfl) ((hb5.block gf hgl).trans HI4.out) (by rw [sucs_length]; exact ha) (by rw [← HFV.out]; omega)
      (fun x => by have := HD4.out.bound sucs_lt (by rw [sucs_length]; exact hbn) x; rw [sucs_length] at this; omega) (fun x => by have := sucs_row (N := ns.length) (es := es) x; omega) sucs_lt HD4.out.desc
    rw [sucs_length, ← HFV.out, ← HP2.out] at hde
    have HDE := Lib.hid hde
    have HW5 := Lib.hid (HW4.out.trans (hb5.mono (by omega)))
    clear hgr5 hb5 hr5 hde HN4 hg0 hg1 hca
    go_wp2_with fail
    refine HDE.out.mono ?_
    rintro e w6 ⟨v6, rfl, ho6, hb6⟩
    have HO6 := Lib.hid ho6
    have HB6 := Lib.hid hb6
    clear ho6 hb6 HDE
    go_wp2_with fail
    go_ret
    exact ⟨_, rfl, ⟨HO6.out.1, HO6.out.2.imp id fun ⟨g, cap, cur, h1, h2, h3⟩ => ⟨g, cap, cur, h1, by omega, h3⟩⟩, HW5.out.trans (HB6.out.mono (by omega))⟩
end Go.Proofs.YtbbnoloploklkaaGreatDoor
