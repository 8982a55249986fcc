/- ConstraintEnds returns true at every input. -/
import Derived.Test.YtdhihdiifgcfdaaGreatDoorCLawKit
import Derived.Test.YtdhihdiifgcfdaaGreatDoorCEnds
import Derived.Test.YtdhihdiifgcfdaaGreatDoorCRef3
namespace Go.Proofs.YtdhihdiifgcfdaaGreatDoor
set_option linter.unusedVariables false
set_option linter.unusedSimpArgs false
open Go Go.RowKit

set_option maxRecDepth 100000 in
set_option maxHeartbeats 16000000 in
theorem ConstraintEnds_any (v : Value) (s : List (Int × Int)) (p : Int) (w : World) (hm : EnvOk w) (hE : EdgesOf w.heap.size v s w) :
    Calls Tryz.prog 5 #[v, .int .i64 p] w fun e w' => e = .returned (.bool true) ∧ Below w.heap.size w w' := by
  have HA := Lib.hid (cawake_any w hm)
  have HV := Lib.hid hE
  have HB : Hid (Below w.heap.size w w) := Lib.hid (Below.refl _ _)
  obtain ⟨ao, ec, rfl, _⟩ := hE
  by_cases h30 : 30 < s.length
  · have h30i : (30 : Int) < (s.length : Int) := by omega
    go_enter Tryz.func5, Tryz.ntmps5
    go_wp2_with fail
    (with_reducible refine HA.out.mono ?_)
    rintro e w1 ⟨rfl, hb⟩
    replace HB := Lib.hid (belT HB.out hb)
    clear hb
    go_wp2_with fail
    go_ret
    exact ⟨rfl, HB.out⟩
  · have h30i : ¬ (30 : Int) < (s.length : Int) := by omega
    have H1 := Lib.hid (fun (W : World) (h : EdgesOf W.heap.size (.slice ao s.length ec) s W) => Least_any _ s W (by omega) h)
    have H2 := Lib.hid (fun (W : World) (h : EdgesOf W.heap.size (.slice ao s.length ec) s W) => rLeast_any _ s W (by omega) h)
    have H3 := Lib.hid (fun (W : World) (h : EdgesOf W.heap.size (.slice ao s.length ec) s W) => Greatest_any _ s W (by omega) h)
    have H4 := Lib.hid (fun (W : World) (h : EdgesOf W.heap.size (.slice ao s.length ec) s W) => rGreatest_any _ s W (by omega) h)
    have H5 := Lib.hid (fun W => AtLeast_any p W)
    have H6 := Lib.hid (fun W => rAtLeast_any p W)
    have hcl : (canon [(p, 1000000)]).length ≤ 1000000 := Nat.le_trans (canon_len _) (by simp)
    have H7 := Lib.hid (fun (W : World) (x y : Value) (h : EdgesOf W.heap.size x (canon [(p, 1000000)]) W) (h2 : EdgesOf W.heap.size y (canon [(p, 1000000)]) W) => Same_yes _ x y W hcl h h2)
    have H8 := Lib.hid (fun (W : World) (h : EdgesOf W.heap.size (.slice ao s.length ec) s W) => Upward_any _ s W (by omega) h)
    have H9 := Lib.hid (fun (W : World) (h : EdgesOf W.heap.size (.slice ao s.length ec) s W) => rUpward_any _ s W (by omega) h)
    obtain ⟨⟨lv, lb⟩, hl⟩ : ∃ x, leastV s = x := ⟨_, rfl⟩
    obtain ⟨⟨gv, gb⟩, hg⟩ : ∃ x, greatV s = x := ⟨_, rfl⟩
    rw [hl] at H1 H2
    rw [hg] at H3 H4
    simp only at H1 H2 H3 H4
    generalize upB (canon s) = ub at *
    generalize canon [(p, 1000000)] = cl at *
    clear hl hg hcl
    go_enter Tryz.func5, Tryz.ntmps5
    go_wp2_with fail
    (with_reducible refine (HA.out).mono ?_)
    rintro e w1 ⟨rfl, hb⟩
    replace HV := Lib.hid (HV.out.on hb)
    replace HB := Lib.hid (belT HB.out hb)
    clear hb
    go_wp2_with fail
    (with_reducible refine (H1.out _ HV.out).mono ?_)
    rintro e w2 ⟨rfl, hb⟩
    replace HV := Lib.hid (HV.out.on hb)
    replace HB := Lib.hid (belT HB.out hb)
    clear hb
    go_wp2_with fail
    (with_reducible refine (H2.out _ HV.out).mono ?_)
    rintro e w3 ⟨rfl, hb⟩
    replace HV := Lib.hid (HV.out.on hb)
    replace HB := Lib.hid (belT HB.out hb)
    clear hb
    go_wp2_with fail
    (with_reducible refine (H3.out _ HV.out).mono ?_)
    rintro e w4 ⟨rfl, hb⟩
    replace HV := Lib.hid (HV.out.on hb)
    replace HB := Lib.hid (belT HB.out hb)
    clear hb
    go_wp2_with fail
    (with_reducible refine (H4.out _ HV.out).mono ?_)
    rintro e w5 ⟨rfl, hb⟩
    replace HV := Lib.hid (HV.out.on hb)
    replace HB := Lib.hid (belT HB.out hb)
    clear hb
    go_wp2_with fail
    (with_reducible refine (H5.out _).mono ?_)
    rintro e w6 ⟨x5, rfl, hE, hb⟩
    replace HV := Lib.hid (HV.out.on hb)
    replace HB := Lib.hid (belT HB.out hb)
    have Hx5 := Lib.hid hE
    clear hE
    clear hb
    go_wp2_with fail
    (with_reducible refine (H6.out _).mono ?_)
    rintro e w7 ⟨x6, rfl, hE, hb⟩
    replace HV := Lib.hid (HV.out.on hb)
    replace Hx5 := Lib.hid (Hx5.out.on hb)
    replace HB := Lib.hid (belT HB.out hb)
    have Hx6 := Lib.hid hE
    clear hE
    clear hb
    go_wp2_with fail
    (with_reducible refine (H7.out _ _ _ Hx5.out Hx6.out).mono ?_)
    rintro e w8 ⟨rfl, hb⟩
    replace HV := Lib.hid (HV.out.on hb)
    replace Hx5 := Lib.hid (Hx5.out.on hb)
    replace Hx6 := Lib.hid (Hx6.out.on hb)
    replace HB := Lib.hid (belT HB.out hb)
    clear hb
    go_wp2_with fail
    (with_reducible refine (H8.out _ HV.out).mono ?_)
    rintro e w9 ⟨rfl, hb⟩
    replace HV := Lib.hid (HV.out.on hb)
    replace Hx5 := Lib.hid (Hx5.out.on hb)
    replace Hx6 := Lib.hid (Hx6.out.on hb)
    replace HB := Lib.hid (belT HB.out hb)
    clear hb
    go_wp2_with fail
    (with_reducible refine (H9.out _ HV.out).mono ?_)
    rintro e w10 ⟨rfl, hb⟩
    replace HV := Lib.hid (HV.out.on hb)
    replace Hx5 := Lib.hid (Hx5.out.on hb)
    replace Hx6 := Lib.hid (Hx6.out.on hb)
    replace HB := Lib.hid (belT HB.out hb)
    clear hb
    go_wp2_with fail
    go_ret
    exact ⟨rfl, HB.out⟩
end Go.Proofs.YtdhihdiifgcfdaaGreatDoor
