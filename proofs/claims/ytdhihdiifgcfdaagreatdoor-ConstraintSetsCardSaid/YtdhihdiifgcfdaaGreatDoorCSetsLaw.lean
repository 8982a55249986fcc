/- ConstraintSets returns true at every input. -/
import Derived.Test.YtdhihdiifgcfdaaGreatDoorCLawKit
import Derived.Test.YtdhihdiifgcfdaaGreatDoorCSets
import Derived.Test.YtdhihdiifgcfdaaGreatDoorCHas
namespace Go.Proofs.YtdhihdiifgcfdaaGreatDoor
set_option linter.unusedVariables false
set_option linter.unusedSimpArgs false
open Go Go.RowKit

theorem SetsOf.on {w w' : World} {v : Value} {l : List (List (Int × Int))} (h : SetsOf w.heap.size v l w) (hb : Below w.heap.size w w') : SetsOf w'.heap.size v l w' := (h.below hb (Nat.le_refl _)).mono hb.size
set_option maxRecDepth 100000 in
set_option maxHeartbeats 64000000 in
theorem ConstraintSets_any (v : Value) (l : List (List (Int × Int))) (p : Int) (w : World) (hm : EnvOk w) (hl : l.length ≤ 9223372036854775807) (hS : SetsOf w.heap.size v l w) :
    Calls Tryz.prog 10 #[v, .int .i64 p] w fun e w' => e = .returned (.bool true) ∧ Below w.heap.size w w' := by
  have HA := Lib.hid (cawake_any w hm)
  have HS := Lib.hid hS
  have HB : Hid (Below w.heap.size w w) := Lib.hid (Below.refl _ _)
  have HF := Lib.hid (fun (W : World) (h : SetsOf W.heap.size v l W) => few_any v l W hl h)
  obtain ⟨ao, ec, rfl, _⟩ := hS
  clear hm hl
  cases hfew : fewB l with
  | false =>
    rw [hfew] at HF
    clear hfew
    go_enter Tryz.func10, Tryz.ntmps10
    go_wp2_with fail
    (with_reducible refine (HA.out).mono ?_)
    rintro e w1 ⟨rfl, hb⟩
    replace HS := Lib.hid (HS.out.on hb)
    replace HB := Lib.hid (belT HB.out hb)
    clear hb
    go_wp2_with fail
    (with_reducible refine (HF.out _ HS.out).mono ?_)
    rintro e w2 ⟨rfl, hb⟩
    replace HS := Lib.hid (HS.out.on hb)
    replace HB := Lib.hid (belT HB.out hb)
    clear hb
    go_wp2_with fail
    go_ret
    exact ⟨rfl, HB.out⟩
  | true =>
    rw [hfew] at HF
    obtain ⟨hall, h6⟩ := fewB_yes hfew
    have hul := union_len l 30 hall
    have hil := inter_len l 30 hall
    have hml : l.length * 30 ≤ 180 := by omega
    have HL := Lib.hid hall
    have H1 := Lib.hid (fun (W : World) (h : SetsOf W.heap.size (.slice ao l.length ec) l W) => Union_any _ l W (by omega) (fun s hs => by have := HL.out s hs; omega) h)
    have H2 := Lib.hid (fun (W : World) (h : SetsOf W.heap.size (.slice ao l.length ec) l W) => rUnion_any _ l W (by omega) (fun s hs => by have := HL.out s hs; omega) h)
    have H3 := Lib.hid (fun (W : World) (x y : Value) (h : EdgesOf W.heap.size x (unionS l) W) (h2 : EdgesOf W.heap.size y (unionS l) W) => Same_yes _ x y W (by omega) h h2)
    have H4 := Lib.hid (fun (W : World) (h : SetsOf W.heap.size (.slice ao l.length ec) l W) => Intersect_any _ l W (by omega) (fun s hs => by have := HL.out s hs; omega) h)
    have H5 := Lib.hid (fun (W : World) (h : SetsOf W.heap.size (.slice ao l.length ec) l W) => rIntersect_any _ l W (by omega) (fun s hs => by have := HL.out s hs; omega) h)
    have H6 := Lib.hid (fun (W : World) (x y : Value) (h : EdgesOf W.heap.size x (interS l) W) (h2 : EdgesOf W.heap.size y (interS l) W) => Same_yes _ x y W (by omega) h h2)
    generalize unionS l = us at *
    generalize interS l = is_ at *
    clear hfew hall hul hil hml
    go_enter Tryz.func10, Tryz.ntmps10
    go_wp2_with fail
    (with_reducible refine (HA.out).mono ?_)
    rintro e w1 ⟨rfl, hb⟩
    replace HS := Lib.hid (HS.out.on hb)
    replace HB := Lib.hid (belT HB.out hb)
    clear hb
    go_wp2_with fail
    (with_reducible refine (HF.out _ HS.out).mono ?_)
    rintro e w2 ⟨rfl, hb⟩
    replace HS := Lib.hid (HS.out.on hb)
    replace HB := Lib.hid (belT HB.out hb)
    clear hb
    go_wp2_with fail
    (with_reducible refine (H1.out _ HS.out).mono ?_)
    rintro e w3 ⟨x1, rfl, hE, hb⟩
    replace HS := Lib.hid (HS.out.on hb)
    replace HB := Lib.hid (belT HB.out hb)
    have Hx1 := Lib.hid hE
    clear hE
    clear hb
    go_wp2_with fail
    (with_reducible refine (H2.out _ HS.out).mono ?_)
    rintro e w4 ⟨x2, rfl, hE, hb⟩
    replace HS := Lib.hid (HS.out.on hb)
    replace Hx1 := Lib.hid (Hx1.out.on hb)
    replace HB := Lib.hid (belT HB.out hb)
    have Hx2 := Lib.hid hE
    clear hE
    clear hb
    go_wp2_with fail
    (with_reducible refine (H3.out _ _ _ Hx1.out Hx2.out).mono ?_)
    rintro e w5 ⟨rfl, hb⟩
    replace HS := Lib.hid (HS.out.on hb)
    replace Hx1 := Lib.hid (Hx1.out.on hb)
    replace Hx2 := Lib.hid (Hx2.out.on hb)
    replace HB := Lib.hid (belT HB.out hb)
    clear hb
    go_wp2_with fail
    (with_reducible refine (H4.out _ HS.out).mono ?_)
    rintro e w6 ⟨x3, rfl, hE, hb⟩
    replace HS := Lib.hid (HS.out.on hb)
    replace HB := Lib.hid (belT HB.out hb)
    have Hx3 := Lib.hid hE
    clear hE
    clear hb
    go_wp2_with fail
    (with_reducible refine (H5.out _ HS.out).mono ?_)
    rintro e w7 ⟨x4, rfl, hE, hb⟩
    replace HS := Lib.hid (HS.out.on hb)
    replace Hx3 := Lib.hid (Hx3.out.on hb)
    replace HB := Lib.hid (belT HB.out hb)
    have Hx4 := Lib.hid hE
    clear hE
    clear hb
    go_wp2_with fail
    (with_reducible refine (H6.out _ _ _ Hx3.out Hx4.out).mono ?_)
    rintro e w8 ⟨rfl, hb⟩
    replace HS := Lib.hid (HS.out.on hb)
    replace Hx3 := Lib.hid (Hx3.out.on hb)
    replace Hx4 := Lib.hid (Hx4.out.on hb)
    replace HB := Lib.hid (belT HB.out hb)
    clear hb
    go_wp2_with fail
    clear H1 H2 H3 H4 H5 H6 HF HA
    obtain ⟨wx, hwx⟩ : ∃ W, W = w8 := ⟨_, rfl⟩
    rw [← hwx] at HS HB ⊢
    clear hwx
    go_loopw [29] (fun i wr => ∃ k : Nat, k ≤ l.length ∧ i = .int .i64 k ∧ Hid (Below wx.heap.size wx wr)) (fun i _ => l.length - (intOf i).toNat)
    case atStart => exact ⟨0, Nat.zero_le _, rfl, Lib.hid (Below.refl _ _)⟩
    case round =>
      obtain ⟨k, hk, rfl, HBr⟩ := hrel
      replace HS := Lib.hid (HS.out.on HBr.out)
      by_cases hlt : k < l.length
      · obtain ⟨j, hj⟩ : ∃ j, j = (k + 1) % l.length := ⟨_, rfl⟩
        have hjl : j < l.length := by rw [hj]; exact Nat.mod_lt _ (by omega)
        have hji : ((k : Int) + 1) % (l.length : Int) = (j : Int) := by rw [hj]; norm_cast
        obtain ⟨ao', ec', hv, hSS⟩ := HS.out
        cases hv
        obtain ⟨b5, off, r1, rfl, hb5, hc1, hE1⟩ := hSS k l[k] (by simp [hlt])
        obtain ⟨b6, off6, r2, h66, hb6, hc2, hE2⟩ := hSS j l[j] (by simp [hjl])
        cases h66
        have hx := HL.out l[k] (List.getElem_mem hlt)
        have hy := HL.out l[j] (List.getElem_mem hjl)
        have HE1 := Lib.hid hE1
        have HE2 := Lib.hid hE2
        generalize l[k] = a at *
        generalize l[j] = b at *
        clear hSS hE1 hE2 hj
        have hca := canon_len a
        have hla := complS_len a
        have hlb := complS_len b
        have hlm := inter_len [a, complS b] 61 (fun s hs => by
          rcases List.mem_cons.1 hs with rfl | hs
          · omega
          · rcases List.mem_singleton.1 hs with rfl; omega)
        simp only [List.length_cons, List.length_nil] at hlm
        have K1 := Lib.hid (fun (W : World) (h : EdgesOf W.heap.size r1 a W) => Canonical_any r1 a W (by omega) h)
        have K2 := Lib.hid (fun (W : World) (h : EdgesOf W.heap.size r1 a W) => rCanonical_any r1 a W (by omega) h)
        have K3 := Lib.hid (fun (W : World) (x y : Value) (h : EdgesOf W.heap.size x (canon a) W) (h2 : EdgesOf W.heap.size y (canon a) W) => Same_yes _ x y W (by omega) h h2)
        have K4 := Lib.hid (fun (W : World) (h : EdgesOf W.heap.size r1 a W) => Complement_any r1 a W (by omega) h)
        have K5 := Lib.hid (fun (W : World) (h : EdgesOf W.heap.size r1 a W) => rComplement_any r1 a W (by omega) h)
        have K6 := Lib.hid (fun (W : World) (x y : Value) (h : EdgesOf W.heap.size x (complS a) W) (h2 : EdgesOf W.heap.size y (complS a) W) => Same_yes _ x y W (by omega) h h2)
        have K7 := Lib.hid (fun (W : World) (h : EdgesOf W.heap.size r1 a W) (h2 : EdgesOf W.heap.size r2 b W) => Minus_any r1 r2 a b W (by omega) (by omega) h h2)
        have K8 := Lib.hid (fun (W : World) (h : EdgesOf W.heap.size r1 a W) (h2 : EdgesOf W.heap.size r2 b W) => rMinus_any r1 r2 a b W (by omega) (by omega) h h2)
        have K9 := Lib.hid (fun (W : World) (x y : Value) (h : EdgesOf W.heap.size x (minusS a b) W) (h2 : EdgesOf W.heap.size y (minusS a b) W) => Same_yes _ x y W (by unfold minusS; omega) h h2)
        have K10 := Lib.hid (fun (W : World) (h : EdgesOf W.heap.size r1 a W) (h2 : EdgesOf W.heap.size r2 b W) => Subset_any r1 r2 a b W (by omega) (by omega) h h2)
        have K11 := Lib.hid (fun (W : World) (h : EdgesOf W.heap.size r1 a W) (h2 : EdgesOf W.heap.size r2 b W) => rSubset_any r1 r2 a b W (by omega) (by omega) h h2)
        have K12 := Lib.hid (fun (W : World) (h : EdgesOf W.heap.size r1 a W) => Has_any r1 a p W (by omega) h)
        have K13 := Lib.hid (fun (W : World) (h : EdgesOf W.heap.size r1 a W) => rHas_any r1 a p W (by omega) h)
        generalize subB a b = sb at *
        generalize hasB a p = hp at *
        generalize minusS a b = mb at *
        generalize complS a = ca at *
        generalize canon a = na at *
        obtain ⟨ra, rc, rfl, _⟩ := HE1.out
        obtain ⟨sa, sc, rfl, _⟩ := HE2.out
        clear hca hla hlb hlm
        have HBq : Hid (Below wr.heap.size wr wr) := Lib.hid (Below.refl _ _)
        go_wp2_with fail
        (with_reducible refine (K1.out _ HE1.out).mono ?_)
        rintro e w21 ⟨y1, rfl, hE, hb⟩
        replace HE1 := Lib.hid (HE1.out.on hb)
        replace HE2 := Lib.hid (HE2.out.on hb)
        replace HBq := Lib.hid (belT HBq.out hb)
        have Hy1 := Lib.hid hE
        clear hE
        clear hb
        go_wp2_with fail
        (with_reducible refine (K2.out _ HE1.out).mono ?_)
        rintro e w22 ⟨y2, rfl, hE, hb⟩
        replace HE1 := Lib.hid (HE1.out.on hb)
        replace HE2 := Lib.hid (HE2.out.on hb)
        replace Hy1 := Lib.hid (Hy1.out.on hb)
        replace HBq := Lib.hid (belT HBq.out hb)
        have Hy2 := Lib.hid hE
        clear hE
        clear hb
        go_wp2_with fail
        (with_reducible refine (K3.out _ _ _ Hy1.out Hy2.out).mono ?_)
        rintro e w23 ⟨rfl, hb⟩
        replace HE1 := Lib.hid (HE1.out.on hb)
        replace HE2 := Lib.hid (HE2.out.on hb)
        replace Hy1 := Lib.hid (Hy1.out.on hb)
        replace Hy2 := Lib.hid (Hy2.out.on hb)
        replace HBq := Lib.hid (belT HBq.out hb)
        clear hb
        go_wp2_with fail
        (with_reducible refine (K4.out _ HE1.out).mono ?_)
        rintro e w24 ⟨y3, rfl, hE, hb⟩
        replace HE1 := Lib.hid (HE1.out.on hb)
        replace HE2 := Lib.hid (HE2.out.on hb)
        replace HBq := Lib.hid (belT HBq.out hb)
        have Hy3 := Lib.hid hE
        clear hE
        clear hb
        go_wp2_with fail
        (with_reducible refine (K5.out _ HE1.out).mono ?_)
        rintro e w25 ⟨y4, rfl, hE, hb⟩
        replace HE1 := Lib.hid (HE1.out.on hb)
        replace HE2 := Lib.hid (HE2.out.on hb)
        replace Hy3 := Lib.hid (Hy3.out.on hb)
        replace HBq := Lib.hid (belT HBq.out hb)
        have Hy4 := Lib.hid hE
        clear hE
        clear hb
        go_wp2_with fail
        (with_reducible refine (K6.out _ _ _ Hy3.out Hy4.out).mono ?_)
        rintro e w26 ⟨rfl, hb⟩
        replace HE1 := Lib.hid (HE1.out.on hb)
        replace HE2 := Lib.hid (HE2.out.on hb)
        replace Hy3 := Lib.hid (Hy3.out.on hb)
        replace Hy4 := Lib.hid (Hy4.out.on hb)
        replace HBq := Lib.hid (belT HBq.out hb)
        clear hb
        go_wp2_with fail
        (with_reducible refine (K7.out _ HE1.out HE2.out).mono ?_)
        rintro e w27 ⟨y5, rfl, hE, hb⟩
        replace HE1 := Lib.hid (HE1.out.on hb)
        replace HE2 := Lib.hid (HE2.out.on hb)
        replace HBq := Lib.hid (belT HBq.out hb)
        have Hy5 := Lib.hid hE
        clear hE
        clear hb
        go_wp2_with fail
        (with_reducible refine (K8.out _ HE1.out HE2.out).mono ?_)
        rintro e w28 ⟨y6, rfl, hE, hb⟩
        replace HE1 := Lib.hid (HE1.out.on hb)
        replace HE2 := Lib.hid (HE2.out.on hb)
        replace Hy5 := Lib.hid (Hy5.out.on hb)
        replace HBq := Lib.hid (belT HBq.out hb)
        have Hy6 := Lib.hid hE
        clear hE
        clear hb
        go_wp2_with fail
        (with_reducible refine (K9.out _ _ _ Hy5.out Hy6.out).mono ?_)
        rintro e w29 ⟨rfl, hb⟩
        replace HE1 := Lib.hid (HE1.out.on hb)
        replace HE2 := Lib.hid (HE2.out.on hb)
        replace Hy5 := Lib.hid (Hy5.out.on hb)
        replace Hy6 := Lib.hid (Hy6.out.on hb)
        replace HBq := Lib.hid (belT HBq.out hb)
        clear hb
        go_wp2_with fail
        (with_reducible refine (K10.out _ HE1.out HE2.out).mono ?_)
        rintro e w30 ⟨rfl, hb⟩
        replace HE1 := Lib.hid (HE1.out.on hb)
        replace HE2 := Lib.hid (HE2.out.on hb)
        replace HBq := Lib.hid (belT HBq.out hb)
        clear hb
        go_wp2_with fail
        (with_reducible refine (K11.out _ HE1.out HE2.out).mono ?_)
        rintro e w31 ⟨rfl, hb⟩
        replace HE1 := Lib.hid (HE1.out.on hb)
        replace HE2 := Lib.hid (HE2.out.on hb)
        replace HBq := Lib.hid (belT HBq.out hb)
        clear hb
        go_wp2_with fail
        (with_reducible refine (K12.out _ HE1.out).mono ?_)
        rintro e w32 ⟨rfl, hb⟩
        replace HE1 := Lib.hid (HE1.out.on hb)
        replace HE2 := Lib.hid (HE2.out.on hb)
        replace HBq := Lib.hid (belT HBq.out hb)
        clear hb
        go_wp2_with fail
        (with_reducible refine (K13.out _ HE1.out).mono ?_)
        rintro e w33 ⟨rfl, hb⟩
        replace HE1 := Lib.hid (HE1.out.on hb)
        replace HE2 := Lib.hid (HE2.out.on hb)
        replace HBq := Lib.hid (belT HBq.out hb)
        clear hb
        go_wp2_with fail
        go_roundw
        case rel => exact ⟨k + 1, by omega, by go_num, Lib.hid (belT HBr.out HBq.out)⟩
        case measure => simp [intOf]; omega
      · replace HB := Lib.hid (belT HB.out HBr.out)
        go_wp2_with fail
        go_ret
        exact ⟨rfl, HB.out⟩
end Go.Proofs.YtdhihdiifgcfdaaGreatDoor
