/- Contract of the constraint's Has. ConstraintSets returns true at every input. ConstraintMembers returns true at every input. -/
import Derived.Test.YtdhihdiifgcfdaaGreatDoorCSpan
import Derived.Test.YtdhihdiifgcfdaaGreatDoorCPlainComb
import Derived.Test.YtdhihdiifgcfdaaGreatDoorCLawKit
import Derived.Test.YtdhihdiifgcfdaaGreatDoorCSets
namespace Go.Proofs.YtdhihdiifgcfdaaGreatDoor
set_option linter.unusedVariables false
set_option linter.unusedSimpArgs false
open Go Go.RowKit

/-- a place is in a span. -/
def inB (p : Int) (x : Int × Int) : Bool := decide (x.1 ≤ p) && decide (p < x.2)
theorem hasB_eq (s : List (Int × Int)) (p : Int) : hasB s p = ((decide (0 ≤ p) && decide (p < 1000000)) && s.any (inB p)) := rfl
set_option maxRecDepth 100000 in
theorem inCl_any (pb : Nat) (p a b : Int) (W : World) (hc : W.cell? ⟨pb, 0, none⟩ = some (intC p)) :
    Calls Tryz.prog 63 #[.agg #[intC a, intC b], .pointer (some ⟨pb, 0, none⟩)] W fun e w' => e = .returned (.bool (inB p (a, b))) ∧ Below W.heap.size W w' := by
  have hlt : pb < W.heap.size := World.block_lt_of_cell? _ _ hc
  have hne : pb ≠ W.heap.size := by omega
  by_cases h1 : a ≤ p
  · by_cases h2 : p < b
    · have HE : Hid (inB p (a, b) = true) := Lib.hid (by simp [inB, h1, h2])
      rw [HE.out]
      go_enter Tryz.func63, Tryz.ntmps63
      go_wp2
      go_ret
      exact ⟨rfl, (by repeat (first | exact Below.refl _ _ | refine Below.drew ?_ | refine Below.alloc ?_ (by simp <;> omega) _ | refine Below.setCell ?_ (by simp <;> omega) _))⟩
    · have HE : Hid (inB p (a, b) = false) := Lib.hid (by simp [inB, h1, h2])
      rw [HE.out]
      go_enter Tryz.func63, Tryz.ntmps63
      go_wp2
      go_ret
      exact ⟨rfl, (by repeat (first | exact Below.refl _ _ | refine Below.drew ?_ | refine Below.alloc ?_ (by simp <;> omega) _ | refine Below.setCell ?_ (by simp <;> omega) _))⟩
  · have HE : Hid (inB p (a, b) = false) := Lib.hid (by simp [inB, h1])
    rw [HE.out]
    go_enter Tryz.func63, Tryz.ntmps63
    go_wp2
    go_ret
    exact ⟨rfl, (by repeat (first | exact Below.refl _ _ | refine Below.drew ?_ | refine Below.alloc ?_ (by simp <;> omega) _ | refine Below.setCell ?_ (by simp <;> omega) _))⟩
set_option maxRecDepth 100000 in
theorem Has_any (v : Value) (s : List (Int × Int)) (p : Int) (w : World) (hs : s.length ≤ 1000000000) (hE : EdgesOf w.heap.size v s w) :
    Calls Tryz.prog 31 #[v, .int .i64 p] w fun e w' => e = .returned (.bool (hasB s p)) ∧ Below w.heap.size w w' := by
  have hb0 : Below w.heap.size w (w.alloc (.cells #[intC p] 3)) := (Below.refl _ _).alloc (Nat.le_refl _) _
  have hcall := has_edge 63 #[.pointer (some ⟨w.heap.size, 0, none⟩)] (enters_of Tryz.func63 (by kernel_rfl) rfl) (inB p) v s (w.alloc (.cells #[intC p] 3)) hs
    ((hE.below hb0 (Nat.le_refl _)).mono (by simp)) (fun W x _ hW => (inCl_any w.heap.size p x.1 x.2 W (by
      rw [hW.cell (p := ⟨w.heap.size, 0, none⟩) (by simp)]
      simp [go_sem])).mono fun e w' h => ⟨h.1, hW.trans (h.2.mono hW.size)⟩)
  by_cases h0 : 0 ≤ p
  · by_cases h1 : p < 1000000
    · have he : hasB s p = s.any (inB p) := by rw [hasB_eq]; simp [h0, h1]
      rw [he]
      generalize s.any (inB p) = q at *
      have HC := Lib.hid hcall
      clear hcall he
      obtain ⟨ao, ec, rfl, _⟩ := hE
      go_enter Tryz.func31, Tryz.ntmps31
      go_wp2_with ((with_reducible refine HC.out.mono ?_); rintro e w' ⟨rfl, hb⟩)
      go_ret
      exact ⟨rfl, hb0.trans (hb.mono (by simp))⟩
    · have he : hasB s p = false := by rw [hasB_eq]; simp [h1]
      rw [he]
      clear hcall he
      go_enter Tryz.func31, Tryz.ntmps31
      go_wp2
      go_ret
      exact ⟨rfl, hb0⟩
  · have he : hasB s p = false := by rw [hasB_eq]; simp [h0]
    rw [he]
    clear hcall he
    go_enter Tryz.func31, Tryz.ntmps31
    go_wp2
    go_ret
    exact ⟨rfl, hb0⟩
end Go.Proofs.YtdhihdiifgcfdaaGreatDoor

namespace Go.Proofs.YtdhihdiifgcfdaaGreatDoor
set_option linter.unusedVariables false
set_option linter.unusedSimpArgs false
open Go Go.RowKit

theorem SetsOf.on {w w' : World} {v : Value} {l : List (List (Int × Int))} (h : SetsOf w.heap.size v l w) (hb : Below w.heap.size w w') : SetsOf w'.heap.size v l w' := (h.below hb (Nat.le_refl _)).mono hb.size
set_option maxRecDepth 100000 in
set_option maxHeartbeats 64000000 in
theorem ConstraintSets_any (v : Value) (l : List (List (Int × Int))) (p : Int) (w : World) (hm : EnvOk w) (hl : l.length ≤ 9223372036854775807) (hS : SetsOf w.heap.size v l w) :
    Calls Tryz.prog 10 #[v, .int .i64 p] w fun e w' => e = .returned (.bool true) ∧ Below w.heap.size w w' := by
  have HA := Lib.hid (cawake_any w hm)
  have HS := Lib.hid hS
  have HB : Hid (Below w.heap.size w w) := Lib.hid (Below.refl _ _)
  have HF := Lib.hid (fun (W : World) (h : SetsOf W.heap.size v l W) => few_any v l W hl h)
  obtain ⟨ao, ec, rfl, _⟩ := hS
  clear hm hl
  cases hfew : fewB l with
  | false =>
    rw [hfew] at HF
    clear hfew
    go_enter Tryz.func10, Tryz.ntmps10
    go_wp2_with fail
    (with_reducible refine (HA.out).mono ?_)
    rintro e w1 ⟨rfl, hb⟩
    replace HS := Lib.hid (HS.out.on hb)
    replace HB := Lib.hid (belT HB.out hb)
    clear hb
    go_wp2_with fail
    (with_reducible refine (HF.out _ HS.out).mono ?_)
    rintro e w2 ⟨rfl, hb⟩
    replace HS := Lib.hid (HS.out.on hb)
    replace HB := Lib.hid (belT HB.out hb)
    clear hb
    go_wp2_with fail
    go_ret
    exact ⟨rfl, HB.out⟩
  | true =>
    rw [hfew] at HF
    obtain ⟨hall, h6⟩ := fewB_yes hfew
    have hul := union_len l 30 hall
    have hil := inter_len l 30 hall
    have hml : l.length * 30 ≤ 180 := by omega
    have HL := Lib.hid hall
    have H1 := Lib.hid (fun (W : World) (h : SetsOf W.heap.size (.slice ao l.length ec) l W) => Union_any _ l W (by omega) (fun s hs => by have := HL.out s hs; omega) h)
    have H2 := Lib.hid (fun (W : World) (h : SetsOf W.heap.size (.slice ao l.length ec) l W) => rUnion_any _ l W (by omega) (fun s hs => by have := HL.out s hs; omega) h)
    have H3 := Lib.hid (fun (W : World) (x y : Value) (h : EdgesOf W.heap.size x (unionS l) W) (h2 : EdgesOf W.heap.size y (unionS l) W) => Same_yes _ x y W (by omega) h h2)
    have H4 := Lib.hid (fun (W : World) (h : SetsOf W.heap.size (.slice ao l.length ec) l W) => Intersect_any _ l W (by omega) (fun s hs => by have := HL.out s hs; omega) h)
    have H5 := Lib.hid (fun (W : World) (h : SetsOf W.heap.size (.slice ao l.length ec) l W) => rIntersect_any _ l W (by omega) (fun s hs => by have := HL.out s hs; omega) h)
    have H6 := Lib.hid (fun (W : World) (x y : Value) (h : EdgesOf W.heap.size x (interS l) W) (h2 : EdgesOf W.heap.size y (interS l) W) => Same_yes _ x y W (by omega) h h2)
    generalize unionS l = us at *
    generalize interS l = is_ at *
    clear hfew hall hul hil hml
    go_enter Tryz.func10, Tryz.ntmps10
    go_wp2_with fail
    (with_reducible refine (HA.out).mono ?_)
    rintro e w1 ⟨rfl, hb⟩
    replace HS := Lib.hid (HS.out.on hb)
    replace HB := Lib.hid (belT HB.out hb)
    clear hb
    go_wp2_with fail
    (with_reducible refine (HF.out _ HS.out).mono ?_)
    rintro e w2 ⟨rfl, hb⟩
    replace HS := Lib.hid (HS.out.on hb)
    replace HB := Lib.hid (belT HB.out hb)
    clear hb
    go_wp2_with fail
    (with_reducible refine (H1.out _ HS.out).mono ?_)
    rintro e w3 ⟨x1, rfl, hE, hb⟩
    replace HS := Lib.hid (HS.out.on hb)
    replace HB := Lib.hid (belT HB.out hb)
    have Hx1 := Lib.hid hE
    clear hE
    clear hb
    go_wp2_with fail
    (with_reducible refine (H2.out _ HS.out).mono ?_)
    rintro e w4 ⟨x2, rfl, hE, hb⟩
    replace HS := Lib.hid (HS.out.on hb)
    replace Hx1 := Lib.hid (Hx1.out.on hb)
    replace HB := Lib.hid (belT HB.out hb)
    have Hx2 := Lib.hid hE
    clear hE
    clear hb
    go_wp2_with fail
    (with_reducible refine (H3.out _ _ _ Hx1.out Hx2.out).mono ?_)
    rintro e w5 ⟨rfl, hb⟩
    replace HS := Lib.hid (HS.out.on hb)
    replace Hx1 := Lib.hid (Hx1.out.on hb)
    replace Hx2 := Lib.hid (Hx2.out.on hb)
    replace HB := Lib.hid (belT HB.out hb)
    clear hb
    go_wp2_with fail
    (with_reducible refine (H4.out _ HS.out).mono ?_)
    rintro e w6 ⟨x3, rfl, hE, hb⟩
    replace HS := Lib.hid (HS.out.on hb)
    replace HB := Lib.hid (belT HB.out hb)
    have Hx3 := Lib.hid hE
    clear hE
    clear hb
    go_wp2_with fail
    (with_reducible refine (H5.out _ HS.out).mono ?_)
    rintro e w7 ⟨x4, rfl, hE, hb⟩
    replace HS := Lib.hid (HS.out.on hb)
    replace Hx3 := Lib.hid (Hx3.out.on hb)
    replace HB := Lib.hid (belT HB.out hb)
    have Hx4 := Lib.hid hE
    clear hE
    clear hb
    go_wp2_with fail
    (with_reducible refine (H6.out _ _ _ Hx3.out Hx4.out).mono ?_)
    rintro e w8 ⟨rfl, hb⟩
    replace HS := Lib.hid (HS.out.on hb)
    replace Hx3 := Lib.hid (Hx3.out.on hb)
    replace Hx4 := Lib.hid (Hx4.out.on hb)
    replace HB := Lib.hid (belT HB.out hb)
    clear hb
    go_wp2_with fail
    clear H1 H2 H3 H4 H5 H6 HF HA
    obtain ⟨wx, hwx⟩ : ∃ W, W = w8 := ⟨_, rfl⟩
    rw [← hwx] at HS HB ⊢
    clear hwx
    go_loopw [29] (fun i wr => ∃ k : Nat, k ≤ l.length ∧ i = .int .i64 k ∧ Hid (Below wx.heap.size wx wr)) (fun i _ => l.length - (intOf i).toNat)
    case atStart => exact ⟨0, Nat.zero_le _, rfl, Lib.hid (Below.refl _ _)⟩
    case round =>
      obtain ⟨k, hk, rfl, HBr⟩ := hrel
      replace HS := Lib.hid (HS.out.on HBr.out)
      by_cases hlt : k < l.length
      · obtain ⟨j, hj⟩ : ∃ j, j = (k + 1) % l.length := ⟨_, rfl⟩
        have hjl : j < l.length := by rw [hj]; exact Nat.mod_lt _ (by omega)
        have hji : ((k : Int) + 1) % (l.length : Int) = (j : Int) := by rw [hj]; norm_cast
        obtain ⟨ao', ec', hv, hSS⟩ := HS.out
        cases hv
        obtain ⟨b5, off, r1, rfl, hb5, hc1, hE1⟩ := hSS k l[k] (by simp [hlt])
        obtain ⟨b6, off6, r2, h66, hb6, hc2, hE2⟩ := hSS j l[j] (by simp [hjl])
        cases h66
        have hx := HL.out l[k] (List.getElem_mem hlt)
        have hy := HL.out l[j] (List.getElem_mem hjl)
        have HE1 := Lib.hid hE1
        have HE2 := Lib.hid hE2
        generalize l[k] = a at *
        generalize l[j] = b at *
        clear hSS hE1 hE2 hj
        have hca := canon_len a
        have hla := complS_len a
        have hlb := complS_len b
        have hlm := inter_len [a, complS b] 61 (fun s hs => by
          rcases List.mem_cons.1 hs with rfl | hs
          · omega
          · rcases List.mem_singleton.1 hs with rfl; omega)
        simp only [List.length_cons, List.length_nil] at hlm
        have K1 := Lib.hid (fun (W : World) (h : EdgesOf W.heap.size r1 a W) => Canonical_any r1 a W (by omega) h)
        have K2 := Lib.hid (fun (W : World) (h : EdgesOf W.heap.size r1 a W) => rCanonical_any r1 a W (by omega) h)
        have K3 := Lib.hid (fun (W : World) (x y : Value) (h : EdgesOf W.heap.size x (canon a) W) (h2 : EdgesOf W.heap.size y (canon a) W) => Same_yes _ x y W (by omega) h h2)
        have K4 := Lib.hid (fun (W : World) (h : EdgesOf W.heap.size r1 a W) => Complement_any r1 a W (by omega) h)
        have K5 := Lib.hid (fun (W : World) (h : EdgesOf W.heap.size r1 a W) => rComplement_any r1 a W (by omega) h)
        have K6 := Lib.hid (fun (W : World) (x y : Value) (h : EdgesOf W.heap.size x (complS a) W) (h2 : EdgesOf W.heap.size y (complS a) W) => Same_yes _ x y W (by omega) h h2)
        have K7 := Lib.hid (fun (W : World) (h : EdgesOf W.heap.size r1 a W) (h2 : EdgesOf W.heap.size r2 b W) => Minus_any r1 r2 a b W (by omega) (by omega) h h2)
        have K8 := Lib.hid (fun (W : World) (h : EdgesOf W.heap.size r1 a W) (h2 : EdgesOf W.heap.size r2 b W) => rMinus_any r1 r2 a b W (by omega) (by omega) h h2)
        have K9 := Lib.hid (fun (W : World) (x y : Value) (h : EdgesOf W.heap.size x (minusS a b) W) (h2 : EdgesOf W.heap.size y (minusS a b) W) => Same_yes _ x y W (by unfold minusS; omega) h h2)
        have K10 := Lib.hid (fun (W : World) (h : EdgesOf W.heap.size r1 a W) (h2 : EdgesOf W.heap.size r2 b W) => Subset_any r1 r2 a b W (by omega) (by omega) h h2)
        have K11 := Lib.hid (fun (W : World) (h : EdgesOf W.heap.size r1 a W) (h2 : EdgesOf W.heap.size r2 b W) => rSubset_any r1 r2 a b W (by omega) (by omega) h h2)
        have K12 := Lib.hid (fun (W : World) (h : EdgesOf W.heap.size r1 a W) => Has_any r1 a p W (by omega) h)
        have K13 := Lib.hid (fun (W : World) (h : EdgesOf W.heap.size r1 a W) => rHas_any r1 a p W (by omega) h)
        generalize subB a b = sb at *
        generalize hasB a p = hp at *
        generalize minusS a b = mb at *
        generalize complS a = ca at *
        generalize canon a = na at *
        obtain ⟨ra, rc, rfl, _⟩ := HE1.out
        obtain ⟨sa, sc, rfl, _⟩ := HE2.out
        clear hca hla hlb hlm
        have HBq : Hid (Below wr.heap.size wr wr) := Lib.hid (Below.refl _ _)
        go_wp2_with fail
        (with_reducible refine (K1.out _ HE1.out).mono ?_)
        rintro e w21 ⟨y1, rfl, hE, hb⟩
        replace HE1 := Lib.hid (HE1.out.on hb)
        replace HE2 := Lib.hid (HE2.out.on hb)
        replace HBq := Lib.hid (belT HBq.out hb)
        have Hy1 := Lib.hid hE
        clear hE
        clear hb
        go_wp2_with fail
        (with_reducible refine (K2.out _ HE1.out).mono ?_)
        rintro e w22 ⟨y2, rfl, hE, hb⟩
        replace HE1 := Lib.hid (HE1.out.on hb)
        replace HE2 := Lib.hid (HE2.out.on hb)
        replace Hy1 := Lib.hid (Hy1.out.on hb)
        replace HBq := Lib.hid (belT HBq.out hb)
        have Hy2 := Lib.hid hE
        clear hE
        clear hb
        go_wp2_with fail
        (with_reducible refine (K3.out _ _ _ Hy1.out Hy2.out).mono ?_)
        rintro e w23 ⟨rfl, hb⟩
        replace HE1 := Lib.hid (HE1.out.on hb)
        replace HE2 := Lib.hid (HE2.out.on hb)
        replace Hy1 := Lib.hid (Hy1.out.on hb)
        replace Hy2 := Lib.hid (Hy2.out.on hb)
        replace HBq := Lib.hid (belT HBq.out hb)
        clear hb
        go_wp2_with fail
        (with_reducible refine (K4.out _ HE1.out).mono ?_)
        rintro e w24 ⟨y3, rfl, hE, hb⟩
        replace HE1 := Lib.hid (HE1.out.on hb)
        replace HE2 := Lib.hid (HE2.out.on hb)
        replace HBq := Lib.hid (belT HBq.out hb)
        have Hy3 := Lib.hid hE
        clear hE
        clear hb
        go_wp2_with fail
        (with_reducible refine (K5.out _ HE1.out).mono ?_)
        rintro e w25 ⟨y4, rfl, hE, hb⟩
        replace HE1 := Lib.hid (HE1.out.on hb)
        replace HE2 := Lib.hid (HE2.out.on hb)
        replace Hy3 := Lib.hid (Hy3.out.on hb)
        replace HBq := Lib.hid (belT HBq.out hb)
        have Hy4 := Lib.hid hE
        clear hE
        clear hb
        go_wp2_with fail
        (with_reducible refine (K6.out _ _ _ Hy3.out Hy4.out).mono ?_)
        rintro e w26 ⟨rfl, hb⟩
        replace HE1 := Lib.hid (HE1.out.on hb)
        replace HE2 := Lib.hid (HE2.out.on hb)
        replace Hy3 := Lib.hid (Hy3.out.on hb)
        replace Hy4 := Lib.hid (Hy4.out.on hb)
        replace HBq := Lib.hid (belT HBq.out hb)
        clear hb
        go_wp2_with fail
        (with_reducible refine (K7.out _ HE1.out HE2.out).mono ?_)
        rintro e w27 ⟨y5, rfl, hE, hb⟩
        replace HE1 := Lib.hid (HE1.out.on hb)
        replace HE2 := Lib.hid (HE2.out.on hb)
        replace HBq := Lib.hid (belT HBq.out hb)
        have Hy5 := Lib.hid hE
        clear hE
        clear hb
        go_wp2_with fail
        (with_reducible refine (K8.out _ HE1.out HE2.out).mono ?_)
        rintro e w28 ⟨y6, rfl, hE, hb⟩
        replace HE1 := Lib.hid (HE1.out.on hb)
        replace HE2 := Lib.hid (HE2.out.on hb)
        replace Hy5 := Lib.hid (Hy5.out.on hb)
        replace HBq := Lib.hid (belT HBq.out hb)
        have Hy6 := Lib.hid hE
        clear hE
        clear hb
        go_wp2_with fail
        (with_reducible refine (K9.out _ _ _ Hy5.out Hy6.out).mono ?_)
        rintro e w29 ⟨rfl, hb⟩
        replace HE1 := Lib.hid (HE1.out.on hb)
        replace HE2 := Lib.hid (HE2.out.on hb)
        replace Hy5 := Lib.hid (Hy5.out.on hb)
        replace Hy6 := Lib.hid (Hy6.out.on hb)
        replace HBq := Lib.hid (belT HBq.out hb)
        clear hb
        go_wp2_with fail
        (with_reducible refine (K10.out _ HE1.out HE2.out).mono ?_)
        rintro e w30 ⟨rfl, hb⟩
        replace HE1 := Lib.hid (HE1.out.on hb)
        replace HE2 := Lib.hid (HE2.out.on hb)
        replace HBq := Lib.hid (belT HBq.out hb)
        clear hb
        go_wp2_with fail
        (with_reducible refine (K11.out _ HE1.out HE2.out).mono ?_)
        rintro e w31 ⟨rfl, hb⟩
        replace HE1 := Lib.hid (HE1.out.on hb)
        replace HE2 := Lib.hid (HE2.out.on hb)
        replace HBq := Lib.hid (belT HBq.out hb)
        clear hb
        go_wp2_with fail
        (with_reducible refine (K12.out _ HE1.out).mono ?_)
        rintro e w32 ⟨rfl, hb⟩
        replace HE1 := Lib.hid (HE1.out.on hb)
        replace HE2 := Lib.hid (HE2.out.on hb)
        replace HBq := Lib.hid (belT HBq.out hb)
        clear hb
        go_wp2_with fail
        (with_reducible refine (K13.out _ HE1.out).mono ?_)
        rintro e w33 ⟨rfl, hb⟩
        replace HE1 := Lib.hid (HE1.out.on hb)
        replace HE2 := Lib.hid (HE2.out.on hb)
        replace HBq := Lib.hid (belT HBq.out hb)
        clear hb
        go_wp2_with fail
        go_roundw
        case rel => exact ⟨k + 1, by omega, by go_num, Lib.hid (belT HBr.out HBq.out)⟩
        case measure => simp [intOf]; omega
      · replace HB := Lib.hid (belT HB.out HBr.out)
        go_wp2_with fail
        go_ret
        exact ⟨rfl, HB.out⟩
end Go.Proofs.YtdhihdiifgcfdaaGreatDoor

namespace Go.Proofs.YtdhihdiifgcfdaaGreatDoor
set_option linter.unusedVariables false
set_option linter.unusedSimpArgs false
open Go Go.RowKit

/-- a place is a place. -/
def okP (p : Int) : Bool := decide (0 ≤ p) && decide (p < 1000000)
theorem hasB_ok (s : List (Int × Int)) (p : Int) : hasB s p = (okP p && s.any (inB p)) := rfl
theorem any_snoc {s : List (Int × Int)} {j : Nat} (h : j < s.length) (p : Int) : (s.take (j + 1)).any (inB p) = ((s.take j).any (inB p) || inB p s[j]) := by
  rw [List.take_succ_eq_append_getElem h, List.any_append]
  simp
theorem cnt_snoc {l : List (List (Int × Int))} {k : Nat} (h : k < l.length) (p : Int) : cntIn (l.take (k + 1)) p = cntIn (l.take k) p + (if hasB l[k] p = true then 1 else 0) := by
  unfold cntIn
  rw [List.take_succ_eq_append_getElem h, List.countP_append]
  simp [List.countP_cons]
theorem cnt_le (l : List (List (Int × Int))) (p : Int) : cntIn l p ≤ l.length := List.countP_le_length
set_option maxRecDepth 100000 in
set_option maxHeartbeats 64000000 in
theorem ConstraintMembers_any (v : Value) (l : List (List (Int × Int))) (u : Value) (ps : List Int) (w : World) (hm : EnvOk w) (hl : l.length ≤ 9223372036854775807) (hS : SetsOf w.heap.size v l w) (hR : RowOf intC w.heap.size u ps w) :
    Calls Tryz.prog 9 #[v, u] w fun e w' => e = .returned (.bool true) ∧ Below w.heap.size w w' := by
  have HA := Lib.hid (cawake_any w hm)
  have HS := Lib.hid hS
  have HB : Hid (Below w.heap.size w w) := Lib.hid (Below.refl _ _)
  have HF := Lib.hid (fun (W : World) (h : SetsOf W.heap.size v l W) => few_any v l W hl h)
  have hRF : ∃ ro rc, u = .slice ro ps.length rc ∧ ∀ i x, ps[i]? = some x → ∃ b off, ro = some ⟨b, off, none⟩ ∧ b < w.heap.size ∧ w.cell? ⟨b, off + i, none⟩ = some (intC x) := by
    rcases hR with ⟨rfl, ro, rc, rfl⟩ | ⟨b, off, rc, rfl, hb, h⟩
    · exact ⟨ro, rc, rfl, fun i x hx => by simp at hx⟩
    · exact ⟨_, rc, rfl, fun i x hx => ⟨b, off, rfl, hb, h i x hx⟩⟩
  obtain ⟨ro, rc, rfl, hRC⟩ := hRF
  have HRC := Lib.hid hRC
  obtain ⟨ao, ec, rfl, _⟩ := hS
  clear hm hl hR hRC
  cases hfew : fewB l with
  | false =>
    rw [hfew] at HF
    clear hfew
    go_enter Tryz.func9, Tryz.ntmps9
    go_wp2_with fail
    (with_reducible refine (HA.out).mono ?_)
    rintro e w1 ⟨rfl, hb⟩
    replace HS := Lib.hid (HS.out.on hb)
    replace HB := Lib.hid (belT HB.out hb)
    clear hb
    go_wp2_with fail
    (with_reducible refine (HF.out _ HS.out).mono ?_)
    rintro e w2 ⟨rfl, hb⟩
    replace HB := Lib.hid (belT HB.out hb)
    clear hb
    go_wp2_with fail
    go_ret
    exact ⟨rfl, HB.out⟩
  | true =>
    rw [hfew] at HF
    by_cases h20 : 20 < ps.length
    · have h20i : (20 : Int) < (ps.length : Int) := by omega
      clear hfew
      go_enter Tryz.func9, Tryz.ntmps9
      go_wp2_with fail
      (with_reducible refine (HA.out).mono ?_)
      rintro e w1 ⟨rfl, hb⟩
      replace HS := Lib.hid (HS.out.on hb)
      replace HB := Lib.hid (belT HB.out hb)
      clear hb
      go_wp2_with fail
      (with_reducible refine (HF.out _ HS.out).mono ?_)
      rintro e w2 ⟨rfl, hb⟩
      replace HB := Lib.hid (belT HB.out hb)
      clear hb
      go_wp2_with fail
      go_ret
      exact ⟨rfl, HB.out⟩
    · have h20i : ¬ (20 : Int) < (ps.length : Int) := by omega
      have h20j : decide ((20 : Int) < (ps.length : Int)) = false := decide_eq_false h20i
      have hps : ps.length ≤ 20 := by omega
      obtain ⟨hall, h6⟩ := fewB_yes hfew
      have hul := union_len l 30 hall
      have hil := inter_len l 30 hall
      have hml : l.length * 30 ≤ 180 := by omega
      have HL := Lib.hid hall
      have H1 := Lib.hid (fun (W : World) (h : SetsOf W.heap.size (.slice ao l.length ec) l W) => Union_any _ l W (by omega) (fun s hs => by have := HL.out s hs; omega) h)
      have H2 := Lib.hid (fun (W : World) (h : SetsOf W.heap.size (.slice ao l.length ec) l W) => Intersect_any _ l W (by omega) (fun s hs => by have := HL.out s hs; omega) h)
      have H3 := Lib.hid (fun (W : World) (x : Value) (p : Int) (h : EdgesOf W.heap.size x (unionS l) W) => (Has_any x (unionS l) p W (by omega) h).mono fun e w' h => (show e = .returned (.bool (decide (0 < cntIn l p))) ∧ Below W.heap.size W w' from by rw [← has_union]; exact h))
      have H4 := Lib.hid (fun (W : World) (x : Value) (p : Int) (h : EdgesOf W.heap.size x (interS l) W) => (Has_any x (interS l) p W (by omega) h).mono fun e w' h => (show e = .returned (.bool (okP p && decide (cntIn l p = l.length))) ∧ Below W.heap.size W w' from by unfold okP; rw [← has_inter]; exact h))
      generalize unionS l = us at *
      generalize interS l = is_ at *
      clear hfew hall hul hil hml h20
      go_enter Tryz.func9, Tryz.ntmps9
      go_wp2_with fail
      (with_reducible refine (HA.out).mono ?_)
      rintro e w1 ⟨rfl, hb⟩
      replace HS := Lib.hid (HS.out.on hb)
      replace HB := Lib.hid (belT HB.out hb)
      clear hb
      go_wp2_with fail
      (with_reducible refine (HF.out _ HS.out).mono ?_)
      rintro e w2 ⟨rfl, hb⟩
      replace HS := Lib.hid (HS.out.on hb)
      replace HB := Lib.hid (belT HB.out hb)
      clear hb
      go_wp2_with fail
      (with_reducible refine (H1.out _ HS.out).mono ?_)
      rintro e w3 ⟨x1, rfl, hE, hb⟩
      replace HS := Lib.hid (HS.out.on hb)
      replace HB := Lib.hid (belT HB.out hb)
      have HU := Lib.hid hE
      obtain ⟨ua, uc, rfl, _⟩ := hE
      clear hb
      go_wp2_with fail
      (with_reducible refine (H2.out _ HS.out).mono ?_)
      rintro e w4 ⟨x2, rfl, hE, hb⟩
      replace HS := Lib.hid (HS.out.on hb)
      replace HB := Lib.hid (belT HB.out hb)
      replace HU := Lib.hid (HU.out.on hb)
      have HI := Lib.hid hE
      obtain ⟨ia, ic, rfl, _⟩ := hE
      clear hb HA HF H1 H2
      have hz := HB.out.size
      go_wp2_with fail
      go_loopw [32] (fun i wr => ∃ n : Nat, n ≤ ps.length ∧ i = .int .i64 n ∧ Hid (Below w4.heap.size w4 wr)) (fun i _ => ps.length - (intOf i).toNat)
      case atStart => exact ⟨0, Nat.zero_le _, rfl, Lib.hid (Below.refl _ _)⟩
      case round =>
        obtain ⟨n, hn, rfl, HB1⟩ := hrel
        replace HS := Lib.hid (HS.out.on HB1.out)
        replace HU := Lib.hid (HU.out.on HB1.out)
        replace HI := Lib.hid (HI.out.on HB1.out)
        by_cases hnl : n < ps.length
        · obtain ⟨pb, po, rfl, hpb, hpc⟩ := HRC.out n ps[n] (by simp [hnl])
          have hpc := (HB1.out.cell (p := ⟨pb, po + n, none⟩) (by show pb < w4.heap.size; omega)).trans ((HB.out.cell (p := ⟨pb, po + n, none⟩) hpb).trans hpc)
          generalize ps[n] = p at *
          have hv : (okP p = true ∧ 0 ≤ p ∧ p < 1000000) ∨ (okP p = false ∧ p < 0 ∧ ¬ 0 ≤ p) ∨ (okP p = false ∧ 0 ≤ p ∧ ¬ p < 1000000 ∧ decide (p < 1000000) = false) := by
            unfold okP
            simp only [Bool.and_eq_true, decide_eq_true_eq, Bool.and_eq_false_iff, decide_eq_false_iff_not]
            omega
          obtain ⟨wo, hwo⟩ : ∃ wo, wo = wr := ⟨_, rfl⟩
          rw [← hwo] at HS HU HI HB1 hpc ⊢
          clear hwo
          rcases hv with ⟨hv, v1, v2⟩ | ⟨hv, v1, v2⟩ | ⟨hv, v1, v2, v3⟩
          all_goals
            have HV := Lib.hid hv
            clear hv
            go_wp2_with fail
            go_loopw [9, 44] (fun c i wr => ∃ k : Nat, k ≤ l.length ∧ i = .int .i64 k ∧ c = .int .i64 (cntIn (l.take k) p : Nat) ∧ Hid (Below wo.heap.size wo wr)) (fun _ i _ => l.length - (intOf i).toNat)
            case atStart => exact ⟨0, Nat.zero_le _, rfl, rfl, Lib.hid (Below.refl _ _)⟩
            case round =>
              obtain ⟨k, hk, rfl, rfl, HB2⟩ := hrel
              replace HS := Lib.hid (HS.out.on HB2.out)
              replace HU := Lib.hid (HU.out.on HB2.out)
              replace HI := Lib.hid (HI.out.on HB2.out)
              have hck := cnt_le (l.take k) p
              rw [List.length_take] at hck
              by_cases hlt : k < l.length
              · obtain ⟨ao', ec', hsv, hSS⟩ := HS.out
                cases hsv
                obtain ⟨b5, off, r1, rfl, hb5, hc1, hE1⟩ := hSS k l[k] (by simp [hlt])
                have hx := HL.out l[k] (List.getElem_mem hlt)
                have HE1 := Lib.hid hE1
                have HCS := Lib.hid (cnt_snoc hlt p)
                generalize cntIn (l.take k) p = cn at *
                generalize l[k] = a at *
                have hla := complS_len a
                have K1 := Lib.hid (fun (W : World) (h : EdgesOf W.heap.size r1 a W) => Has_any r1 a p W (by omega) h)
                have K2 := Lib.hid (fun (W : World) (h : EdgesOf W.heap.size r1 a W) => Complement_any r1 a W (by omega) h)
                have K3 := Lib.hid (fun (W : World) (x : Value) (h : EdgesOf W.heap.size x (complS a) W) => Has_any x (complS a) p W (by omega) h)
                rw [has_compl] at K3
                change Hid (∀ (W : World) (x : Value), EdgesOf W.heap.size x (complS a) W → Calls _ _ _ _ fun e w' => e = .returned (.bool (okP p && !hasB a p)) ∧ _) at K3
                rw [HV.out] at K3
                generalize complS a = ca at *
                obtain ⟨ra, rcp, rfl, hEE⟩ := HE1.out
                have HEE := Lib.hid hEE
                obtain ⟨wk, hwk⟩ : ∃ wk, wk = wr := ⟨_, rfl⟩
                rw [← hwk] at HS HU HI HB2 hc1 HE1 HEE ⊢
                clear hwk hSS hE1 hEE hla hb5
                go_wp2_with fail
                go_loopw [13, 50] (fun b i wr => ∃ (j : Nat) (q : Bool), j ≤ a.length ∧ i = .int .i64 j ∧ b = .bool q ∧ Hid (q = (okP p && (a.take j).any (inB p))) ∧ Hid (Below wk.heap.size wk wr)) (fun _ i _ => a.length - (intOf i).toNat)
                case atStart => exact ⟨0, false, Nat.zero_le _, rfl, rfl, Lib.hid (by simp), Lib.hid (Below.refl _ _)⟩
                case round =>
                  obtain ⟨j, q, hj, rfl, rfl, HQ, HB3⟩ := hrel
                  have hszr := HB3.out.size
                  by_cases hjl : j < a.length
                  · obtain ⟨b6, off6, rfl, hb6, hd1, hd2⟩ := HEE.out j a[j] (by simp [hjl])
                    have hd1 := (HB3.out.cell (p := ⟨b6, off6 + j * 2, none⟩) hb6).trans hd1
                    have hd2 := (HB3.out.cell (p := ⟨b6, off6 + j * 2 + 1, none⟩) hb6).trans hd2
                    have HSN := Lib.hid (any_snoc hjl p)
                    obtain ⟨⟨y1, y2⟩, hy⟩ : ∃ y, y = a[j] := ⟨_, rfl⟩
                    rw [← hy] at hd1 hd2 HSN
                    simp only at hd1 hd2
                    clear hy
                    have HIN : Hid (inB p (y1, y2) = (decide (y1 ≤ p) && decide (p < y2))) := Lib.hid rfl
                    have HBX : Hid (Below wk.heap.size wk (wr.alloc (.cells #[.int .i64 y1, .int .i64 y2] 49))) := Lib.hid (HB3.out.alloc hszr _)
                    cases q with
                    | true =>
                      go_wp2_with fail
                      go_roundw
                      case rel => exact ⟨j + 1, true, by omega, by go_num, rfl, Lib.hid (by
                        have := HQ.out
                        rw [HV.out] at this
                        rw [HSN.out, HV.out]
                        first | (rw [Bool.false_and] at this; cases this) | (rw [Bool.true_and] at this; rw [← this]; rfl)), HBX⟩
                      case measure => simp [intOf]; omega
                    | false =>
                      by_cases z1 : y1 ≤ p
                      · by_cases z2 : p < y2
                        · have HI3 : Hid (inB p (y1, y2) = true) := Lib.hid (by rw [HIN.out, decide_eq_true z1, decide_eq_true z2]; rfl)
                          go_wp2_with fail
                          go_roundw
                          case rel => exact ⟨j + 1, _, by omega, by go_num, rfl, Lib.hid (by rw [HSN.out, HV.out, HI3.out]; simp), HBX⟩
                          case measure => simp [intOf]; omega
                        · have HI3 : Hid (inB p (y1, y2) = false) := Lib.hid (by rw [HIN.out, decide_eq_false z2]; simp)
                          have z2j : decide (p < y2) = false := decide_eq_false z2
                          go_wp2_with fail
                          go_roundw
                          case rel => exact ⟨j + 1, false, by omega, by go_num, rfl, Lib.hid (by rw [HSN.out, HI3.out, Bool.or_false]; exact HQ.out), HBX⟩
                          case measure => simp [intOf]; omega
                      · have HI3 : Hid (inB p (y1, y2) = false) := Lib.hid (by rw [HIN.out, decide_eq_false z1]; simp)
                        have z1j : decide (y1 ≤ p) = false := decide_eq_false z1
                        go_wp2_with fail
                        go_roundw
                        case rel => exact ⟨j + 1, false, by omega, by go_num, rfl, Lib.hid (by rw [HSN.out, HI3.out, Bool.or_false]; exact HQ.out), HBX⟩
                        case measure => simp [intOf]; omega
                  · have hjj : j = a.length := by omega
                    subst hjj
                    have HH : Hid (hasB a p = q) := Lib.hid (by rw [hasB_ok, HQ.out, List.take_length])
                    rw [HH.out] at K1 K3 HCS
                    replace HE1 := Lib.hid (HE1.out.on HB3.out)
                    have HB4 := Lib.hid (belT HB2.out HB3.out)
                    have hcn : cn ≤ 6 := by omega
                    have hcw : IntKind.i64.wrap ((cn : Int) + 1) = (cn : Int) + 1 := IntWalk.i64_in _ (by omega)
                    clear HQ HEE
                    cases q with
                    | true =>
                      have hpv := HV.out
                      rw [Bool.not_true, Bool.and_false] at K3
                      clear hpv
                      go_wp2_with fail
                      (with_reducible refine (K1.out _ HE1.out).mono ?_)
                      rintro e w7 ⟨rfl, hb⟩
                      replace HE1 := Lib.hid (HE1.out.on hb)
                      replace HB4 := Lib.hid (belT HB4.out hb)
                      clear hb
                      go_wp2_with fail
                      (with_reducible refine (K2.out _ HE1.out).mono ?_)
                      rintro e w8 ⟨x8, rfl, hE, hb⟩
                      replace HB4 := Lib.hid (belT HB4.out hb)
                      have HX8 := Lib.hid hE
                      clear hb hE
                      go_wp2_with fail
                      (with_reducible refine (K3.out _ _ HX8.out).mono ?_)
                      rintro e w9 ⟨rfl, hb⟩
                      replace HB4 := Lib.hid (belT HB4.out hb)
                      clear hb
                      go_wp2_with fail
                      go_roundw
                      case rel => exact ⟨k + 1, by omega, by go_num, by rw [HCS.out]; first | rfl | (simp), HB4⟩
                      case measure => simp [intOf]; omega
                    | false =>
                      rw [Bool.not_false, Bool.and_true] at K3
                      go_wp2_with fail
                      (with_reducible refine (K1.out _ HE1.out).mono ?_)
                      rintro e w7 ⟨rfl, hb⟩
                      replace HE1 := Lib.hid (HE1.out.on hb)
                      replace HB4 := Lib.hid (belT HB4.out hb)
                      clear hb
                      go_wp2_with fail
                      (with_reducible refine (K2.out _ HE1.out).mono ?_)
                      rintro e w8 ⟨x8, rfl, hE, hb⟩
                      replace HB4 := Lib.hid (belT HB4.out hb)
                      have HX8 := Lib.hid hE
                      clear hb hE
                      go_wp2_with fail
                      (with_reducible refine (K3.out _ _ HX8.out).mono ?_)
                      rintro e w9 ⟨rfl, hb⟩
                      replace HB4 := Lib.hid (belT HB4.out hb)
                      clear hb
                      go_wp2_with fail
                      go_roundw
                      case rel => exact ⟨k + 1, by omega, by go_num, by rw [HCS.out]; first | rfl | (simp), HB4⟩
                      case measure => simp [intOf]; omega
              · have hkk : k = l.length := by omega
                subst hkk
                rw [List.take_length] at hck ⊢
                have K3 := Lib.hid (fun (W : World) (h : EdgesOf W.heap.size (.slice ua us.length uc) us W) => H3.out W _ p h)
                have K4 := Lib.hid (fun (W : World) (h : EdgesOf W.heap.size (.slice ia is_.length ic) is_ W) => H4.out W _ p h)
                rw [HV.out] at K4
                generalize cntIn l p = cn at *
                have HB4 := Lib.hid (belT HB1.out HB2.out)
                by_cases hc0 : 0 < cn
                · have hc0i : (0 : Int) < (cn : Int) := by omega
                  rw [decide_eq_true hc0] at K3
                  by_cases hcl : cn = l.length
                  · have hcl2 : ((cn : Int) == (l.length : Int)) = true := by rw [hcl]; exact beq_self_eq_true _
                    rw [decide_eq_true hcl] at K4
                    have HCL := Lib.hid hcl
                    clear hcl
                    go_wp2_with fail
                    (with_reducible refine (K3.out _ HU.out).mono ?_)
                    rintro e w7 ⟨rfl, hb⟩
                    replace HI := Lib.hid (HI.out.on hb)
                    replace HB4 := Lib.hid (belT HB4.out hb)
                    clear hb
                    go_wp2_with fail
                    (with_reducible refine (K4.out _ HI.out).mono ?_)
                    rintro e w8 ⟨rfl, hb⟩
                    replace HB4 := Lib.hid (belT HB4.out hb)
                    clear hb
                    go_wp2_with fail
                    go_roundw
                    case rel => exact ⟨n + 1, by omega, by go_num, HB4⟩
                    case measure => simp [intOf]; omega
                  · have hcl2 : ((cn : Int) == (l.length : Int)) = false := by rw [beq_eq_false_iff_ne]; omega
                    rw [decide_eq_false hcl] at K4
                    clear hcl
                    go_wp2_with fail
                    (with_reducible refine (K3.out _ HU.out).mono ?_)
                    rintro e w7 ⟨rfl, hb⟩
                    replace HI := Lib.hid (HI.out.on hb)
                    replace HB4 := Lib.hid (belT HB4.out hb)
                    clear hb
                    go_wp2_with fail
                    (with_reducible refine (K4.out _ HI.out).mono ?_)
                    rintro e w8 ⟨rfl, hb⟩
                    replace HB4 := Lib.hid (belT HB4.out hb)
                    clear hb
                    go_wp2_with fail
                    go_roundw
                    case rel => exact ⟨n + 1, by omega, by go_num, HB4⟩
                    case measure => simp [intOf]; omega
                · have hc0i : ¬ (0 : Int) < (cn : Int) := by omega
                  rw [decide_eq_false hc0] at K3
                  obtain rfl : cn = 0 := by omega
                  by_cases hcl : 0 = l.length
                  · have hcl2 : ((0 : Int) == (l.length : Int)) = true := by simp; omega
                    rw [decide_eq_true hcl] at K4
                    have HCL := Lib.hid hcl
                    clear hcl
                    go_wp2_with fail
                    (with_reducible refine (K3.out _ HU.out).mono ?_)
                    rintro e w7 ⟨rfl, hb⟩
                    replace HI := Lib.hid (HI.out.on hb)
                    replace HB4 := Lib.hid (belT HB4.out hb)
                    clear hb
                    go_wp2_with fail
                    (with_reducible refine (K4.out _ HI.out).mono ?_)
                    rintro e w8 ⟨rfl, hb⟩
                    replace HB4 := Lib.hid (belT HB4.out hb)
                    clear hb
                    go_wp2_with fail
                    go_roundw
                    case rel => exact ⟨n + 1, by omega, by go_num, HB4⟩
                    case measure => simp [intOf]; omega
                  · have hcl2 : ((0 : Int) == (l.length : Int)) = false := by simp; omega
                    rw [decide_eq_false hcl] at K4
                    clear hcl
                    go_wp2_with fail
                    (with_reducible refine (K3.out _ HU.out).mono ?_)
                    rintro e w7 ⟨rfl, hb⟩
                    replace HI := Lib.hid (HI.out.on hb)
                    replace HB4 := Lib.hid (belT HB4.out hb)
                    clear hb
                    go_wp2_with fail
                    (with_reducible refine (K4.out _ HI.out).mono ?_)
                    rintro e w8 ⟨rfl, hb⟩
                    replace HB4 := Lib.hid (belT HB4.out hb)
                    clear hb
                    go_wp2_with fail
                    go_roundw
                    case rel => exact ⟨n + 1, by omega, by go_num, HB4⟩
                    case measure => simp [intOf]; omega
        · replace HB := Lib.hid (belT HB.out HB1.out)
          go_wp2_with fail
          go_ret
          exact ⟨rfl, HB.out⟩
end Go.Proofs.YtdhihdiifgcfdaaGreatDoor
