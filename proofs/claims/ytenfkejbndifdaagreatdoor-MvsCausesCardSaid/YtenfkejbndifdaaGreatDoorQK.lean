/- Contract of the index's Check. Maps that a call makes, whose elements are any values, read as functions. A queue: a slice of elements of some cells that may begin behind its block's head: cut, and appended to. -/
import Derived.Test.YtenfkejbndifdaaGreatDoorQJ
import Derived.Maps.Own
import Derived.Maps.OwnOps
import Derived.Maps.OwnSet
import Derived.Maps.Views
import Derived.Maps.RangeWalk
import Derived.Maps.Ext
import Derived.WalkKit
import Derived.Below
import Derived.RowKit
import Derived.Deep.Upon
namespace Go.Proofs.YtenfkejbndifdaaGreatDoor
set_option linter.unusedVariables false
set_option linter.unusedSimpArgs false
open Go Go.RowKit

structure RelBd (x : RelL) : Prop where
  path : x.path.size ≤ 1000000
  len : x.reqs.length ≤ 1000000
  reqs : ∀ q ∈ x.reqs, q.1.size ≤ 1000000 ∧ q.2.length ≤ 1000000
theorem RelAt.box {B b o : Nat} {x : RelL} {W : World} (h : RelAt B b o x W) : ∃ r, ReqsOf B r x.reqs W ∧
    W.cell? ⟨b, o, none⟩ = some (.string x.path) ∧ W.cell? ⟨b, o + 1, none⟩ = some (intC x.ver.1) ∧ W.cell? ⟨b, o + 2, none⟩ = some (intC x.ver.2.1) ∧ W.cell? ⟨b, o + 3, none⟩ = some (intC x.ver.2.2) ∧ W.cell? ⟨b, o + 4, none⟩ = some r ∧
    W.cell? ⟨b, o + 5, none⟩ = some (.string x.ar) ∧ W.cell? ⟨b, o + 6, none⟩ = some (.string x.ifc) ∧ W.cell? ⟨b, o + 7, none⟩ = some (.string x.cert) ∧ W.cell? ⟨b, o + 8, none⟩ = some (.bool x.yk) := by
  obtain ⟨r, h0, h1, h2, h3, h4, h5, h6, h7, h8, h9⟩ := h
  exact ⟨r, h9, h0, h1, h2, h3, h4, h5, h6, h7, h8⟩
set_option maxRecDepth 100000 in
set_option maxHeartbeats 8000000 in
theorem IdxCheck_any (v iv : Value) (X : List RelL) (w : World) (hm : MaxOk w) (hX : X.length ≤ 1000000) (hq : ∀ x ∈ X, RelBd x) (hR : RelsOf w.heap.size v X w) :
    Calls Tryz.prog 71 #[.agg #[v, iv]] w fun e w' => e = .returned (.int .i64 (checkX X)) ∧ Below w.heap.size w w' := by
  obtain ⟨E, hE⟩ : ∃ E, checkX X = E := ⟨_, rfl⟩
  have HE := Lib.hid hE
  rw [hE]
  clear hE
  obtain ⟨ao, cap, rfl, hR⟩ := hR
  have HR := Lib.hid hR
  have HQ := Lib.hid hq
  have HM := Lib.hid hm
  clear hR hq hm
  have HB0 : Hid (Below w.heap.size w (w.alloc (.cells #[.slice ao X.length cap, iv] 25))) := Lib.hid (belQ _ _)
  by_cases h256 : 256 < X.length
  · have h256a : (256 : Int) < (X.length : Int) := by omega
    have h256b : decide ((256 : Int) < (X.length : Int)) = true := decide_eq_true h256a
    have HX := Lib.hid (show E = 7 by rw [← HE.out]; unfold checkX; rw [if_pos h256])
    go_enter Tryz.func71, Tryz.ntmps71
    go_wp2_with fail
    go_ret
    exact ⟨by rw [HX.out]; rfl, HB0.out⟩
  have h256a : ¬ ((256 : Int) < (X.length : Int)) := by omega
  have h256b : decide ((256 : Int) < (X.length : Int)) = false := decide_eq_false h256a
  have HF := Lib.hid (show E = firstE X.length (idxErr X) by rw [← HE.out]; unfold checkX; rw [if_neg h256])
  clear h256
  go_enter Tryz.func71, Tryz.ntmps71
  go_wp2_with fail
  go_loopw [14] (fun p wr => ∃ k : Nat, k ≤ X.length ∧ p = .int .i64 k ∧ Hid (∀ j, j < k → idxErr X j = 0) ∧ Hid (Below (w.heap.size + 1) (w.alloc (.cells #[.slice ao X.length cap, iv] 25)) wr)) (fun p _ => X.length - (intOf p).toNat)
  case atStart => exact ⟨0, Nat.zero_le _, rfl, Lib.hid (fun j hj => absurd hj (Nat.not_lt_zero _)), Lib.hid (Below.refl _ _)⟩
  case round =>
    obtain ⟨k, hk, rfl, HZ, HB⟩ := hrel
    have HW : Hid (Below w.heap.size w wr) := Lib.hid (HB0.out.trans (HB.out.mono (by omega)))
    have hws := HB.out.size
    simp only [World.size_alloc] at hws
    by_cases hlt : k < X.length
    case neg =>
      have hk2 : k = X.length := by omega
      subst hk2
      have HX := Lib.hid (show E = 0 by rw [HF.out]; exact firstE_none fun j hj => HZ.out j hj)
      go_wp2_with fail
      go_ret
      exact ⟨by rw [HX.out]; rfl, HW.out⟩
    case pos =>
      obtain ⟨b, off, rfl, hbl, hra⟩ := HR.out k X[k] (by simp [hlt])
      have hgd : X.getD k default = X[k] := by rw [List.getD_eq_getElem?_getD, List.getElem?_eq_getElem hlt]; rfl
      obtain ⟨q1, q2, q3⟩ := HQ.out X[k] (List.getElem_mem hlt)
      obtain ⟨x, hx⟩ : ∃ x, X[k] = x := ⟨_, rfl⟩
      have HXK := Lib.hid hx
      rw [hx] at hgd hra q1 q2 q3
      have HGD := Lib.hid hgd
      clear hx hgd
      obtain ⟨r, hr, d0, d1, d2, d3, d4, d5, d6, d7, d8⟩ := (hra.below HW.out (Nat.le_refl _) hbl).box
      have HRA := Lib.hid hra
      clear hra
      have hbw : b < wr.heap.size := by omega
      have HB2 : Hid (Below w.heap.size w (wr.alloc (.cells (relC x r) 71))) := Lib.hid (HW.out.trans ((belQ wr _).mono HW.out.size))
      have HC := Lib.hid (checkRel_any x r (wr.alloc (.cells (relC x r) 71)) (HM.out.below HB2.out HM.out.pos) q1 (by omega) (fun q hq => ⟨(q3 q hq).1, by have := (q3 q hq).2; omega⟩) ((hr.below (belQ wr _) (by omega)).mono (by simp; omega)))
      have HG2 : Hid (BoxR (wr.alloc (.cells (relC x r) 71)) wr.heap.size x r) := Lib.hid (BoxR.made _ _ _)
      obtain ⟨ra, rc, rfl, _⟩ := hr
      clear q1 q2 q3
      have HD0 := Lib.hid (And.intro d0 (And.intro d1 (And.intro d2 d3)))
      simp only [relC] at HC HB2
      go_wp2_with fail
      refine HC.out.mono ?_
      rintro e w3 ⟨rfl, hb3⟩
      have HB3 := Lib.hid (HB2.out.trans (hb3.mono HB2.out.size))
      have HG3 := Lib.hid (HG2.out.on hb3)
      have HT3 := Lib.hid ((HB.out.trans ((belQ wr _).mono hws)).trans (hb3.mono (by simp; omega)))
      have hs3 := HB3.out.size
      clear hb3 d0 d1 d2 d3 d4 d5 d6 d7 d8 HC HG2
      by_cases hz : relE x = 0
      case neg =>
        have HX := Lib.hid (show E = relE x by
          have e1 : idxErr X k = relE x := by unfold idxErr; rw [HGD.out, if_pos hz]
          rw [HF.out, firstE_at hlt (fun j hj => HZ.out j hj) (by rw [e1]; exact hz), e1])
        generalize relE x = er at *
        have hz2 : (er != 0) = true := by simpa using hz
        go_wp2_with fail
        go_ret
        exact ⟨by rw [HX.out]; rfl, HB3.out⟩
      have HZR := Lib.hid hz
      rw [hz]
      clear hz
      cases k with
      | zero =>
        have HZ2 := Lib.hid (show ∀ j, j < 0 + 1 → idxErr X j = 0 from fun j hj => by
          obtain rfl : j = 0 := by omega
          unfold idxErr
          rw [HGD.out, if_neg (by rw [HZR.out]; simp), if_pos rfl])
        go_wp2_with fail
        go_roundw
        case rel => exact ⟨0 + 1, by omega, by simp, HZ2, HT3⟩
        case measure => simp [intOf]; omega
      | succ k =>
        have hgk : k < X.length := by omega
        obtain ⟨b2, off2, e2, _, hra2⟩ := HR.out k X[k] (by simp [hgk])
        cases e2
        have hgd2 : X.getD k default = X[k] := by rw [List.getD_eq_getElem?_getD, List.getElem?_eq_getElem hgk]; rfl
        obtain ⟨y, hy⟩ : ∃ y, X[k] = y := ⟨_, rfl⟩
        rw [hy] at hra2 hgd2
        have HGD2 := Lib.hid hgd2
        clear hy hgd2
        obtain ⟨r2, hr2, f0, f1, f2, f3, f4, f5, f6, f7, f8⟩ := (hra2.below HB3.out (Nat.le_refl _) hbl).box
        obtain ⟨ra2, rc2, rfl, _⟩ := hr2
        have c0 : w3.cell? ⟨w.heap.size, 0, none⟩ = some (.slice (some ⟨b, off, none⟩) X.length cap) := (HT3.out.cell (p := ⟨w.heap.size, 0, none⟩) (by simp)).trans (by simp [go_sem])
        have hne : (((k + 1 : Nat) : Int) == 0) = false := by simp; omega
        have hsub : wrap64 (((k + 1 : Nat) : Int) - 1) = (k : Int) := by rw [show ((k + 1 : Nat) : Int) - 1 = (k : Int) by omega]; unfold wrap64; omega
        have ht3 := HT3.out.size
        simp only [World.size_alloc] at ht3
        obtain ⟨kb, hkb⟩ : ∃ kb, decide (keyL y = keyL x) = kb := ⟨_, rfl⟩
        have HKB := Lib.hid hkb
        have hq1 : ∀ W, (binOp .eql 43 (.agg #[.string y.path, intC y.ver.1, intC y.ver.2.1, intC y.ver.2.2]) (.agg #[.string x.path, intC x.ver.1, intC x.ver.2.1, intC x.ver.2.2])).run Tryz.prog W = .ok (.bool kb) W := fun W => by rw [← hkb]; exact sel_eql.1 (keyL y) (keyL x) W
        clear hkb
        have hbw3 : b < w3.heap.size := by omega
        clear hra2
        go_upto_region 11 with fail
        obtain ⟨W, hW⟩ : ∃ W, w3.alloc (.cells #[.string y.path, intC y.ver.1, intC y.ver.2.1, intC y.ver.2.2, .slice ra2 y.reqs.length rc2, .string y.ar, .string y.ifc, .string y.cert, .bool y.yk] 71) = W := ⟨_, rfl⟩
        rw [hW]
        have HGY : Hid (BoxR W w3.heap.size y (.slice ra2 y.reqs.length rc2)) := Lib.hid (by rw [← hW]; exact BoxR.made _ _ _)
        have HGX : Hid (BoxR W wr.heap.size x (.slice ra x.reqs.length rc)) := Lib.hid (by rw [← hW]; exact HG3.out.on (belQ _ _))
        have HBW : Hid (Below w.heap.size w W) := Lib.hid (by rw [← hW]; exact HB3.out.trans ((belQ _ _).mono HB3.out.size))
        have HTW := Lib.hid (HT3.out.trans (show Below (w.heap.size + 1) w3 W by rw [← hW]; exact (belQ _ _).mono (by omega)))
        have hw3W : w3.heap.size < W.heap.size := by rw [← hW]; simp
        clear hW f0 f1 f2 f3 f4 f5 f6 f7 f8 c0 hne hsub
        have HBC : Hid (Below W.heap.size W W) := Lib.hid (Below.refl _ _)
        have HK1 := Lib.hid (fun W => key_any x (.slice ra x.reqs.length rc) W)
        have HK2 := Lib.hid (fun W => key_any y (.slice ra2 y.reqs.length rc2) W)
        simp only [relC] at HK1 HK2
        go_region_held3 (fun w' => (w'.cell? ⟨wr.heap.size, 0, none⟩ = some (.string x.path) ∧ w'.cell? ⟨wr.heap.size, 1, none⟩ = some (.int .i64 x.ver.1) ∧ w'.cell? ⟨wr.heap.size, 2, none⟩ = some (.int .i64 x.ver.2.1) ∧ w'.cell? ⟨wr.heap.size, 3, none⟩ = some (.int .i64 x.ver.2.2) ∧ w'.cell? ⟨wr.heap.size, 4, none⟩ = some (.slice ra x.reqs.length rc) ∧ w'.cell? ⟨wr.heap.size, 5, none⟩ = some (.string x.ar) ∧ w'.cell? ⟨wr.heap.size, 6, none⟩ = some (.string x.ifc) ∧ w'.cell? ⟨wr.heap.size, 7, none⟩ = some (.string x.cert) ∧ w'.cell? ⟨wr.heap.size, 8, none⟩ = some (.bool x.yk)) ∧ w'.cell? ⟨w3.heap.size, 0, none⟩ = some (.string y.path) ∧ w'.cell? ⟨w3.heap.size, 1, none⟩ = some (.int .i64 y.ver.1) ∧ w'.cell? ⟨w3.heap.size, 2, none⟩ = some (.int .i64 y.ver.2.1) ∧ w'.cell? ⟨w3.heap.size, 3, none⟩ = some (.int .i64 y.ver.2.2) ∧ w'.cell? ⟨w3.heap.size, 4, none⟩ = some (.slice ra2 y.reqs.length rc2) ∧ w'.cell? ⟨w3.heap.size, 5, none⟩ = some (.string y.ar) ∧ w'.cell? ⟨w3.heap.size, 6, none⟩ = some (.string y.ifc) ∧ w'.cell? ⟨w3.heap.size, 7, none⟩ = some (.string y.cert) ∧ w'.cell? ⟨w3.heap.size, 8, none⟩ = some (.bool y.yk))
          ((first | (exact ⟨(HGX.out.on HBC.out).cells, (HGY.out.on HBC.out).cells⟩) | (exact ⟨(HGX.out.on HBC.out.drew).cells, (HGY.out.on HBC.out.drew).cells⟩)))
          (first | (go_at_call 115; refine (HK1.out _).mono ?_; rintro e wq ⟨rfl, hbc⟩; (first | (replace HBC := Lib.hid (HBC.out.trans (hbc.mono HBC.out.size))) | (replace HBC := Lib.hid (HBC.out.drew.trans (hbc.mono HBC.out.size)))); clear hbc)
                   | (go_at_call 115; refine (HK2.out _).mono ?_; rintro e wq ⟨rfl, hbc⟩; (first | (replace HBC := Lib.hid (HBC.out.trans (hbc.mono HBC.out.size))) | (replace HBC := Lib.hid (HBC.out.drew.trans (hbc.mono HBC.out.size)))); clear hbc))
        all_goals
          have HI := Lib.hid (show idxErr X (k + 1) = relE2 y x by unfold idxErr; rw [HGD.out, if_neg (by rw [HZR.out]; simp), if_neg (by omega), show k + 1 - 1 = k from rfl, HGD2.out])
          have HTQ := Lib.hid (HTW.out.trans (HBC.out.mono (by omega)))
          have HBQ := Lib.hid (HBW.out.trans (HBC.out.mono HBW.out.size))
          cases kb with
          | true =>
            have HX := Lib.hid (show E = 5 by
              have e1 : idxErr X (k + 1) = 5 := by rw [HI.out]; unfold relE2; rw [if_pos (of_decide_eq_true HKB.out)]
              rw [HF.out, firstE_at hlt (fun j hj => HZ.out j hj) (by rw [e1]; decide), e1])
            go_wp2_with fail
            go_ret
            exact ⟨by rw [HX.out]; rfl, HBQ.out⟩
          | false =>
            obtain ⟨f0, f1, f2, f3, f4, f5, f6, f7, f8⟩ := (HGX.out.on HBC.out).cells
            obtain ⟨e0, e1, e2, e3, e4, e5, e6, e7, e8⟩ := (HGY.out.on HBC.out).cells
            have HCM := Lib.hid (fun W => compareR_any y x (.slice ra2 y.reqs.length rc2) (.slice ra x.reqs.length rc) W)
            simp only [relC] at HCM
            obtain ⟨cm, hcm⟩ : ∃ cm, cmpR y x = cm := ⟨_, rfl⟩
            rw [hcm] at HCM
            have HI2 := Lib.hid (show idxErr X (k + 1) = if 0 < cm then 1 else 0 by rw [HI.out]; unfold relE2; rw [if_neg (of_decide_eq_false HKB.out), hcm])
            clear hcm HI HKB
            go_wp2_with fail
            refine (HCM.out _).mono ?_
            rintro e w9 ⟨rfl, hb9⟩
            have HB9 := Lib.hid (HBQ.out.trans (hb9.mono HBQ.out.size))
            have HT9 := Lib.hid (HTQ.out.trans (hb9.mono (by have := HTQ.out.size; simp only [World.size_alloc] at this; omega)))
            clear hb9 e0 e1 e2 e3 e4 e5 e6 e7 e8 f0 f1 f2 f3 f4 f5 f6 f7 f8
            by_cases hc : 0 < cm
            · have hc2 : decide (0 < cm) = true := decide_eq_true hc
              have HX := Lib.hid (show E = 1 by
                have e1 : idxErr X (k + 1) = 1 := by rw [HI2.out, if_pos hc]
                rw [HF.out, firstE_at hlt (fun j hj => HZ.out j hj) (by rw [e1]; decide), e1])
              go_wp2_with fail
              go_ret
              exact ⟨by rw [HX.out]; rfl, HB9.out⟩
            · have hc2 : decide (0 < cm) = false := decide_eq_false hc
              have HZ2 := Lib.hid (show ∀ j, j < k + 1 + 1 → idxErr X j = 0 from fun j hj => by
                by_cases e : j = k + 1
                · rw [e, HI2.out, if_neg hc]
                · exact HZ.out j (by omega))
              go_wp2_with fail
              go_roundw
              case rel => exact ⟨k + 1 + 1, by omega, by go_num, HZ2, HT9⟩
              case measure => simp [intOf]; omega
end Go.Proofs.YtenfkejbndifdaaGreatDoor

namespace Go.Proofs.YtenfkejbndifdaaGreatDoor
set_option linter.unusedVariables false
set_option linter.unusedSimpArgs false
open Go Go.RowKit Go.Maps

def RV (v : Value) : Option (DataW Value × List MemPlace) := some (.held v, [])
def MapF (P : Program) (k : TypeId) (W : World) (b n : Nat) (f : Lit → Option Value) : Prop :=
  ∃ D : DataW Value, W.ownsMap P k RV b n D ∧ Tidy D ∧ (∀ q, Maps.has D q = (f q).isSome) ∧ ∀ q z, D.atKey q z = match f q with | some v => .held v | none => z
variable {P : Program} {k : TypeId} {W : World} {b n : Nat} {f : Lit → Option Value}
theorem MapF.made (P : Program) (k : TypeId) (W : World) : MapF P k (W.alloc (.map #[] 0)) W.heap.size 0 (fun _ => none) := ⟨.map [], World.ownsMap_made W P k RV, tidy_empty, fun _ => rfl, fun _ _ => rfl⟩
theorem MapF.lt (h : MapF P k W b n f) : b < W.heap.size := by
  obtain ⟨D, h1, _⟩ := h
  exact h1.lt
theorem MapF.kept {W' : World} {row : Option Nat} (h : MapF P k W b n f) (hg : W.grownBy W' row) (hne : some b ≠ row) : MapF P k W' b n f := by
  obtain ⟨D, h1, h2⟩ := h
  exact ⟨D, h1.kept hg hne, h2⟩
theorem MapF.below {W' : World} (h : MapF P k W b n f) (hb : Below W.heap.size W W') : MapF P k W' b n f := h.kept (row := none) ⟨hb.os, hb.tape, hb.output, hb.size, fun i hi _ => hb.block i hi⟩ (by simp)
theorem MapF.alloc (h : MapF P k W b n f) (o : Obj) : MapF P k (W.alloc o) b n f := by
  obtain ⟨D, h1, h2⟩ := h
  exact ⟨D, h1.alloc o, h2⟩
theorem MapF.setCell (h : MapF P k W b n f) {a : Addr} (ha : b ≠ a.block) (u : Value) : MapF P k (W.setCell a u) b n f := by
  obtain ⟨D, h1, h2⟩ := h
  exact ⟨D, h1.setCell ha u, h2⟩
theorem MapF.mono (h : MapF P k W b n f) {n' : Nat} (hn : n ≤ n') : MapF P k W b n' f := by
  obtain ⟨D, h1, h2⟩ := h
  exact ⟨D, h1.mono hn, h2⟩
open Classical in
noncomputable def putF (f : Lit → Option Value) (kl : Lit) (v : Value) : Lit → Option Value := fun q => if q = kl then some v else f q
theorem putF_same (f : Lit → Option Value) (kl : Lit) (v : Value) : putF f kl v kl = some v := by unfold putF; exact if_pos rfl
theorem putF_other (f : Lit → Option Value) {kl q : Lit} (v : Value) (h : q ≠ kl) : putF f kl v q = f q := by unfold putF; exact if_neg h
theorem wpList_put_F {ops : Array Oper} {rest : List Oper} {o : Oper} {a : Act} {Q : Exit → Act → World → Prop}
    (hg : o.guard = none) (m x v : Operand) (t : TypeId) (hop : o.op = Op.mapUpdate t m x v)
    (k e : TypeId) (K : Keyed P k) (ht : P.underlying t = some (.map k e)) (b n : Nat) (f : Lit → Option Value)
    (hm : a.eval m = .map (some b)) (hown : MapF P k W b n f) (hn : n < maxLen) (key val : Value) (kl : Lit) (hx : a.eval x = key) (hv : a.eval v = val) (hkey : keyOf P k key = some kl)
    (hK : ∀ W', MapF P k W' b (n + 1) (putF f kl val) → W.grownBy W' (some b) → wpList P ops Q rest (a.put o.dst undef) W') :
    wpList P ops Q (o :: rest) a W := by
  obtain ⟨D, h1, h2, h3, h4⟩ := hown
  have hkl := K.key hkey
  refine wpList_mapUpdate_own W hg m x v t hop k e K ht RV b n D hm h1 hn key val kl hx hv hkey (.held val) [] rfl fun W' g1 g2 => hK W' ⟨_, g1, h2.put hkl _, fun q => ?_, fun q z => ?_⟩ g2
  · by_cases hq : q = kl
    · subst hq
      rw [has_put_same h2.isMap hkl, putF_same]
      rfl
    · rw [has_put_other hq, h3, putF_other f val hq]
  · by_cases hq : q = kl
    · subst hq
      rw [atKey_put_same h2.isMap hkl, putF_same]
    · rw [atKey_put_other hq, h4, putF_other f val hq]
theorem wpList_look_F {ops : Array Oper} {rest : List Oper} {o : Oper} {a : Act} {Q : Exit → Act → World → Prop}
    (hg : o.guard = none) (m x : Operand) (t : TypeId) (hop : o.op = Op.lookup t m x false)
    (k e : TypeId) (K : Keyed P k) (ht : P.underlying t = some (.map k e)) {z : Value} (hz : (zeroValue e).run P W = .ok z W) (b n : Nat) (f : Lit → Option Value)
    (hm : a.eval m = .map (some b)) (hown : MapF P k W b n f) (key : Value) (kl : Lit) (hx : a.eval x = key) (hkey : keyOf P k key = some kl)
    (hK : wpList P ops Q rest (a.put o.dst ((f kl).getD z)) W) : wpList P ops Q (o :: rest) a W := by
  obtain ⟨D, h1, h2, h3, h4⟩ := hown
  refine wpList_plain hg fun K' hK' => ?_
  obtain ⟨v, ps, hrun, hv⟩ := h1.lookup K ht hz (zd := .held z) (zp := []) rfl hkey
  rw [h4] at hv
  have e : v = (f kl).getD z := by
    unfold RV at hv
    cases hf : f kl with
    | none => rw [hf] at hv; injection hv with hv; injection hv with hv _; injection hv
    | some u => rw [hf] at hv; injection hv with hv; injection hv with hv _; injection hv
  subst e
  unfold Oper.wp
  simp [execOp, hop, hm, hx, hrun, Result.andThen]
  exact hK' _ _ hK
theorem wpList_look_ok_F {ops : Array Oper} {rest : List Oper} {o : Oper} {a : Act} {Q : Exit → Act → World → Prop}
    (hg : o.guard = none) (m x : Operand) (t : TypeId) (hop : o.op = Op.lookup t m x true)
    (k e : TypeId) (K : Keyed P k) (ht : P.underlying t = some (.map k e)) {z : Value} (hz : (zeroValue e).run P W = .ok z W) (b n : Nat) (f : Lit → Option Value)
    (hm : a.eval m = .map (some b)) (hown : MapF P k W b n f) (key : Value) (kl : Lit) (hx : a.eval x = key) (hkey : keyOf P k key = some kl)
    (hK : wpList P ops Q rest (a.put o.dst (.tuple #[(f kl).getD z, .bool (f kl).isSome])) W) : wpList P ops Q (o :: rest) a W := by
  obtain ⟨D, h1, h2, h3, h4⟩ := hown
  refine wpList_lookup_own_ok W hg m x t hop k e K ht RV hz (.held z) [] rfl b n D hm h1 key kl hx hkey fun v ps hv => ?_
  rw [h4] at hv
  have e : v = (f kl).getD z := by
    unfold RV at hv
    cases hf : f kl with
    | none => rw [hf] at hv; injection hv with hv; injection hv with hv _; injection hv
    | some u => rw [hf] at hv; injection hv with hv; injection hv with hv _; injection hv
  subst e
  rw [h3]
  exact hK
theorem size_of_keys {D : DataW Value} (hD : Canon D) {f : Lit → Option Value} (h : ∀ q, Maps.has D q = (f q).isSome) (ks : List Lit) (hn : ks.Nodup) (hk : ∀ q, q ∈ ks ↔ (f q).isSome = true) : Maps.size D = ks.length := by
  obtain ⟨es, rfl, hp, hl⟩ := hD
  have hnd : (es.map (·.1)).Nodup := by
    rw [List.Nodup, List.pairwise_map]
    exact apart_of_rising hp
  have hmem : ∀ q, q ∈ es.map (·.1) ↔ q ∈ ks := fun q => by
    rw [hk, ← h, has_eq, List.any_eq_true, List.mem_map]
    constructor
    · rintro ⟨p, hp1, rfl⟩
      exact ⟨p, hp1, WideAt.sameKey_self (hl p hp1)⟩
    · rintro ⟨p, hp1, hp2⟩
      exact ⟨p, hp1, WideAt.sameKey_eq hp2⟩
  have := ((List.perm_ext_iff_of_nodup hnd hn).2 hmem).length_eq
  rw [List.length_map] at this
  exact this
end Go.Proofs.YtenfkejbndifdaaGreatDoor

namespace Go.Proofs.YtenfkejbndifdaaGreatDoor
set_option linter.unusedVariables false
set_option linter.unusedSimpArgs false
open Go Go.RowKit

def segK : Value → Option Nat
  | .slice (some a) _ (_ + 1) => some a.block
  | _ => none
structure SegC (W : World) (B c : Nat) (v : Value) (n : Nat) (xs : List Value) : Prop where
  len : xs.length = n * c
  val : (∃ ao, v = .slice ao 0 0 ∧ n = 0) ∨ ∃ g off cap, v = .slice (some ⟨g, off, none⟩) n (cap + 1) ∧ n ≤ cap + 1 ∧ cap + 1 ≤ maxLen ∧ B ≤ g ∧ g < W.heap.size ∧ (∀ j, j < n * c → W.cell? ⟨g, off + j, none⟩ = xs[j]?) ∧
    ∀ j, j < (cap + 1) * c → (W.cell? ⟨g, off + j, none⟩).isSome = true ∧ W.frozen? ⟨g, off + j, none⟩ = false
theorem SegC.nil (W : World) (B c : Nat) (ao : Option Addr) : SegC W B c (.slice ao 0 0) 0 [] := ⟨by simp, .inl ⟨ao, rfl, rfl⟩⟩
theorem SegC.lt {W : World} {B c n : Nat} {v : Value} {xs : List Value} (h : SegC W B c v n xs) : ∀ k, segK v = some k → B ≤ k ∧ k < W.heap.size := by
  intro k hk
  rcases h.val with ⟨ao, rfl, _⟩ | ⟨g, off, cap, rfl, _, _, hb, hg, _⟩
  · cases ao <;> simp [segK] at hk
  · simp [segK] at hk; subst hk; exact ⟨hb, hg⟩
theorem SegC.far {W W' : World} {B c n : Nat} {v : Value} {xs : List Value} (h : SegC W B c v n xs) (hs : W.heap.size ≤ W'.heap.size) (hk : ∀ k, segK v = some k → W'.heap[k]? = W.heap[k]?) : SegC W' B c v n xs := by
  refine ⟨h.len, h.val.imp id fun ⟨g, off, cap, hv, h1, h2, h3, h4, h5, h6⟩ => ?_⟩
  have e := hk g (by rw [hv]; rfl)
  exact ⟨g, off, cap, hv, h1, h2, h3, by omega, fun j hj => (World.cell?_of_block (a := ⟨g, off + j, none⟩) e).trans (h5 j hj), fun j hj => ⟨by rw [World.cell?_of_block (a := ⟨g, off + j, none⟩) e]; exact (h6 j hj).1, (World.frozen?_of_block (a := ⟨g, off + j, none⟩) e).trans (h6 j hj).2⟩⟩
theorem SegC.shape {W : World} {B c n : Nat} {v : Value} {xs : List Value} (h : SegC W B c v n xs) : ∃ a k, v = .slice a n k := by
  rcases h.val with ⟨ao, rfl, rfl⟩ | ⟨g, off, cap, rfl, _⟩
  · exact ⟨ao, 0, rfl⟩
  · exact ⟨_, _, rfl⟩
theorem SegC.head {W : World} {B c n : Nat} {v : Value} {xs : List Value} (h : SegC W B c v (n + 1) xs) :
    ∃ g off cap, v = .slice (some ⟨g, off, none⟩) (n + 1) (cap + 1) ∧ (∀ j, j < c → W.cell? ⟨g, off + j, none⟩ = xs[j]?) ∧ SegC W B c (.slice (if cap = 0 then some ⟨g, off, none⟩ else some ⟨g, off + c, none⟩) n cap) n (xs.drop c) := by
  rcases h.val with ⟨ao, rfl, h0⟩ | ⟨g, off, cap, rfl, h1, h2, h3, h4, h5, h6⟩
  · omega
  · have hl := h.len
    rw [Nat.add_mul, Nat.one_mul] at hl
    refine ⟨g, off, cap, rfl, fun j hj => h5 j (by rw [Nat.add_mul]; omega), by rw [List.length_drop]; omega, ?_⟩
    cases cap with
    | zero => exact .inl ⟨_, by rw [if_pos rfl, show n = 0 by omega], by omega⟩
    | succ cap =>
      refine .inr ⟨g, off + c, cap, by rw [if_neg (by omega)], by omega, by omega, h3, h4, fun j hj => ?_, fun j hj => ?_⟩
      · rw [List.getElem?_drop, ← h5 (c + j) (by rw [Nat.add_mul]; omega), Nat.add_assoc]
      · have := h6 (c + j) (by rw [Nat.add_mul, Nat.one_mul]; omega)
        rwa [Nat.add_assoc]
theorem tape_setCells (w : World) (g o : Nat) (vs : List Value) : (w.setCells g o vs).tape = w.tape := by
  induction vs generalizing w o with
  | nil => rfl
  | cons v vs ih => simp only [World.setCells]; rw [ih]; rfl
theorem run_append_segC {P : Program} (w : World) (t tx ty e : TypeId) (i : TypeInfo) (z : Value) (bytes c : Nat) (ht : P.underlying t = some (.slice e)) (hi : P.info? e = some i) (hz : i.zero = some z) (hsize : i.size = c) (hby : i.bytes = bytes) (hzs : z.cells.size = c)
    (B : Nat) (v : Value) (n : Nat) (xs : List Value) (h : SegC w B c v n xs) (hB : B ≤ w.heap.size) (x : Value) (m : Nat) (news : List Value) (hs : Src P c tx x m news w) (h63 : n + m ≤ maxLen) (hbytes : (n + m) * bytes ≤ 140737488355328) :
    ∃ v' w', (Builtin.append_ #[t, tx] ty #[v, x]).run P w = .ok v' w' ∧ SegC w' B c v' (n + m) (xs ++ news) ∧ w.grownBy w' (segK v) ∧ (segK v' = segK v ∨ ∀ k, segK v' = some k → w.heap.size ≤ k) := by
  subst hsize
  subst hby
  have hl := h.len
  have hnl := hs.newsLen
  have hlen' : (xs ++ news).length = (n + m) * i.size := by rw [List.length_append, hl, hnl, Nat.add_mul]
  have grow : ∀ (bs : Option Addr) (sc : Nat), v = .slice bs n sc → sc < n + m →
      (Builtin.firstCells i.size n (.slice bs n sc)).run P w.drew = .ok xs.toArray w.drew →
      ∃ v' w', (Builtin.append_ #[t, tx] ty #[v, x]).run P w = .ok v' w' ∧ SegC w' B i.size v' (n + m) (xs ++ news) ∧ w.grownBy w' (segK v) ∧ (segK v' = segK v ∨ ∀ k, segK v' = some k → w.heap.size ≤ k) := by
    rintro bs sc rfl hg hold
    have hrun := run_append_grow_src (P := P) w t tx ty e i z ht hi hz bs n sc xs hold x m news hs hg (by simp only [maxLen] at h63; omega) (growslice_fits hg hbytes)
    have hge := grownCap_ge w (n + m) sc e
    have hcm := grownCap_le_maxLen w (n + m) sc e h63
    obtain ⟨K, hK⟩ : ∃ K, grownCap w (n + m) sc e = K + 1 := ⟨grownCap w (n + m) sc e - 1, by omega⟩
    rw [hK] at hrun hge hcm
    have hsz : ((xs ++ news).toArray ++ Builtin.zeroCells z.cells (K + 1 - (n + m))).size = (K + 1) * i.size := by
      rw [Array.size_append, List.size_toArray, hlen', size_zeroCells, hzs, ← Nat.add_mul]
      congr 1
      omega
    refine ⟨_, _, hrun, ⟨hlen', .inr ⟨w.heap.size, 0, K, rfl, hge, hcm, hB, by simp, fun j hj => ?_, fun j hj => ?_⟩⟩, ⟨rfl, rfl, rfl, by simp, fun k hk _ => Below.heap_alloc w.drew _ k hk⟩, .inr fun k hk => by simp [segK] at hk; omega⟩
    · have e1 : (w.drew.alloc (.cells ((xs ++ news).toArray ++ Builtin.zeroCells z.cells (K + 1 - (n + m))) e)).cell? ⟨w.heap.size, 0 + j, none⟩ = _ := World.cell?_alloc_new w.drew _ _ _
      rw [e1, Array.getElem?_append_left (by simp only [List.size_toArray]; rw [hlen']; omega), List.getElem?_toArray, Nat.zero_add]
    · have e1 : (w.drew.alloc (.cells ((xs ++ news).toArray ++ Builtin.zeroCells z.cells (K + 1 - (n + m))) e)).cell? ⟨w.heap.size, 0 + j, none⟩ = _ := World.cell?_alloc_new w.drew _ _ _
      exact ⟨by rw [e1, Array.getElem?_eq_getElem (by rw [hsz]; omega)]; rfl, World.frozen?_alloc_new w.drew _ _ _⟩
  rcases h.val with ⟨ao, rfl, rfl⟩ | ⟨g, off, cap, rfl, h1, h2, h3, h4, h5, h6⟩
  · obtain rfl : xs = [] := List.eq_nil_of_length_eq_zero (by simpa using hl)
    rcases Nat.eq_zero_or_pos m with h0 | h0
    · subst h0
      obtain rfl : news = [] := List.eq_nil_of_length_eq_zero (by simpa using hnl)
      exact ⟨_, _, run_append_nothing (P := P) w t tx ty e i ht hi ao 0 0 (Nat.le_refl _) x hs, h, ⟨rfl, rfl, rfl, Nat.le_refl _, fun _ _ _ => rfl⟩, .inl rfl⟩
    · refine grow ao 0 rfl (by omega) ?_
      cases ao with
      | none => exact run_firstCells_none w.drew i.size 0 0 0
      | some a' => exact run_firstCells_some w.drew i.size 0 a' 0 0 [] (by simp) (by intro _ _ h'; simp at h')
  · by_cases hfit : n + m ≤ cap + 1
    · have hrc : (n + m) * i.size ≤ (cap + 1) * i.size := Nat.mul_le_mul_right _ hfit
      rw [Nat.add_mul] at hrc
      have hsome : ∀ j, j < news.length → (w.cell? ⟨g, off + n * i.size + j, none⟩).isSome = true := fun j hj => by rw [Nat.add_assoc]; exact (h6 _ (by omega)).1
      have hrun := run_append_room_src (P := P) w t tx ty e i ht hi g off n (cap + 1) x m news hs hfit hsome (fun j hj => by rw [Nat.add_assoc]; exact (h6 _ (by omega)).2)
      have hk := World.keptBut_setCells g (may := fun _ => True) news (off + n * i.size) w (fun _ _ => trivial)
      refine ⟨_, _, hrun, ⟨hlen', .inr ⟨g, off, cap, rfl, hfit, h2, h3, Nat.lt_of_lt_of_le h4 hk.size, fun j hj => ?_, fun j hj => ⟨?_, (World.frozen?_setCells g _ _ _ _).trans (h6 j hj).2⟩⟩⟩,
        ⟨World.os_setCells _ _ _ _, tape_setCells _ _ _ _, World.output_setCells _ _ _ _, hk.size, fun k hk hne => World.heap_setCells_other w g _ news hk (fun e => hne (by simp [segK, e]))⟩, .inl rfl⟩
      · rw [Nat.add_mul] at hj
        by_cases hjo : j < n * i.size
        · rw [World.cell?_setCells_out g _ _ _ _ (fun _ _ => Or.inl (by show off + j < off + n * i.size; omega)), List.getElem?_append_left (by omega)]
          exact h5 j hjo
        · have ht' : j - n * i.size < news.length := by omega
          have := World.cell?_setCells_in g news (off + n * i.size) w hsome (j - n * i.size) ht'
          rw [show off + n * i.size + (j - n * i.size) = off + j by omega] at this
          rw [this, List.getElem?_append_right (by omega), hl, List.getElem?_eq_getElem ht']
      · by_cases hin : n * i.size ≤ j ∧ j < n * i.size + news.length
        · have := World.cell?_setCells_in g news (off + n * i.size) w hsome (j - n * i.size) (by omega)
          rw [show off + n * i.size + (j - n * i.size) = off + j by omega] at this
          rw [this]; rfl
        · rw [World.cell?_setCells_out g _ _ _ _ (fun _ _ => by show off + j < off + n * i.size ∨ off + n * i.size + news.length ≤ off + j; omega)]
          exact (h6 j hj).1
    · refine grow (some ⟨g, off, none⟩) (cap + 1) rfl (by omega) ?_
      refine run_firstCells_some w.drew i.size n ⟨g, off, none⟩ n (cap + 1) xs hl (fun j u hu => ?_)
      rw [Addr.add_lit]
      have hj : j < n * i.size := by rw [← hl]; exact (List.getElem?_eq_some_iff.1 hu).1
      exact (h5 j hj).trans hu
theorem wpList_append_segC {P : Program} (w : World) {ops : Array Oper} {rest : List Oper} {o : Oper} {a : Act} {Q : Exit → Act → World → Prop}
    (hg : o.guard = none) (s x : Operand) (t tx : TypeId) (hop : o.op = Op.call { callee := Callee.builtin Builtin.append, args := #[s, x], argTypes := #[t, tx] })
    (e : TypeId) (i : TypeInfo) (z : Value) (bytes c : Nat) (ht : P.underlying t = some (.slice e)) (hi : P.info? e = some i) (hz : i.zero = some z) (hsize : i.size = c) (hby : i.bytes = bytes) (hzs : z.cells.size = c)
    (B : Nat) (v : Value) (n : Nat) (xs : List Value) (hv : a.eval s = v) (h : SegC w B c v n xs) (hB : B ≤ w.heap.size) (m : Nat) (news : List Value) (hs : Src P c tx (a.eval x) m news w) (h63 : n + m ≤ maxLen) (hbytes : (n + m) * bytes ≤ 140737488355328)
    (hK : ∀ v' w', SegC w' B c v' (n + m) (xs ++ news) → w.grownBy w' (segK v) → (segK v' = segK v ∨ ∀ k, segK v' = some k → w.heap.size ≤ k) → wpList P ops Q rest (a.put o.dst v') w') :
    wpList P ops Q (o :: rest) a w := by
  refine wpList_plain hg fun K hK' => ?_
  obtain ⟨v', w', hrun, r1, r2, r3⟩ := run_append_segC (P := P) w t tx o.type e i z bytes c ht hi hz hsize hby hzs B v n xs h hB (a.eval x) m news hs h63 hbytes
  unfold Oper.wp
  simp [execOp, hop, resolve, invoke, builtin, hv, hrun, Result.andThen]
  exact hK' _ _ (hK v' w' r1 r2 r3)
end Go.Proofs.YtenfkejbndifdaaGreatDoor
