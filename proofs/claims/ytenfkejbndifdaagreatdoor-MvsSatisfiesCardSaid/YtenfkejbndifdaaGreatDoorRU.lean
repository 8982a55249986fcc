/- The law MvsSatisfies returns true. -/
import Derived.Test.YtenfkejbndifdaaGreatDoorRT
import Derived.Test.YtenfkejbndifdaaGreatDoorQQ
namespace Go.Proofs.YtenfkejbndifdaaGreatDoor
set_option linter.unusedVariables false
set_option linter.unusedSimpArgs false
open Go Go.RowKit

/-- the box that a law keeps: the index. -/
structure LawB (w : World) (v iv : Value) (W : World) : Prop where
  bel : Below w.heap.size w W
  idx : W.heap[w.heap.size]? = some (.cells #[v, iv] 25 (0, 0))
theorem LawB.lt {w : World} {v iv : Value} {W : World} (h : LawB w v iv W) : w.heap.size < W.heap.size := (Array.getElem?_eq_some_iff.1 h.idx).1
theorem LawB.below {w : World} {v iv : Value} {W W' : World} (h : LawB w v iv W) (hb : Below W.heap.size W W') : LawB w v iv W' := ⟨h.bel.trans (hb.mono h.bel.size), (hb.block _ h.lt).trans h.idx⟩
theorem LawB.start (w : World) (v iv : Value) : LawB w v iv (w.alloc (.cells #[v, iv] 25)) := ⟨belQ _ _, World.alloc_heap_new w _⟩
theorem LawB.c0 {w : World} {v iv : Value} {W : World} (h : LawB w v iv W) : W.cell? ⟨w.heap.size, 0, none⟩ = some v := cell_of_row _ _ 0 _ _ _ h.idx
theorem LawB.c1 {w : World} {v iv : Value} {W : World} (h : LawB w v iv W) : W.cell? ⟨w.heap.size, 1, none⟩ = some iv := cell_of_row _ _ 1 _ _ _ h.idx
theorem FewR.bd {X : List RelL} {m : Nat} (h : FewR X m) : ∀ x ∈ X, RelBd x := fun x hx => by
  obtain ⟨h1, _, _, _, h5⟩ := h.all x hx
  exact ⟨by omega, by have := h5.len; omega, fun q hq => by have := h5.all q hq; omega⟩
theorem FewQ.bd {l : List ReqL} (h : FewQ l) : ReqsBd l := fun q hq => by have := h.all q hq; omega
theorem selM_zero {nw : Bool} {X : List RelL} {roots : List ReqL} (h : (selM nw X roots).2 = 0) : PlainP X roots ∧ AllM nw X roots := by
  by_cases hp : PlainP X roots
  · by_cases ha : AllM nw X roots
    · exact ⟨hp, ha⟩
    · rw [selM_not hp ha] at h; cases h
  · rw [selM_arg hp] at h; cases h
theorem selM_mem {nw : Bool} {X : List RelL} {roots : List ReqL} {y : SelL} (h : y ∈ (selM nw X roots).1) : PlainP X roots ∧ ∃ i, i ∈ topM nw X roots ∧ keyL (X.getD i default) = y := by
  by_cases hp : PlainP X roots
  · by_cases ha : AllM nw X roots
    · rw [selM_ok hp ha] at h
      exact ⟨hp, selL_mem.1 h⟩
    · rw [selM_not hp ha] at h; cases h
  · rw [selM_arg hp] at h; cases h
theorem selM_bd {nw : Bool} {X : List RelL} {roots : List ReqL} (hq : ∀ x ∈ X, RelBd x) {y : SelL} (h : y ∈ (selM nw X roots).1) : SelBd y := by
  obtain ⟨hp, i, hi, rfl⟩ := selM_mem h
  have hil := (topM_mem.1 hi).1.lt.1
  have hv := (validB_iff _ _ _).1 ((idx_ok hp.idx).rel i hil).val
  have hx : X.getD i default ∈ X := by rw [List.getD_eq_getElem?_getD, List.getElem?_eq_getElem hil]; exact List.getElem_mem hil
  have hps := (hq _ hx).path
  refine ⟨?_, ?_, ?_, ?_⟩
  · show (X.getD i default).path.size ≤ maxLen
    unfold maxLen
    omega
  all_goals (unfold IntOk; simp only [keyL]; omega)
def GeOk (a b : SelL) : Prop := ¬ b.2.2.1 < a.2.2.1 ∧ ¬ (b.2.2.1 = a.2.2.1 ∧ b.2.2.2 < a.2.2.2)
theorem sat_ge {X : List RelL} {roots : List ReqL} {a b : SelL} (ha : a ∈ (selM false X roots).1) (hb : b ∈ (selM true X roots).1) (e : a.1 = b.1) : GeOk a b := by
  unfold GeOk
  obtain ⟨hp, i, hi, rfl⟩ := selM_mem ha
  obtain ⟨_, j, hj, rfl⟩ := selM_mem hb
  have hX := idx_ok hp.idx
  have hle := newest_ge hp hi hj e
  have h1 := (topM_mem.1 hi).1.lt.1
  have h2 := (topM_mem.1 hj).1.lt.1
  have hm := hX.mono hle h2 e
  have v1 := (validB_iff _ _ _).1 (hX.rel i h1).val
  have v2 := (validB_iff _ _ _).1 (hX.rel j h2).val
  unfold plc at hm
  simp only [keyL]
  omega
set_option maxRecDepth 100000 in
set_option maxHeartbeats 16000000 in
theorem MvsSatisfies_any (a : Option Addr) (c : Nat) (iv : Value) (X : List RelL) (rov : Value) (roots : List ReqL) (w : World) (hm : MaxOk w) (h0 : RelsOf w.heap.size (.slice a X.length c) X w ∧ X.length ≤ maxLen ∧ ∀ x ∈ X, x.reqs.length ≤ maxLen)
    (h1 : ReqsOf w.heap.size rov roots w ∧ roots.length ≤ maxLen) : Calls Tryz.prog 8 #[.agg #[.slice a X.length c, iv], rov] w fun e w' => e = .returned (.bool true) ∧ Below w.heap.size w w' := by
  obtain ⟨hR, hX, hXr⟩ := h0
  obtain ⟨hRo, hro⟩ := h1
  have HM := Lib.hid hm
  have HR := Lib.hid hR
  have HRo := Lib.hid hRo
  obtain ⟨ra, rc, rfl⟩ : ∃ ra rc, rov = .slice ra roots.length rc := by obtain ⟨a, c, e, _⟩ := hRo; exact ⟨a, c, e⟩
  have HAW := Lib.hid (fun W (hb : RowKit.Below w.heap.size w W) => awake34_any W (hm.below hb hm.pos))
  have HFEW := Lib.hid (fun W (hb : RowKit.Below w.heap.size w W) => few34_any a c iv (.slice ra roots.length rc) X roots W hX hXr (hR.on hb) hro (hRo.on hb))
  clear hm hR hRo
  have HB0 := Lib.hid (LawB.start w (.slice a X.length c) iv)
  go_enter Tryz.func8, Tryz.ntmps8
  go_upto_region 1 with fail
  generalize w.alloc (.cells #[.slice a X.length c, iv] 25) = W at *
  go_wp2_with fail
  refine (HAW.out _ HB0.out.bel).mono ?_
  rintro e w1 ⟨rfl, hb1⟩
  have HB1 := Lib.hid (HB0.out.below hb1)
  clear hb1 HAW
  have c0 := HB1.out.c0
  have c1 := HB1.out.c1
  go_wp2_with fail
  refine (HFEW.out _ HB1.out.bel).mono ?_
  rintro e w2 ⟨fb, rfl, hfb, hb2⟩
  have HB2 := Lib.hid (HB1.out.below hb2)
  have HFB := Lib.hid hfb
  clear hb2 hfb HFEW c0 c1
  cases fb with
  | false =>
    go_wp2_with fail
    go_ret
    exact ⟨rfl, HB2.out.bel⟩
  | true =>
    have HRB := Lib.hid (HFB.out rfl).1.bd
    have HQB := Lib.hid (HFB.out rfl).2.bd
    have hX2 : X.length ≤ 20 := (HFB.out rfl).1.len
    have hro2 : roots.length ≤ 1000000 := by have := (HFB.out rfl).2.len; omega
    have HSE := Lib.hid (fun W (hb : RowKit.Below w.heap.size w W) => MSelect_any (.slice a X.length c) iv (.slice ra roots.length rc) X roots W (HM.out.below hb HM.out.pos) (by omega) HRB.out (HR.out.on hb) hro2 HQB.out (HRo.out.on hb))
    have HNE := Lib.hid (fun W (hb : RowKit.Below w.heap.size w W) => MNewest_any (.slice a X.length c) iv (.slice ra roots.length rc) X roots W (HM.out.below hb HM.out.pos) (by omega) HRB.out (HR.out.on hb) hro2 HQB.out (HRo.out.on hb))
    have HPL := Lib.hid (fun W (hb : RowKit.Below w.heap.size w W) => MPlain_any (.slice a X.length c) iv (.slice ra roots.length rc) X roots W (HM.out.below hb HM.out.pos) (by omega) HRB.out (HR.out.on hb) hro2 HQB.out (HRo.out.on hb))
    have HST := Lib.hid (fun W sv s (hb : RowKit.Below w.heap.size w W) (hs : List.length s ≤ 1000000) (hy : ∀ y ∈ s, SelBd y) (hS : SelsOf W.heap.size sv s W) => satisfied_any (.slice a X.length c) iv (.slice ra roots.length rc) sv X roots s W (HM.out.below hb HM.out.pos) (by omega) HRB.out (HR.out.on hb) hro2 HQB.out (HRo.out.on hb) hs hy hS)
    have HG : Hid (∀ a b : SelL, a ∈ (selM false X roots).1 → b ∈ (selM true X roots).1 → a.1 = b.1 → GeOk a b) := Lib.hid (fun a b ha hb e => sat_ge ha hb e)
    have HL1 : Hid ((selM false X roots).1.length ≤ X.length) := Lib.hid selM_len
    have HL2 : Hid ((selM true X roots).1.length ≤ X.length) := Lib.hid selM_len
    have HY1 : Hid (∀ y ∈ (selM false X roots).1, SelBd y) := Lib.hid (fun y hy => selM_bd HRB.out hy)
    have HY2 : Hid (∀ y ∈ (selM true X roots).1, SelBd y) := Lib.hid (fun y hy => selM_bd HRB.out hy)
    have HZ1 : Hid ((selM false X roots).2 = 0 → SatP X roots (selM false X roots).1) := Lib.hid (fun h => by
      obtain ⟨hp, ha⟩ := selM_zero h
      rw [selM_ok hp ha]
      exact sel_sat hp ha)
    have HZ2 : Hid ((selM true X roots).2 = 0 → SatP X roots (selM true X roots).1) := Lib.hid (fun h => by
      obtain ⟨hp, ha⟩ := selM_zero h
      rw [selM_ok hp ha]
      exact sel_sat hp ha)
    have HN1 : Hid (¬ PlainP X roots → selM false X roots = ([], 1)) := Lib.hid selM_arg
    have HN2 : Hid (¬ PlainP X roots → selM true X roots = ([], 1)) := Lib.hid selM_arg
    unfold SelR at HSE HNE
    generalize selM false X roots = SM at *
    generalize selM true X roots = TM at *
    obtain ⟨s, E⟩ := SM
    obtain ⟨t, F⟩ := TM
    simp only at HSE HNE HZ1 HZ2 HL1 HL2 HY1 HY2 HG
    have hls := HL1.out
    have hlt := HL2.out
    have c0 := HB2.out.c0
    have c1 := HB2.out.c1
    go_wp2_with fail
    refine (HSE.out _ HB2.out.bel).mono ?_
    rintro e w3 ⟨hb3, sv, rfl, hs3⟩
    have HB3 := Lib.hid (HB2.out.below hb3)
    have HS3 := Lib.hid hs3
    obtain ⟨sa, sc, rfl⟩ : ∃ sa sc, sv = .slice sa s.length sc := by obtain ⟨a, c, e, _⟩ := hs3; exact ⟨a, c, e⟩
    clear hb3 hs3 c0 c1 HSE
    have c0 := HB3.out.c0
    have c1 := HB3.out.c1
    go_wp2_with fail
    refine (HNE.out _ HB3.out.bel).mono ?_
    rintro e w4 ⟨hb4, tv, rfl, ht4⟩
    have HB4 := Lib.hid (HB3.out.below hb4)
    have HS4 := Lib.hid (HS3.out.on hb4)
    have HT4 := Lib.hid ht4
    obtain ⟨ta, tc, rfl⟩ : ∃ ta tc, tv = .slice ta t.length tc := by obtain ⟨a, c, e, _⟩ := ht4; exact ⟨a, c, e⟩
    clear hb4 ht4 c0 c1 HNE HS3
    have c0 := HB4.out.c0
    have c1 := HB4.out.c1
    go_wp2_with fail
    refine (HPL.out _ HB4.out.bel).mono ?_
    rintro e w5 ⟨hb5, bp, rfl, hbp⟩
    have HB5 := Lib.hid (HB4.out.below hb5)
    have HS5 := Lib.hid (HS4.out.on hb5)
    have HT5 := Lib.hid (HT4.out.on hb5)
    have HBP := Lib.hid hbp
    clear hb5 hbp c0 c1 HPL HS4 HT4
    cases bp with
    | false =>
      have hnp : ¬ PlainP X roots := fun h => by have := HBP.out.2 h; cases this
      have e1 := HN1.out hnp
      have e2 := HN2.out hnp
      injection e1 with e1 e3
      injection e2 with e2 e4
      subst e1
      subst e2
      subst e3
      subst e4
      clear hnp
      go_wp2_with fail
      go_ret
      exact ⟨rfl, HB5.out.bel⟩
    | true =>
      have HSat1 := Lib.hid (fun W sv (hb : RowKit.Below w.heap.size w W) (hS : SelsOf W.heap.size sv s W) => HST.out W sv s hb (by omega) HY1.out hS)
      have HSat2 := Lib.hid (fun W sv (hb : RowKit.Below w.heap.size w W) (hS : SelsOf W.heap.size sv t W) => HST.out W sv t hb (by omega) HY2.out hS)
      clear HST HN1 HN2 HBP
      go_upto_region 9 with fail
      go_cut [68] from 49 to 68 (fun s68 wx => s68 = .bool false ∧ Hid (Below w5.heap.size w5 wx))
      case first =>
        by_cases hE : E = 0
        · by_cases hF : F = 0
          · subst hE
            have HS1T : SatP X roots s := HZ1.out rfl
            subst hF
            have HS2T : SatP X roots t := HZ2.out rfl
            have c0 := HB5.out.c0
            have c1 := HB5.out.c1
            go_wp2_with fail
            refine (HSat1.out _ _ HB5.out.bel HS5.out).mono ?_
            rintro e w6 ⟨q6, rfl, hq6, hb6⟩
            obtain rfl : q6 = true := hq6.2 HS1T
            have HB6 := Lib.hid (HB5.out.below hb6)
            have HW6 := Lib.hid (hb6.mono (Nat.le_refl w5.heap.size))
            have HS6 := Lib.hid (HS5.out.on hb6)
            have HT6 := Lib.hid (HT5.out.on hb6)
            clear hb6 hq6 c0 c1
            have c0 := HB6.out.c0
            have c1 := HB6.out.c1
            go_wp2_with fail
            refine (HSat2.out _ _ HB6.out.bel HT6.out).mono ?_
            rintro e w7 ⟨q7, rfl, hq7, hb7⟩
            obtain rfl : q7 = true := hq7.2 HS2T
            have HB7 := Lib.hid (HB6.out.below hb7)
            have HW7 := Lib.hid (HW6.out.trans (hb7.mono HW6.out.size))
            have HS7 := Lib.hid (HS6.out.on hb7)
            have HT7 := Lib.hid (HT6.out.on hb7)
            clear hb7 hq7 c0 c1
            go_wp2_with fail
            go_meet
            exact ⟨rfl, HW7⟩
          · subst hE
            have HS1T : SatP X roots s := HZ1.out rfl
            have hF2 : (F == 0) = false := by simpa using hF
            have c0 := HB5.out.c0
            have c1 := HB5.out.c1
            go_wp2_with fail
            refine (HSat1.out _ _ HB5.out.bel HS5.out).mono ?_
            rintro e w6 ⟨q6, rfl, hq6, hb6⟩
            obtain rfl : q6 = true := hq6.2 HS1T
            have HB6 := Lib.hid (HB5.out.below hb6)
            have HW6 := Lib.hid (hb6.mono (Nat.le_refl w5.heap.size))
            have HS6 := Lib.hid (HS5.out.on hb6)
            have HT6 := Lib.hid (HT5.out.on hb6)
            clear hb6 hq6 c0 c1
            go_wp2_with fail
            go_meet
            exact ⟨rfl, HW6⟩
        · by_cases hF : F = 0
          · have hE2 : (E == 0) = false := by simpa using hE
            subst hF
            have HS2T : SatP X roots t := HZ2.out rfl
            have c0 := HB5.out.c0
            have c1 := HB5.out.c1
            go_wp2_with fail
            refine (HSat2.out _ _ HB5.out.bel HT5.out).mono ?_
            rintro e w7 ⟨q7, rfl, hq7, hb7⟩
            obtain rfl : q7 = true := hq7.2 HS2T
            have HB7 := Lib.hid (HB5.out.below hb7)
            have HW7 := Lib.hid (hb7.mono (Nat.le_refl w5.heap.size))
            have HS7 := Lib.hid (HS5.out.on hb7)
            have HT7 := Lib.hid (HT5.out.on hb7)
            clear hb7 hq7 c0 c1
            go_wp2_with fail
            go_meet
            exact ⟨rfl, HW7⟩
          · have hE2 : (E == 0) = false := by simpa using hE
            have hF2 : (F == 0) = false := by simpa using hF
            go_wp2_with fail
            go_meet
            exact ⟨rfl, Lib.hid (Below.refl _ _)⟩
      case rest =>
        obtain ⟨rfl, HBC⟩ := hcut
        generalize wc = w9 at *
        have HB9 := Lib.hid (HB5.out.below HBC.out)
        have HS9 := Lib.hid (HS5.out.on HBC.out)
        have HT9 := Lib.hid (HT5.out.on HBC.out)
        clear HSat1 HSat2 HZ1 HZ2 HBC HS5 HT5 HB5
        have hs9 := HB9.out.bel.size
        go_wp2_with fail
        go_loopw [71] (fun p wr => ∃ k : Nat, k ≤ s.length ∧ p = .int .i64 (k : Int) ∧ Hid (Below w9.heap.size w9 wr)) (fun p _ => s.length - (intOf p).toNat)
        case atStart => exact ⟨0, Nat.zero_le _, rfl, Lib.hid (Below.refl _ _)⟩
        case round =>
          obtain ⟨k, hk, rfl, HW⟩ := hrel
          by_cases hlk : k < s.length
          case neg =>
            have hkk : k = s.length := by omega
            subst hkk
            go_wp2_with fail
            go_ret
            exact ⟨rfl, HB9.out.bel.trans (HW.out.mono hs9)⟩
          case pos =>
            obtain ⟨ab, ao, rfl, hab, a0, a1, a2, a3⟩ := HS9.out.get (List.getElem?_eq_getElem hlk)
            have a0 := (HW.out.cell (p := ⟨ab, ao + k * 4, none⟩) hab).trans a0
            have a1 := (HW.out.cell (p := ⟨ab, ao + k * 4 + 1, none⟩) hab).trans a1
            have a2 := (HW.out.cell (p := ⟨ab, ao + k * 4 + 2, none⟩) hab).trans a2
            have a3 := (HW.out.cell (p := ⟨ab, ao + k * 4 + 3, none⟩) hab).trans a3
            have hk1 : (0 : Int) ≤ (k : Int) := Int.natCast_nonneg k
            have hk2 : (k : Int) < (s.length : Int) := Int.ofNat_lt.2 hlk
            have hmk := List.getElem_mem hlk
            have HGK : Hid (∀ b : SelL, b ∈ t → s[k].1 = b.1 → GeOk s[k] b) := Lib.hid (fun b hb e => HG.out s[k] b hmk hb e)
            clear hmk
            generalize s[k] = x at *
            have HXA := Lib.hid (show SelBox (wr.alloc (.cells #[.string x.1, .int .i64 x.2.1, .int .i64 x.2.2.1, .int .i64 x.2.2.2] 43)) wr.heap.size x from World.alloc_heap_new wr _)
            have HBA := Lib.hid (belQ wr (.cells #[.string x.1, .int .i64 x.2.1, .int .i64 x.2.2.1, .int .i64 x.2.2.2] 43))
            go_upto_region 14 with fail
            generalize hWA : wr.alloc (.cells #[.string x.1, .int .i64 x.2.1, .int .i64 x.2.2.1, .int .i64 x.2.2.2] 43) = WA at *
            clear hWA
            have HW2 := Lib.hid (HW.out.trans (HBA.out.mono HW.out.size))
            generalize wr.heap.size = gx at *
            clear a0 a1 a2 a3 HBA HW
            go_wp2_with fail
            go_loopw [77] (fun p wr => ∃ j : Nat, j ≤ t.length ∧ p = .int .i64 (j : Int) ∧ Hid (Below WA.heap.size WA wr)) (fun p _ => t.length - (intOf p).toNat)
            case atStart => exact ⟨0, Nat.zero_le _, rfl, Lib.hid (Below.refl _ _)⟩
            case round =>
              obtain ⟨j, hj, rfl, HU⟩ := hrel
              by_cases hlj : j < t.length
              case neg =>
                have hjj : j = t.length := by omega
                subst hjj
                have HWF := Lib.hid (HW2.out.trans (HU.out.mono HW2.out.size))
                go_wp2_with fail
                go_roundw
                case rel => exact ⟨k + 1, hlk, by go_num, HWF⟩
                case measure => simp [intOf]; omega
              case pos =>
                obtain ⟨bb, bo, rfl, hbb, b0, b1, b2, b3⟩ := HT9.out.get (List.getElem?_eq_getElem hlj)
                have HWF := Lib.hid (HW2.out.trans (HU.out.mono HW2.out.size))
                have b0 := (HWF.out.cell (p := ⟨bb, bo + j * 4, none⟩) hbb).trans b0
                have b1 := (HWF.out.cell (p := ⟨bb, bo + j * 4 + 1, none⟩) hbb).trans b1
                have b2 := (HWF.out.cell (p := ⟨bb, bo + j * 4 + 2, none⟩) hbb).trans b2
                have b3 := (HWF.out.cell (p := ⟨bb, bo + j * 4 + 3, none⟩) hbb).trans b3
                have hj1 : (0 : Int) ≤ (j : Int) := Int.natCast_nonneg j
                have hj2 : (j : Int) < (t.length : Int) := Int.ofNat_lt.2 hlj
                have HGJ := Lib.hid (HGK.out t[j] (List.getElem_mem hlj))
                generalize t[j] = y at *
                have HXB := Lib.hid (show SelBox (wr.alloc (.cells #[.string y.1, .int .i64 y.2.1, .int .i64 y.2.2.1, .int .i64 y.2.2.2] 43)) wr.heap.size y from World.alloc_heap_new wr _)
                have HBA := Lib.hid (belQ wr (.cells #[.string y.1, .int .i64 y.2.1, .int .i64 y.2.2.1, .int .i64 y.2.2.2] 43))
                go_upto_region 17 with fail
                generalize hWB : wr.alloc (.cells #[.string y.1, .int .i64 y.2.1, .int .i64 y.2.2.1, .int .i64 y.2.2.2] 43) = WB at *
                clear hWB
                have HU2 := Lib.hid (HU.out.trans (HBA.out.mono HU.out.size))
                have HXA2 := Lib.hid (HXA.out.on HU2.out)
                generalize wr.heap.size = gy at *
                have x0 : WB.cell? ⟨gx, 0, none⟩ = some (.string x.1) := cell_of_row _ _ 0 _ _ _ HXA2.out
                have x2 : WB.cell? ⟨gx, 2, none⟩ = some (.int .i64 x.2.2.1) := cell_of_row _ _ 2 _ _ _ HXA2.out
                have x3 : WB.cell? ⟨gx, 3, none⟩ = some (.int .i64 x.2.2.2) := cell_of_row _ _ 3 _ _ _ HXA2.out
                have y0 : WB.cell? ⟨gy, 0, none⟩ = some (.string y.1) := cell_of_row _ _ 0 _ _ _ HXB.out
                have y2 : WB.cell? ⟨gy, 2, none⟩ = some (.int .i64 y.2.2.1) := cell_of_row _ _ 2 _ _ _ HXB.out
                have y3 : WB.cell? ⟨gy, 3, none⟩ = some (.int .i64 y.2.2.2) := cell_of_row _ _ 3 _ _ _ HXB.out
                clear b0 b1 b2 b3 HBA HU
                obtain ⟨xp, xv1, xv2, xv3⟩ := x
                obtain ⟨yp, yv1, yv2, yv3⟩ := y
                simp only at x0 x2 x3 y0 y2 y3 HGJ
                by_cases hp : xp = yp
                case neg =>
                  have hq : (xp.toList == yp.toList) = false := by rw [eqs_dec]; exact decide_eq_false hp
                  have hq2 : ¬ xp.toList = yp.toList := fun e => hp (bytes_inj e)
                  clear hp
                  go_wp2_with fail
                  go_roundw
                  case rel => exact ⟨j + 1, hlj, by go_num, HU2⟩
                  case measure => simp [intOf]; omega
                case pos =>
                  obtain ⟨h1, h2⟩ : ¬ yv2 < xv2 ∧ ¬ (yv2 = xv2 ∧ yv3 < xv3) := HGJ.out hp
                  subst hp
                  have h1d : decide (yv2 < xv2) = false := decide_eq_false h1
                  by_cases he : yv2 = xv2
                  · have h3 : ¬ yv3 < xv3 := fun h => h2 ⟨he, h⟩
                    have h3d : decide (yv3 < xv3) = false := decide_eq_false h3
                    have he2 : (yv2 == xv2) = true := by simpa using he
                    clear h2 he
                    go_wp2_with fail
                    go_roundw
                    case rel => exact ⟨j + 1, hlj, by go_num, HU2⟩
                    case measure => simp [intOf]; omega
                  · have he2 : (yv2 == xv2) = false := by simpa using he
                    clear h2
                    go_wp2_with fail
                    go_roundw
                    case rel => exact ⟨j + 1, hlj, by go_num, HU2⟩
                    case measure => simp [intOf]; omega
end Go.Proofs.YtenfkejbndifdaaGreatDoor
