/- The law MvsLeast returns true. Minimal version selection, plain: lists of requirements as one list. -/
import Derived.Test.YtenfkejbndifdaaGreatDoorVK
import Derived.Test.YtenfkejbndifdaaGreatDoorUW
namespace Go.Proofs.YtenfkejbndifdaaGreatDoor
set_option linter.unusedVariables false
set_option linter.unusedSimpArgs false
open Go Go.RowKit

theorem findR_valid {X : List RelL} (hX : IdxOk X) {y : SelL} {r : RelL} (h : findR X y = some r) : validB y.2.1 y.2.2.1 y.2.2.2 = true := by
  obtain ⟨i, hi, hr, rfl⟩ := findR_some h
  rw [← hr]
  exact (hX.rel i hi).val
theorem selM_valid {nw : Bool} {X : List RelL} {roots : List ReqL} {y : SelL} (h : y ∈ (selM nw X roots).1) : validB y.2.1 y.2.2.1 y.2.2.2 = true := by
  obtain ⟨hp, i, hi, rfl⟩ := selM_mem h
  exact ((idx_ok hp.idx).rel i (topM_mem.1 hi).1.lt.1).val
theorem least_none {X : List RelL} {roots : List ReqL} {s : List SelL} (hp : PlainP X roots) (hg : GrowP X) (hs : SatP X roots s) (hy : ∀ y ∈ s, ∃ r, findR X y = some r ∧ r.yk = false) :
    (selM false X roots).2 = 0 ∧ ((selM false X roots).1.any fun y => decide (leastS s y.1 < leastS (selM false X roots).1 y.1)) = false := by
  have ha := (least_all hp hg hs hy).1
  rw [selM_ok hp ha]
  refine ⟨rfl, ?_⟩
  rw [List.any_eq_false]
  intro y hm h
  have h1 := least_le hp hg hs hy (show y ∈ selL false X roots from hm)
  have h2 := of_decide_eq_true h
  have h2 : leastS s y.1 < leastS (selL false X roots) y.1 := h2
  omega
set_option maxRecDepth 100000 in
set_option maxHeartbeats 16000000 in
theorem MvsLeast_any (a : Option Addr) (c : Nat) (iv : Value) (X : List RelL) (rov : Value) (roots : List ReqL) (sv : Value) (s : List SelL) (w : World) (hm : MaxOk w) (h0 : RelsOf w.heap.size (.slice a X.length c) X w ∧ X.length ≤ maxLen ∧ ∀ x ∈ X, x.reqs.length ≤ maxLen)
    (h1 : ReqsOf w.heap.size rov roots w ∧ roots.length ≤ maxLen) (h2 : SelsOf w.heap.size sv s w ∧ s.length ≤ maxLen ∧ ∀ y ∈ s, SelBd y) : Calls Tryz.prog 10 #[.agg #[.slice a X.length c, iv], rov, sv] w fun e w' => e = .returned (.bool true) ∧ Below w.heap.size w w' := by
  obtain ⟨hR, hX, hXr⟩ := h0
  obtain ⟨hRo, hro⟩ := h1
  obtain ⟨hS, hsm, hsb⟩ := h2
  have HM := Lib.hid hm
  have HR := Lib.hid hR
  have HRo := Lib.hid hRo
  have HS := Lib.hid hS
  have HYB := Lib.hid hsb
  obtain ⟨ra, rc, rfl⟩ : ∃ ra rc, rov = .slice ra roots.length rc := by obtain ⟨a, c, e, _⟩ := hRo; exact ⟨a, c, e⟩
  obtain ⟨sa, sc, rfl⟩ : ∃ sa sc, sv = .slice sa s.length sc := by obtain ⟨a, c, e, _⟩ := hS; exact ⟨a, c, e⟩
  have HAW := Lib.hid (fun W (hb : RowKit.Below w.heap.size w W) => awake34_any W (hm.below hb hm.pos))
  have HFEW := Lib.hid (fun W (hb : RowKit.Below w.heap.size w W) => few34_any a c iv (.slice ra roots.length rc) X roots W hX hXr (hR.on hb) hro (hRo.on hb))
  clear hm hR hRo hS hsb
  have HB0 := Lib.hid (RedB.start w (.slice a X.length c) iv (.slice sa s.length sc))
  go_enter Tryz.func10, Tryz.ntmps10
  go_upto_region 1 with fail
  generalize (w.alloc (.cells #[.slice a X.length c, iv] 25)).alloc (.cells #[.slice sa s.length sc] 27) = W at *
  go_wp2_with fail
  refine (HAW.out _ HB0.out.bel).mono ?_
  rintro e w1 ⟨rfl, hb1⟩
  have HB1 := Lib.hid (HB0.out.below hb1)
  clear hb1 HAW HB0
  have c0 : w1.cell? ⟨w.heap.size, 0, none⟩ = some (.slice a X.length c) := cell_of_row _ _ 0 _ _ _ HB1.out.idx
  have c1 : w1.cell? ⟨w.heap.size, 1, none⟩ = some iv := cell_of_row _ _ 1 _ _ _ HB1.out.idx
  go_wp2_with fail
  refine (HFEW.out _ HB1.out.bel).mono ?_
  rintro e w2 ⟨fb, rfl, hfb, hb2⟩
  have HB2 := Lib.hid (HB1.out.below hb2)
  have HFB := Lib.hid hfb
  clear hb2 hfb HFEW c0 c1 HB1
  cases fb with
  | false =>
    go_wp2_with fail
    go_ret
    exact ⟨rfl, HB2.out.bel⟩
  | true =>
    have HRB := Lib.hid (HFB.out rfl).1.bd
    have HQB := Lib.hid (HFB.out rfl).2.bd
    have hX2 : X.length ≤ 20 := (HFB.out rfl).1.len
    have hro2 : roots.length ≤ 1000000 := by have := (HFB.out rfl).2.len; omega
    have HQ4 : Hid (∀ x ∈ X, x.reqs.length ≤ 1000000 ∧ ∀ q ∈ x.reqs, q.2.length ≤ 40000) := Lib.hid (fun x hx => by
      obtain ⟨_, _, _, _, h5⟩ := (HFB.out rfl).1.all x hx
      exact ⟨by have := h5.len; omega, fun q hq => by have := (h5.all q hq).2; omega⟩)
    have s0 : w2.cell? ⟨w.heap.size + 1, 0, none⟩ = some (.slice sa s.length sc) := cell_of_row _ _ 0 _ _ _ HB2.out.sel
    by_cases h20 : 20 < s.length
    case pos =>
      have hd20 : decide ((20 : Int) < (s.length : Int)) = true := decide_eq_true (by omega)
      have hd21 : decide (20 < s.length) = true := decide_eq_true h20
      go_wp2_with fail
      go_ret
      exact ⟨rfl, HB2.out.bel⟩
    case neg =>
      have hd20 : decide ((20 : Int) < (s.length : Int)) = false := decide_eq_false (by omega)
      have hd21 : decide (20 < s.length) = false := decide_eq_false h20
      have hs2 : s.length ≤ 20 := Nat.le_of_not_lt h20
      clear h20
      have HPL := Lib.hid (fun W (hb : RowKit.Below w.heap.size w W) => MPlain_any (.slice a X.length c) iv (.slice ra roots.length rc) X roots W (HM.out.below hb HM.out.pos) (by omega) HRB.out (HR.out.on hb) hro2 HQB.out (HRo.out.on hb))
      have HGR := Lib.hid (fun W (hb : RowKit.Below w.heap.size w W) => growing_any (.slice a X.length c) iv X W (by omega) HQ4.out (HR.out.on hb))
      have HST := Lib.hid (fun W (hb : RowKit.Below w.heap.size w W) => satisfied_any (.slice a X.length c) iv (.slice ra roots.length rc) (.slice sa s.length sc) X roots s W (HM.out.below hb HM.out.pos) (by omega) HRB.out (HR.out.on hb) hro2 HQB.out (HRo.out.on hb) (by omega) HYB.out (HS.out.on hb))
      have HFI := Lib.hid (fun W y (hy : SelBd y) (hb : RowKit.Below w.heap.size w W) => Find_any (.slice a X.length c) iv X y W (HM.out.below hb HM.out.pos) (by omega) HRB.out (HR.out.on hb) hy)
      have HSE := Lib.hid (fun W (hb : RowKit.Below w.heap.size w W) => MSelect_any (.slice a X.length c) iv (.slice ra roots.length rc) X roots W (HM.out.below hb HM.out.pos) (by omega) HRB.out (HR.out.on hb) hro2 HQB.out (HRo.out.on hb))
      have HLN : Hid (PlainP X roots → GrowP X → SatP X roots s → (∀ y ∈ s, ∃ r, findR X y = some r ∧ r.yk = false) → (selM false X roots).2 = 0 ∧ ((selM false X roots).1.any fun y => decide (leastS s y.1 < leastS (selM false X roots).1 y.1)) = false) := Lib.hid (fun hp hg hs hy => least_none hp hg hs hy)
      have HVT : Hid (∀ y ∈ (selM false X roots).1, validB y.2.1 y.2.2.1 y.2.2.2 = true) := Lib.hid (fun y hy => selM_valid hy)
      have HL1 : Hid ((selM false X roots).1.length ≤ X.length) := Lib.hid selM_len
      unfold SelR at HSE
      generalize selM false X roots = SM at *
      have c0 : w2.cell? ⟨w.heap.size, 0, none⟩ = some (.slice a X.length c) := cell_of_row _ _ 0 _ _ _ HB2.out.idx
      have c1 : w2.cell? ⟨w.heap.size, 1, none⟩ = some iv := cell_of_row _ _ 1 _ _ _ HB2.out.idx
      go_wp2_with fail
      refine (HPL.out _ HB2.out.bel).mono ?_
      rintro e w3 ⟨hb3, bp, rfl, hbp⟩
      have HB3 := Lib.hid (HB2.out.below hb3)
      have HBP := Lib.hid hbp
      clear hb3 hbp c0 c1 s0 HPL HB2
      cases bp with
      | false =>
        go_wp2_with fail
        go_ret
        exact ⟨rfl, HB3.out.bel⟩
      | true =>
        have HPP := Lib.hid (HBP.out.1 rfl)
        have c0 : w3.cell? ⟨w.heap.size, 0, none⟩ = some (.slice a X.length c) := cell_of_row _ _ 0 _ _ _ HB3.out.idx
        have c1 : w3.cell? ⟨w.heap.size, 1, none⟩ = some iv := cell_of_row _ _ 1 _ _ _ HB3.out.idx
        go_wp2_with fail
        refine (HGR.out _ HB3.out.bel).mono ?_
        rintro e w4 ⟨bg, rfl, hbg, hb4⟩
        have HB4 := Lib.hid (HB3.out.below hb4)
        have HBG := Lib.hid hbg
        clear hb4 hbg c0 c1 HGR HB3
        cases bg with
        | false =>
          go_wp2_with fail
          go_ret
          exact ⟨rfl, HB4.out.bel⟩
        | true =>
          have HGP := Lib.hid (HBG.out.1 rfl)
          have c0 : w4.cell? ⟨w.heap.size, 0, none⟩ = some (.slice a X.length c) := cell_of_row _ _ 0 _ _ _ HB4.out.idx
          have c1 : w4.cell? ⟨w.heap.size, 1, none⟩ = some iv := cell_of_row _ _ 1 _ _ _ HB4.out.idx
          have s0 : w4.cell? ⟨w.heap.size + 1, 0, none⟩ = some (.slice sa s.length sc) := cell_of_row _ _ 0 _ _ _ HB4.out.sel
          go_wp2_with fail
          refine (HST.out _ HB4.out.bel).mono ?_
          rintro e w5 ⟨bs, rfl, hbs, hb5⟩
          have HB5 := Lib.hid (HB4.out.below hb5)
          have HBS := Lib.hid hbs
          clear hb5 hbs c0 c1 s0 HST HB4
          cases bs with
          | false =>
            go_wp2_with fail
            go_ret
            exact ⟨rfl, HB5.out.bel⟩
          | true =>
            have HSAT := Lib.hid (HBS.out.1 rfl)
            have s0 : w5.cell? ⟨w.heap.size + 1, 0, none⟩ = some (.slice sa s.length sc) := cell_of_row _ _ 0 _ _ _ HB5.out.sel
            have HLS := Lib.hid (HLN.out HPP.out HGP.out HSAT.out)
            have HIX := Lib.hid (idx_ok HPP.out.idx)
            have HCK := Lib.hid HPP.out.idx
            clear HBP HBG HBS HLN HFB
            go_wp2_with fail
            go_loopw [44] (fun q wr => Hid (∃ k : Nat, k ≤ s.length ∧ q = .int .i64 (k : Int) ∧ RedB w (.slice a X.length c) iv (.slice sa s.length sc) wr ∧ ∀ y ∈ s.take k, ∃ r, findR X y = some r ∧ r.yk = false)) (fun q _ => s.length - (intOf q).toNat)
            case atStart => exact Lib.hid ⟨0, Nat.zero_le _, rfl, HB5.out, fun y hy => by simp at hy⟩
            case round =>
              obtain ⟨k, hk, rfl, hb, hall⟩ := hrel.out
              have HB := Lib.hid hb
              have HALL := Lib.hid hall
              clear hrel hb hall s0
              by_cases hlk : k < s.length
              case neg =>
                have hkk : k = s.length := Nat.le_antisymm hk (Nat.le_of_not_lt hlk)
                subst hkk
                have HFA := Lib.hid (show ∀ y ∈ s, ∃ r, findR X y = some r ∧ r.yk = false by have := HALL.out; rwa [List.take_length] at this)
                obtain ⟨hE, hany⟩ := HLS.out HFA.out
                have HANY := Lib.hid hany
                have HVS : Hid (∀ y ∈ s, validB y.2.1 y.2.2.1 y.2.2.2 = true) := Lib.hid (fun y hy => by
                  obtain ⟨r, hr, _⟩ := HFA.out y hy
                  exact findR_valid HIX.out hr)
                obtain ⟨t, E⟩ := SM
                simp only at hE HSE HVT HL1 HANY
                subst hE
                clear hany HLS HFA
                have hlt := HL1.out
                have c0 : wr.cell? ⟨w.heap.size, 0, none⟩ = some (.slice a X.length c) := cell_of_row _ _ 0 _ _ _ HB.out.idx
                have c1 : wr.cell? ⟨w.heap.size, 1, none⟩ = some iv := cell_of_row _ _ 1 _ _ _ HB.out.idx
                go_wp2_with fail
                refine (HSE.out _ HB.out.bel).mono ?_
                rintro e w6 ⟨hb6, tv, rfl, ht6⟩
                have HB6 := Lib.hid (HB.out.below hb6)
                have HT6 := Lib.hid ht6
                obtain ⟨ta, tc, rfl⟩ : ∃ ta tc, tv = .slice ta t.length tc := by obtain ⟨a, c, e, _⟩ := ht6; exact ⟨a, c, e⟩
                clear hb6 ht6 c0 c1 HSE HB
                have HBQ := Lib.hid (belQ w6 (.cells #[.slice ta t.length tc] 27))
                have HNQ := Lib.hid (World.alloc_heap_new w6 (.cells #[.slice ta t.length tc] 27))
                go_upto_region 13 with fail
                generalize w6.alloc (.cells #[.slice ta t.length tc] 27) = W7 at *
                have HB7 := Lib.hid (HB6.out.below HBQ.out)
                have HT7 := Lib.hid (HT6.out.on HBQ.out)
                generalize w6.heap.size = gt at *
                have HP : Hid (PredS4 45 #[.pointer (some ⟨w.heap.size + 1, 0, none⟩), .pointer (some ⟨gt, 0, none⟩)] t (fun y => decide (leastS s y.1 < leastS t y.1)) W7) := Lib.hid (fun W y hy hb =>
                  (leastLt_any (w.heap.size + 1) gt (.slice sa s.length sc) (.slice ta t.length tc) s t y W (by omega) (by omega) HVS.out HVT.out (HS.out.on (HB7.out.bel.trans (hb.mono HB7.out.bel.size))) (HT7.out.on hb) (HB7.out.below hb).sel ((hb.block gt (Array.getElem?_eq_some_iff.1 HNQ.out).1).trans HNQ.out)).mono fun e w' h => ⟨h.1, hb.trans (h.2.mono hb.size)⟩)
                have HC := Lib.hid (has_sel 45 _ (enters_of Tryz.func45 (by kernel_rfl) rfl) _ (.slice ta t.length tc) t W7 (by omega) HT7.out HP.out)
                rw [HANY.out] at HC
                have t0 : W7.cell? ⟨gt, 0, none⟩ = some (.slice ta t.length tc) := cell_of_row _ _ 0 _ _ _ HNQ.out
                clear HP HVS HVT HANY HBQ HT6 HB6
                go_wp2_with fail
                refine HC.out.mono ?_
                rintro e w8 ⟨rfl, hb8⟩
                have HB8 := Lib.hid (HB7.out.below hb8)
                clear hb8 HC t0
                go_wp2_with fail
                go_ret
                exact ⟨rfl, HB8.out.bel⟩
              case pos =>
                obtain ⟨ab, ao, rfl, hab, a0, a1, a2, a3⟩ := HS.out.get (List.getElem?_eq_getElem hlk)
                have a0 := (HB.out.bel.cell (p := ⟨ab, ao + k * 4, none⟩) hab).trans a0
                have a1 := (HB.out.bel.cell (p := ⟨ab, ao + k * 4 + 1, none⟩) hab).trans a1
                have a2 := (HB.out.bel.cell (p := ⟨ab, ao + k * 4 + 2, none⟩) hab).trans a2
                have a3 := (HB.out.bel.cell (p := ⟨ab, ao + k * 4 + 3, none⟩) hab).trans a3
                have hk1 : (0 : Int) ≤ (k : Int) := Int.natCast_nonneg k
                have hk2 : (k : Int) < (s.length : Int) := Int.ofNat_lt.2 hlk
                have HBY := Lib.hid (HYB.out _ (List.getElem_mem hlk))
                have HSTEP : Hid ((∃ r, findR X s[k] = some r ∧ r.yk = false) → ∀ y ∈ s.take (k + 1), ∃ r, findR X y = some r ∧ r.yk = false) := Lib.hid (fun h y hy => by
                  rw [List.take_succ_eq_append_getElem hlk] at hy
                  rcases List.mem_append.1 hy with h1 | h1
                  · exact HALL.out y h1
                  · rw [List.mem_singleton.1 h1]; exact h)
                generalize s[k] = y at *
                have HXY := Lib.hid (show SelBox (wr.alloc (.cells #[.string y.1, .int .i64 y.2.1, .int .i64 y.2.2.1, .int .i64 y.2.2.2] 43)) wr.heap.size y from World.alloc_heap_new wr _)
                have HBA := Lib.hid (belQ wr (.cells #[.string y.1, .int .i64 y.2.1, .int .i64 y.2.2.1, .int .i64 y.2.2.2] 43))
                go_upto_region 8 with fail
                generalize wr.alloc (.cells #[.string y.1, .int .i64 y.2.1, .int .i64 y.2.2.1, .int .i64 y.2.2.2] 43) = W5 at *
                have HB6 := Lib.hid (HB.out.below HBA.out)
                generalize wr.heap.size = gy at *
                clear a0 a1 a2 a3 HBA HB
                have c0 : W5.cell? ⟨w.heap.size, 0, none⟩ = some (.slice a X.length c) := cell_of_row _ _ 0 _ _ _ HB6.out.idx
                have c1 : W5.cell? ⟨w.heap.size, 1, none⟩ = some iv := cell_of_row _ _ 1 _ _ _ HB6.out.idx
                have y0 : W5.cell? ⟨gy, 0, none⟩ = some (.string y.1) := cell_of_row _ _ 0 _ _ _ HXY.out
                have y1 : W5.cell? ⟨gy, 1, none⟩ = some (.int .i64 y.2.1) := cell_of_row _ _ 1 _ _ _ HXY.out
                have y2 : W5.cell? ⟨gy, 2, none⟩ = some (.int .i64 y.2.2.1) := cell_of_row _ _ 2 _ _ _ HXY.out
                have y3 : W5.cell? ⟨gy, 3, none⟩ = some (.int .i64 y.2.2.2) := cell_of_row _ _ 3 _ _ _ HXY.out
                have HF := Lib.hid (HFI.out W5 y HBY.out HB6.out.bel)
                have HO := Lib.hid (show findX X y = findR X y by unfold findX; rw [if_pos HCK.out])
                unfold FindR at HF
                rw [HO.out] at HF
                generalize findR X y = o at *
                obtain ⟨x, hx⟩ : ∃ x, o.getD default = x := ⟨_, rfl⟩
                obtain ⟨ob, hob⟩ : ∃ ob, o.isSome = ob := ⟨_, rfl⟩
                rw [hx, hob] at HF
                have HX := Lib.hid hx
                have HOB := Lib.hid hob
                simp only [relC] at HF
                clear hx hob HO
                go_wp2_with fail
                refine HF.out.mono ?_
                rintro e w9 ⟨r', rfl, hr', hb9⟩
                obtain ⟨qa, qc, hqe, _⟩ := hr'.now
                subst hqe
                have HB9 := Lib.hid (HB6.out.below hb9)
                clear hr' hb9 HF c0 c1 y0 y1 y2 y3 HB6
                have HGR2 : Hid (BoxR (w9.alloc (.cells #[.string x.path, intC x.ver.1, intC x.ver.2.1, intC x.ver.2.2, .slice qa x.reqs.length qc, .string x.ar, .string x.ifc, .string x.cert, .bool x.yk] 71)) w9.heap.size x (.slice qa x.reqs.length qc)) := Lib.hid (BoxR.made w9 x (.slice qa x.reqs.length qc))
                have HBA := Lib.hid (belQ w9 (.cells #[.string x.path, intC x.ver.1, intC x.ver.2.1, intC x.ver.2.2, .slice qa x.reqs.length qc, .string x.ar, .string x.ifc, .string x.cert, .bool x.yk] 71))
                go_upto_region 9 with fail
                generalize w9.alloc (.cells #[.string x.path, intC x.ver.1, intC x.ver.2.1, intC x.ver.2.2, .slice qa x.reqs.length qc, .string x.ar, .string x.ifc, .string x.cert, .bool x.yk] 71) = WA at *
                have HBB := Lib.hid (HB9.out.below HBA.out)
                generalize w9.heap.size = gr at *
                have d8 := HGR2.out.cells.2.2.2.2.2.2.2.2
                clear HBA HB9
                cases ob with
                | false =>
                  go_wp2_with fail
                  go_ret
                  exact ⟨rfl, HBB.out.bel⟩
                | true =>
                  obtain ⟨yb, hyb⟩ : ∃ yb, x.yk = yb := ⟨_, rfl⟩
                  rw [hyb] at d8
                  cases yb with
                  | true =>
                    clear hyb
                    go_wp2_with fail
                    go_ret
                    exact ⟨rfl, HBB.out.bel⟩
                  | false =>
                    have HS2 := Lib.hid (HSTEP.out (by
                      obtain ⟨r, hr⟩ := Option.isSome_iff_exists.1 HOB.out
                      exact ⟨r, hr, by have := HX.out; rw [hr] at this; have e : r = x := this; rw [e]; exact hyb⟩))
                    clear hyb
                    go_wp2_with fail
                    go_roundw
                    case rel => exact Lib.hid ⟨k + 1, hlk, by go_num, HBB.out, HS2.out⟩
                    case measure => simp [intOf]; omega
end Go.Proofs.YtenfkejbndifdaaGreatDoor

namespace Go.Proofs.YtenfkejbndifdaaGreatDoor
set_option linter.unusedVariables false
set_option linter.unusedSimpArgs false
open Go

def insM : List ReqL → ReqL → List ReqL
  | [], q => [q]
  | r :: out, q => if ltB r.1 q.1 = true then r :: insM out q else if r.1 = q.1 then (r.1, interS [r.2, q.2]) :: out else q :: r :: out
def mergeL (ls : List (List ReqL)) : List ReqL := ls.flatten.foldl insM []
open Classical in
noncomputable def mergeV (ls : List (List ReqL)) : List ReqL × Int := if ∃ l ∈ ls, ¬ UpR l then ([], 1) else if 16 < (mergeL ls).length then ([], 7) else (mergeL ls, 0)
def incrR (l : List ReqL) : Prop := l.Pairwise fun a b => ltB a.1 b.1 = true
def lookM : List ReqL → ByteArray → Option (List (Int × Int))
  | [], _ => none
  | r :: out, p => if r.1 = p then some r.2 else lookM out p
theorem ltB_ne {a b : ByteArray} (h : ltB a b = true) : a ≠ b := fun e => by rw [e, ltB_irrefl] at h; cases h
theorem lookM_none {out : List ReqL} {p : ByteArray} : lookM out p = none ↔ ∀ q ∈ out, q.1 ≠ p := by
  induction out with
  | nil => simp [lookM]
  | cons r out ih =>
    unfold lookM
    by_cases h : r.1 = p
    · rw [if_pos h]
      exact ⟨(fun h => by cases h), fun g => absurd h (g r (by simp))⟩
    · rw [if_neg h, ih]
      exact ⟨fun g q hq => (List.mem_cons.1 hq).elim (fun e => e ▸ h) (g q), fun g q hq => g q (by simp [hq])⟩
theorem lookM_mem {out : List ReqL} (ho : incrR out) {q : ReqL} : q ∈ out ↔ lookM out q.1 = some q.2 := by
  induction out with
  | nil => simp [lookM]
  | cons r out ih =>
    obtain ⟨h1, h2⟩ := List.pairwise_cons.1 ho
    unfold lookM
    by_cases h : r.1 = q.1
    · rw [if_pos h]
      constructor
      · intro hq
        rcases List.mem_cons.1 hq with rfl | hq
        · rfl
        · exact absurd h (ltB_ne (h1 q hq))
      · intro e
        have : q = r := Prod.ext h.symm (Option.some.inj e).symm
        rw [this]; simp
    · rw [if_neg h, ← ih h2, List.mem_cons]
      exact ⟨fun g => g.resolve_left (fun e => h (by rw [e])), .inr⟩
theorem incr_unique : ∀ {a b : List ReqL}, incrR a → incrR b → (∀ p, lookM a p = lookM b p) → a = b
  | [], [], _, _, _ => rfl
  | [], r :: b, _, _, h => by have := h r.1; unfold lookM at this; rw [if_pos rfl] at this; cases this
  | r :: a, [], _, _, h => by have := h r.1; unfold lookM at this; rw [if_pos rfl] at this; cases this
  | r :: a, t :: b, ha, hb, h => by
    have ma : ∀ q : ReqL, q ∈ r :: a ↔ q ∈ t :: b := fun q => by rw [lookM_mem ha, lookM_mem hb, h]
    obtain ⟨h1, h2⟩ := List.pairwise_cons.1 ha
    obtain ⟨h3, h4⟩ := List.pairwise_cons.1 hb
    have e : r = t := by
      rcases List.mem_cons.1 ((ma r).1 (by simp)) with e | hr
      · exact e
      · rcases List.mem_cons.1 ((ma t).2 (by simp)) with e | ht
        · exact e.symm
        · have g1 := h1 t ht
          have g2 := h3 r hr
          rw [ltB_asymm g1] at g2; cases g2
    subst e
    rw [incr_unique h2 h4 fun p => ?_]
    have := h p
    unfold lookM at this
    by_cases hp : r.1 = p
    · subst hp
      rw [lookM_none.2 fun q hq => (ltB_ne (h1 q hq)).symm, lookM_none.2 fun q hq => (ltB_ne (h3 q hq)).symm]
    · rwa [if_neg hp, if_neg hp] at this
theorem insM_head {out : List ReqL} {q x : ReqL} (h : x ∈ insM out q) : x.1 = q.1 ∨ x ∈ out := by
  induction out with
  | nil => exact .inl (by rw [List.mem_singleton.1 h])
  | cons r out ih =>
    unfold insM at h
    split at h
    · rcases List.mem_cons.1 h with rfl | h
      · exact .inr (by simp)
      · exact (ih h).imp id fun g => by simp [g]
    · split at h
      · rename_i he
        rcases List.mem_cons.1 h with rfl | h
        · exact .inl he
        · exact .inr (by simp [h])
      · rcases List.mem_cons.1 h with rfl | h
        · exact .inl rfl
        · exact .inr h
theorem insM_incr : ∀ {out : List ReqL} (q : ReqL), incrR out → incrR (insM out q)
  | [], q, _ => List.pairwise_singleton _ _
  | r :: out, q, ho => by
    obtain ⟨h1, h2⟩ := List.pairwise_cons.1 ho
    unfold insM
    split
    · rename_i hlt
      refine List.pairwise_cons.2 ⟨fun x hx => ?_, insM_incr q h2⟩
      rcases insM_head hx with e | hx
      · rw [e]; exact hlt
      · exact h1 x hx
    · rename_i hlt
      split
      · exact List.pairwise_cons.2 ⟨h1, h2⟩
      · rename_i hne
        have hqr : ltB q.1 r.1 = true := by
          cases hb : ltB q.1 r.1 with
          | true => rfl
          | false => exact absurd (ltB_tri (by simpa using hlt) hb) hne
        refine List.pairwise_cons.2 ⟨fun x hx => ?_, ho⟩
        rcases List.mem_cons.1 hx with rfl | hx
        · exact hqr
        · exact ltB_trans hqr (h1 x hx)
theorem insM_look : ∀ {out : List ReqL} (q : ReqL) (p : ByteArray), incrR out → lookM (insM out q) p = if p = q.1 then some (match lookM out q.1 with | some s => interS [s, q.2] | none => q.2) else lookM out p
  | [], q, p, _ => by
    unfold insM lookM
    by_cases h : p = q.1
    · rw [if_pos h, if_pos h.symm]
    · rw [if_neg h, if_neg fun e => h e.symm]
      rfl
  | r :: out, q, p, ho => by
    obtain ⟨h1, h2⟩ := List.pairwise_cons.1 ho
    have ih := insM_look q p h2
    unfold insM
    split
    · rename_i hlt
      have hne := ltB_ne hlt
      rw [show lookM (r :: insM out q) p = if r.1 = p then some r.2 else lookM (insM out q) p from rfl, show lookM (r :: out) q.1 = if r.1 = q.1 then some r.2 else lookM out q.1 from rfl, show lookM (r :: out) p = if r.1 = p then some r.2 else lookM out p from rfl, if_neg hne, ih]
      by_cases hp : r.1 = p
      · rw [if_pos hp, if_pos hp, if_neg fun e => hne (hp.trans e)]
      · rw [if_neg hp, if_neg hp]
    · rename_i hlt
      split
      · rename_i he
        rw [show lookM ((r.1, interS [r.2, q.2]) :: out) p = if r.1 = p then some (interS [r.2, q.2]) else lookM out p from rfl, show lookM (r :: out) q.1 = if r.1 = q.1 then some r.2 else lookM out q.1 from rfl, show lookM (r :: out) p = if r.1 = p then some r.2 else lookM out p from rfl, if_pos he]
        by_cases hp : p = q.1
        · rw [if_pos hp, if_pos (he.trans hp.symm)]
        · rw [if_neg hp, if_neg fun e => hp (e.symm.trans he), if_neg fun e => hp (e.symm.trans he)]
      · rename_i hne
        have hqr : ltB q.1 r.1 = true := by
          cases hb : ltB q.1 r.1 with
          | true => rfl
          | false => exact absurd (ltB_tri (by simpa using hlt) hb) hne
        have hno : lookM (r :: out) q.1 = none := lookM_none.2 fun x hx => by
          rcases List.mem_cons.1 hx with rfl | hx
          · exact hne
          · exact (ltB_ne (ltB_trans hqr (h1 x hx))).symm
        rw [show lookM (q :: r :: out) p = if q.1 = p then some q.2 else lookM (r :: out) p from rfl, hno]
        by_cases hp : p = q.1
        · rw [if_pos hp, if_pos hp.symm]
        · rw [if_neg hp, if_neg fun e => hp e.symm]
def setsAt (l : List ReqL) (p : ByteArray) : List (List (Int × Int)) := (l.filter fun q => decide (q.1 = p)).map (·.2)
def joinI : List (List (Int × Int)) → Option (List (Int × Int))
  | [] => none
  | s :: t => some (t.foldl (fun a b => interS [a, b]) s)
theorem joinI_snoc (l : List (List (Int × Int))) (b : List (Int × Int)) : joinI (l ++ [b]) = some (match joinI l with | some s => interS [s, b] | none => b) := by
  cases l with
  | nil => rfl
  | cons s t =>
    show some ((t ++ [b]).foldl _ s) = _
    rw [List.foldl_append]
    rfl
theorem merge_incr_look : ∀ (l : List ReqL), incrR (l.foldl insM []) ∧ ∀ p, lookM (l.foldl insM []) p = joinI (setsAt l p) := by
  have key : ∀ (l pre : List ReqL), (incrR (pre.foldl insM []) ∧ ∀ p, lookM (pre.foldl insM []) p = joinI (setsAt pre p)) → (incrR ((pre ++ l).foldl insM []) ∧ ∀ p, lookM ((pre ++ l).foldl insM []) p = joinI (setsAt (pre ++ l) p)) := by
    intro l
    induction l with
    | nil => intro pre h; simpa using h
    | cons q l ih =>
      intro pre h
      have := ih (pre ++ [q]) ?_
      · simpa using this
      · rw [List.foldl_append]
        refine ⟨insM_incr q h.1, fun p => ?_⟩
        show lookM (insM (pre.foldl insM []) q) p = _
        rw [insM_look q p h.1]
        unfold setsAt
        rw [List.filter_append, List.map_append]
        by_cases hp : p = q.1
        · subst hp
          rw [if_pos rfl, h.2]
          have : List.map (·.2) (List.filter (fun x : ReqL => decide (x.1 = q.1)) [q]) = [q.2] := by simp
          rw [this, joinI_snoc]
          rfl
        · rw [if_neg hp, h.2]
          have : List.map (·.2) (List.filter (fun x : ReqL => decide (x.1 = p)) [q]) = [] := by simp [Ne.symm hp]
          rw [this, List.append_nil]
          rfl
  intro l
  exact key l [] ⟨List.Pairwise.nil, fun p => rfl⟩
theorem setsAt_one {l : List ReqL} (h : incrR l) {q : ReqL} (hq : q ∈ l) : setsAt l q.1 = [q.2] := by
  induction l with
  | nil => cases hq
  | cons r l ih =>
    obtain ⟨h1, h2⟩ := List.pairwise_cons.1 h
    unfold setsAt
    rcases List.mem_cons.1 hq with rfl | hq
    · rw [List.filter_cons_of_pos (by simp), List.filter_eq_nil_iff.2 fun x hx => by simpa using (ltB_ne (h1 x hx)).symm]
      rfl
    · rw [List.filter_cons_of_neg (by simpa using ltB_ne (h1 q hq))]
      exact ih h2 hq
theorem setsAt_none {l : List ReqL} {p : ByteArray} (h : ∀ q ∈ l, q.1 ≠ p) : setsAt l p = [] := by
  unfold setsAt
  rw [List.filter_eq_nil_iff.2 fun x hx => by simpa using h x hx]
  rfl
theorem setsAt_append (a b : List ReqL) (p : ByteArray) : setsAt (a ++ b) p = setsAt a p ++ setsAt b p := by
  unfold setsAt
  rw [List.filter_append, List.map_append]
theorem inter_up {a b : Int} (ha : 0 ≤ a ∧ a < 1000000) (hb : 0 ≤ b ∧ b < 1000000) : interS [[(a, 1000000)], [(b, 1000000)]] = [(max a b, 1000000)] := by
  refine can_unique (inter_can _) (can_cons.2 ⟨⟨by simp; omega, by simp; omega, Int.le_refl _⟩, fun y hy => (List.not_mem_nil hy).elim, can_nil⟩) fun p => ?_
  rw [inter_in, inL_one]
  simp only [List.mem_cons, List.not_mem_nil, or_false, forall_eq_or_imp, forall_eq, inL_one]
  omega
structure GoodQ (q : ReqL) : Prop where
  line : (lineV q.1).2.2 = 0
  set : ∃ m, q.2 = [(m, 1000000)] ∧ 0 ≤ m ∧ m < 1000000
theorem UpQ.good {q : ReqL} (h : UpQ q) : GoodQ q := ⟨h.ok.line, _, h.set, h.lo, h.hi⟩
theorem GoodQ.req {q : ReqL} (h : GoodQ q) : ReqOk q ∧ upB (canon q.2) = true := by
  obtain ⟨m, e, h0, h1⟩ := h.set
  refine ⟨⟨h.line, by rw [e]; simp, by rw [e, canon_up h0 h1]⟩, by rw [e]; exact up_up h0 h1⟩
theorem insM_good {out : List ReqL} {q : ReqL} (h : ∀ x ∈ out, GoodQ x) (hq : GoodQ q) : ∀ x ∈ insM out q, GoodQ x := by
  induction out with
  | nil => intro x hx; rw [List.mem_singleton.1 hx]; exact hq
  | cons r out ih =>
    intro x hx
    unfold insM at hx
    split at hx
    · rcases List.mem_cons.1 hx with rfl | hx
      · exact h x (by simp)
      · exact ih (fun y hy => h y (by simp [hy])) x hx
    · split at hx
      · rcases List.mem_cons.1 hx with rfl | hx
        · obtain ⟨l, a, ea, ha⟩ := h r (by simp)
          obtain ⟨_, b, eb, hb⟩ := hq
          exact ⟨l, max a b, by rw [ea, eb]; exact inter_up ha hb, by omega, by omega⟩
        · exact h x (by simp [hx])
      · rcases List.mem_cons.1 hx with rfl | hx
        · exact hq
        · exact h x hx
theorem merge_good {l : List ReqL} (h : ∀ q ∈ l, GoodQ q) : ∀ q ∈ l.foldl insM [], GoodQ q := by
  have key : ∀ (l out : List ReqL), (∀ q ∈ l, GoodQ q) → (∀ q ∈ out, GoodQ q) → ∀ q ∈ l.foldl insM out, GoodQ q := by
    intro l
    induction l with
    | nil => exact fun out _ h => h
    | cons q l ih => exact fun out h1 h2 => ih _ (fun x hx => h1 x (by simp [hx])) (insM_good h2 (h1 q (by simp)))
  exact key l [] h fun q hq => (List.not_mem_nil hq).elim
theorem merge_up {ls : List (List ReqL)} {out : List ReqL} (h : mergeV ls = (out, 0)) : UpR out ∧ (∀ l ∈ ls, UpR l) ∧ out = mergeL ls := by
  unfold mergeV at h
  split at h
  · cases h
  · rename_i h1
    split at h
    · cases h
    · rename_i h2
      injection h with h
      have hu : ∀ l ∈ ls, UpR l := fun l hl => Classical.byContradiction fun e => h1 ⟨l, hl, e⟩
      have hg : ∀ q ∈ ls.flatten, GoodQ q := fun q hq => by
        obtain ⟨l, hl, hq⟩ := List.mem_flatten.1 hq
        exact ((hu l hl).q hq).good
      have g2 := merge_good hg
      subst h
      exact ⟨⟨reqs_check ⟨by omega, fun q hq => (g2 q hq).req.1, (merge_incr_look _).1⟩, fun q hq => (g2 q hq).req.2⟩, hu, rfl⟩
theorem UpR.incr {l : List ReqL} (h : UpR l) : incrR l := (reqs_ok h.1).incr
theorem merge_sub {r1 r2 : List ReqL} (h1 : incrR r1) (h : ∀ q ∈ r2, ∀ p ∈ r1, p.1 ≠ q.1) : ∀ q ∈ r1, q ∈ mergeL [r1, r2] := fun q hq => by
  unfold mergeL
  obtain ⟨g1, g2⟩ := merge_incr_look [r1, r2].flatten
  rw [lookM_mem g1, g2]
  simp only [List.flatten_cons, List.flatten_nil, List.append_nil]
  rw [setsAt_append, setsAt_one h1 hq, setsAt_none fun x hx e => h x hx q hq e.symm]
  rfl
theorem merge_own {X : List RelL} {roots : List ReqL} (hp : PlainP X roots) (ha : AllM false X roots) : mergeL [roots, ownL (selL false X roots)] = ownL (selL false X roots) := by
  have hX := idx_ok hp.idx
  have hs := sel_sat hp ha
  have hi : incrR (ownL (selL false X roots)) := by
    unfold ownL incrR
    rw [List.pairwise_map]
    exact hs.incr
  unfold mergeL
  obtain ⟨g1, g2⟩ := merge_incr_look [roots, ownL (selL false X roots)].flatten
  refine incr_unique g1 hi fun p => ?_
  rw [g2]
  simp only [List.flatten_cons, List.flatten_nil, List.append_nil]
  rw [setsAt_append]
  by_cases hy : ∃ y ∈ selL false X roots, y.1 = p
  · obtain ⟨y, hy, rfl⟩ := hy
    have hm : ownQ y ∈ ownL (selL false X roots) := List.mem_map.2 ⟨y, hy, rfl⟩
    have e1 := setsAt_one hi hm
    have e2 := (lookM_mem hi).1 hm
    rw [show (ownQ y).1 = y.1 from rfl] at e1 e2
    rw [e1, e2]
    by_cases hr : ∃ q ∈ roots, q.1 = y.1
    · obtain ⟨q, hq, e⟩ := hr
      rw [← e, setsAt_one hp.roots.incr hq]
      have hu := hp.roots.q hq
      have hm2 := hs.root q hq
      unfold metB at hm2
      obtain ⟨z, hz, hz2⟩ := List.any_eq_true.1 hm2
      rw [Bool.and_eq_true] at hz2
      obtain ⟨i, hti, rfl⟩ := selL_mem.1 hy
      obtain ⟨j, htj, rfl⟩ := selL_mem.1 hz
      have hij : j = i := top_one htj hti ((of_decide_eq_true hz2.1).trans e)
      subst hij
      have hb := (hX.rel j (topM_mem.1 htj).1.lt.1).plc
      have h3 : hasB q.2 (plc (X.getD j default).ver) = true := hz2.2
      rw [hu.has hb.1 hb.2] at h3
      have h3 := of_decide_eq_true h3
      show some (interS [q.2, [(plc (X.getD j default).ver, 1000000)]]) = some [(plc (X.getD j default).ver, 1000000)]
      rw [hu.set, inter_up ⟨hu.lo, hu.hi⟩ hb]
      rw [show max (leastV q.2).1 (plc (X.getD j default).ver) = plc (X.getD j default).ver by omega]
    · rw [setsAt_none fun q hq e => hr ⟨q, hq, e⟩]
      rfl
  · rw [setsAt_none (l := ownL (selL false X roots)) fun q hq e => by
      obtain ⟨y, hy1, rfl⟩ := List.mem_map.1 hq
      exact hy ⟨y, hy1, e⟩,
      setsAt_none (l := roots) fun q hq e => by
        obtain ⟨y, hy1, hy2⟩ := metB_path (hs.root q hq)
        exact hy ⟨y, hy1, hy2.trans e⟩]
    rw [lookM_none.2 fun q hq e => by
      obtain ⟨y, hy1, rfl⟩ := List.mem_map.1 hq
      exact hy ⟨y, hy1, e⟩]
    rfl
end Go.Proofs.YtenfkejbndifdaaGreatDoor
