/- Contracts of the reference 34: choose, Select, Newest. Contracts of the reference 34: Select, Newest. -/
import Derived.Test.YtenfkejbndifdaaGreatDoorXM
namespace Go.Proofs.YtenfkejbndifdaaGreatDoor
set_option linter.unusedVariables false
set_option linter.unusedSimpArgs false
open Go Go.RowKit Go.Maps

noncomputable def topS (nw : Bool) (X : List RelL) (roots : List ReqL) (k : Nat) : List SelL := (topK nw X roots k).map fun i => keyL (X.getD i default)
theorem topS_zero {nw : Bool} {X : List RelL} {roots : List ReqL} : topS nw X roots 0 = [] := by unfold topS; rw [topK_zero]; rfl
theorem topS_all {nw : Bool} {X : List RelL} {roots : List ReqL} : topS nw X roots X.length = selL nw X roots := by unfold topS selL; rw [topK_all]
theorem topS_len {nw : Bool} {X : List RelL} {roots : List ReqL} {k : Nat} : (topS nw X roots k).length ≤ k := by
  unfold topS topK
  rw [List.length_map]
  exact Nat.le_trans (List.length_filter_le _ _) (by simp)
theorem topS_no {nw : Bool} {X : List RelL} {roots : List ReqL} {k : Nat} (h : ¬ RchM nw X roots k) : topS nw X roots (k + 1) = topS nw X roots k := by unfold topS; rw [topK_no h]
theorem topS_new {nw : Bool} {X : List RelL} {roots : List ReqL} {k : Nat} (hX : IdxOk X) (hk : k < X.length) (h : RchM nw X roots k) (hn : ∀ y, (topS nw X roots k).getLast? = some y → y.1 ≠ (X.getD k default).path) : topS nw X roots (k + 1) = topS nw X roots k ++ [keyL (X.getD k default)] := by
  unfold topS at hn ⊢
  rw [topK_new hX hk h (fun m hm e => hn (keyL (X.getD m default)) (by rw [List.getLast?_map, hm]; rfl) e), List.map_append]
  rfl
theorem topS_same {nw : Bool} {X : List RelL} {roots : List ReqL} {k : Nat} (h : RchM nw X roots k) {y : SelL} (hl : (topS nw X roots k).getLast? = some y) (hp : y.1 = (X.getD k default).path) : topS nw X roots (k + 1) = (topS nw X roots k).dropLast ++ [keyL (X.getD k default)] := by
  unfold topS at hl ⊢
  rw [List.getLast?_map] at hl
  obtain ⟨m, hm, e⟩ := Option.map_eq_some_iff.1 hl
  subst e
  rw [topK_same h hm hp, List.map_append, List.map_dropLast]
  rfl
def setSel (W : World) (g o : Nat) (y : SelL) : World := (((W.setCell ⟨g, o, none⟩ (.string y.1)).setCell ⟨g, o + 1, none⟩ (.int .i64 y.2.1)).setCell ⟨g, o + 2, none⟩ (.int .i64 y.2.2.1)).setCell ⟨g, o + 3, none⟩ (.int .i64 y.2.2.2)
theorem setSel_last {W : World} {B g cap : Nat} {l : List SelL} {y z : SelL} (h : W.ownsRow B 43 4 (.slice (some ⟨g, 0, none⟩) (l.length + 1) cap) (l.length + 1) (selCells (l ++ [y]))) :
    (setSel W g (l.length * 4) z).ownsRow B 43 4 (.slice (some ⟨g, 0, none⟩) (l.length + 1) cap) (l.length + 1) (selCells (l ++ [z])) ∧ W.grownBy (setSel W g (l.length * 4) z) (some g) := by
  unfold setSel
  obtain ⟨h1, g1⟩ := h.stored (l.length * 4) (.string z.1)
  obtain ⟨h2, g2⟩ := h1.stored (l.length * 4 + 1) (.int .i64 z.2.1)
  obtain ⟨h3, g3⟩ := h2.stored (l.length * 4 + 2) (.int .i64 z.2.2.1)
  obtain ⟨h4, g4⟩ := h3.stored (l.length * 4 + 3) (.int .i64 z.2.2.2)
  refine ⟨?_, grownBy_tr (grownBy_tr (grownBy_tr g1 g2) g3) g4⟩
  have hl := selCells_len l
  have e : ((((selCells (l ++ [y])).set (l.length * 4) (.string z.1)).set (l.length * 4 + 1) (.int .i64 z.2.1)).set (l.length * 4 + 2) (.int .i64 z.2.2.1)).set (l.length * 4 + 3) (.int .i64 z.2.2.2) = selCells (l ++ [z]) := by
    rw [selCells_snoc, selCells_snoc, ← hl]
    rw [List.set_append_right _ _ (Nat.le_refl _), Nat.sub_self]
    rw [List.set_append_right _ _ (by omega), List.set_append_right _ _ (by omega), List.set_append_right _ _ (by omega)]
    congr 1
    rw [show (selCells l).length + 1 - (selCells l).length = 1 by omega, show (selCells l).length + 2 - (selCells l).length = 2 by omega, show (selCells l).length + 3 - (selCells l).length = 3 by omega]
    rfl
  rw [e] at h4
  exact h4
structure RcJ (w : World) (v iv : Value) (gf : Nat) (fl : List Bool) (L : List SelL) (ov : Value) (W : World) : Prop where
  law : LawB w v iv W
  flg : FlagsM W gf fl
  out : W.ownsRow (gf + 1) 43 4 ov L.length (selCells L)
theorem RcJ.below {w : World} {v iv : Value} {gf : Nat} {fl : List Bool} {L : List SelL} {ov : Value} {W W' : World} (h : RcJ w v iv gf fl L ov W) (hb : Below W.heap.size W W') : RcJ w v iv gf fl L ov W' :=
  ⟨h.law.below hb, (hb.block _ (Array.getElem?_eq_some_iff.1 h.flg).1).trans h.flg, own_on h.out hb⟩
set_option maxRecDepth 100000 in
set_option maxHeartbeats 16000000 in
theorem rchoose34_any (nw : Bool) (v iv rov : Value) (X : List RelL) (roots : List ReqL) (w : World) (hX : X.length ≤ 1000000) (hq : ∀ x ∈ X, RelBd x) (hR : RelsOf w.heap.size v X w)
    (hro : roots.length ≤ 1000000) (hrq : ReqsBd roots) (hRo : ReqsOf w.heap.size rov roots w) :
    Calls Tryz.prog 69 #[.agg #[v, iv], rov, .bool nw] w (SelR nw X roots w) := by
  have HPL := Lib.hid (fun W (hb : Below w.heap.size w W) => rPlain34_any v iv rov X roots W hX hq (hR.on hb) hro hrq (hRo.on hb))
  have HRC := Lib.hid (fun W (hp : PlainP X roots) (hb : Below w.heap.size w W) => rreach34_any nw v iv rov X roots W hp hX hq (hR.on hb) hro hrq (hRo.on hb))
  obtain ⟨ao, cap, rv, rfl, hrv⟩ := hR.rv
  have HRV := Lib.hid hrv
  obtain ⟨ra, rc, rfl⟩ : ∃ ra rc, rov = .slice ra roots.length rc := by obtain ⟨a, c, e, _⟩ := hRo; exact ⟨a, c, e⟩
  clear hR hRo hrq hq hrv
  have HB0 := Lib.hid (LawB.start w (.slice ao X.length cap) iv)
  go_enter Tryz.func69, Tryz.ntmps69
  go_upto_region 1 with fail
  generalize w.alloc (.cells #[.slice ao X.length cap, iv] 25) = W at *
  have c0 := HB0.out.c0
  have c1 := HB0.out.c1
  go_wp2_with fail
  refine (HPL.out _ HB0.out.bel).mono ?_
  rintro e w1 ⟨hb1, bp, rfl, hbp⟩
  have HB1 := Lib.hid (HB0.out.below hb1)
  have HBP := Lib.hid hbp
  clear hb1 hbp c0 c1 HPL HB0
  cases bp with
  | false =>
    have HSM := Lib.hid (selM_arg (nw := nw) (fun h => by have := HBP.out.2 h; cases this))
    go_wp2_with fail
    go_ret2
    unfold SelR
    rw [HSM.out]
    exact ⟨HB1.out.bel, _, rfl, ⟨_, _, rfl, fun i q hq => by simp at hq⟩⟩
  | true =>
    have HPP := Lib.hid (HBP.out.1 rfl)
    have hX256 := (idx_ok HPP.out.idx).len
    have HRX := Lib.hid (HRC.out w1 HPP.out HB1.out.bel)
    have c0 := HB1.out.c0
    have c1 := HB1.out.c1
    clear HBP HRC
    go_wp2_with fail
    refine HRX.out.mono ?_
    rintro e w2 ⟨hb2, h2⟩
    have HB2 := Lib.hid (HB1.out.below hb2)
    clear hb2 c0 c1 HRX
    rcases h2 with ⟨hall, gf, fl, rfl, hgf1, hfl, hfn, hfm⟩ | ⟨hno, rfl⟩
    case inr =>
      have HSM := Lib.hid (selM_not HPP.out hno)
      clear hno
      go_wp2_with fail
      go_ret2
      unfold SelR
      rw [HSM.out]
      exact ⟨HB2.out.bel, _, rfl, ⟨_, _, rfl, fun i q hq => by simp at hq⟩⟩
    have HSM := Lib.hid (selM_ok HPP.out hall)
    have HGF := Lib.hid (Nat.lt_of_lt_of_le HB1.out.lt hgf1)
    have HFM := Lib.hid hfm
    have HFN := Lib.hid hfn
    have HIX := Lib.hid (idx_ok HPP.out.idx)
    have HJ0 : Hid (RcJ w (.slice ao X.length cap) iv gf fl (topS nw X roots 0) (.slice (some ⟨w2.heap.size, 0, none⟩) 0 0) (w2.alloc (.cells #[] 43))) := Lib.hid (by
      have hlt := (Array.getElem?_eq_some_iff.1 hfl).1
      refine ⟨HB2.out.below (belQ _ _), ((belQ w2 (.cells #[] 43)).block _ hlt).trans hfl, ?_⟩
      rw [topS_zero]
      exact World.ownsRow_made w2 #[] 0 hlt (by decide) rfl)
    obtain ⟨i0, hi0', hz0, hz1, hz2⟩ := info_parts info_sel
    clear hall hfl hfm HB2 hgf1
    go_upto_region 7 with fail
    generalize hg2 : w2.heap.size = g2 at *
    generalize w2.alloc (.cells #[] 43) = W2 at *
    clear hg2
    go_wp2_with fail
    go_loopw [10, 11] (fun ov p wr => Hid (∃ k : Nat, k ≤ X.length ∧ p = .int .i64 (k : Int) ∧ RcJ w (.slice ao X.length cap) iv gf fl (topS nw X roots k) ov wr)) (fun _ p _ => X.length - (intOf p).toNat)
    case atStart => exact Lib.hid ⟨0, Nat.zero_le _, rfl, HJ0.out⟩
    case round =>
      obtain ⟨k, hk, rfl, hj⟩ := hrel.out
      have HJ := Lib.hid hj
      clear hrel hj
      obtain ⟨og, oc, rfl⟩ := own_any HJ.out.out
      by_cases hlk : k < X.length
      case neg =>
        have hkk : k = X.length := Nat.le_antisymm hk (Nat.le_of_not_lt hlk)
        subst hkk
        go_wp2_with fail
        go_ret2
        unfold SelR
        rw [HSM.out]
        exact ⟨HJ.out.law.bel, _, rfl, by rw [← topS_all]; exact own_sels HJ.out.out⟩
      case pos =>
        have hkf : k < fl.length := by rw [HFN.out]; exact hlk
        obtain ⟨fb, hfb⟩ : ∃ fb, fl[k] = fb := ⟨_, rfl⟩
        have hfc := HJ.out.flg.cell k fb (by rw [List.getElem?_eq_getElem hkf, hfb])
        have HFK : Hid (fb = true ↔ RchM nw X roots k) := Lib.hid (by rw [← HFM.out k, ← hfb]; unfold bM; rw [List.getD_eq_getElem?_getD, List.getElem?_eq_getElem hkf]; rfl)
        have hk1 : (0 : Int) ≤ (k : Int) := Int.natCast_nonneg k
        have hk2 : (k : Int) < (X.length : Int) := Int.ofNat_lt.2 hlk
        have hk3 : (k : Int) < (fl.length : Int) := Int.ofNat_lt.2 hkf
        clear hfb
        cases fb with
        | false =>
          have HTN := Lib.hid (topS_no (nw := nw) (X := X) (roots := roots) (k := k) (fun h => by have := HFK.out.2 h; cases this))
          go_wp2_with fail
          go_roundw
          case rel => exact Lib.hid ⟨k + 1, hlk, by go_num, by rw [HTN.out]; exact HJ.out⟩
          case measure => simp [intOf]; omega
        | true =>
          have HRK := Lib.hid (HFK.out.1 rfl)
          obtain ⟨b, off, e1, hb, hcs, _⟩ := HRV.out k _ (List.getElem?_eq_getElem hlk)
          subst e1
          have HGD : Hid (X.getD k default = X[k]) := Lib.hid (by rw [List.getD_eq_getElem?_getD, List.getElem?_eq_getElem hlk]; rfl)
          have hcs := hcs.below HJ.out.law.bel hb
          have HNEW : Hid ((∀ y, (topS nw X roots k).getLast? = some y → y.1 ≠ X[k].path) → topS nw X roots (k + 1) = topS nw X roots k ++ [keyL X[k]]) := Lib.hid (fun h => by
            have := topS_new HIX.out hlk HRK.out (by rw [HGD.out]; exact h)
            rwa [HGD.out] at this)
          have HSAME : Hid (∀ y, (topS nw X roots k).getLast? = some y → y.1 = X[k].path → topS nw X roots (k + 1) = (topS nw X roots k).dropLast ++ [keyL X[k]]) := Lib.hid (fun y hy e => by
            have := topS_same HRK.out hy (by rw [HGD.out]; exact e)
            rwa [HGD.out] at this)
          have hlen : (topS nw X roots k).length ≤ k := topS_len
          generalize X[k] = x at *
          generalize rv k = r at *
          generalize topS nw X roots k = L at *
          obtain ⟨d0, d1, d2, d3, _⟩ := hcs
          have c0 := HJ.out.law.c0
          clear HFK HGD
          have hwl := HJ.out.law.lt
          have hbw : b < wr.heap.size := Nat.lt_of_lt_of_le hb HJ.out.law.bel.size
          go_upto_region 11 with fail
          go_cut [12] from 39 to 51 (fun s12 wx => ∃ gx : Nat, s12 = .pointer (some ⟨gx, 0, none⟩) ∧ Hid (SelBox wx gx (keyL x) ∧ Below wr.heap.size wr wx))
          case first =>
            go_region
            all_goals
              go_wp2_with fail
              go_meet
              exact ⟨_, rfl, Lib.hid ⟨World.alloc_heap_new _ _, (belQ _ _).drew⟩⟩
          case rest =>
            obtain ⟨gx, rfl, HX⟩ := hcut
            generalize wc = w5 at *
            have HJ5 := Lib.hid (HJ.out.below HX.out.2)
            have HX5 := Lib.hid HX.out.1
            clear d0 d1 d2 d3 c0 HJ HX
            generalize hkx : keyL x = z at *
            have hzp : z.1 = x.path := by rw [← hkx]; rfl
            rw [← hzp] at HNEW HSAME
            have hgx : gx < w5.heap.size := (Array.getElem?_eq_some_iff.1 HX5.out).1
            clear hkx hzp
            go_upto_region 13 with fail
            cases hgl : L.getLast? with
            | none =>
              have hL0 := List.getLast?_eq_none_iff.1 hgl
              subst hL0
              have HNX := Lib.hid (HNEW.out (fun y hy => by cases hy))
              clear hgl
              have x0 : w5.cell? ⟨gx, 0, none⟩ = some (.string z.1) := cell_of_row _ _ 0 _ _ _ HX5.out
              simp only [List.length_nil]
              go_quiet (fail)
              have hbq : Below w5.heap.size w5 (w5.drewN nq) := below_drewNV (Below.refl _ _) nq
              have HJ6 := Lib.hid (HJ5.out.below hbq)
              have HX6 := Lib.hid ((hbq.block gx hgx).trans HX5.out)
              clear hbq x0 HJ5 HX5 hgx
              generalize w5.drewN nq = w6 at *
              have x0 : w6.cell? ⟨gx, 0, none⟩ = some (.string z.1) := cell_of_row _ _ 0 _ _ _ HX6.out
              have x1 : w6.cell? ⟨gx, 1, none⟩ = some (.int .i64 z.2.1) := cell_of_row _ _ 1 _ _ _ HX6.out
              have x2 : w6.cell? ⟨gx, 2, none⟩ = some (.int .i64 z.2.2.1) := cell_of_row _ _ 2 _ _ _ HX6.out
              have x3 : w6.cell? ⟨gx, 3, none⟩ = some (.int .i64 z.2.2.2) := cell_of_row _ _ 3 _ _ _ HX6.out
              have HN9 : Hid ((w6.alloc (.cells #[.string z.1, .int .i64 z.2.1, .int .i64 z.2.2.1, .int .i64 z.2.2.2] 43)).heap[w6.heap.size]? = some (.cells #[.string z.1, .int .i64 z.2.1, .int .i64 z.2.2.1, .int .i64 z.2.2.2] 43)) := Lib.hid (heap_alloc_new w6 _)
              have HJ7 := Lib.hid (HJ6.out.below (belQ w6 (.cells #[.string z.1, .int .i64 z.2.1, .int .i64 z.2.2.1, .int .i64 z.2.2.2] 43)))
              have HO7 : Hid ((w6.alloc (.cells #[.string z.1, .int .i64 z.2.1, .int .i64 z.2.2.1, .int .i64 z.2.2.2] 43)).ownsRow (gf + 1) 43 4 (Value.slice og 0 oc) (0) (selCells (([] : List SelL)))) := Lib.hid (by have := HJ7.out.out; exact this)
              have hgs : gf + 1 ≤ (w6.alloc (.cells #[.string z.1, .int .i64 z.2.1, .int .i64 z.2.2.1, .int .i64 z.2.2.2] 43)).heap.size := (Array.getElem?_eq_some_iff.1 HJ7.out.flg).1
              go_wp2_with (at_builtin; refine wpList_append_own _ rfl _ _ 27 rfl (gf + 1) 43 i0 _ 4 40 Tryz.underlying27 hi0' hz0 hz1 hz2 rfl (by decide) (Value.slice og 0 oc) _ _ (by rfl) HO7.out ⟨w6.heap.size, 0, none⟩ 1 1 [.string z.1, .int .i64 z.2.1, .int .i64 z.2.2.1, .int .i64 z.2.2.2] (by rfl) (by rfl) (World.news_of_block HN9.out) (by simp [Value.oneCell']) (by unfold maxLen; omega) (by omega) hgs ?_; intro v' wB hown' hgrow _; have HOW := Lib.hid hown'; have HGR := Lib.hid hgrow; clear hown' hgrow; obtain ⟨g3, gc3, rfl⟩ := ownsRow_succ HOW.out)
              have HJ8 : Hid (∀ v', wB.ownsRow (gf + 1) 43 4 v' (0 + 1) (selCells (([] : List SelL)) ++ [.string z.1, .int .i64 z.2.1, .int .i64 z.2.2.1, .int .i64 z.2.2.2]) → RcJ w (.slice (some ⟨b, off, none⟩) X.length cap) iv gf fl (topS nw X roots (k + 1)) v' wB) := Lib.hid (fun v' ho => by
                have hlo := HJ7.out.out.lt
                have hgf := (Array.getElem?_eq_some_iff.1 HJ7.out.flg).1
                have hwl := HJ7.out.law.lt
                refine ⟨⟨HJ7.out.law.bel.grown HGR.out HJ7.out.law.bel.size (fun b hb => by have := (hlo b hb).1; have := HGF.out; omega), (HGR.out.block _ hwl (fun e => by have := (hlo _ e.symm).1; have := HGF.out; omega)).trans HJ7.out.law.idx⟩, (HGR.out.block _ hgf (fun e => by have := (hlo _ e.symm).1; omega)).trans HJ7.out.flg, ?_⟩
                rw [HNX.out, List.length_append, selCells_snoc]
                exact ho)
              go_roundw
              case rel => exact Lib.hid ⟨k + 1, hlk, by go_num, HJ8.out _ HOW.out⟩
              case measure => simp [intOf]; omega
            | some y =>
              obtain ⟨M, hM⟩ := List.getLast?_eq_some_iff.1 hgl
              have hdl : L.dropLast = M := by rw [hM, List.dropLast_concat]
              rw [hdl] at HSAME
              subst hM
              obtain ⟨g, e⟩ : ∃ g, og = some ⟨g, 0, none⟩ := by
                rcases HJ5.out.out.2 with ⟨_, h0⟩ | ⟨g, c, cur, e, _⟩
                · simp at h0
                · injection e with e1 e2 e3
                  exact ⟨g, e1⟩
              subst e
              have hml : (M ++ [y]).length = M.length + 1 := by simp
              have hcy : w5.cell? ⟨g, M.length * 4, none⟩ = some (.string y.1) := by
                rw [HJ5.out.out.cellAt (M.length * 4) (by rw [hml]; omega)]
                have := selCells_at (l := M ++ [y]) (i := M.length) (j := 0) (by rw [hml]; omega) (by omega)
                rw [Nat.add_zero] at this
                rw [this]
                simp [selC]
              have x0 : w5.cell? ⟨gx, 0, none⟩ = some (.string z.1) := cell_of_row _ _ 0 _ _ _ HX5.out
              have HGL := Lib.hid hgl
              have hsub : wrap64 (((M.length + 1 : Nat) : Int) - 1) = (M.length : Int) := wrap_pred (by omega)
              have hsub2 : IntKind.i64.wrap (((M.length + 1 : Nat) : Int) - 1) = (M.length : Int) := by rw [IntWalk.i64_in _ (by omega)]; omega
              have hm0 : (0 : Int) ≤ (M.length : Int) := Int.natCast_nonneg _
              have hm1 : (M.length : Int) < ((M.length + 1 : Nat) : Int) := by omega
              have hm2 : decide ((0 : Int) < ((M.length + 1 : Nat) : Int)) = true := decide_eq_true (by omega)
              have hm3 : (0 : Int) < ((M.length + 1 : Nat) : Int) := by omega
              clear hgl hdl
              rw [hml] at hlen ⊢
              have HML := Lib.hid hml
              clear hml
              by_cases hp : y.1 = z.1
              case pos =>
                have hpb : (y.1.toList == z.1.toList) = true := by rw [eqs_dec]; exact decide_eq_true hp
                have HSM2 := Lib.hid (HSAME.out y HGL.out hp)
                clear hp HSAME HNEW
                go_quiet (fail)
                have hbq : Below w5.heap.size w5 (w5.drewN nq) := below_drewNV (Below.refl _ _) nq
                have HJ6 := Lib.hid (HJ5.out.below hbq)
                have HX6 := Lib.hid ((hbq.block gx hgx).trans HX5.out)
                clear hbq x0 hcy HJ5 HX5 hgx
                generalize w5.drewN nq = w6 at *
                have hy6 := HJ6.out.out
                rw [HML.out] at hy6
                obtain ⟨hset, hgr⟩ := setSel_last (z := z) hy6
                have HSET := Lib.hid hset
                have HGR := Lib.hid hgr
                have x0 : w6.cell? ⟨gx, 0, none⟩ = some (.string z.1) := cell_of_row _ _ 0 _ _ _ HX6.out
                have x1 : w6.cell? ⟨gx, 1, none⟩ = some (.int .i64 z.2.1) := cell_of_row _ _ 1 _ _ _ HX6.out
                have x2 : w6.cell? ⟨gx, 2, none⟩ = some (.int .i64 z.2.2.1) := cell_of_row _ _ 2 _ _ _ HX6.out
                have x3 : w6.cell? ⟨gx, 3, none⟩ = some (.int .i64 z.2.2.2) := cell_of_row _ _ 3 _ _ _ HX6.out
                have cat : ∀ j, j < 4 → w6.cell? ⟨g, M.length * 4 + j, none⟩ = (selC y)[j]? := fun j hj => by
                  rw [hy6.cellAt (M.length * 4 + j) (by omega)]
                  have := selCells_at (l := M ++ [y]) (i := M.length) (j := j) (by rw [HML.out]; omega) hj
                  rw [this]
                  simp
                have y0 : w6.cell? ⟨g, M.length * 4, none⟩ = some (.string y.1) := cat 0 (by omega)
                have y1 : w6.cell? ⟨g, M.length * 4 + 1, none⟩ = some (.int .i64 y.2.1) := cat 1 (by omega)
                have y2 : w6.cell? ⟨g, M.length * 4 + 2, none⟩ = some (.int .i64 y.2.2.1) := cat 2 (by omega)
                have y3 : w6.cell? ⟨g, M.length * 4 + 3, none⟩ = some (.int .i64 y.2.2.2) := cat 3 (by omega)
                have f0 := hy6.frozenAt (M.length * 4)
                have f1 := hy6.frozenAt (M.length * 4 + 1)
                have f2 := hy6.frozenAt (M.length * 4 + 2)
                have f3 := hy6.frozenAt (M.length * 4 + 3)
                have HJ8 : Hid (RcJ w (.slice (some ⟨b, off, none⟩) X.length cap) iv gf fl (topS nw X roots (k + 1)) (.slice (some ⟨g, 0, none⟩) (M.length + 1) oc) (setSel w6 g (M.length * 4) z)) := Lib.hid (by
                  have hlo := HJ6.out.out.lt g rfl
                  have hgf := (Array.getElem?_eq_some_iff.1 HJ6.out.flg).1
                  have hwl := HJ6.out.law.lt
                  refine ⟨⟨HJ6.out.law.bel.grown HGR.out HJ6.out.law.bel.size (fun b hb => by cases hb; have := HGF.out; omega), (HGR.out.block _ hwl (fun e => by injection e with e; have := HGF.out; omega)).trans HJ6.out.law.idx⟩, (HGR.out.block _ hgf (fun e => by injection e with e; omega)).trans HJ6.out.flg, ?_⟩
                  rw [HSM2.out, List.length_append]
                  exact HSET.out)
                clear cat hy6 hset hgr HSET HGR HJ6 HX6
                unfold setSel at HJ8
                go_wp2_with fail
                go_roundw
                case rel => exact Lib.hid ⟨k + 1, hlk, by go_num, HJ8.out⟩
                case measure => simp [intOf]; omega
              case neg =>
                have hpb : (y.1.toList == z.1.toList) = false := by rw [eqs_dec]; exact decide_eq_false hp
                have HNX := Lib.hid (HNEW.out (fun y' hy e => by rw [HGL.out] at hy; injection hy with hy; subst hy; exact hp e))
                clear hp HSAME HNEW
                go_quiet (fail)
                have hbq : Below w5.heap.size w5 (w5.drewN nq) := below_drewNV (Below.refl _ _) nq
                have HJ6 := Lib.hid (HJ5.out.below hbq)
                have HX6 := Lib.hid ((hbq.block gx hgx).trans HX5.out)
                clear hbq x0 hcy HJ5 HX5 hgx
                generalize w5.drewN nq = w6 at *
                have x0 : w6.cell? ⟨gx, 0, none⟩ = some (.string z.1) := cell_of_row _ _ 0 _ _ _ HX6.out
                have x1 : w6.cell? ⟨gx, 1, none⟩ = some (.int .i64 z.2.1) := cell_of_row _ _ 1 _ _ _ HX6.out
                have x2 : w6.cell? ⟨gx, 2, none⟩ = some (.int .i64 z.2.2.1) := cell_of_row _ _ 2 _ _ _ HX6.out
                have x3 : w6.cell? ⟨gx, 3, none⟩ = some (.int .i64 z.2.2.2) := cell_of_row _ _ 3 _ _ _ HX6.out
                have HN9 : Hid ((w6.alloc (.cells #[.string z.1, .int .i64 z.2.1, .int .i64 z.2.2.1, .int .i64 z.2.2.2] 43)).heap[w6.heap.size]? = some (.cells #[.string z.1, .int .i64 z.2.1, .int .i64 z.2.2.1, .int .i64 z.2.2.2] 43)) := Lib.hid (heap_alloc_new w6 _)
                have HJ7 := Lib.hid (HJ6.out.below (belQ w6 (.cells #[.string z.1, .int .i64 z.2.1, .int .i64 z.2.2.1, .int .i64 z.2.2.2] 43)))
                have HO7 : Hid ((w6.alloc (.cells #[.string z.1, .int .i64 z.2.1, .int .i64 z.2.2.1, .int .i64 z.2.2.2] 43)).ownsRow (gf + 1) 43 4 (Value.slice (some ⟨g, 0, none⟩) (M.length + 1) oc) (M.length + 1) (selCells (M ++ [y]))) := Lib.hid (by have := HJ7.out.out; rw [HML.out] at this; exact this)
                have hgs : gf + 1 ≤ (w6.alloc (.cells #[.string z.1, .int .i64 z.2.1, .int .i64 z.2.2.1, .int .i64 z.2.2.2] 43)).heap.size := (Array.getElem?_eq_some_iff.1 HJ7.out.flg).1
                go_wp2_with (at_builtin; refine wpList_append_own _ rfl _ _ 27 rfl (gf + 1) 43 i0 _ 4 40 Tryz.underlying27 hi0' hz0 hz1 hz2 rfl (by decide) (Value.slice (some ⟨g, 0, none⟩) (M.length + 1) oc) _ _ (by rfl) HO7.out ⟨w6.heap.size, 0, none⟩ 1 1 [.string z.1, .int .i64 z.2.1, .int .i64 z.2.2.1, .int .i64 z.2.2.2] (by rfl) (by rfl) (World.news_of_block HN9.out) (by simp [Value.oneCell']) (by unfold maxLen; omega) (by omega) hgs ?_; intro v' wB hown' hgrow _; have HOW := Lib.hid hown'; have HGR := Lib.hid hgrow; clear hown' hgrow; obtain ⟨g3, gc3, rfl⟩ := ownsRow_succ HOW.out)
                have HJ8 : Hid (∀ v', wB.ownsRow (gf + 1) 43 4 v' (M.length + 1 + 1) (selCells (M ++ [y]) ++ [.string z.1, .int .i64 z.2.1, .int .i64 z.2.2.1, .int .i64 z.2.2.2]) → RcJ w (.slice (some ⟨b, off, none⟩) X.length cap) iv gf fl (topS nw X roots (k + 1)) v' wB) := Lib.hid (fun v' ho => by
                  have hlo := HJ7.out.out.lt
                  have hgf := (Array.getElem?_eq_some_iff.1 HJ7.out.flg).1
                  have hwl := HJ7.out.law.lt
                  refine ⟨⟨HJ7.out.law.bel.grown HGR.out HJ7.out.law.bel.size (fun b hb => by have := (hlo b hb).1; have := HGF.out; omega), (HGR.out.block _ hwl (fun e => by have := (hlo _ e.symm).1; have := HGF.out; omega)).trans HJ7.out.law.idx⟩, (HGR.out.block _ hgf (fun e => by have := (hlo _ e.symm).1; omega)).trans HJ7.out.flg, ?_⟩
                  rw [HNX.out, List.length_append, selCells_snoc]
                  rw [HML.out]; exact ho)
                go_roundw
                case rel => exact Lib.hid ⟨k + 1, hlk, by go_num, HJ8.out _ HOW.out⟩
                case measure => simp [intOf]; omega
end Go.Proofs.YtenfkejbndifdaaGreatDoor

namespace Go.Proofs.YtenfkejbndifdaaGreatDoor
set_option linter.unusedVariables false
set_option linter.unusedSimpArgs false
open Go Go.RowKit Go.Maps

set_option maxRecDepth 100000 in
theorem rSelect34_any (v iv rov : Value) (X : List RelL) (roots : List ReqL) (w : World) (hX : X.length ≤ 1000000) (hq : ∀ x ∈ X, RelBd x) (hR : RelsOf w.heap.size v X w)
    (hro : roots.length ≤ 1000000) (hrq : ReqsBd roots) (hRo : ReqsOf w.heap.size rov roots w) :
    Calls Tryz.prog 19 #[.agg #[v, iv], rov] w (SelR false X roots w) := by
  have HC := Lib.hid (fun W (hb : Below w.heap.size w W) => rchoose34_any false v iv rov X roots W hX hq (hR.on hb) hro hrq (hRo.on hb))
  obtain ⟨va, vn, vc, rfl⟩ : ∃ a n c, v = .slice a n c := by obtain ⟨a, c, _, e, _⟩ := hR.rv; exact ⟨_, _, _, e⟩
  obtain ⟨ra, rc, rfl⟩ : ∃ ra rc, rov = .slice ra roots.length rc := by obtain ⟨a, c, e, _⟩ := hRo; exact ⟨a, c, e⟩
  clear hq hR hrq hRo
  unfold SelR at HC ⊢
  generalize selM false X roots = SM at *
  have HB0 := Lib.hid (LawB.start w (.slice va vn vc) iv)
  go_enter Tryz.func19, Tryz.ntmps19
  go_upto_region 1 with fail
  generalize w.alloc (.cells #[.slice va vn vc, iv] 25) = W at *
  have c0 := HB0.out.c0
  have c1 := HB0.out.c1
  go_wp2_with fail
  refine (HC.out _ HB0.out.bel).mono ?_
  rintro e w1 ⟨hb1, v', rfl, hs1⟩
  have HB1 := Lib.hid (HB0.out.below hb1)
  have HS1 := Lib.hid hs1
  clear hb1 hs1 c0 c1 HC
  go_wp2_with fail
  go_ret2
  exact ⟨HB1.out.bel, _, rfl, HS1.out⟩
set_option maxRecDepth 100000 in
theorem rNewest34_any (v iv rov : Value) (X : List RelL) (roots : List ReqL) (w : World) (hX : X.length ≤ 1000000) (hq : ∀ x ∈ X, RelBd x) (hR : RelsOf w.heap.size v X w)
    (hro : roots.length ≤ 1000000) (hrq : ReqsBd roots) (hRo : ReqsOf w.heap.size rov roots w) :
    Calls Tryz.prog 21 #[.agg #[v, iv], rov] w (SelR true X roots w) := by
  have HC := Lib.hid (fun W (hb : Below w.heap.size w W) => rchoose34_any true v iv rov X roots W hX hq (hR.on hb) hro hrq (hRo.on hb))
  obtain ⟨va, vn, vc, rfl⟩ : ∃ a n c, v = .slice a n c := by obtain ⟨a, c, _, e, _⟩ := hR.rv; exact ⟨_, _, _, e⟩
  obtain ⟨ra, rc, rfl⟩ : ∃ ra rc, rov = .slice ra roots.length rc := by obtain ⟨a, c, e, _⟩ := hRo; exact ⟨a, c, e⟩
  clear hq hR hrq hRo
  unfold SelR at HC ⊢
  generalize selM true X roots = SM at *
  have HB0 := Lib.hid (LawB.start w (.slice va vn vc) iv)
  go_enter Tryz.func21, Tryz.ntmps21
  go_upto_region 1 with fail
  generalize w.alloc (.cells #[.slice va vn vc, iv] 25) = W at *
  have c0 := HB0.out.c0
  have c1 := HB0.out.c1
  go_wp2_with fail
  refine (HC.out _ HB0.out.bel).mono ?_
  rintro e w1 ⟨hb1, v', rfl, hs1⟩
  have HB1 := Lib.hid (HB0.out.below hb1)
  have HS1 := Lib.hid hs1
  clear hb1 hs1 c0 c1 HC
  go_wp2_with fail
  go_ret2
  exact ⟨HB1.out.bel, _, rfl, HS1.out⟩
end Go.Proofs.YtenfkejbndifdaaGreatDoor
