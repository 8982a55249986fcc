/- The law WavesNothing returns true. -/
import Derived.Test.YtnjiibiafhnmgaaGreatDoorZS
import Derived.Test.YtnjiibiafhnmgaaGreatDoorWD
namespace Go.Proofs.YtnjiibiafhnmgaaGreatDoor
open Go Go.RowKit

theorem rels_atW {B : Nat} {a : Option Addr} {c : Nat} {X : List RelL} {W : World} (h : RelsOf B (.slice a X.length c) X W) {k : Nat} (hk : k < X.length) : ∃ b off, a = some ⟨b, off, none⟩ ∧ b < B ∧ RelAt B b (off + k * 9) X[k] W := by
  obtain ⟨ao, cap, e, h⟩ := h
  cases e
  exact h k _ (List.getElem?_eq_getElem hk)
theorem reqs_shape {B : Nat} {r : Value} {l : List ReqL} {W : World} (h : ReqsOf B r l W) : ∃ a n c, r = .slice a n c := by
  obtain ⟨a, c, e, _⟩ := h
  exact ⟨a, _, c, e⟩
set_option maxRecDepth 100000 in
set_option maxHeartbeats 16000000 in
theorem WavesNothing_any (a : Option Addr) (c : Nat) (iv : Value) (X : List RelL) (fv : Value) (f : List SelL) (tv : Value) (t : List SelL) (w : World) (hm : MaxOk w) (h0 : RelsOf w.heap.size (.slice a X.length c) X w ∧ X.length ≤ maxLen ∧ ∀ x ∈ X, x.reqs.length ≤ maxLen)
    (h1 : SelsOf w.heap.size fv f w ∧ f.length ≤ maxLen ∧ ∀ y ∈ f, SelBd y) (h2 : SelsOf w.heap.size tv t w ∧ t.length ≤ maxLen ∧ ∀ y ∈ t, SelBd y) :
    Calls Tryz.prog 9 #[.agg #[.slice a X.length c, iv], fv, tv] w fun e w' => e = .returned (.bool true) ∧ Below w.heap.size w w' := by
  obtain ⟨hR, hX, hXr⟩ := h0
  obtain ⟨hF, hfl, hfy⟩ := h1
  obtain ⟨hT, htl, hty⟩ := h2
  obtain ⟨fa, fc, rfl⟩ : ∃ a c, fv = .slice a f.length c := by obtain ⟨a, c, e, _⟩ := hF; exact ⟨a, c, e⟩
  obtain ⟨ta, tc, rfl⟩ : ∃ a c, tv = .slice a t.length c := by obtain ⟨a, c, e, _⟩ := hT; exact ⟨a, c, e⟩
  have HAW := Lib.hid (fun W (hb : RowKit.Below w.heap.size w W) => awake44_any W (hm.below hb hm.pos))
  have HFEW := Lib.hid (fun W (hb : RowKit.Below w.heap.size w W) => few44_any a c iv X fa ta f.length fc t.length tc W hX hXr (hR.on hb) hfl htl)
  have HINP := Lib.hid (fun W (hb : RowKit.Below w.heap.size w W) (h : FewR X 16 ∧ f.length ≤ 12 ∧ t.length ≤ 12) => InW.of_few hm hR hF hfy hT hty (iv := iv) h hb)
  clear hm hR hX hXr hF hfl hfy hT htl hty
  have HB0 := Lib.hid (IdxBx.start w (.slice a X.length c) iv)
  go_enter Tryz.func9, Tryz.ntmps9
  go_upto_region 1 with fail
  generalize w.alloc (.cells #[.slice a X.length c, iv] 25) = W0 at *
  go_wp2_with fail
  refine (HAW.out _ HB0.out.bel).mono ?_
  rintro e w1 ⟨rfl, hb1⟩
  have HB1 := Lib.hid (HB0.out.below hb1)
  clear hb1 HAW HB0
  have c0 := HB1.out.c0
  have c1 := HB1.out.c1
  go_wp2_with fail
  refine (HFEW.out _ HB1.out.bel).mono ?_
  rintro e w2 ⟨fb, rfl, hfew, hb2⟩
  have HB := Lib.hid (HB1.out.below hb2)
  clear hb2 HFEW HB1 c0 c1
  cases fb with
  | false =>
    clear hfew HINP
    go_wp2_with fail
    go_ret
    exact ⟨rfl, HB.out.bel⟩
  | true =>
  have HIN := Lib.hid (HINP.out w2 HB.out.bel (hfew rfl))
  clear hfew HINP
  have c0 := HB.out.c0
  have c1 := HB.out.c1
  have hco := HIN.out.cons (s := f) (by have := HIN.out.fl; omega) HIN.out.fy HIN.out.sf
  obtain ⟨C, hC⟩ : ∃ C, consV X f = C := ⟨_, rfl⟩
  rw [hC] at hco
  have HC := Lib.hid hC
  have HCO := Lib.hid hco
  clear hC hco
  go_wp2_with fail
  refine HCO.out.mono ?_
  rintro e w3 ⟨rfl, hbx⟩
  replace HB := Lib.hid (HB.out.below hbx)
  replace HIN := Lib.hid (HIN.out.on hbx)
  clear hbx HCO c0 c1
  by_cases hC0 : C = 0
  case' pos =>
    subst hC0
    have he : errW X f f = 0 := errW_zero.2 ⟨consV_zero.1 HC.out, consV_zero.1 HC.out⟩
    obtain ⟨s1, s2⟩ := self_law X f
    have hgv : grpV X f f = [] := by unfold grpV; rw [if_pos he, s1]
    have hwv : wavV X f f = [] := by unfold wavV; rw [if_pos he, s2]
    have hpl : planV X f f [] = 0 := by have := (right_law he).1; rwa [s1] at this
    have HGG := Lib.hid (fun W (h : InW (.slice a X.length c) iv (.slice fa f.length fc) (.slice ta t.length tc) X f t W) => h.self.groups)
    have HWW := Lib.hid (fun W (h : InW (.slice a X.length c) iv (.slice fa f.length fc) (.slice ta t.length tc) X f t W) => h.self.waves)
    have HKK := Lib.hid (fun W (h : InW (.slice a X.length c) iv (.slice fa f.length fc) (.slice ta t.length tc) X f t W) => h.self.check (mv := .slice none 0 0) (L := []) (by simp) (by simp) (fun p hp => by cases hp) (names_nil _ _))
    rw [hgv, he] at HGG
    rw [hwv, he] at HWW
    rw [hpl] at HKK
    clear s1 s2 hgv hwv hpl he HC
    have c0 := HB.out.c0
    have c1 := HB.out.c1
    go_wp2_with fail
    refine (HGG.out _ HIN.out).mono ?_
    rintro e w4 ⟨lv, rfl, hnx, hbx⟩
    replace HB := Lib.hid (HB.out.below hbx)
    replace HIN := Lib.hid (HIN.out.on hbx)
    obtain ⟨lva, lvc, rfl⟩ : ∃ a c, lv = .slice a 0 c := by obtain ⟨a, c, e, _⟩ := hnx; exact ⟨a, c, e⟩
    clear hnx hbx c0 c1
    have c0 := HB.out.c0
    have c1 := HB.out.c1
    go_wp2_with fail
    refine (HWW.out _ HIN.out).mono ?_
    rintro e w5 ⟨mv, rfl, hnx, hbx⟩
    replace HB := Lib.hid (HB.out.below hbx)
    replace HIN := Lib.hid (HIN.out.on hbx)
    obtain ⟨mva, mvc, rfl⟩ : ∃ a c, mv = .slice a 0 c := by obtain ⟨a, c, e, _⟩ := hnx; exact ⟨a, c, e⟩
    clear hnx hbx c0 c1
    have c0 := HB.out.c0
    have c1 := HB.out.c1
    have hl1 := len_names lva 0 lvc w5
    have hl2 := len_names mva 0 mvc w5
    go_wp2_with fail
    try rw [hl1]
    go_wp2_with fail
    try rw [hl2]
    clear hl1 hl2
    go_wp2_with fail
    refine (HKK.out _ HIN.out).mono ?_
    rintro e w6 ⟨rfl, hbx⟩
    replace HB := Lib.hid (HB.out.below hbx)
    replace HIN := Lib.hid (HIN.out.on hbx)
    clear hbx c0 c1 HGG HWW HKK
    go_upto_region 10 with fail
    obtain ⟨wz, hwz⟩ : ∃ wz, w6 = wz := ⟨_, rfl⟩
    replace hwz := hwz.symm
    subst hwz
  case' neg =>
    have hC1 : (C == 0) = false := by simpa using hC0
    clear HC
    go_upto_region 10 with fail
    obtain ⟨wz, hwz⟩ : ∃ wz, w3 = wz := ⟨_, rfl⟩
    replace hwz := hwz.symm
    subst hwz
    clear hC0 hC1
  all_goals
    have HJ0 := Lib.hid (FreJ.start wz _ rfl)
    have HBZ := Lib.hid (belQ wz (.cells #[.slice none 0 0, .slice none 0 0] 25))
    go_upto_region 11 with fail
    generalize wz.alloc (.cells #[.slice none 0 0, .slice none 0 0] 25) = w7 at *
    have HKW := Lib.hid (fun W (hb : Below wz.heap.size w7 W) => (⟨HB.out.below (HBZ.out.trans hb), HIN.out.on (HBZ.out.trans hb)⟩ : IdxBx w (.slice a X.length c) iv W ∧ InW (.slice a X.length c) iv (.slice fa f.length fc) (.slice ta t.length tc) X f t W))
    have hx16 := HIN.out.xl
    generalize wz.heap.size = g at *
    have c0 := (HKW.out w7 (Below.refl _ _)).1.c0
    obtain ⟨i0, hi0, hz0, hz1, hz2⟩ := info_parts info_rels
    clear HB HIN HBZ
    go_wp2_with fail
    clear c0
    go_loopw [68] (fun p wr => Hid (∃ (k : Nat) (ov : Value), k ≤ X.length ∧ p = .int .i64 (k : Int) ∧ FreJ w7 g (X.take k) ov wr)) (fun p _ => X.length - (intOf p).toNat)
    case atStart => exact Lib.hid ⟨0, _, Nat.zero_le _, rfl, HJ0.out⟩
    case round =>
      obtain ⟨k, ov, hk, rfl, hj⟩ := hrel.out
      have HJ := Lib.hid hj
      clear hrel hj
      by_cases hlt : k < X.length
      case pos =>
        have hk0 : (0 : Int) ≤ (k : Int) := Int.natCast_nonneg k
        have hkz : (k : Int) < (X.length : Int) := Int.ofNat_lt.2 hlt
        have HTK : Hid (X.take (k + 1) = X.take k ++ [X[k]]) := Lib.hid (List.take_succ_eq_append_getElem hlt)
        have hlk : (X.take k).length ≤ 1000000 := by rw [List.length_take]; omega
        generalize hK : X.take k = K at *
        clear hK
        obtain ⟨b3, off3, hae, hlb, hra⟩ := rels_atW (HKW.out wr HJ.out.bel).2.rel hlt
        obtain ⟨r, hrq, d0, d1, d2, d3, d4, d5, d6, d7, d8⟩ := hra.box
        obtain ⟨ra, rn, rc, rfl⟩ := reqs_shape hrq
        subst hae
        generalize X[k] = x at *
        clear hra hrq
        have HBQ := Lib.hid (belQ wr (.cells #[.string x.path, intC x.ver.1, intC x.ver.2.1, intC x.ver.2.2, .slice ra rn rc, .string x.ar, .string x.ifc, .string x.cert, .bool x.yk] 69))
        have HBE := Lib.hid (World.alloc_heap_new wr (.cells #[.string x.path, intC x.ver.1, intC x.ver.2.1, intC x.ver.2.2, .slice ra rn rc, .string x.ar, .string x.ifc, .string x.cert, .bool x.yk] 69))
        have HJ9 := Lib.hid (HJ.out.below (belQ wr (.cells #[.string x.path, intC x.ver.1, intC x.ver.2.1, intC x.ver.2.2, .slice none 0 0, .string x.ar, .string x.ifc, .string x.cert, .bool x.yk] 69)))
        have HBE9 := Lib.hid (World.alloc_heap_new wr (.cells #[.string x.path, intC x.ver.1, intC x.ver.2.1, intC x.ver.2.2, .slice none 0 0, .string x.ar, .string x.ifc, .string x.cert, .bool x.yk] 69))
        have e4 : (wr.alloc (.cells #[.string x.path, intC x.ver.1, intC x.ver.2.1, intC x.ver.2.2, .slice ra rn rc, .string x.ar, .string x.ifc, .string x.cert, .bool x.yk] 69)).cell? ⟨wr.heap.size, 4, none⟩ = some (.slice ra rn rc) := cell_of_row _ _ 4 _ _ _ HBE.out
        have z4 := frozen_of_row _ _ 4 _ _ HBE.out
        go_upto_region 15 with fail
        clear e4 z4 HBE HBQ HJ d0 d1 d2 d3 d4 d5 d6 d7 d8
        generalize wr.alloc (.cells #[.string x.path, intC x.ver.1, intC x.ver.2.1, intC x.ver.2.2, .slice none 0 0, .string x.ar, .string x.ifc, .string x.cert, .bool x.yk] 69) = w9 at *
        generalize wr.heap.size = be at *
        have o0 : w9.cell? ⟨g, 0, none⟩ = some ov := cell_of_row _ _ 0 _ _ _ HJ9.out.out
        have e0 : w9.cell? ⟨be, 0, none⟩ = some (.string x.path) := cell_of_row _ _ 0 _ _ _ HBE9.out
        have e1 : w9.cell? ⟨be, 1, none⟩ = some (intC x.ver.1) := cell_of_row _ _ 1 _ _ _ HBE9.out
        have e2 : w9.cell? ⟨be, 2, none⟩ = some (intC x.ver.2.1) := cell_of_row _ _ 2 _ _ _ HBE9.out
        have e3 : w9.cell? ⟨be, 3, none⟩ = some (intC x.ver.2.2) := cell_of_row _ _ 3 _ _ _ HBE9.out
        have e4 : w9.cell? ⟨be, 4, none⟩ = some (.slice none 0 0) := cell_of_row _ _ 4 _ _ _ HBE9.out
        have e5 : w9.cell? ⟨be, 5, none⟩ = some (.string x.ar) := cell_of_row _ _ 5 _ _ _ HBE9.out
        have e6 : w9.cell? ⟨be, 6, none⟩ = some (.string x.ifc) := cell_of_row _ _ 6 _ _ _ HBE9.out
        have e7 : w9.cell? ⟨be, 7, none⟩ = some (.string x.cert) := cell_of_row _ _ 7 _ _ _ HBE9.out
        have e8 : w9.cell? ⟨be, 8, none⟩ = some (.bool x.yk) := cell_of_row _ _ 8 _ _ _ HBE9.out
        have HN10 := Lib.hid (World.alloc_heap_new w9 (.cells #[.string x.path, intC x.ver.1, intC x.ver.2.1, intC x.ver.2.2, .slice none 0 0, .string x.ar, .string x.ifc, .string x.cert, .bool x.yk] 69))
        have HJ10 := Lib.hid (HJ9.out.below (belQ w9 (.cells #[.string x.path, intC x.ver.1, intC x.ver.2.1, intC x.ver.2.2, .slice none 0 0, .string x.ar, .string x.ifc, .string x.cert, .bool x.yk] 69)))
        have hs10 : w7.heap.size ≤ (w9.alloc (.cells #[.string x.path, intC x.ver.1, intC x.ver.2.1, intC x.ver.2.2, .slice none 0 0, .string x.ar, .string x.ifc, .string x.cert, .bool x.yk] 69)).heap.size := HJ10.out.bel.size
        go_wp2_with (at_builtin; refine wpList_append_own _ rfl _ _ 22 rfl w7.heap.size 69 i0 _ 9 120 Tryz.underlying22 hi0 hz0 hz1 hz2 rfl (by decide) ov K.length _ (by rfl) HJ10.out.row ⟨w9.heap.size, 0, none⟩ 1 1 [.string x.path, intC x.ver.1, intC x.ver.2.1, intC x.ver.2.2, .slice none 0 0, .string x.ar, .string x.ifc, .string x.cert, .bool x.yk] (by rfl) (by rfl) (World.news_of_block HN10.out) (by simp [Value.oneCell']) (by unfold maxLen; omega) (by omega) hs10 ?_; intro v' wA hown' hgrow _; have HOW := Lib.hid hown'; have HGR := Lib.hid hgrow; have hkp := HJ10.out.keep hgrow; have hc6 : wA.cell? ⟨g, 0, none⟩ = some ov := cell_of_row _ _ 0 _ _ _ hkp; have hf6 := frozen_of_row _ _ 0 _ _ hkp; clear hown' hgrow hkp; obtain ⟨g3, gc3, rfl⟩ := ownsRow_succ HOW.out)
        all_goals
          have HJB := Lib.hid (HJ10.out.push (x := x) HOW.out HGR.out)
          refine ⟨Lib.hid ⟨k + 1, _, hlt, by go_num, by rw [HTK.out]; exact HJB.out⟩, ?_⟩
          simp [intOf]; omega
      case neg =>
        have hTX : X.take k = X := List.take_of_length_le (Nat.le_of_not_lt hlt)
        rw [hTX] at HJ
        obtain ⟨hb, hi⟩ := HKW.out wr HJ.out.bel
        have hrow := HJ.out.row
        have hrl := own_free hrow
        obtain ⟨oa, oc, rfl⟩ : ∃ a c, ov = .slice a X.length c := own_any hrow
        have HB := Lib.hid hb
        have HBG := Lib.hid HJ.out.out
        have HI2 : Hid (InW (.slice oa X.length oc) (.slice none 0 0) (.slice fa f.length fc) (.slice ta t.length tc) (X.map freeR) f t wr) := Lib.hid ⟨hi.max, by rw [List.length_map]; exact hi.xl, free_bd hi.xq, hrl, hi.fl, hi.fy, hi.sf, hi.tl, hi.ty, hi.st⟩
        have HFL : Hid ((wavW (X.map freeR) f t).length ≤ 1 ∧ (∀ y ∈ grpW (X.map freeR) f t, y.length = 1) ∧ (grpW (X.map freeR) f t).flatten = (wavW (X.map freeR) f t).flatten) := Lib.hid (free_law (free_none X))
        have HSM : Hid (errW (X.map freeR) f t = 0 → ((grpW (X.map freeR) f t).length ≤ 24 ∧ (grpW (X.map freeR) f t).flatten.length ≤ 24) ∧ (wavW (X.map freeR) f t).length ≤ 24 ∧ (wavW (X.map freeR) f t).flatten.length ≤ 24) := Lib.hid (fun h => by
          have h1 := plan_small HI2.out (right_law h).1
          have h2 := plan_small HI2.out (right_law h).2.1
          exact ⟨⟨h1.1, h1.2.1⟩, h2.1, h2.2.1⟩)
        clear hb hi hrow hrl HJ HKW
        generalize X.map freeR = Y at *
        have g0 := blk0 HBG.out
        have g1 := blk1 HBG.out
        have HCO := Lib.hid HI2.out.groups
        go_wp2_with fail
        refine HCO.out.mono ?_
        rintro e w11 ⟨lv, rfl, hnx, hbx⟩
        replace HB := Lib.hid (HB.out.below hbx)
        replace HI2 := Lib.hid (HI2.out.on hbx)
        replace HBG := Lib.hid ((hbx.block _ (Array.getElem?_eq_some_iff.1 HBG.out).1).trans HBG.out)
        have HL := Lib.hid hnx
        obtain ⟨lva2, lvc2, rfl⟩ : ∃ a c, lv = .slice a (grpV Y f t).length c := by obtain ⟨a, c, e, _⟩ := hnx; exact ⟨a, c, e⟩
        clear hnx hbx HCO g0 g1
        have g0 := blk0 HBG.out
        have g1 := blk1 HBG.out
        have HCO := Lib.hid HI2.out.waves
        go_wp2_with fail
        refine HCO.out.mono ?_
        rintro e w12 ⟨mv, rfl, hnx, hbx⟩
        replace HB := Lib.hid (HB.out.below hbx)
        replace HI2 := Lib.hid (HI2.out.on hbx)
        replace HBG := Lib.hid ((hbx.block _ (Array.getElem?_eq_some_iff.1 HBG.out).1).trans HBG.out)
        replace HL := Lib.hid (names_on HL.out hbx)
        have HM := Lib.hid hnx
        obtain ⟨mva2, mvc2, rfl⟩ : ∃ a c, mv = .slice a (wavV Y f t).length c := by obtain ⟨a, c, e, _⟩ := hnx; exact ⟨a, c, e⟩
        clear hnx hbx HCO g0 g1
        by_cases hE0 : errW Y f t = 0
        case neg =>
          obtain ⟨E, hE⟩ : ∃ E, errW Y f t = E := ⟨_, rfl⟩
          rw [hE] at hE0 ⊢
          clear hE HFL HSM HI2
          have hE1 : (E != 0) = true := by simpa using hE0
          have hE2 : (E == E) = true := by simp
          go_wp2_with fail
          go_ret
          exact ⟨rfl, HB.out.bel⟩
        have hg : grpV Y f t = grpW Y f t := by unfold grpV; rw [if_pos hE0]
        have hv : wavV Y f t = wavW Y f t := by unfold wavV; rw [if_pos hE0]
        obtain ⟨⟨m1, m2⟩, m3, m4⟩ := HSM.out hE0
        obtain ⟨f1, f2, f3⟩ := HFL.out
        rw [hg] at HL
        rw [hv] at HM
        rw [hg, hv, hE0]
        have HF2 := Lib.hid f2
        have HF3 := Lib.hid f3
        clear HFL HSM hg hv hE0 f2 f3 HI2
        generalize grpW Y f t = G at *
        generalize wavW Y f t = V at *
        have HPN : Hid (∀ W, PredN 38 #[] G (fun y => !decide (y.length = 1)) W) := Lib.hid (fun W W2 y r hy hb hr => by
          rw [Array.append_empty]
          exact one1_any y (by have := HF2.out y hy; omega) r W2 hr)
        have hm1 : (V.length : Int) ≤ 1 := by omega
        have hm2 : decide ((V.length : Int) ≤ 1) = true := decide_eq_true hm1
        have hl1 := len_names mva2 V.length mvc2 w12
        have hco := has_names 38 #[] (enters_of Tryz.func38 (by kernel_rfl) rfl) (fun y => !decide (y.length = 1)) _ G w12 (by omega) HL.out (HPN.out w12)
        rw [show (G.any fun y => !decide (y.length = 1)) = false from List.any_eq_false.2 fun y hy => by rw [HF2.out y hy]; simp] at hco
        have HCO := Lib.hid hco
        clear hco HPN HF2
        go_wp2_with fail
        try rw [hl1]
        clear hl1
        go_wp2_with fail
        refine HCO.out.mono ?_
        rintro e w13 ⟨rfl, hbx⟩
        replace HB := Lib.hid (HB.out.below hbx)
        replace HL := Lib.hid (names_on HL.out hbx)
        replace HM := Lib.hid (names_on HM.out hbx)
        clear hbx HCO hm1 hm2
        have HCG := Lib.hid (concat_strs _ G w13 (by omega) (by omega) HL.out)
        have HCV := Lib.hid (fun W (hb : Below w13.heap.size w13 W) => concat_strs _ V W (by omega) (by omega) (names_on HM.out hb))
        have m5 : V.flatten.length ≤ 1000000000 := by omega
        rw [HF3.out] at HCG m2
        have HM5 := Lib.hid m5
        clear HF3 m2 m4 m5
        generalize V.flatten = F at *
        go_wp2_with fail
        refine HCG.out.mono ?_
        rintro e w14 ⟨cv, rfl, hrow, hbx⟩
        have HR1 := Lib.hid hrow
        obtain ⟨ca, cc, rfl, _⟩ := rowOf_open hrow
        have HB14 := Lib.hid hbx
        replace HB := Lib.hid (HB.out.below hbx)
        clear hrow hbx HCG
        go_wp2_with fail
        refine (HCV.out _ HB14.out).mono ?_
        rintro e w15 ⟨cv, rfl, hrow, hbx⟩
        have hco := equal_rows _ _ F F w15 HM5.out HM5.out (row_on HR1.out hbx) hrow
        rw [decide_eq_true rfl] at hco
        have HCO := Lib.hid hco
        obtain ⟨da, dc, rfl, _⟩ := rowOf_open hrow
        replace HB := Lib.hid (HB.out.below hbx)
        clear hrow hbx HCV hco
        go_wp2_with fail
        refine HCO.out.mono ?_
        rintro e w16 ⟨rfl, hbx⟩
        replace HB := Lib.hid (HB.out.below hbx)
        clear hbx HCO
        go_wp2_with fail
        go_ret
        exact ⟨rfl, HB.out.bel⟩
end Go.Proofs.YtnjiibiafhnmgaaGreatDoor
