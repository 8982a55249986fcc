/- The law WavesBack returns true. -/
import Derived.Test.YtnjiibiafhnmgaaGreatDoorZS
import Derived.Test.YtnjiibiafhnmgaaGreatDoorZT
namespace Go.Proofs.YtnjiibiafhnmgaaGreatDoor
open Go Go.RowKit

theorem errW_back {X : List RelL} {f t : List SelL} : errW X f t = 0 ↔ errW X t f = 0 := by rw [errW_zero, errW_zero]; exact And.comm
theorem edges_atB {B : Nat} {ao : Option Addr} {cap : Nat} {es : List (Int × Int)} {W : World} (h : EdgesOf B (.slice ao es.length cap) es W) {k : Nat} (hk : k < es.length) :
    ∃ b off, ao = some ⟨b, off, none⟩ ∧ b < B ∧ W.cell? ⟨b, off + k * 2, none⟩ = some (intC es[k].1) ∧ W.cell? ⟨b, off + k * 2 + 1, none⟩ = some (intC es[k].2) := by
  obtain ⟨a, c, e, h⟩ := h
  cases e
  obtain ⟨b, off, h1, h2, h3, h4⟩ := h k _ (List.getElem?_eq_getElem hk)
  exact ⟨b, off, h1, h2, h3, h4⟩
theorem sub_len {L : List (List ByteArray)} {g : List ByteArray} (h : g ∈ L) : g.length ≤ L.flatten.length := (List.sublist_flatten_of_mem h).length_le
set_option maxRecDepth 100000 in
set_option maxHeartbeats 16000000 in
theorem WavesBack_any (a : Option Addr) (c : Nat) (iv : Value) (X : List RelL) (fv : Value) (f : List SelL) (tv : Value) (t : List SelL) (w : World) (hm : MaxOk w) (h0 : RelsOf w.heap.size (.slice a X.length c) X w ∧ X.length ≤ maxLen ∧ ∀ x ∈ X, x.reqs.length ≤ maxLen)
    (h1 : SelsOf w.heap.size fv f w ∧ f.length ≤ maxLen ∧ ∀ y ∈ f, SelBd y) (h2 : SelsOf w.heap.size tv t w ∧ t.length ≤ maxLen ∧ ∀ y ∈ t, SelBd y) :
    Calls Tryz.prog 7 #[.agg #[.slice a X.length c, iv], fv, tv] w fun e w' => e = .returned (.bool true) ∧ Below w.heap.size w w' := by
  obtain ⟨hR, hX, hXr⟩ := h0
  obtain ⟨hF, hfl, hfy⟩ := h1
  obtain ⟨hT, htl, hty⟩ := h2
  obtain ⟨fa, fc, rfl⟩ : ∃ a c, fv = .slice a f.length c := by obtain ⟨a, c, e, _⟩ := hF; exact ⟨a, c, e⟩
  obtain ⟨ta, tc, rfl⟩ : ∃ a c, tv = .slice a t.length c := by obtain ⟨a, c, e, _⟩ := hT; exact ⟨a, c, e⟩
  have HAW := Lib.hid (fun W (hb : RowKit.Below w.heap.size w W) => awake44_any W (hm.below hb hm.pos))
  have HFEW := Lib.hid (fun W (hb : RowKit.Below w.heap.size w W) => few44_any a c iv X fa ta f.length fc t.length tc W hX hXr (hR.on hb) hfl htl)
  have HINP := Lib.hid (fun W (hb : RowKit.Below w.heap.size w W) (h : FewR X 16 ∧ f.length ≤ 12 ∧ t.length ≤ 12) => InW.of_few hm hR hF hfy hT hty (iv := iv) h hb)
  clear hm hR hX hXr hF hfl hfy hT htl hty
  have HB0 := Lib.hid (IdxBx.start w (.slice a X.length c) iv)
  go_enter Tryz.func7, Tryz.ntmps7
  go_upto_region 1 with fail
  generalize w.alloc (.cells #[.slice a X.length c, iv] 25) = W0 at *
  go_wp2_with fail
  refine (HAW.out _ HB0.out.bel).mono ?_
  rintro e w1 ⟨rfl, hb1⟩
  have HB1 := Lib.hid (HB0.out.below hb1)
  clear hb1 HAW HB0
  have c0 := HB1.out.c0
  have c1 := HB1.out.c1
  go_wp2_with fail
  refine (HFEW.out _ HB1.out.bel).mono ?_
  rintro e w2 ⟨fb, rfl, hfew, hb2⟩
  have HB := Lib.hid (HB1.out.below hb2)
  clear hb2 HFEW HB1 c0 c1
  cases fb with
  | false =>
    clear hfew HINP
    go_wp2_with fail
    go_ret
    exact ⟨rfl, HB.out.bel⟩
  | true =>
  have HIN := Lib.hid (HINP.out w2 HB.out.bel (hfew rfl))
  clear hfew HINP
  have HLAW : Hid (errW X f t = 0 → movesP t f = movesP f t ∧ (wavE X t f).length = (wavE X f t).length ∧ (∀ e ∈ wavE X f t, (e.2, e.1) ∈ wavE X t f) ∧ (grpW X f t).length = (grpW X t f).length ∧ ∀ g ∈ grpW X f t, g ∈ grpW X t f) := Lib.hid (fun h => back_law (errW_zero.1 h).1 (errW_zero.1 h).2)
  have HEB : Hid (errW X f t = 0 ↔ errW X t f = 0) := Lib.hid errW_back
  have HPL : Hid ((movesP f t).length ≤ 24) := Lib.hid (by have := movesP_len f t; have := HIN.out.fl; have := HIN.out.tl; omega)
  have HEL : Hid (errW X f t = 0 → (wavE X f t).length ≤ 4096) := Lib.hid wavE_small
  have HGS : Hid (errW X f t = 0 → (grpW X f t).length ≤ 24 ∧ (∀ g ∈ grpW X f t, g.length ≤ 24) ∧ (grpW X t f).length ≤ 24 ∧ ∀ g ∈ grpW X t f, g.length ≤ 24) := Lib.hid (fun h => by
    have h1 := plan_small HIN.out (right_law h).1
    have h2 := plan_small HIN.out.swap (right_law (errW_back.1 h)).1
    exact ⟨h1.1, fun g hg => Nat.le_trans (sub_len hg) h1.2.1, h2.1, fun g hg => Nat.le_trans (sub_len hg) h2.2.1⟩)
  have c0 := HB.out.c0
  have c1 := HB.out.c1
  have hco := HIN.out.graph
  unfold GraphR graphV at hco
  have HCO := Lib.hid hco
  clear hco
  go_wp2_with fail
  refine HCO.out.mono ?_
  rintro e w3 ⟨nv, ev, rfl, hnr, hne, hbx⟩
  replace HB := Lib.hid (HB.out.below hbx)
  replace HIN := Lib.hid (HIN.out.on hbx)
  obtain ⟨P1, hP1⟩ : ∃ P1, (if errW X f t = 0 then (movesP f t, wavE X f t) else ([], [])).1 = P1 := ⟨_, rfl⟩
  obtain ⟨E1, hE1⟩ : ∃ E1, (if errW X f t = 0 then (movesP f t, wavE X f t) else ([], [])).2 = E1 := ⟨_, rfl⟩
  simp only [hP1] at hnr
  simp only [hE1] at hne
  have HP1 := Lib.hid hP1
  have HE1 := Lib.hid hE1
  have HNR := Lib.hid hnr
  have HNE := Lib.hid hne
  obtain ⟨na, nc, rfl, _⟩ := rowOf_open hnr
  obtain ⟨ea, ec, rfl⟩ : ∃ a c, ev = .slice a E1.length c := by obtain ⟨a, c, e, _⟩ := hne; exact ⟨a, c, e⟩
  clear hP1 hE1 hnr hne hbx HCO c0 c1
  have hbx := belQ w3 (.cells #[.slice na P1.length nc, .slice ea E1.length ec] 32)
  have hnx := World.alloc_heap_new w3 (.cells #[.slice na P1.length nc, .slice ea E1.length ec] 32)
  replace HB := Lib.hid (HB.out.below hbx)
  replace HIN := Lib.hid (HIN.out.on hbx)
  replace HNR := Lib.hid (row_on HNR.out hbx)
  replace HNE := Lib.hid (edges_onW HNE.out hbx)
  have HBG := Lib.hid hnx
  go_upto_region 6 with fail
  generalize w3.alloc (.cells #[.slice na P1.length nc, .slice ea E1.length ec] 32) = w4 at *
  generalize w3.heap.size = bg at *
  clear hbx hnx
  have c0 := HB.out.c0
  have c1 := HB.out.c1
  have hco := HIN.out.swap.graph
  unfold GraphR graphV at hco
  have HCO := Lib.hid hco
  clear hco
  go_wp2_with fail
  refine HCO.out.mono ?_
  rintro e w5 ⟨nv2, ev2, rfl, hnr, hne, hbx⟩
  replace HB := Lib.hid (HB.out.below hbx)
  replace HIN := Lib.hid (HIN.out.on hbx)
  replace HNR := Lib.hid (row_on HNR.out hbx)
  replace HNE := Lib.hid (edges_onW HNE.out hbx)
  replace HBG := Lib.hid ((hbx.block _ (Array.getElem?_eq_some_iff.1 HBG.out).1).trans HBG.out)
  obtain ⟨P2, hP2⟩ : ∃ P2, (if errW X t f = 0 then (movesP t f, wavE X t f) else ([], [])).1 = P2 := ⟨_, rfl⟩
  obtain ⟨E2, hE2⟩ : ∃ E2, (if errW X t f = 0 then (movesP t f, wavE X t f) else ([], [])).2 = E2 := ⟨_, rfl⟩
  simp only [hP2] at hnr
  simp only [hE2] at hne
  have HP2 := Lib.hid hP2
  have HE2 := Lib.hid hE2
  have HNR2 := Lib.hid hnr
  have HNE2 := Lib.hid hne
  obtain ⟨na2, nc2, rfl, _⟩ := rowOf_open hnr
  obtain ⟨ea2, ec2, rfl⟩ : ∃ a c, ev2 = .slice a E2.length c := by obtain ⟨a, c, e, _⟩ := hne; exact ⟨a, c, e⟩
  clear hP2 hE2 hnr hne hbx HCO c0 c1
  have hbx := belQ w5 (.cells #[.slice na2 P2.length nc2, .slice ea2 E2.length ec2] 32)
  have hnx := World.alloc_heap_new w5 (.cells #[.slice na2 P2.length nc2, .slice ea2 E2.length ec2] 32)
  replace HB := Lib.hid (HB.out.below hbx)
  replace HIN := Lib.hid (HIN.out.on hbx)
  replace HNR := Lib.hid (row_on HNR.out hbx)
  replace HNE := Lib.hid (edges_onW HNE.out hbx)
  replace HBG := Lib.hid ((hbx.block _ (Array.getElem?_eq_some_iff.1 HBG.out).1).trans HBG.out)
  replace HNR2 := Lib.hid (row_on HNR2.out hbx)
  replace HNE2 := Lib.hid (edges_onW HNE2.out hbx)
  have HBH := Lib.hid hnx
  go_upto_region 7 with fail
  generalize w5.alloc (.cells #[.slice na2 P2.length nc2, .slice ea2 E2.length ec2] 32) = w6 at *
  generalize w5.heap.size = bh at *
  clear hbx hnx
  by_cases hE0 : errW X f t = 0
  case neg =>
    have hE3 : ¬ errW X t f = 0 := fun h => hE0 (HEB.out.2 h)
    obtain ⟨E, hE⟩ : ∃ E, errW X f t = E := ⟨_, rfl⟩
    obtain ⟨F, hF⟩ : ∃ F, errW X t f = F := ⟨_, rfl⟩
    rw [hE] at hE0
    rw [hF] at hE3
    rw [hE, hF]
    clear HLAW HEB HPL HEL HGS HP1 HE1 HP2 HE2 HNR HNE HNR2 HNE2 HIN HBG HBH hE hF
    have q1 : (E != 0) = true := by simpa using hE0
    have q2 : (E == 0) = false := by simpa using hE0
    have q3 : (F == 0) = false := by simpa using hE3
    go_wp2_with fail
    go_ret
    exact ⟨rfl, HB.out.bel⟩
  have hE3 : errW X t f = 0 := HEB.out.1 hE0
  obtain ⟨l1, l2, l3, l4, l5⟩ := HLAW.out hE0
  have hgs := HGS.out hE0
  have hel := HEL.out hE0
  have hp1 := HP1.out
  have he1 := HE1.out
  have hp2 := HP2.out
  have he2 := HE2.out
  rw [if_pos hE0] at hp1 he1
  rw [if_pos hE3] at hp2 he2
  simp only at hp1 he1 hp2 he2
  have hpl := HPL.out
  rw [l1] at hp2
  rw [hp1] at hp2 hpl
  rw [he1] at l2 l3 hel
  rw [he2] at l2 l3
  subst hp2
  have HG1 : Hid (grpV X f t = grpW X f t) := Lib.hid (by unfold grpV; rw [if_pos hE0])
  have HG2 : Hid (grpV X t f = grpW X t f) := Lib.hid (by unfold grpV; rw [if_pos hE3])
  have HL3 := Lib.hid l3
  have HL5 := Lib.hid l5
  have HL4 := Lib.hid l4
  have HGZ := Lib.hid hgs
  have HZ0 := Lib.hid hE0
  have HZ3 := Lib.hid hE3
  rw [hE0, hE3]
  clear l1 l3 l4 l5 hgs hp1 he1 he2 HLAW HEB HPL HEL HGS HP1 HE1 HP2 HE2 hE0 hE3
  have HLE : Hid (E2.length = E1.length) := Lib.hid l2
  have hne1 : ((E1.length : Int) != (E1.length : Int)) = false := by simp
  rw [l2] at HBH HNE2
  rw [l2]
  clear l2
  have g0 := blk0 HBG.out
  have g1 := blk1 HBG.out
  have h0 := blk0 HBH.out
  have h1 := blk1 HBH.out
  have hco := equal_rows _ _ P1 P1 w6 (by omega) (by omega) HNR.out HNR2.out
  rw [decide_eq_true rfl] at hco
  have HCO := Lib.hid hco
  clear hco
  go_wp2_with fail
  refine HCO.out.mono ?_
  rintro e w7 ⟨rfl, hbx⟩
  replace HB := Lib.hid (HB.out.below hbx)
  replace HIN := Lib.hid (HIN.out.on hbx)
  replace HNR := Lib.hid (row_on HNR.out hbx)
  replace HNE := Lib.hid (edges_onW HNE.out hbx)
  replace HBG := Lib.hid ((hbx.block _ (Array.getElem?_eq_some_iff.1 HBG.out).1).trans HBG.out)
  replace HNR2 := Lib.hid (row_on HNR2.out hbx)
  replace HNE2 := Lib.hid (edges_onW HNE2.out hbx)
  replace HBH := Lib.hid ((hbx.block _ (Array.getElem?_eq_some_iff.1 HBH.out).1).trans HBH.out)
  clear hbx HCO g0 g1 h0 h1
  have g0 := blk0 HBG.out
  have g1 := blk1 HBG.out
  have h0 := blk0 HBH.out
  have h1 := blk1 HBH.out
  have HKM := Lib.hid (fun W (hb : Below w7.heap.size w7 W) => ((hb.block _ (Array.getElem?_eq_some_iff.1 HBH.out).1).trans HBH.out : W.heap[bh]? = _))
  go_wp2_with fail
  clear g0 g1 h0 h1 hne1
  go_loopw [67] (fun p wr => Hid (∃ (k : Nat), k ≤ E1.length ∧ p = .int .i64 (k : Int) ∧ Below w7.heap.size w7 wr)) (fun p _ => E1.length - (intOf p).toNat)
  case atStart => exact Lib.hid ⟨0, Nat.zero_le _, rfl, Below.refl _ _⟩
  case round =>
    obtain ⟨k, hk, rfl, hb⟩ := hrel.out
    have HBW := Lib.hid hb
    clear hrel hb
    by_cases hlt : k < E1.length
    case pos =>
      have hk0 : (0 : Int) ≤ (k : Int) := Int.natCast_nonneg k
      have hkz : (k : Int) < (E1.length : Int) := Int.ofNat_lt.2 hlt
      obtain ⟨b3, off3, rfl, hlb, d0, d1⟩ := edges_atB HNE.out hlt
      have HM : Hid ((E1[k].2, E1[k].1) ∈ E2) := Lib.hid (HL3.out _ (List.getElem_mem hlt))
      have d2 := (HBW.out.cell (p := ⟨b3, off3 + k * 2, none⟩) hlb).trans d0
      have d3 := (HBW.out.cell (p := ⟨b3, off3 + k * 2 + 1, none⟩) hlb).trans d1
      obtain ⟨x, y, hxy⟩ : ∃ x y, E1[k] = (x, y) := ⟨_, _, rfl⟩
      rw [hxy] at HM d2 d3
      clear hxy
      have HBQ := Lib.hid (belQ wr (.cells #[intC x, intC y] 43))
      have HBE := Lib.hid (World.alloc_heap_new wr (.cells #[intC x, intC y] 43))
      have HB5 := Lib.hid (HBW.out.trans (HBQ.out.mono HBW.out.size))
      have hpos : 0 < E2.length := by rw [HLE.out]; omega
      have hel2 : E2.length ≤ 1000000000 := by rw [HLE.out]; omega
      have hco := EdgeContains_any (.slice ea2 E1.length ec2) E2 y x (wr.alloc (.cells #[intC x, intC y] 43)) hel2 hpos (edges_onW HNE2.out HB5.out)
      rw [decide_eq_true (show (y, x) ∈ E2 from HM.out)] at hco
      have HCO := Lib.hid hco
      have e0 := blk0 HBE.out
      have e1 := blk1 HBE.out
      have h1 := blk1 (HKM.out _ HB5.out)
      clear d0 d1 hco hpos hel2
      go_wp2_with fail
      refine HCO.out.mono ?_
      rintro e w8 ⟨rfl, hbx⟩
      have HB6 := Lib.hid (HB5.out.trans (hbx.mono HB5.out.size))
      clear hbx HCO e0 e1 h1
      go_wp2_with fail
      all_goals
        refine ⟨Lib.hid ⟨k + 1, hlt, by go_num, HB6.out⟩, ?_⟩
        simp [intOf]; omega
    case neg =>
      replace HB := Lib.hid (HB.out.below HBW.out)
      replace HIN := Lib.hid (HIN.out.on HBW.out)
      clear HNR HNE HNR2 HNE2 HBG HBH HKM HBW HL3 HLE
      have c0 := HB.out.c0
      have c1 := HB.out.c1
      have hco := HIN.out.groups
      rw [HG1.out, HZ0.out] at hco
      have HCO := Lib.hid hco
      clear hco
      go_wp2_with fail
      refine HCO.out.mono ?_
      rintro e w8 ⟨lv, rfl, hnx, hbx⟩
      replace HB := Lib.hid (HB.out.below hbx)
      replace HIN := Lib.hid (HIN.out.on hbx)
      have HL := Lib.hid hnx
      obtain ⟨lva, lvc, rfl⟩ : ∃ a c, lv = .slice a (grpW X f t).length c := by obtain ⟨a, c, e, _⟩ := hnx; exact ⟨a, c, e⟩
      clear hnx hbx HCO c0 c1
      have c0 := HB.out.c0
      have c1 := HB.out.c1
      have hco := HIN.out.swap.groups
      rw [HG2.out, HZ3.out] at hco
      have HCO := Lib.hid hco
      clear hco
      go_wp2_with fail
      refine HCO.out.mono ?_
      rintro e w9 ⟨mv, rfl, hnx, hbx⟩
      replace HB := Lib.hid (HB.out.below hbx)
      replace HIN := Lib.hid (HIN.out.on hbx)
      replace HL := Lib.hid (names_on HL.out hbx)
      have HM := Lib.hid hnx
      obtain ⟨mva, mvc, rfl⟩ : ∃ a c, mv = .slice a (grpW X f t).length c := by obtain ⟨a, c, e, _⟩ := hnx; exact ⟨a, c, by rw [HL4.out]; exact e⟩
      clear hnx hbx HCO c0 c1
      have hgz := HGZ.out
      clear HL4
      generalize grpW X f t = G at *
      generalize grpW X t f = H at *
      have hl1 := len_names lva G.length lvc w9
      have hl2 := len_names mva G.length mvc w9
      have q0 : ((G.length : Int) != (G.length : Int)) = false := by simp
      clear HG1 HG2 HZ0 HZ3
      go_wp2_with fail
      try rw [hl1]
      go_wp2_with fail
      try rw [hl2]
      go_wp2_with fail
      try rw [hl1]
      clear hl1 hl2 q0
      go_wp2_with fail
      go_loopw [110] (fun p wr => Hid (∃ (k : Nat), k ≤ G.length ∧ p = .int .i64 (k : Int) ∧ Below w9.heap.size w9 wr)) (fun p _ => G.length - (intOf p).toNat)
      case atStart => exact Lib.hid ⟨0, Nat.zero_le _, rfl, Below.refl _ _⟩
      case round =>
        obtain ⟨k, hk, rfl, hb⟩ := hrel.out
        have HBW := Lib.hid hb
        clear hrel hb
        by_cases hlt : k < G.length
        case pos =>
          have hk0 : (0 : Int) ≤ (k : Int) := Int.natCast_nonneg k
          have hkz : (k : Int) < (G.length : Int) := Int.ofNat_lt.2 hlt
          obtain ⟨b3, off3, r, rfl, d0, hr⟩ := names_at HL.out HBW.out hlt
          have HME : Hid (G[k] ∈ H) := Lib.hid (HL5.out _ (List.getElem_mem hlt))
          have hgl := hgz.2.1 _ (List.getElem_mem hlt)
          generalize G[k] = y at *
          have HRY := Lib.hid hr
          obtain ⟨ra, rc, rfl, _⟩ := rowOf_open hr
          clear hr
          have HBQ := Lib.hid (belQ wr (.cells #[.slice ra y.length rc] 29))
          have HBE := Lib.hid (World.alloc_heap_new wr (.cells #[.slice ra y.length rc] 29))
          have HB5 := Lib.hid (HBW.out.trans (HBQ.out.mono HBW.out.size))
          have HPN : Hid (PredN 36 #[.pointer (some ⟨wr.heap.size, 0, none⟩)] H (fun z => decide (z = y)) (wr.alloc (.cells #[.slice ra y.length rc] 29))) := Lib.hid (fun W x r hx hb hr =>
            back1_any y (by omega) x (by have := hgz.2.2.2 x hx; omega) wr.heap.size (.slice ra y.length rc) r W ((hb.cell (p := ⟨wr.heap.size, 0, none⟩) (by simp)).trans (cell_of_row _ _ 0 _ _ _ HBE.out)) (row_on (row_on HRY.out HBQ.out) hb) hr)
          have hco := has_names 36 #[.pointer (some ⟨wr.heap.size, 0, none⟩)] (enters_of Tryz.func36 (by kernel_rfl) rfl) (fun z => decide (z = y)) (.slice mva G.length mvc) H _ (by omega) (names_on HM.out HB5.out) HPN.out
          rw [show (H.any fun z => decide (z = y)) = true from List.any_eq_true.2 ⟨y, HME.out, decide_eq_true rfl⟩] at hco
          have HCO := Lib.hid hco
          clear hco HPN HBE
          go_wp2_with fail
          refine HCO.out.mono ?_
          rintro e w10 ⟨rfl, hbx⟩
          have HB6 := Lib.hid (HB5.out.trans (hbx.mono HB5.out.size))
          clear hbx HCO
          go_wp2_with fail
          all_goals
            refine ⟨Lib.hid ⟨k + 1, hlt, by go_num, HB6.out⟩, ?_⟩
            simp [intOf]; omega
        case neg =>
          replace HB := Lib.hid (HB.out.below HBW.out)
          go_wp2_with fail
          go_ret
          exact ⟨rfl, HB.out.bel⟩
end Go.Proofs.YtnjiibiafhnmgaaGreatDoor
