/- The law WavesRight returns true. -/
import Derived.Test.YtnjiibiafhnmgaaGreatDoorZS
namespace Go.Proofs.YtnjiibiafhnmgaaGreatDoor
open Go Go.RowKit

set_option maxRecDepth 100000 in
set_option maxHeartbeats 16000000 in
theorem WavesRight_any (a : Option Addr) (c : Nat) (iv : Value) (X : List RelL) (fv : Value) (f : List SelL) (tv : Value) (t : List SelL) (w : World) (hm : MaxOk w) (h0 : RelsOf w.heap.size (.slice a X.length c) X w ∧ X.length ≤ maxLen ∧ ∀ x ∈ X, x.reqs.length ≤ maxLen)
    (h1 : SelsOf w.heap.size fv f w ∧ f.length ≤ maxLen ∧ ∀ y ∈ f, SelBd y) (h2 : SelsOf w.heap.size tv t w ∧ t.length ≤ maxLen ∧ ∀ y ∈ t, SelBd y) :
    Calls Tryz.prog 8 #[.agg #[.slice a X.length c, iv], fv, tv] w fun e w' => e = .returned (.bool true) ∧ Below w.heap.size w w' := by
  obtain ⟨hR, hX, hXr⟩ := h0
  obtain ⟨hF, hfl, hfy⟩ := h1
  obtain ⟨hT, htl, hty⟩ := h2
  obtain ⟨fa, fc, rfl⟩ : ∃ a c, fv = .slice a f.length c := by obtain ⟨a, c, e, _⟩ := hF; exact ⟨a, c, e⟩
  obtain ⟨ta, tc, rfl⟩ : ∃ a c, tv = .slice a t.length c := by obtain ⟨a, c, e, _⟩ := hT; exact ⟨a, c, e⟩
  have HAW := Lib.hid (fun W (hb : RowKit.Below w.heap.size w W) => awake44_any W (hm.below hb hm.pos))
  have HFEW := Lib.hid (fun W (hb : RowKit.Below w.heap.size w W) => few44_any a c iv X fa ta f.length fc t.length tc W hX hXr (hR.on hb) hfl htl)
  have HINP := Lib.hid (fun W (hb : RowKit.Below w.heap.size w W) (h : FewR X 16 ∧ f.length ≤ 12 ∧ t.length ≤ 12) => InW.of_few hm hR hF hfy hT hty (iv := iv) h hb)
  clear hm hR hX hXr hF hfl hfy hT htl hty
  have HB0 := Lib.hid (IdxBx.start w (.slice a X.length c) iv)
  go_enter Tryz.func8, Tryz.ntmps8
  go_upto_region 1 with fail
  generalize w.alloc (.cells #[.slice a X.length c, iv] 25) = W0 at *
  go_wp2_with fail
  refine (HAW.out _ HB0.out.bel).mono ?_
  rintro e w1 ⟨rfl, hb1⟩
  have HB1 := Lib.hid (HB0.out.below hb1)
  clear hb1 HAW HB0
  have c0 := HB1.out.c0
  have c1 := HB1.out.c1
  go_wp2_with fail
  refine (HFEW.out _ HB1.out.bel).mono ?_
  rintro e w2 ⟨fb, rfl, hfew, hb2⟩
  have HB := Lib.hid (HB1.out.below hb2)
  clear hb2 HFEW HB1 c0 c1
  cases fb with
  | false =>
    clear hfew HINP
    go_wp2_with fail
    go_ret
    exact ⟨rfl, HB.out.bel⟩
  | true =>
  have HIN := Lib.hid (HINP.out w2 HB.out.bel (hfew rfl))
  clear hfew HINP
  have c0 := HB.out.c0
  have c1 := HB.out.c1
  have HCO := Lib.hid HIN.out.groups
  go_wp2_with fail
  refine HCO.out.mono ?_
  rintro e w3 ⟨lv, rfl, hnx, hbx⟩
  replace HB := Lib.hid (HB.out.below hbx)
  replace HIN := Lib.hid (HIN.out.on hbx)
  have HL := Lib.hid hnx
  obtain ⟨lva, lvc, rfl⟩ : ∃ a c, lv = .slice a (grpV X f t).length c := by obtain ⟨a, c, e, _⟩ := hnx; exact ⟨a, c, e⟩
  clear hnx hbx HCO c0 c1
  have c0 := HB.out.c0
  have c1 := HB.out.c1
  have HCO := Lib.hid HIN.out.waves
  go_wp2_with fail
  refine HCO.out.mono ?_
  rintro e w4 ⟨mv, rfl, hnx, hbx⟩
  replace HB := Lib.hid (HB.out.below hbx)
  replace HIN := Lib.hid (HIN.out.on hbx)
  replace HL := Lib.hid (names_on HL.out hbx)
  have HM := Lib.hid hnx
  obtain ⟨mva, mvc, rfl⟩ : ∃ a c, mv = .slice a (wavV X f t).length c := by obtain ⟨a, c, e, _⟩ := hnx; exact ⟨a, c, e⟩
  clear hnx hbx HCO c0 c1
  have HRL : Hid (errW X f t = 0 → planV X f t (grpW X f t) = 0 ∧ planV X f t (wavW X f t) = 0 ∧ (wavW X f t).length ≤ (grpW X f t).length ∧ betV f t (grpW X f t).flatten = t ∧ betV f t [] = f) := Lib.hid right_law
  have HGV : Hid (errW X f t = 0 → grpV X f t = grpW X f t ∧ wavV X f t = wavW X f t) := Lib.hid (fun h => by unfold grpV wavV; rw [if_pos h, if_pos h]; exact ⟨rfl, rfl⟩)
  have HGN : Hid (errW X f t ≠ 0 → grpV X f t = [] ∧ wavV X f t = []) := Lib.hid (fun h => by unfold grpV wavV; rw [if_neg h, if_neg h]; exact ⟨rfl, rfl⟩)
  have HBT : Hid (errW X f t = 0 → ∀ M : List ByteArray, (∀ p ∈ M, p ∈ movesP f t) → btwV X f t M = 0 ∧ btwS X f t M = betV f t M) := Lib.hid (fun h M hM => btwV_zero h hM)
  by_cases hE0 : errW X f t = 0
  case neg =>
    obtain ⟨hg, hv⟩ := HGN.out hE0
    obtain ⟨E, hE⟩ : ∃ E, errW X f t = E := ⟨_, rfl⟩
    rw [hg] at HL
    rw [hv] at HM
    rw [hg, hv, hE]
    rw [hE] at hE0
    clear HRL HGV HGN HBT hE hg hv HIN
    have hE1 : (E != 0) = true := by simpa using hE0
    have hE2 : (E == E) = true := by simp
    have hl1 := len_names lva 0 lvc w4
    have hl2 := len_names mva 0 mvc w4
    simp only [List.length_nil] at *
    go_wp2_with fail
    try rw [hl1]
    go_wp2_with fail
    try rw [hl2]
    clear hl1 hl2
    go_wp2_with fail
    go_ret
    exact ⟨rfl, HB.out.bel⟩
  obtain ⟨hp1, hp2, hle, hb1, hb2⟩ := HRL.out hE0
  obtain ⟨hg, hv⟩ := HGV.out hE0
  have HBM := Lib.hid (HBT.out hE0)
  have HMEM := Lib.hid (plan_flat hp1).2.1
  have HP1 := Lib.hid hp1
  have HP2 := Lib.hid hp2
  have HB1 := Lib.hid hb1
  have HB2 := Lib.hid hb2
  have HS1 := Lib.hid (plan_small HIN.out hp1)
  have HS2 := Lib.hid (plan_small HIN.out hp2)
  rw [hg] at HL
  rw [hv] at HM
  rw [hg, hv, hE0]
  clear HRL HGV HGN HBT hg hv hp1 hp2 hb1 hb2 hE0
  generalize grpW X f t = G at *
  generalize wavW X f t = V at *
  have hbx : Below w4.heap.size w4 w4.drew := (Below.refl _ _).drew
  replace HB := Lib.hid (HB.out.below hbx)
  replace HIN := Lib.hid (HIN.out.on hbx)
  replace HL := Lib.hid (names_on HL.out hbx)
  replace HM := Lib.hid (names_on HM.out hbx)
  clear hbx
  have HCC := Lib.hid (concat_strs _ G w4.drew (by have := HS1.out; omega) (by have := HS1.out; omega) HL.out)
  have HCK1 := Lib.hid (fun W (hin : InW (.slice a X.length c) iv (.slice fa f.length fc) (.slice ta t.length tc) X f t W) (hL : NamesOf W.heap.size (.slice lva G.length lvc) G W) => hin.check (L := G) (by have := HS1.out; omega) (by have := HS1.out; omega) (fun p hp => HS1.out.2.2 p hp) hL)
  simp only [HP1.out] at HCK1
  have HCK2 := Lib.hid (fun W (hin : InW (.slice a X.length c) iv (.slice fa f.length fc) (.slice ta t.length tc) X f t W) (hL : NamesOf W.heap.size (.slice mva V.length mvc) V W) => hin.check (L := V) (by have := HS2.out; omega) (by have := HS2.out; omega) (fun p hp => HS2.out.2.2 p hp) hL)
  simp only [HP2.out] at HCK2
  generalize hGF : G.flatten = F at *
  clear hGF HP1 HP2 HS2
  go_upto_region 9 with fail
  refine wp_region_noPanic ?_
  refine wp_region_held_drew (S := HeldX w.heap.size (.slice a X.length c) iv) (by kernel_rfl) ((⟨HB.out.c0, HB.out.c1⟩ : HeldX w.heap.size (.slice a X.length c) iv _)) (fun hS0 => ?_)
  (refine zl3 0 ?_ rfl ?_ ?_; rotate_left; (· (rintro w ⟨d0, d1⟩; go_simp; try with_reducible rfl)); (try simp only [zl1]))
  (refine zl3 1 ?_ rfl ?_ ?_; rotate_left; (· (rintro w ⟨d0, d1⟩; go_simp; try with_reducible rfl)); (try simp only [zl1]))
  (refine zl3 2 ?_ rfl ?_ ?_; rotate_left; (· (rintro w ⟨d0, d1⟩; go_simp; try with_reducible rfl)); (try simp only [zl1]))
  (refine zl3 3 ?_ rfl ?_ ?_; rotate_left; (· (rintro w ⟨d0, d1⟩; go_simp; try with_reducible rfl)); (try simp only [zl1]))
  refine wpAnyH_ready (rs := [4]) (by kernel_rfl) (by simp) (AllReadyH.cons rfl (fun K hK => ?_) AllReadyH.nil)
  go_simp
  refine (HCC.out).mono ?_
  rintro e w5 ⟨cv, rfl, hrow, hbx⟩
  replace HB := Lib.hid (HB.out.below hbx)
  replace HIN := Lib.hid (HIN.out.on hbx)
  replace HL := Lib.hid (names_on HL.out hbx)
  replace HM := Lib.hid (names_on HM.out hbx)
  obtain ⟨ca, cc, rfl, _⟩ := rowOf_open hrow
  have hco := HIN.out.btw (M := F) (by have := HS1.out; omega) (fun p hp => HS1.out.2.2 p hp) hrow
  unfold BtwR at hco
  rw [(HBM.out F (fun p hp => (HMEM.out p).1 hp)).1, (HBM.out F (fun p hp => (HMEM.out p).1 hp)).2, HB1.out] at hco
  have HCO := Lib.hid hco
  clear hS0
  have hS0 := (⟨HB.out.c0, HB.out.c1⟩ : HeldX w.heap.size (.slice a X.length c) iv _)
  refine hK.out _ _ hS0 (fun _ => ?_)
  clear hK K hbx hco HCC hrow
  (try simp only [zl1])
  refine wpAnyH_ready (rs := [5]) (by kernel_rfl) (by simp) (AllReadyH.cons rfl (fun K hK => ?_) AllReadyH.nil)
  go_simp
  refine (HCO.out).mono ?_
  rintro e w6 ⟨sv, rfl, hnx, hbx⟩
  replace HB := Lib.hid (HB.out.below hbx)
  replace HIN := Lib.hid (HIN.out.on hbx)
  replace HL := Lib.hid (names_on HL.out hbx)
  replace HM := Lib.hid (names_on HM.out hbx)
  have HSV := Lib.hid hnx
  obtain ⟨sa, sc, rfl⟩ : ∃ a c, sv = .slice a t.length c := by obtain ⟨a, c, e, _⟩ := hnx; exact ⟨a, c, e⟩
  clear hS0
  have hS0 := (⟨HB.out.c0, HB.out.c1⟩ : HeldX w.heap.size (.slice a X.length c) iv _)
  refine hK.out _ _ hS0 (fun _ => ?_)
  clear hK K hbx hnx HCO
  (try simp only [zl1])
  (refine zl3 6 ?_ rfl ?_ ?_; rotate_left; (· (rintro w ⟨d0, d1⟩; go_simp; try with_reducible rfl)); (try simp only [zl1]))
  (refine zl3 7 ?_ rfl ?_ ?_; rotate_left; (· (rintro w ⟨d0, d1⟩; go_simp; try with_reducible rfl)); (try simp only [zl1]))
  (refine zl3 8 ?_ rfl ?_ ?_; rotate_left; (· (rintro w ⟨d0, d1⟩; go_simp; try with_reducible rfl)); (try simp only [zl1]))
  (refine zl3 9 ?_ rfl ?_ ?_; rotate_left; (· (rintro w ⟨d0, d1⟩; go_simp; try with_reducible rfl)); (try simp only [zl1]))
  (refine zl3 10 ?_ rfl ?_ ?_; rotate_left; (· (rintro w ⟨d0, d1⟩; go_simp; try with_reducible rfl)); (try simp only [zl1]))
  refine wpAnyH_done (by kernel_rfl) ?_ _
  refine NoPanic.normal ?_
  have c0 := HB.out.c0
  have c1 := HB.out.c1
  have hco := HIN.out.btw (mv := .slice none 0 0) (M := []) (by simp) (fun p hp => by cases hp) (.inl ⟨rfl, _, _, rfl⟩)
  unfold BtwR at hco
  rw [(HBM.out [] (fun p hp => by cases hp)).1, (HBM.out [] (fun p hp => by cases hp)).2, HB2.out] at hco
  have HCO := Lib.hid hco
  clear hco
  go_wp2_with fail
  refine HCO.out.mono ?_
  rintro e w7 ⟨uv, rfl, hnx, hbx⟩
  replace HB := Lib.hid (HB.out.below hbx)
  replace HIN := Lib.hid (HIN.out.on hbx)
  replace HL := Lib.hid (names_on HL.out hbx)
  replace HM := Lib.hid (names_on HM.out hbx)
  replace HSV := Lib.hid (HSV.out.on hbx)
  have HUV := Lib.hid hnx
  obtain ⟨ua, uc, rfl⟩ : ∃ a c, uv = .slice a f.length c := by obtain ⟨a, c, e, _⟩ := hnx; exact ⟨a, c, e⟩
  clear hnx hbx HCO c0 c1
  have c0 := HB.out.c0
  have c1 := HB.out.c1
  have hco := eq_selsW (.slice sa t.length sc) (.slice ta t.length tc) t t w7 (by have := HIN.out.fl; have := HIN.out.tl; omega) (by have := HIN.out.fl; have := HIN.out.tl; omega) HSV.out HIN.out.st
  rw [decide_eq_true rfl] at hco
  have HCO := Lib.hid hco
  clear hco
  go_wp2_with fail
  refine HCO.out.mono ?_
  rintro e w8 ⟨rfl, hbx⟩
  replace HB := Lib.hid (HB.out.below hbx)
  replace HIN := Lib.hid (HIN.out.on hbx)
  replace HL := Lib.hid (names_on HL.out hbx)
  replace HM := Lib.hid (names_on HM.out hbx)
  replace HSV := Lib.hid (HSV.out.on hbx)
  replace HUV := Lib.hid (HUV.out.on hbx)
  clear hbx HCO c0 c1
  have c0 := HB.out.c0
  have c1 := HB.out.c1
  have hco := eq_selsW (.slice ua f.length uc) (.slice fa f.length fc) f f w8 (by have := HIN.out.fl; have := HIN.out.tl; omega) (by have := HIN.out.fl; have := HIN.out.tl; omega) HUV.out HIN.out.sf
  rw [decide_eq_true rfl] at hco
  have HCO := Lib.hid hco
  clear hco
  go_wp2_with fail
  refine HCO.out.mono ?_
  rintro e w9 ⟨rfl, hbx⟩
  replace HB := Lib.hid (HB.out.below hbx)
  replace HIN := Lib.hid (HIN.out.on hbx)
  replace HL := Lib.hid (names_on HL.out hbx)
  replace HM := Lib.hid (names_on HM.out hbx)
  replace HSV := Lib.hid (HSV.out.on hbx)
  replace HUV := Lib.hid (HUV.out.on hbx)
  clear hbx HCO c0 c1
  have c0 := HB.out.c0
  have c1 := HB.out.c1
  have HCO := Lib.hid (HCK1.out _ HIN.out HL.out)
  go_wp2_with fail
  refine HCO.out.mono ?_
  rintro e w10 ⟨rfl, hbx⟩
  replace HB := Lib.hid (HB.out.below hbx)
  replace HIN := Lib.hid (HIN.out.on hbx)
  replace HL := Lib.hid (names_on HL.out hbx)
  replace HM := Lib.hid (names_on HM.out hbx)
  replace HSV := Lib.hid (HSV.out.on hbx)
  replace HUV := Lib.hid (HUV.out.on hbx)
  clear hbx HCO c0 c1
  have c0 := HB.out.c0
  have c1 := HB.out.c1
  have HCO := Lib.hid (HCK2.out _ HIN.out HM.out)
  go_wp2_with fail
  refine HCO.out.mono ?_
  rintro e w11 ⟨rfl, hbx⟩
  replace HB := Lib.hid (HB.out.below hbx)
  replace HIN := Lib.hid (HIN.out.on hbx)
  replace HL := Lib.hid (names_on HL.out hbx)
  replace HM := Lib.hid (names_on HM.out hbx)
  replace HSV := Lib.hid (HSV.out.on hbx)
  replace HUV := Lib.hid (HUV.out.on hbx)
  clear hbx HCO c0 c1
  have hl1 := len_names mva V.length mvc w11
  have hl2 := len_names lva G.length lvc w11
  have hle2 : ((V.length : Int) ≤ (G.length : Int)) := by omega
  have hle3 : decide ((V.length : Int) ≤ (G.length : Int)) = true := decide_eq_true hle2
  go_wp2_with fail
  try rw [hl1]
  go_wp2_with fail
  try rw [hl2]
  clear hl1 hl2
  go_wp2_with fail
  go_ret
  exact ⟨rfl, HB.out.bel⟩
end Go.Proofs.YtnjiibiafhnmgaaGreatDoor
