/- The law WavesWhole returns true. -/
import Derived.Test.YtnjiibiafhnmgaaGreatDoorZS
import Derived.Test.YtnjiibiafhnmgaaGreatDoorWA
namespace Go.Proofs.YtnjiibiafhnmgaaGreatDoor
open Go Go.RowKit

theorem whole_first {L : List (List ByteArray)} {p : ByteArray} {i : Nat} {n : Int} (hi : i < L.length) (h1 : p ∈ L.getD i []) (h2 : ∀ j, j < i → p ∉ L.getD j []) (h : FirstN L (fun y => decide (p ∈ y)) n) : n = (i : Int) := by
  rcases h with ⟨_, h⟩ | ⟨k, hk, rfl, h3, h4⟩
  · have hm : L.getD i [] ∈ L := by rw [List.getD_eq_getElem?_getD, List.getElem?_eq_getElem hi]; exact List.getElem_mem hi
    have := of_decide_eq_false (h _ hm)
    exact absurd h1 this
  · have h3 := of_decide_eq_true h3
    rcases Nat.lt_trichotomy k i with hlt | rfl | hgt
    · exact absurd h3 (h2 k hlt)
    · rfl
    · exact absurd h1 (of_decide_eq_false (h4 i hgt))
set_option maxRecDepth 100000 in
set_option maxHeartbeats 16000000 in
theorem WavesWhole_any (a : Option Addr) (c : Nat) (iv : Value) (X : List RelL) (fv : Value) (f : List SelL) (tv : Value) (t : List SelL) (pv : Value) (L : List (List ByteArray)) (w : World) (hm : MaxOk w) (h0 : RelsOf w.heap.size (.slice a X.length c) X w ∧ X.length ≤ maxLen ∧ ∀ x ∈ X, x.reqs.length ≤ maxLen)
    (h1 : SelsOf w.heap.size fv f w ∧ f.length ≤ maxLen ∧ ∀ y ∈ f, SelBd y) (h2 : SelsOf w.heap.size tv t w ∧ t.length ≤ maxLen ∧ ∀ y ∈ t, SelBd y)
    (h3 : NamesOf w.heap.size pv L w ∧ L.length ≤ maxLen ∧ ∀ l ∈ L, l.length ≤ maxLen) :
    Calls Tryz.prog 6 #[.agg #[.slice a X.length c, iv], fv, tv, pv] w fun e w' => e = .returned (.bool true) ∧ Below w.heap.size w w' := by
  obtain ⟨hR, hX, hXr⟩ := h0
  obtain ⟨hF, hfl, hfy⟩ := h1
  obtain ⟨hT, htl, hty⟩ := h2
  obtain ⟨hP, hpl, hpr⟩ := h3
  obtain ⟨fa, fc, rfl⟩ : ∃ a c, fv = .slice a f.length c := by obtain ⟨a, c, e, _⟩ := hF; exact ⟨a, c, e⟩
  obtain ⟨ta, tc, rfl⟩ : ∃ a c, tv = .slice a t.length c := by obtain ⟨a, c, e, _⟩ := hT; exact ⟨a, c, e⟩
  obtain ⟨pa, pc, rfl⟩ : ∃ a c, pv = .slice a L.length c := by obtain ⟨a, c, e, _⟩ := hP; exact ⟨a, c, e⟩
  have HAW := Lib.hid (fun W (hb : RowKit.Below w.heap.size w W) => awake44_any W (hm.below hb hm.pos))
  have HFEW := Lib.hid (fun W (hb : RowKit.Below w.heap.size w W) => few44_any a c iv X fa ta f.length fc t.length tc W hX hXr (hR.on hb) hfl htl)
  have HFEP := Lib.hid (fun W (hb : RowKit.Below w.heap.size w W) => fewP_any (.slice pa L.length pc) L W (by unfold maxLen at hpl; omega) (fun l hl => by have := hpr l hl; unfold maxLen at this; omega) (names_on hP hb))
  have HINP := Lib.hid (fun W (hb : RowKit.Below w.heap.size w W) (h : FewR X 16 ∧ f.length ≤ 12 ∧ t.length ≤ 12) => InW.of_few hm hR hF hfy hT hty (iv := iv) h hb)
  have HPN := Lib.hid (fun W (hb : RowKit.Below w.heap.size w W) => names_on hP hb)
  clear hm hR hX hXr hF hfl hfy hT htl hty hP hpl hpr
  have HB0 := Lib.hid (IdxBx.start w (.slice a X.length c) iv)
  have z := World.size_alloc w (.cells #[.slice a X.length c, iv] 25)
  go_enter Tryz.func6, Tryz.ntmps6
  go_upto_region 1 with fail
  generalize w.alloc (.cells #[.slice a X.length c, iv] 25) = W0 at *
  have hbq := belQ W0 (.cells #[.slice pa L.length pc] 36)
  have HPB := Lib.hid (World.alloc_heap_new W0 (.cells #[.slice pa L.length pc] 36))
  rw [z] at HPB
  replace HB0 := Lib.hid (HB0.out.below hbq)
  generalize W0.alloc (.cells #[.slice pa L.length pc] 36) = W1 at *
  clear hbq z
  generalize w.heap.size + 1 = gp at *
  go_wp2_with fail
  refine (HAW.out _ HB0.out.bel).mono ?_
  rintro e w1 ⟨rfl, hb1⟩
  replace HB0 := Lib.hid (HB0.out.below hb1)
  replace HPB := Lib.hid ((hb1.block _ (Array.getElem?_eq_some_iff.1 HPB.out).1).trans HPB.out)
  clear hb1 HAW
  have c0 := HB0.out.c0
  have c1 := HB0.out.c1
  go_wp2_with fail
  refine (HFEW.out _ HB0.out.bel).mono ?_
  rintro e w2 ⟨fb, rfl, hfew, hb2⟩
  have HB := Lib.hid (HB0.out.below hb2)
  replace HPB := Lib.hid ((hb2.block _ (Array.getElem?_eq_some_iff.1 HPB.out).1).trans HPB.out)
  clear hb2 HFEW HB0 c0 c1
  cases fb with
  | false =>
    clear hfew HINP
    go_wp2_with fail
    go_ret
    exact ⟨rfl, HB.out.bel⟩
  | true =>
  have HIN := Lib.hid (HINP.out w2 HB.out.bel (hfew rfl))
  have HNM := Lib.hid (HPN.out w2 HB.out.bel)
  clear hfew HINP HPN
  have p0 : w2.cell? ⟨gp, 0, none⟩ = some (.slice pa L.length pc) := cell_of_row _ _ 0 _ _ _ HPB.out
  go_wp2_with fail
  refine (HFEP.out _ HB.out.bel).mono ?_
  rintro e w3 ⟨fb, rfl, hfew, rfl⟩
  clear HFEP
  cases fb with
  | false =>
    clear hfew HIN
    go_wp2_with fail
    go_ret
    exact ⟨rfl, HB.out.bel⟩
  | true =>
  have HFP := Lib.hid (hfew rfl)
  clear hfew
  have hco := HIN.out.check (L := L) (by have := HFP.out.len; omega) (by have := (FewP.flat HFP.out.all).1; have := HFP.out.len; omega) (fun p hp => by have := (FewP.flat HFP.out.all).2 p hp; unfold maxLen; omega) HNM.out
  obtain ⟨C, hC⟩ : ∃ C, planV X f t L = C := ⟨_, rfl⟩
  rw [hC] at hco
  have HC := Lib.hid hC
  have HCO := Lib.hid hco
  clear hco hC
  have c0 := HB.out.c0
  have c1 := HB.out.c1
  go_wp2_with fail
  refine HCO.out.mono ?_
  rintro e w4 ⟨rfl, hbx⟩
  replace HB := Lib.hid (HB.out.below hbx)
  replace HIN := Lib.hid (HIN.out.on hbx)
  replace HPB := Lib.hid ((hbx.block _ (Array.getElem?_eq_some_iff.1 HPB.out).1).trans HPB.out)
  replace HNM := Lib.hid (names_on HNM.out hbx)
  clear hbx HCO c0 c1 p0
  by_cases hC0 : C = 0
  case neg =>
    have hC1 : (C != 0) = true := by simpa using hC0
    go_wp2_with fail
    go_ret
    exact ⟨rfl, HB.out.bel⟩
  subst hC0
  have h0 : errW X f t = 0 := (planV_zero.1 HC.out).1
  obtain ⟨hle, hall⟩ := whole_law HC.out
  have HALL := Lib.hid hall
  have hco := HIN.out.groups
  have hg : grpV X f t = grpW X f t := by unfold grpV; rw [if_pos h0]
  rw [hg, h0] at hco
  have HSM := Lib.hid (plan_small HIN.out (right_law h0).1)
  have HGS : Hid ((grpW X f t).length ≤ 24 ∧ ∀ g ∈ grpW X f t, g.length ≤ 24) := Lib.hid ⟨HSM.out.1, fun g hg => Nat.le_trans (List.sublist_flatten_of_mem hg).length_le HSM.out.2.1⟩
  have HCO := Lib.hid hco
  clear hall hco hg h0 HSM HC
  generalize grpW X f t = G at *
  have HLE := Lib.hid hle
  have c0 := HB.out.c0
  have c1 := HB.out.c1
  go_wp2_with fail
  refine HCO.out.mono ?_
  rintro e w5 ⟨lv, rfl, hnx, hbx⟩
  replace HB := Lib.hid (HB.out.below hbx)
  replace HIN := Lib.hid (HIN.out.on hbx)
  replace HPB := Lib.hid ((hbx.block _ (Array.getElem?_eq_some_iff.1 HPB.out).1).trans HPB.out)
  replace HNM := Lib.hid (names_on HNM.out hbx)
  have HL := Lib.hid hnx
  obtain ⟨ga, gc, rfl⟩ : ∃ a c, lv = .slice a G.length c := by obtain ⟨a, c, e, _⟩ := hnx; exact ⟨a, c, e⟩
  clear hnx hbx HCO c0 c1
  have p0 : w5.cell? ⟨gp, 0, none⟩ = some (.slice pa L.length pc) := cell_of_row _ _ 0 _ _ _ HPB.out
  have hl1 := len_names pa L.length pc w5
  have hl2 := len_names ga G.length gc w5
  have hgt : ¬ ((G.length : Int) < (L.length : Int)) := by omega
  have hgt2 : decide ((G.length : Int) < (L.length : Int)) = false := decide_eq_false hgt
  have hgt3 : decide (G.length < L.length) = false := decide_eq_false (by omega)
  clear hle
  go_wp2_with fail
  try rw [hl1]
  go_wp2_with fail
  try rw [hl2]
  go_wp2_with fail
  try rw [hl2]
  clear hl1 hl2 p0 hgt hgt2 hgt3
  go_wp2_with fail
  have HKP := Lib.hid (fun W (hb : Below w5.heap.size w5 W) => ((hb.block _ (Array.getElem?_eq_some_iff.1 HPB.out).1).trans HPB.out : W.heap[gp]? = _))
  go_loopw [52] (fun p wr => Hid (∃ (k : Nat), k ≤ G.length ∧ p = .int .i64 (k : Int) ∧ Below w5.heap.size w5 wr)) (fun p _ => G.length - (intOf p).toNat)
  case atStart => exact Lib.hid ⟨0, Nat.zero_le _, rfl, Below.refl _ _⟩
  case round =>
    obtain ⟨k, hk, rfl, hb⟩ := hrel.out
    have HBW := Lib.hid hb
    clear hrel hb
    by_cases hlt : k < G.length
    case neg =>
      replace HB := Lib.hid (HB.out.below HBW.out)
      go_wp2_with fail
      go_ret
      exact ⟨rfl, HB.out.bel⟩
    have hG24 := HGS.out.1
    have hk0 : (0 : Int) ≤ (k : Int) := Int.natCast_nonneg k
    have hkz : (k : Int) < (G.length : Int) := Int.ofNat_lt.2 hlt
    obtain ⟨b3, off3, r, rfl, d0, hr⟩ := names_at HL.out HBW.out hlt
    obtain ⟨hne, i, hi, hi1, hi2⟩ := HALL.out _ (List.getElem_mem hlt)
    have hgl := HGS.out.2 _ (List.getElem_mem hlt)
    generalize G[k] = y at *
    obtain ⟨p, ys, rfl⟩ : ∃ p ys, y = p :: ys := by
      cases y with
      | nil => exact absurd rfl hne
      | cons p ys => exact ⟨p, ys, rfl⟩
    obtain ⟨hp1, hp2⟩ := hi1 p rfl
    have HRY := Lib.hid hr
    obtain ⟨ra, rc, rfl, _⟩ := rowOf_open hr
    have HAN : Hid ((p :: ys).any (fun s => !decide (s ∈ L[i])) = false) := Lib.hid (List.any_eq_false.2 fun s hs => by
      have := hi2 s hs
      rw [List.getD_eq_getElem?_getD, List.getElem?_eq_getElem hi] at this
      rw [decide_eq_true (show s ∈ L[i] from this)]
      simp)
    have HWF := Lib.hid (fun n (h : FirstN L (fun y => decide (p ∈ y)) n) => whole_first hi hp1 hp2 h)
    clear hr hne hi1 hi2 hp1 hp2
    generalize hyy : p :: ys = yy at *
    have HBQ := Lib.hid (belQ wr (.cells #[.slice ra yy.length rc] 29))
    have HBE := Lib.hid (World.alloc_heap_new wr (.cells #[.slice ra yy.length rc] 29))
    have HB5 := Lib.hid (HBW.out.trans (HBQ.out.mono HBW.out.size))
    have HRE := Lib.hid (row_on HRY.out HBQ.out)
    have q0 : (wr.alloc (.cells #[.slice ra yy.length rc] 29)).cell? ⟨gp, 0, none⟩ = some (.slice pa L.length pc) := cell_of_row _ _ 0 _ _ _ (HKP.out _ HB5.out)
    go_upto_region 11 with fail
    generalize wr.alloc (.cells #[.slice ra yy.length rc] 29) = w6 at *
    generalize wr.heap.size = be at *
    have HPD : Hid (PredN 31 #[.pointer (some ⟨be, 0, none⟩)] L (fun y => decide (p ∈ y)) w6) := Lib.hid (fun W x r hx hb hr =>
      whole1_any p ys x (by have := HFP.out.all x hx; omega) (by have := congrArg List.length hyy; rw [List.length_cons] at this; omega) be (.slice ra yy.length rc) r W ((hb.cell (p := ⟨be, 0, none⟩) (Array.getElem?_eq_some_iff.1 HBE.out).1).trans (cell_of_row _ _ 0 _ _ _ HBE.out)) (by rw [hyy]; exact row_on HRE.out hb) hr)
    have HCO := Lib.hid (idx_names 31 #[.pointer (some ⟨be, 0, none⟩)] (enters_of Tryz.func31 (by kernel_rfl) rfl) (fun y => decide (p ∈ y)) (.slice pa L.length pc) L w6 (by have := HFP.out.len; omega) (names_on HNM.out HB5.out) HPD.out)
    clear HPD
    go_wp2_with fail
    refine HCO.out.mono ?_
    rintro e w7 ⟨n, rfl, hn, hbx⟩
    obtain rfl := HWF.out n hn
    have HB7 := Lib.hid (HB5.out.trans (hbx.mono HB5.out.size))
    have HRE7 := Lib.hid (row_on HRE.out hbx)
    have HBE7 := Lib.hid ((hbx.block _ (Array.getElem?_eq_some_iff.1 HBE.out).1).trans HBE.out)
    clear hbx hn HCO HBE HRE HRY HB5 HBQ q0 HWF
    have hbq := belQ w7 (.cells #[.int .i64 (i : Int)] 3)
    have HBI := Lib.hid (World.alloc_heap_new w7 (.cells #[.int .i64 (i : Int)] 3))
    have HB8 := Lib.hid (HB7.out.trans (hbq.mono HB7.out.size))
    have HRE8 := Lib.hid (row_on HRE7.out hbq)
    have HBE8 := Lib.hid ((hbq.block _ (Array.getElem?_eq_some_iff.1 HBE7.out).1).trans HBE7.out)
    go_upto_region 12 with fail
    generalize w7.alloc (.cells #[.int .i64 (i : Int)] 3) = w8 at *
    generalize w7.heap.size = bi at *
    clear hbq HB7 HRE7 HBE7
    have q1 : w8.cell? ⟨be, 0, none⟩ = some (.slice ra yy.length rc) := cell_of_row _ _ 0 _ _ _ HBE8.out
    have q2 : w8.cell? ⟨bi, 0, none⟩ = some (.int .i64 (i : Int)) := cell_of_row _ _ 0 _ _ _ HBI.out
    have HPS : Hid (PredStr 33 #[.pointer (some ⟨gp, 0, none⟩), .pointer (some ⟨bi, 0, none⟩)] yy (fun s => !decide (s ∈ L[i])) w8) := Lib.hid (fun W s hs hb => by
      have hb5 := HB8.out.trans (hb.mono HB8.out.size)
      exact (whole2_any s L i hi (by have := HFP.out.len; omega) (by have := HFP.out.all _ (List.getElem_mem hi); omega) gp bi (.slice pa L.length pc) W (cell_of_row _ _ 0 _ _ _ (HKP.out _ hb5)) ((hb.cell (p := ⟨bi, 0, none⟩) (Array.getElem?_eq_some_iff.1 HBI.out).1).trans (cell_of_row _ _ 0 _ _ _ HBI.out)) (names_on HNM.out hb5)).mono fun e w' h => ⟨h.1, hb.trans (h.2.mono hb.size)⟩)
    have hco := has_str 33 #[.pointer (some ⟨gp, 0, none⟩), .pointer (some ⟨bi, 0, none⟩)] (enters_of Tryz.func33 (by kernel_rfl) rfl) (fun s => !decide (s ∈ L[i])) (.slice ra yy.length rc) yy w8 (by omega) HRE8.out HPS.out
    rw [HAN.out] at hco
    have HCO := Lib.hid hco
    have hi0 : (0 : Int) ≤ (i : Int) := Int.natCast_nonneg i
    have hi1 : decide ((i : Int) < 0) = false := decide_eq_false (by omega)
    clear hco HPS HAN
    go_wp2_with fail
    refine HCO.out.mono ?_
    rintro e w9 ⟨rfl, hbx⟩
    have HB9 := Lib.hid (HB8.out.trans (hbx.mono HB8.out.size))
    clear hbx HCO q1 q2
    go_wp2_with fail
    all_goals
      refine ⟨Lib.hid ⟨k + 1, hlt, by go_num, HB9.out⟩, ?_⟩
      simp [intOf]; omega
end Go.Proofs.YtnjiibiafhnmgaaGreatDoor
