/- Contracts of the index's checks. -/
import Derived.Test.YtnjiibiafhnmgaaGreatDoorYE
import Derived.Test.YtnjiibiafhnmgaaGreatDoorYH
import Derived.Test.YtnjiibiafhnmgaaGreatDoorYG
import Derived.Test.YtnjiibiafhnmgaaGreatDoorYD
namespace Go.Proofs.YtnjiibiafhnmgaaGreatDoor
set_option linter.unusedVariables false
set_option linter.unusedSimpArgs false
open Go Go.RowKit

theorem rnan_any (s : ByteArray) (w : World) : Calls Tryz.prog 125 #[.string s] w fun e w' => e = .returned (.bool false) ∧ w = w' := by
  go_enter Tryz.func125, Tryz.ntmps125
  go_wp2_with fail
  go_ret
  simp
theorem leq_lt (p q : ByteArray) : (Op.bytesLess p.toList q.toList || p.toList == q.toList) = !ltB q p := by
  unfold ltB
  cases h : Op.bytesLess p.toList q.toList with
  | true => rw [less_asymm _ _ h]; rfl
  | false =>
    cases h2 : Op.bytesLess q.toList p.toList with
    | true =>
      by_cases e : p.toList = q.toList
      · rw [e] at h h2; rw [h] at h2; cases h2
      · simpa using e
    | false => rw [less_tri _ _ h h2]; simp
theorem cmpS_any (a b : ByteArray) (w : World) : Calls Tryz.prog 185 #[.string a, .string b] w fun e w' => e = .returned (.int .i64 (cmpS a b)) ∧ w = w' := by
  unfold cmpS
  cases h1 : ltB a b with
  | true =>
    unfold ltB at h1
    go_enter Tryz.func185, Tryz.ntmps185
    go_wp2_with (go_at_call 125; refine (rnan_any _ _).mono ?_; rintro e w' ⟨rfl, rfl⟩)
    go_ret
    simp
  | false =>
    cases h2 : ltB b a with
    | true =>
      have h3 : (a.toList == b.toList) = false := by
        by_cases e : a.toList = b.toList
        · unfold ltB at h1 h2; rw [e] at h1 h2; rw [h1] at h2; cases h2
        · simpa using e
      unfold ltB at h1 h2
      go_enter Tryz.func185, Tryz.ntmps185
      go_wp2_with (go_at_call 125; refine (rnan_any _ _).mono ?_; rintro e w' ⟨rfl, rfl⟩)
      go_ret
      simp
    | false =>
      have h3 : (a.toList == b.toList) = true := by
        unfold ltB at h1 h2
        rw [less_tri _ _ h1 h2]
        simp
      unfold ltB at h1 h2
      go_enter Tryz.func185, Tryz.ntmps185
      go_wp2_with (go_at_call 125; refine (rnan_any _ _).mono ?_; rintro e w' ⟨rfl, rfl⟩)
      go_ret
      simp
theorem belQ (w : World) (o : Obj) : Below w.heap.size w (w.alloc o) := (Below.refl _ _).alloc (Nat.le_refl _) o
def BeforeAt (w : World) (bv : Value) (bf : Option ByteArray) : Prop :=
  (bf = none ∧ bv = .pointer none) ∨ ∃ q b o, bf = some q ∧ bv = .pointer (some ⟨b, o, none⟩) ∧ b < w.heap.size ∧ w.cell? ⟨b, o, none⟩ = some (.string q)
theorem keepQ {W w' : World} {g : Nat} {x y : Value} (hg : g < W.heap.size) (h : W.cell? ⟨g, 0, none⟩ = some x ∧ W.cell? ⟨g, 1, none⟩ = some y) (hb : Below W.heap.size W w') : w'.cell? ⟨g, 0, none⟩ = some x ∧ w'.cell? ⟨g, 1, none⟩ = some y :=
  ⟨(hb.cell (p := ⟨g, 0, none⟩) hg).trans h.1, (hb.cell (p := ⟨g, 1, none⟩) hg).trans h.2⟩
set_option maxRecDepth 100000 in
set_option maxHeartbeats 4000000 in
theorem checkReq_any (p : ByteArray) (s : List (Int × Int)) (sv bv : Value) (bf : Option ByteArray) (w : World) (hm : MaxOk w) (hp : p.size ≤ 1000000) (hs : s.length ≤ 1000000000) (hc : (canon s).length ≤ 1000000000) (hS : SpansOf w.heap.size sv s w) (hb : BeforeAt w bv bf) :
    Calls Tryz.prog 200 #[.agg #[.string p, sv], bv] w fun e w' => e = .returned (.int .i64 (reqE (p, s) bf)) ∧ Below w.heap.size w w' := by
  have HS := Lib.hid hS
  obtain ⟨ao, c, rfl, _⟩ := hS
  have HM := Lib.hid (hm.alloc (.cells #[.string p, .slice ao s.length c] 100))
  have HB0 : Hid (Below w.heap.size w (w.alloc (.cells #[.string p, .slice ao s.length c] 100))) := Lib.hid (belQ _ _)
  have HG0 : Hid ((w.alloc (.cells #[.string p, .slice ao s.length c] 100)).heap[w.heap.size]? = some (.cells #[.string p, .slice ao s.length c] 100 (0, 0))) := Lib.hid (World.alloc_heap_new w _)
  have HL := Lib.hid (Line_any p (w.alloc (.cells #[.string p, .slice ao s.length c] 100)) hp HM.out)
  have HBF := Lib.hid hb
  clear hm hb
  obtain ⟨E, hE⟩ : ∃ E, reqE (p, s) bf = E := ⟨_, rfl⟩
  have HE := Lib.hid hE
  rw [hE]
  clear hE
  obtain ⟨le, hle⟩ : ∃ le, (lineV p).2.2 = le := ⟨_, rfl⟩
  rw [hle] at HL
  have HLE := Lib.hid hle
  clear hle
  go_enter Tryz.func200, Tryz.ntmps200
  go_wp2_with fail
  refine HL.out.mono ?_
  rintro e w1 ⟨rfl, hb1⟩
  have hs1 := hb1.size
  simp only [World.size_alloc] at hs1
  have HG1 := Lib.hid ((hb1.block w.heap.size (by simp)).trans HG0.out)
  have HB1 := Lib.hid (HB0.out.trans (hb1.mono (by simp)))
  have hg0 : w1.cell? ⟨w.heap.size, 0, none⟩ = some (.string p) := cell_of_row _ _ 0 _ _ _ HG1.out
  have hg1 : w1.cell? ⟨w.heap.size, 1, none⟩ = some (.slice ao s.length c) := cell_of_row _ _ 1 _ _ _ HG1.out
  clear hb1 HL
  by_cases h1 : le = 0
  case neg =>
    have h1b : (le != 0) = true := by simpa using h1
    have HX := Lib.hid (show E = 4 by rw [← HE.out]; unfold reqE; rw [if_pos (by rw [HLE.out]; exact h1)])
    go_wp2_with fail
    go_ret
    exact ⟨by rw [HX.out]; rfl, HB1.out⟩
  case pos =>
    subst h1
    have HC1 := Lib.hid (fun (wx : World) (h : Below w1.heap.size w1 wx) => Canonical_any (.slice ao s.length c) s wx hs (((HS.out.below HB1.out (Nat.le_refl _)).mono (show w.heap.size ≤ w1.heap.size by omega)).below h (Nat.le_refl _) |>.mono h.size))
    have HEQ := Lib.hid (fun (wx : World) (v' : Value) (h : Below w1.heap.size w1 wx) (h2 : SpansOf wx.heap.size v' (canon s) wx) => (Equal_spans (.slice ao s.length c) v' wx.heap.size s (canon s) wx hs hc (((HS.out.below HB1.out (Nat.le_refl _)).mono (show w.heap.size ≤ w1.heap.size by omega)).below h (Nat.le_refl _) |>.mono h.size) h2).mono fun e w' (hq : e = .returned (.bool (decide (s = canon s))) ∧ ∃ q, w' = wx.drewN q) => (show e = .returned (.bool (decide (s = canon s))) ∧ Below wx.heap.size wx w' from ⟨hq.1, by obtain ⟨_, q, rfl⟩ := hq; exact below_drewNV (Below.refl _ _) q⟩))
    by_cases h2 : s = []
    · subst h2
      have HX := Lib.hid (show E = 1 by rw [← HE.out]; unfold reqE; rw [if_neg (by rw [HLE.out]; simp), if_pos (.inl rfl)])
      go_wp2_with fail
      go_quiet (fail)
      go_wp2_with fail
      go_ret
      exact ⟨by rw [HX.out]; rfl, below_drewNV HB1.out _⟩
    · have hl0 : ¬ s.length = 0 := fun e => h2 (List.length_eq_zero_iff.1 e)
      have hl1 : ¬ ((s.length : Int) = 0) := by omega
      have hl2 : decide ((s.length : Int) = 0) = false := decide_eq_false hl1
      have hl4 : ((s.length : Int) == 0) = false := by simpa using h2
      have HBC : Hid (Below w1.heap.size w1 w1) := Lib.hid (Below.refl _ _)
      have hz : w.heap.size < w1.heap.size := by omega
      have HSQ := Lib.hid (And.intro hg0 hg1)
      go_upto_region 4 with fail
      obtain ⟨bq, hbq⟩ : ∃ bq, decide (s = canon s) = bq := ⟨_, rfl⟩
      rw [hbq] at HEQ
      have HBQ := Lib.hid hbq
      clear hbq
      rcases HBF.out with ⟨rfl, rfl⟩ | ⟨q, b, o, rfl, rfl, hb0, hbc0⟩
      · skip
        refine wp_region_noPanic ?_
        refine wp_region_held_drew (S := HeldC ⟨w.heap.size, 0, none⟩ ⟨w.heap.size, 1, none⟩ (.string p) (.slice ao s.length c)) (by kernel_rfl) ⟨hg0, hg1⟩ (fun hS0 => ?_)
        (refine zl3 0 ?_ rfl ?_ ?_; rotate_left; (· (rintro w ⟨c0, c1⟩; go_simp; try with_reducible rfl)); (try simp only [zl1]))
        (refine zl3 1 ?_ rfl ?_ ?_; rotate_left; (· (rintro w ⟨c0, c1⟩; go_simp; try with_reducible rfl)); (try simp only [zl1]))
        (refine zl3 2 ?_ rfl ?_ ?_; rotate_left; (· (rintro w ⟨c0, c1⟩; go_simp; try with_reducible rfl)); (try simp only [zl1]))
        (refine zl3 3 ?_ rfl ?_ ?_; rotate_left; (· (rintro w ⟨c0, c1⟩; go_simp; try with_reducible rfl)); (try simp only [zl1]))
        (refine zl3 4 ?_ rfl ?_ ?_; rotate_left; (· (rintro w ⟨c0, c1⟩; go_simp; try with_reducible rfl)); (try simp only [zl1]))
        (refine zl3 5 ?_ rfl ?_ ?_; rotate_left; (· (rintro w ⟨c0, c1⟩; go_simp; try with_reducible rfl)); (try simp only [zl1]))
        (refine zl3 6 ?_ rfl ?_ ?_; rotate_left; (· (rintro w ⟨c0, c1⟩; go_simp; try with_reducible rfl)); (try simp only [zl1]))
        (refine zl3 7 ?_ rfl ?_ ?_; rotate_left; (· (rintro w ⟨c0, c1⟩; go_simp; try with_reducible rfl)); (try simp only [zl1]))
        (refine zl3 8 ?_ rfl ?_ ?_; rotate_left; (· (rintro w ⟨c0, c1⟩; go_simp; try with_reducible rfl)); (try simp only [zl1]))
        refine wpAnyH_ready (rs := [9]) (by kernel_rfl) (by simp) (AllReadyH.cons rfl (fun K hK => ?_) AllReadyH.nil)
        go_simp
        refine (HC1.out _ HBC.out.drew).mono ?_
        rintro e wq ⟨v', rfl, hv', hbc⟩
        have HV := Lib.hid hv'
        replace HBC := Lib.hid (HBC.out.drew.trans (hbc.mono HBC.out.size))
        refine hK.out _ _ (keepQ hz HSQ.out HBC.out) (fun _ => ?_)
        clear hK K hS0 hbc hv'
        (try simp only [zl1])
        refine wpAnyH_ready (rs := [10]) (by kernel_rfl) (by simp) (AllReadyH.cons rfl (fun K hK => ?_) AllReadyH.nil)
        go_simp
        refine (HEQ.out _ _ HBC.out HV.out).mono ?_
        rintro e w2 ⟨rfl, hbc⟩
        replace HBC := Lib.hid (HBC.out.trans (hbc.mono HBC.out.size))
        refine hK.out _ _ (keepQ hz HSQ.out HBC.out) (fun hS2 => ?_)
        clear hK K hbc
        (try simp only [zl1])
        (refine zl3 11 ?_ rfl ?_ ?_; rotate_left; (· (rintro w ⟨c0, c1⟩; go_simp; try with_reducible rfl)); (try simp only [zl1]))
        (refine zl3 12 ?_ rfl ?_ ?_; rotate_left; (· (rintro w ⟨c0, c1⟩; go_simp; try with_reducible rfl)); (try simp only [zl1]))
        (refine zl3 13 ?_ rfl ?_ ?_; rotate_left; (· (rintro w ⟨c0, c1⟩; go_simp; try with_reducible rfl)); (try simp only [zl1]))
        cases bq with
        | false =>
          have HX := Lib.hid (show E = 1 by rw [← HE.out]; unfold reqE; rw [if_neg (by rw [HLE.out]; simp), if_pos (.inr (of_decide_eq_false HBQ.out))])
          (refine zl2 (i := 14) (v := undef) rfl (Or.inr ⟨by rfl, rfl⟩) (by assumption) ?_; (try simp only [zl1]))
          (refine zl2 (i := 15) (v := undef) rfl (Or.inr ⟨by rfl, rfl⟩) (by assumption) ?_; (try simp only [zl1]))
          (refine zl2 (i := 16) (v := undef) rfl (Or.inr ⟨by rfl, rfl⟩) (by assumption) ?_; (try simp only [zl1]))
          (refine zl2 (i := 17) (v := undef) rfl (Or.inr ⟨by rfl, rfl⟩) (by assumption) ?_; (try simp only [zl1]))
          (refine zl2 (i := 18) (v := undef) rfl (Or.inr ⟨by rfl, rfl⟩) (by assumption) ?_; (try simp only [zl1]))
          (refine zl2 (i := 19) (v := undef) rfl (Or.inr ⟨by rfl, rfl⟩) (by assumption) ?_; (try simp only [zl1]))
          (refine zl2 (i := 20) (v := undef) rfl (Or.inr ⟨by rfl, rfl⟩) (by assumption) ?_; (try simp only [zl1]))
          (refine zl2 (i := 21) (v := undef) rfl (Or.inr ⟨by rfl, rfl⟩) (by assumption) ?_; (try simp only [zl1]))
          (refine zl2 (i := 22) (v := undef) rfl (Or.inr ⟨by rfl, rfl⟩) (by assumption) ?_; (try simp only [zl1]))
          (refine zl2 (i := 23) (v := undef) rfl (Or.inr ⟨by rfl, rfl⟩) (by assumption) ?_; (try simp only [zl1]))
          (refine zl2 (i := 24) (v := undef) rfl (Or.inr ⟨by rfl, rfl⟩) (by assumption) ?_; (try simp only [zl1]))
          (refine zl3 25 ?_ rfl ?_ ?_; rotate_left; (· (rintro w ⟨c0, c1⟩; go_simp; try with_reducible rfl)); (try simp only [zl1]))
          refine wpAnyH_done (by kernel_rfl) ?_ _
          refine NoPanic.normal ?_
          go_wp2_with fail
          go_ret
          exact ⟨by rw [HX.out]; rfl, HB1.out.trans (HBC.out.mono (by omega))⟩
        | true =>
          have HX := Lib.hid (show E = 0 by rw [← HE.out]; unfold reqE; rw [if_neg (by rw [HLE.out]; simp), if_neg (fun h => h.elim h2 (fun h => h (of_decide_eq_true HBQ.out)))])
          (refine zl3 14 ?_ rfl ?_ ?_; rotate_left; (· (rintro w ⟨c0, c1⟩; go_simp; try with_reducible rfl)); (try simp only [zl1]))
          (refine zl3 15 ?_ rfl ?_ ?_; rotate_left; (· (rintro w ⟨c0, c1⟩; go_simp; try with_reducible rfl)); (try simp only [zl1]))
          (refine zl3 16 ?_ rfl ?_ ?_; rotate_left; (· (rintro w ⟨c0, c1⟩; go_simp; try with_reducible rfl)); (try simp only [zl1]))
          (refine zl2 (i := 17) (v := undef) rfl (Or.inr ⟨by rfl, rfl⟩) (by assumption) ?_; (try simp only [zl1]))
          (refine zl2 (i := 18) (v := undef) rfl (Or.inr ⟨by rfl, rfl⟩) (by assumption) ?_; (try simp only [zl1]))
          (refine zl2 (i := 19) (v := undef) rfl (Or.inr ⟨by rfl, rfl⟩) (by assumption) ?_; (try simp only [zl1]))
          (refine zl2 (i := 20) (v := undef) rfl (Or.inr ⟨by rfl, rfl⟩) (by assumption) ?_; (try simp only [zl1]))
          (refine zl2 (i := 21) (v := undef) rfl (Or.inr ⟨by rfl, rfl⟩) (by assumption) ?_; (try simp only [zl1]))
          (refine zl2 (i := 22) (v := undef) rfl (Or.inr ⟨by rfl, rfl⟩) (by assumption) ?_; (try simp only [zl1]))
          (refine zl2 (i := 23) (v := undef) rfl (Or.inr ⟨by rfl, rfl⟩) (by assumption) ?_; (try simp only [zl1]))
          (refine zl3 24 ?_ rfl ?_ ?_; rotate_left; (· (rintro w ⟨c0, c1⟩; go_simp; try with_reducible rfl)); (try simp only [zl1]))
          (refine zl3 25 ?_ rfl ?_ ?_; rotate_left; (· (rintro w ⟨c0, c1⟩; go_simp; try with_reducible rfl)); (try simp only [zl1]))
          refine wpAnyH_done (by kernel_rfl) ?_ _
          refine NoPanic.normal ?_
          go_wp2_with fail
          go_ret
          exact ⟨by rw [HX.out]; rfl, HB1.out.trans (HBC.out.mono (by omega))⟩
      · have hzb : b < w1.heap.size := by omega
        have hg2 : w1.cell? ⟨b, o, none⟩ = some (.string q) := (HB1.out.cell (p := ⟨b, o, none⟩) hb0).trans hbc0
        refine wp_region_noPanic ?_
        refine wp_region_held_drew (S := HeldR ⟨w.heap.size, 0, none⟩ ⟨w.heap.size, 1, none⟩ ⟨b, o, none⟩ (.string p) (.slice ao s.length c) (.string q)) (by kernel_rfl) ⟨hg0, hg1, hg2⟩ (fun hS0 => ?_)
        (refine zl3 0 ?_ rfl ?_ ?_; rotate_left; (· (rintro w ⟨c0, c1, c2⟩; go_simp; try with_reducible rfl)); (try simp only [zl1]))
        (refine zl3 1 ?_ rfl ?_ ?_; rotate_left; (· (rintro w ⟨c0, c1, c2⟩; go_simp; try with_reducible rfl)); (try simp only [zl1]))
        (refine zl3 2 ?_ rfl ?_ ?_; rotate_left; (· (rintro w ⟨c0, c1, c2⟩; go_simp; try with_reducible rfl)); (try simp only [zl1]))
        (refine zl3 3 ?_ rfl ?_ ?_; rotate_left; (· (rintro w ⟨c0, c1, c2⟩; go_simp; try with_reducible rfl)); (try simp only [zl1]))
        (refine zl3 4 ?_ rfl ?_ ?_; rotate_left; (· (rintro w ⟨c0, c1, c2⟩; go_simp; try with_reducible rfl)); (try simp only [zl1]))
        (refine zl3 5 ?_ rfl ?_ ?_; rotate_left; (· (rintro w ⟨c0, c1, c2⟩; go_simp; try with_reducible rfl)); (try simp only [zl1]))
        (refine zl3 6 ?_ rfl ?_ ?_; rotate_left; (· (rintro w ⟨c0, c1, c2⟩; go_simp; try with_reducible rfl)); (try simp only [zl1]))
        (refine zl3 7 ?_ rfl ?_ ?_; rotate_left; (· (rintro w ⟨c0, c1, c2⟩; go_simp; try with_reducible rfl)); (try simp only [zl1]))
        (refine zl3 8 ?_ rfl ?_ ?_; rotate_left; (· (rintro w ⟨c0, c1, c2⟩; go_simp; try with_reducible rfl)); (try simp only [zl1]))
        refine wpAnyH_ready (rs := [9]) (by kernel_rfl) (by simp) (AllReadyH.cons rfl (fun K hK => ?_) AllReadyH.nil)
        go_simp
        refine (HC1.out _ HBC.out.drew).mono ?_
        rintro e wq ⟨v', rfl, hv', hbc⟩
        have HV := Lib.hid hv'
        replace HBC := Lib.hid (HBC.out.drew.trans (hbc.mono HBC.out.size))
        refine hK.out _ _ ⟨(keepQ hz HSQ.out HBC.out).1, (keepQ hz HSQ.out HBC.out).2, (HBC.out.cell (p := ⟨b, o, none⟩) hzb).trans hg2⟩ (fun _ => ?_)
        clear hK K hS0 hbc hv'
        (try simp only [zl1])
        refine wpAnyH_ready (rs := [10]) (by kernel_rfl) (by simp) (AllReadyH.cons rfl (fun K hK => ?_) AllReadyH.nil)
        go_simp
        refine (HEQ.out _ _ HBC.out HV.out).mono ?_
        rintro e w2 ⟨rfl, hbc⟩
        replace HBC := Lib.hid (HBC.out.trans (hbc.mono HBC.out.size))
        refine hK.out _ _ ⟨(keepQ hz HSQ.out HBC.out).1, (keepQ hz HSQ.out HBC.out).2, (HBC.out.cell (p := ⟨b, o, none⟩) hzb).trans hg2⟩ (fun hS2 => ?_)
        clear hK K hbc
        (try simp only [zl1])
        (refine zl3 11 ?_ rfl ?_ ?_; rotate_left; (· (rintro w ⟨c0, c1, c2⟩; go_simp; try with_reducible rfl)); (try simp only [zl1]))
        (refine zl3 12 ?_ rfl ?_ ?_; rotate_left; (· (rintro w ⟨c0, c1, c2⟩; go_simp; try with_reducible rfl)); (try simp only [zl1]))
        (refine zl3 13 ?_ rfl ?_ ?_; rotate_left; (· (rintro w ⟨c0, c1, c2⟩; go_simp; try with_reducible rfl)); (try simp only [zl1]))
        cases bq with
        | false =>
          have HX := Lib.hid (show E = 1 by rw [← HE.out]; unfold reqE; rw [if_neg (by rw [HLE.out]; simp), if_pos (.inr (of_decide_eq_false HBQ.out))])
          (refine zl2 (i := 14) (v := undef) rfl (Or.inr ⟨by rfl, rfl⟩) (by assumption) ?_; (try simp only [zl1]))
          (refine zl2 (i := 15) (v := undef) rfl (Or.inr ⟨by rfl, rfl⟩) (by assumption) ?_; (try simp only [zl1]))
          (refine zl2 (i := 16) (v := undef) rfl (Or.inr ⟨by rfl, rfl⟩) (by assumption) ?_; (try simp only [zl1]))
          (refine zl2 (i := 17) (v := undef) rfl (Or.inr ⟨by rfl, rfl⟩) (by assumption) ?_; (try simp only [zl1]))
          (refine zl2 (i := 18) (v := undef) rfl (Or.inr ⟨by rfl, rfl⟩) (by assumption) ?_; (try simp only [zl1]))
          (refine zl2 (i := 19) (v := undef) rfl (Or.inr ⟨by rfl, rfl⟩) (by assumption) ?_; (try simp only [zl1]))
          (refine zl2 (i := 20) (v := undef) rfl (Or.inr ⟨by rfl, rfl⟩) (by assumption) ?_; (try simp only [zl1]))
          (refine zl2 (i := 21) (v := undef) rfl (Or.inr ⟨by rfl, rfl⟩) (by assumption) ?_; (try simp only [zl1]))
          (refine zl2 (i := 22) (v := undef) rfl (Or.inr ⟨by rfl, rfl⟩) (by assumption) ?_; (try simp only [zl1]))
          (refine zl2 (i := 23) (v := undef) rfl (Or.inr ⟨by rfl, rfl⟩) (by assumption) ?_; (try simp only [zl1]))
          (refine zl2 (i := 24) (v := undef) rfl (Or.inr ⟨by rfl, rfl⟩) (by assumption) ?_; (try simp only [zl1]))
          (refine zl3 25 ?_ rfl ?_ ?_; rotate_left; (· (rintro w ⟨c0, c1, c2⟩; go_simp; try with_reducible rfl)); (try simp only [zl1]))
          refine wpAnyH_done (by kernel_rfl) ?_ _
          refine NoPanic.normal ?_
          go_wp2_with fail
          go_ret
          exact ⟨by rw [HX.out]; rfl, HB1.out.trans (HBC.out.mono (by omega))⟩
        | true =>
          have HX := Lib.hid (show E = if ltB q p = true then 0 else 1 by rw [← HE.out]; unfold reqE; rw [if_neg (by rw [HLE.out]; simp), if_neg (fun h => h.elim h2 (fun h => h (of_decide_eq_true HBQ.out)))])
          have HLQ0 := Lib.hid (leq_lt p q)
          cases hlt : ltB q p with
          | true =>
            rw [hlt] at HX HLQ0
            have HLQ := HLQ0
            clear HLQ0 hlt
            (refine zl3 14 ?_ rfl ?_ ?_; rotate_left; (· (rintro w ⟨c0, c1, c2⟩; go_simp; try with_reducible rfl)); (try simp only [zl1]))
            (refine zl3 15 ?_ rfl ?_ ?_; rotate_left; (· (rintro w ⟨c0, c1, c2⟩; go_simp; try with_reducible rfl)); (try simp only [zl1]))
            (refine zl3 16 ?_ rfl ?_ ?_; rotate_left; (· (rintro w ⟨c0, c1, c2⟩; go_simp; try with_reducible rfl)); (try simp only [zl1]))
            (refine zl3 17 ?_ rfl ?_ ?_; rotate_left; (· (rintro w ⟨c0, c1, c2⟩; go_simp; try with_reducible rfl)); (try simp only [zl1]))
            (refine zl3 18 ?_ rfl ?_ ?_; rotate_left; (· (rintro w ⟨c0, c1, c2⟩; go_simp; try with_reducible rfl)); (try simp only [zl1]))
            (refine zl3 19 ?_ rfl ?_ ?_; rotate_left; (· (rintro w ⟨c0, c1, c2⟩; go_simp; try with_reducible rfl)); (try simp only [zl1]))
            (refine zl3 20 ?_ rfl ?_ ?_; rotate_left; (· (rintro w ⟨c0, c1, c2⟩; go_simp; try with_reducible rfl)); (try simp only [zl1]))
            (refine zl3 21 ?_ rfl ?_ ?_; rotate_left; (· (rintro w ⟨c0, c1, c2⟩; go_simp; try with_reducible rfl)); (try simp only [zl1]))
            (refine zl3 22 ?_ rfl ?_ ?_; rotate_left; (· (rintro w ⟨c0, c1, c2⟩; go_simp; try with_reducible rfl)); (try simp only [zl1]))
            (refine zl3 23 ?_ rfl ?_ ?_; rotate_left; (· (rintro w ⟨c0, c1, c2⟩; go_simp; try with_reducible rfl)); (try simp only [zl1]))
            (refine zl3 24 ?_ rfl ?_ ?_; rotate_left; (· (rintro w ⟨c0, c1, c2⟩; go_simp; try with_reducible rfl)); (try simp only [zl1]))
            (refine zl3 25 ?_ rfl ?_ ?_; rotate_left; (· (rintro w ⟨c0, c1, c2⟩; go_simp; try with_reducible rfl)); (try simp only [zl1]))
            simp only [HLQ.out]
            refine wpAnyH_done (by kernel_rfl) ?_ _
            refine NoPanic.normal ?_
            go_wp2_with fail
            go_ret
            exact ⟨by rw [HX.out]; rfl, HB1.out.trans (HBC.out.mono (by omega))⟩
          | false =>
            rw [hlt] at HX HLQ0
            have HLQ := HLQ0
            clear HLQ0 hlt
            (refine zl3 14 ?_ rfl ?_ ?_; rotate_left; (· (rintro w ⟨c0, c1, c2⟩; go_simp; try with_reducible rfl)); (try simp only [zl1]))
            (refine zl3 15 ?_ rfl ?_ ?_; rotate_left; (· (rintro w ⟨c0, c1, c2⟩; go_simp; try with_reducible rfl)); (try simp only [zl1]))
            (refine zl3 16 ?_ rfl ?_ ?_; rotate_left; (· (rintro w ⟨c0, c1, c2⟩; go_simp; try with_reducible rfl)); (try simp only [zl1]))
            (refine zl3 17 ?_ rfl ?_ ?_; rotate_left; (· (rintro w ⟨c0, c1, c2⟩; go_simp; try with_reducible rfl)); (try simp only [zl1]))
            (refine zl3 18 ?_ rfl ?_ ?_; rotate_left; (· (rintro w ⟨c0, c1, c2⟩; go_simp; try with_reducible rfl)); (try simp only [zl1]))
            (refine zl3 19 ?_ rfl ?_ ?_; rotate_left; (· (rintro w ⟨c0, c1, c2⟩; go_simp; try with_reducible rfl)); (try simp only [zl1]))
            (refine zl3 20 ?_ rfl ?_ ?_; rotate_left; (· (rintro w ⟨c0, c1, c2⟩; go_simp; try with_reducible rfl)); (try simp only [zl1]))
            (refine zl3 21 ?_ rfl ?_ ?_; rotate_left; (· (rintro w ⟨c0, c1, c2⟩; go_simp; try with_reducible rfl)); (try simp only [zl1]))
            (refine zl3 22 ?_ rfl ?_ ?_; rotate_left; (· (rintro w ⟨c0, c1, c2⟩; go_simp; try with_reducible rfl)); (try simp only [zl1]))
            (refine zl3 23 ?_ rfl ?_ ?_; rotate_left; (· (rintro w ⟨c0, c1, c2⟩; go_simp; try with_reducible rfl)); (try simp only [zl1]))
            (refine zl3 24 ?_ rfl ?_ ?_; rotate_left; (· (rintro w ⟨c0, c1, c2⟩; go_simp; try with_reducible rfl)); (try simp only [zl1]))
            (refine zl3 25 ?_ rfl ?_ ?_; rotate_left; (· (rintro w ⟨c0, c1, c2⟩; go_simp; try with_reducible rfl)); (try simp only [zl1]))
            simp only [HLQ.out]
            refine wpAnyH_done (by kernel_rfl) ?_ _
            refine NoPanic.normal ?_
            go_wp2_with fail
            go_ret
            exact ⟨by rw [HX.out]; rfl, HB1.out.trans (HBC.out.mono (by omega))⟩
end Go.Proofs.YtnjiibiafhnmgaaGreatDoor
