/- Contracts of the index's checks. Contract of the index's CheckRequirements. Contracts of the index's key and compare. Contract of cmp. -/
import Derived.Test.YtenfkejbndifdaaGreatDoorUD
import Derived.Test.YtenfkejbndifdaaGreatDoorUE
import Derived.Test.YtenfkejbndifdaaGreatDoorUF
import Derived.Test.YtenfkejbndifdaaGreatDoorUC
import Derived.Laws.Rows
namespace Go.Proofs.YtenfkejbndifdaaGreatDoor
set_option linter.unusedVariables false
set_option linter.unusedSimpArgs false
open Go Go.RowKit

theorem rnan_any (s : ByteArray) (w : World) : Calls Tryz.prog 179 #[.string s] w fun e w' => e = .returned (.bool false) ∧ w = w' := by
  go_enter Tryz.func179, Tryz.ntmps179
  go_wp2_with fail
  go_ret
  simp
theorem leq_lt (p q : ByteArray) : (Op.bytesLess p.toList q.toList || p.toList == q.toList) = !ltB q p := by
  unfold ltB
  cases h : Op.bytesLess p.toList q.toList with
  | true => rw [less_asymm _ _ h]; rfl
  | false =>
    cases h2 : Op.bytesLess q.toList p.toList with
    | true =>
      by_cases e : p.toList = q.toList
      · rw [e] at h h2; rw [h] at h2; cases h2
      · simpa using e
    | false => rw [less_tri _ _ h h2]; simp
theorem cmpS_any (a b : ByteArray) (w : World) : Calls Tryz.prog 146 #[.string a, .string b] w fun e w' => e = .returned (.int .i64 (cmpS a b)) ∧ w = w' := by
  unfold cmpS
  cases h1 : ltB a b with
  | true =>
    unfold ltB at h1
    go_enter Tryz.func146, Tryz.ntmps146
    go_wp2_with (go_at_call 179; refine (rnan_any _ _).mono ?_; rintro e w' ⟨rfl, rfl⟩)
    go_ret
    simp
  | false =>
    cases h2 : ltB b a with
    | true =>
      have h3 : (a.toList == b.toList) = false := by
        by_cases e : a.toList = b.toList
        · unfold ltB at h1 h2; rw [e] at h1 h2; rw [h1] at h2; cases h2
        · simpa using e
      unfold ltB at h1 h2
      go_enter Tryz.func146, Tryz.ntmps146
      go_wp2_with (go_at_call 179; refine (rnan_any _ _).mono ?_; rintro e w' ⟨rfl, rfl⟩)
      go_ret
      simp
    | false =>
      have h3 : (a.toList == b.toList) = true := by
        unfold ltB at h1 h2
        rw [less_tri _ _ h1 h2]
        simp
      unfold ltB at h1 h2
      go_enter Tryz.func146, Tryz.ntmps146
      go_wp2_with (go_at_call 179; refine (rnan_any _ _).mono ?_; rintro e w' ⟨rfl, rfl⟩)
      go_ret
      simp
theorem belQ (w : World) (o : Obj) : Below w.heap.size w (w.alloc o) := (Below.refl _ _).alloc (Nat.le_refl _) o
def BeforeAt (w : World) (bv : Value) (bf : Option ByteArray) : Prop :=
  (bf = none ∧ bv = .pointer none) ∨ ∃ q b o, bf = some q ∧ bv = .pointer (some ⟨b, o, none⟩) ∧ b < w.heap.size ∧ w.cell? ⟨b, o, none⟩ = some (.string q)
theorem keepQ {W w' : World} {g : Nat} {x y : Value} (hg : g < W.heap.size) (h : W.cell? ⟨g, 0, none⟩ = some x ∧ W.cell? ⟨g, 1, none⟩ = some y) (hb : Below W.heap.size W w') : w'.cell? ⟨g, 0, none⟩ = some x ∧ w'.cell? ⟨g, 1, none⟩ = some y :=
  ⟨(hb.cell (p := ⟨g, 0, none⟩) hg).trans h.1, (hb.cell (p := ⟨g, 1, none⟩) hg).trans h.2⟩
set_option maxRecDepth 100000 in
set_option maxHeartbeats 4000000 in
theorem checkReq_any (p : ByteArray) (s : List (Int × Int)) (sv bv : Value) (bf : Option ByteArray) (w : World) (hm : MaxOk w) (hp : p.size ≤ 1000000) (hs : s.length ≤ 1000000000) (hc : (canon s).length ≤ 1000000000) (hS : SpansOf w.heap.size sv s w) (hb : BeforeAt w bv bf) :
    Calls Tryz.prog 117 #[.agg #[.string p, sv], bv] w fun e w' => e = .returned (.int .i64 (reqE (p, s) bf)) ∧ Below w.heap.size w w' := by
  have HS := Lib.hid hS
  obtain ⟨ao, c, rfl, _⟩ := hS
  have HM := Lib.hid (hm.alloc (.cells #[.string p, .slice ao s.length c] 58))
  have HB0 : Hid (Below w.heap.size w (w.alloc (.cells #[.string p, .slice ao s.length c] 58))) := Lib.hid (belQ _ _)
  have HG0 : Hid ((w.alloc (.cells #[.string p, .slice ao s.length c] 58)).heap[w.heap.size]? = some (.cells #[.string p, .slice ao s.length c] 58 (0, 0))) := Lib.hid (World.alloc_heap_new w _)
  have HL := Lib.hid (Line_any p (w.alloc (.cells #[.string p, .slice ao s.length c] 58)) hp HM.out)
  have HBF := Lib.hid hb
  clear hm hb
  obtain ⟨E, hE⟩ : ∃ E, reqE (p, s) bf = E := ⟨_, rfl⟩
  have HE := Lib.hid hE
  rw [hE]
  clear hE
  obtain ⟨le, hle⟩ : ∃ le, (lineV p).2.2 = le := ⟨_, rfl⟩
  rw [hle] at HL
  have HLE := Lib.hid hle
  clear hle
  go_enter Tryz.func117, Tryz.ntmps117
  go_wp2_with fail
  refine HL.out.mono ?_
  rintro e w1 ⟨rfl, hb1⟩
  have hs1 := hb1.size
  simp only [World.size_alloc] at hs1
  have HG1 := Lib.hid ((hb1.block w.heap.size (by simp)).trans HG0.out)
  have HB1 := Lib.hid (HB0.out.trans (hb1.mono (by simp)))
  have hg0 : w1.cell? ⟨w.heap.size, 0, none⟩ = some (.string p) := cell_of_row _ _ 0 _ _ _ HG1.out
  have hg1 : w1.cell? ⟨w.heap.size, 1, none⟩ = some (.slice ao s.length c) := cell_of_row _ _ 1 _ _ _ HG1.out
  clear hb1 HL
  by_cases h1 : le = 0
  case neg =>
    have h1b : (le != 0) = true := by simpa using h1
    have HX := Lib.hid (show E = 4 by rw [← HE.out]; unfold reqE; rw [if_pos (by rw [HLE.out]; exact h1)])
    go_wp2_with fail
    go_ret
    exact ⟨by rw [HX.out]; rfl, HB1.out⟩
  case pos =>
    subst h1
    have HC1 := Lib.hid (fun (wx : World) (h : Below w1.heap.size w1 wx) => Canonical_any (.slice ao s.length c) s wx hs (((HS.out.below HB1.out (Nat.le_refl _)).mono (show w.heap.size ≤ w1.heap.size by omega)).below h (Nat.le_refl _) |>.mono h.size))
    have HEQ := Lib.hid (fun (wx : World) (v' : Value) (h : Below w1.heap.size w1 wx) (h2 : SpansOf wx.heap.size v' (canon s) wx) => (Equal_spans (.slice ao s.length c) v' wx.heap.size s (canon s) wx hs hc (((HS.out.below HB1.out (Nat.le_refl _)).mono (show w.heap.size ≤ w1.heap.size by omega)).below h (Nat.le_refl _) |>.mono h.size) h2).mono fun e w' (hq : e = .returned (.bool (decide (s = canon s))) ∧ ∃ q, w' = wx.drewN q) => (show e = .returned (.bool (decide (s = canon s))) ∧ Below wx.heap.size wx w' from ⟨hq.1, by obtain ⟨_, q, rfl⟩ := hq; exact below_drewNV (Below.refl _ _) q⟩))
    by_cases h2 : s = []
    · subst h2
      have HX := Lib.hid (show E = 1 by rw [← HE.out]; unfold reqE; rw [if_neg (by rw [HLE.out]; simp), if_pos (.inl rfl)])
      go_wp2_with fail
      go_quiet (fail)
      go_wp2_with fail
      go_ret
      exact ⟨by rw [HX.out]; rfl, below_drewNV HB1.out _⟩
    · have hl0 : ¬ s.length = 0 := fun e => h2 (List.length_eq_zero_iff.1 e)
      have hl1 : ¬ ((s.length : Int) = 0) := by omega
      have hl2 : decide ((s.length : Int) = 0) = false := decide_eq_false hl1
      have hl4 : ((s.length : Int) == 0) = false := by simpa using h2
      have HBC : Hid (Below w1.heap.size w1 w1) := Lib.hid (Below.refl _ _)
      have hz : w.heap.size < w1.heap.size := by omega
      have HSQ := Lib.hid (And.intro hg0 hg1)
      go_upto_region 4 with fail
      obtain ⟨bq, hbq⟩ : ∃ bq, decide (s = canon s) = bq := ⟨_, rfl⟩
      rw [hbq] at HEQ
      have HBQ := Lib.hid hbq
      clear hbq
      rcases HBF.out with ⟨rfl, rfl⟩ | ⟨q, b, o, rfl, rfl, hb0, hbc0⟩
      · skip
        refine wp_region_noPanic ?_
        refine wp_region_held_drew (S := HeldC ⟨w.heap.size, 0, none⟩ ⟨w.heap.size, 1, none⟩ (.string p) (.slice ao s.length c)) (by kernel_rfl) ⟨hg0, hg1⟩ (fun hS0 => ?_)
        (refine zl3 0 ?_ rfl ?_ ?_; rotate_left; (· (rintro w ⟨c0, c1⟩; go_simp; try with_reducible rfl)); (try simp only [zl1]))
        (refine zl3 1 ?_ rfl ?_ ?_; rotate_left; (· (rintro w ⟨c0, c1⟩; go_simp; try with_reducible rfl)); (try simp only [zl1]))
        (refine zl3 2 ?_ rfl ?_ ?_; rotate_left; (· (rintro w ⟨c0, c1⟩; go_simp; try with_reducible rfl)); (try simp only [zl1]))
        (refine zl3 3 ?_ rfl ?_ ?_; rotate_left; (· (rintro w ⟨c0, c1⟩; go_simp; try with_reducible rfl)); (try simp only [zl1]))
        (refine zl3 4 ?_ rfl ?_ ?_; rotate_left; (· (rintro w ⟨c0, c1⟩; go_simp; try with_reducible rfl)); (try simp only [zl1]))
        (refine zl3 5 ?_ rfl ?_ ?_; rotate_left; (· (rintro w ⟨c0, c1⟩; go_simp; try with_reducible rfl)); (try simp only [zl1]))
        (refine zl3 6 ?_ rfl ?_ ?_; rotate_left; (· (rintro w ⟨c0, c1⟩; go_simp; try with_reducible rfl)); (try simp only [zl1]))
        (refine zl3 7 ?_ rfl ?_ ?_; rotate_left; (· (rintro w ⟨c0, c1⟩; go_simp; try with_reducible rfl)); (try simp only [zl1]))
        (refine zl3 8 ?_ rfl ?_ ?_; rotate_left; (· (rintro w ⟨c0, c1⟩; go_simp; try with_reducible rfl)); (try simp only [zl1]))
        refine wpAnyH_ready (rs := [9]) (by kernel_rfl) (by simp) (AllReadyH.cons rfl (fun K hK => ?_) AllReadyH.nil)
        go_simp
        refine (HC1.out _ HBC.out.drew).mono ?_
        rintro e wq ⟨v', rfl, hv', hbc⟩
        have HV := Lib.hid hv'
        replace HBC := Lib.hid (HBC.out.drew.trans (hbc.mono HBC.out.size))
        refine hK.out _ _ (keepQ hz HSQ.out HBC.out) (fun _ => ?_)
        clear hK K hS0 hbc hv'
        (try simp only [zl1])
        refine wpAnyH_ready (rs := [10]) (by kernel_rfl) (by simp) (AllReadyH.cons rfl (fun K hK => ?_) AllReadyH.nil)
        go_simp
        refine (HEQ.out _ _ HBC.out HV.out).mono ?_
        rintro e w2 ⟨rfl, hbc⟩
        replace HBC := Lib.hid (HBC.out.trans (hbc.mono HBC.out.size))
        refine hK.out _ _ (keepQ hz HSQ.out HBC.out) (fun hS2 => ?_)
        clear hK K hbc
        (try simp only [zl1])
        (refine zl3 11 ?_ rfl ?_ ?_; rotate_left; (· (rintro w ⟨c0, c1⟩; go_simp; try with_reducible rfl)); (try simp only [zl1]))
        (refine zl3 12 ?_ rfl ?_ ?_; rotate_left; (· (rintro w ⟨c0, c1⟩; go_simp; try with_reducible rfl)); (try simp only [zl1]))
        (refine zl3 13 ?_ rfl ?_ ?_; rotate_left; (· (rintro w ⟨c0, c1⟩; go_simp; try with_reducible rfl)); (try simp only [zl1]))
        cases bq with
        | false =>
          have HX := Lib.hid (show E = 1 by rw [← HE.out]; unfold reqE; rw [if_neg (by rw [HLE.out]; simp), if_pos (.inr (of_decide_eq_false HBQ.out))])
          (refine zl2 (i := 14) (v := undef) rfl (Or.inr ⟨by rfl, rfl⟩) (by assumption) ?_; (try simp only [zl1]))
          (refine zl2 (i := 15) (v := undef) rfl (Or.inr ⟨by rfl, rfl⟩) (by assumption) ?_; (try simp only [zl1]))
          (refine zl2 (i := 16) (v := undef) rfl (Or.inr ⟨by rfl, rfl⟩) (by assumption) ?_; (try simp only [zl1]))
          (refine zl2 (i := 17) (v := undef) rfl (Or.inr ⟨by rfl, rfl⟩) (by assumption) ?_; (try simp only [zl1]))
          (refine zl2 (i := 18) (v := undef) rfl (Or.inr ⟨by rfl, rfl⟩) (by assumption) ?_; (try simp only [zl1]))
          (refine zl2 (i := 19) (v := undef) rfl (Or.inr ⟨by rfl, rfl⟩) (by assumption) ?_; (try simp only [zl1]))
          (refine zl2 (i := 20) (v := undef) rfl (Or.inr ⟨by rfl, rfl⟩) (by assumption) ?_; (try simp only [zl1]))
          (refine zl2 (i := 21) (v := undef) rfl (Or.inr ⟨by rfl, rfl⟩) (by assumption) ?_; (try simp only [zl1]))
          (refine zl2 (i := 22) (v := undef) rfl (Or.inr ⟨by rfl, rfl⟩) (by assumption) ?_; (try simp only [zl1]))
          (refine zl2 (i := 23) (v := undef) rfl (Or.inr ⟨by rfl, rfl⟩) (by assumption) ?_; (try simp only [zl1]))
          (refine zl2 (i := 24) (v := undef) rfl (Or.inr ⟨by rfl, rfl⟩) (by assumption) ?_; (try simp only [zl1]))
          (refine zl3 25 ?_ rfl ?_ ?_; rotate_left; (· (rintro w ⟨c0, c1⟩; go_simp; try with_reducible rfl)); (try simp only [zl1]))
          refine wpAnyH_done (by kernel_rfl) ?_ _
          refine NoPanic.normal ?_
          go_wp2_with fail
          go_ret
          exact ⟨by rw [HX.out]; rfl, HB1.out.trans (HBC.out.mono (by omega))⟩
        | true =>
          have HX := Lib.hid (show E = 0 by rw [← HE.out]; unfold reqE; rw [if_neg (by rw [HLE.out]; simp), if_neg (fun h => h.elim h2 (fun h => h (of_decide_eq_true HBQ.out)))])
          (refine zl3 14 ?_ rfl ?_ ?_; rotate_left; (· (rintro w ⟨c0, c1⟩; go_simp; try with_reducible rfl)); (try simp only [zl1]))
          (refine zl3 15 ?_ rfl ?_ ?_; rotate_left; (· (rintro w ⟨c0, c1⟩; go_simp; try with_reducible rfl)); (try simp only [zl1]))
          (refine zl3 16 ?_ rfl ?_ ?_; rotate_left; (· (rintro w ⟨c0, c1⟩; go_simp; try with_reducible rfl)); (try simp only [zl1]))
          (refine zl2 (i := 17) (v := undef) rfl (Or.inr ⟨by rfl, rfl⟩) (by assumption) ?_; (try simp only [zl1]))
          (refine zl2 (i := 18) (v := undef) rfl (Or.inr ⟨by rfl, rfl⟩) (by assumption) ?_; (try simp only [zl1]))
          (refine zl2 (i := 19) (v := undef) rfl (Or.inr ⟨by rfl, rfl⟩) (by assumption) ?_; (try simp only [zl1]))
          (refine zl2 (i := 20) (v := undef) rfl (Or.inr ⟨by rfl, rfl⟩) (by assumption) ?_; (try simp only [zl1]))
          (refine zl2 (i := 21) (v := undef) rfl (Or.inr ⟨by rfl, rfl⟩) (by assumption) ?_; (try simp only [zl1]))
          (refine zl2 (i := 22) (v := undef) rfl (Or.inr ⟨by rfl, rfl⟩) (by assumption) ?_; (try simp only [zl1]))
          (refine zl2 (i := 23) (v := undef) rfl (Or.inr ⟨by rfl, rfl⟩) (by assumption) ?_; (try simp only [zl1]))
          (refine zl3 24 ?_ rfl ?_ ?_; rotate_left; (· (rintro w ⟨c0, c1⟩; go_simp; try with_reducible rfl)); (try simp only [zl1]))
          (refine zl3 25 ?_ rfl ?_ ?_; rotate_left; (· (rintro w ⟨c0, c1⟩; go_simp; try with_reducible rfl)); (try simp only [zl1]))
          refine wpAnyH_done (by kernel_rfl) ?_ _
          refine NoPanic.normal ?_
          go_wp2_with fail
          go_ret
          exact ⟨by rw [HX.out]; rfl, HB1.out.trans (HBC.out.mono (by omega))⟩
      · have hzb : b < w1.heap.size := by omega
        have hg2 : w1.cell? ⟨b, o, none⟩ = some (.string q) := (HB1.out.cell (p := ⟨b, o, none⟩) hb0).trans hbc0
        refine wp_region_noPanic ?_
        refine wp_region_held_drew (S := HeldR ⟨w.heap.size, 0, none⟩ ⟨w.heap.size, 1, none⟩ ⟨b, o, none⟩ (.string p) (.slice ao s.length c) (.string q)) (by kernel_rfl) ⟨hg0, hg1, hg2⟩ (fun hS0 => ?_)
        (refine zl3 0 ?_ rfl ?_ ?_; rotate_left; (· (rintro w ⟨c0, c1, c2⟩; go_simp; try with_reducible rfl)); (try simp only [zl1]))
        (refine zl3 1 ?_ rfl ?_ ?_; rotate_left; (· (rintro w ⟨c0, c1, c2⟩; go_simp; try with_reducible rfl)); (try simp only [zl1]))
        (refine zl3 2 ?_ rfl ?_ ?_; rotate_left; (· (rintro w ⟨c0, c1, c2⟩; go_simp; try with_reducible rfl)); (try simp only [zl1]))
        (refine zl3 3 ?_ rfl ?_ ?_; rotate_left; (· (rintro w ⟨c0, c1, c2⟩; go_simp; try with_reducible rfl)); (try simp only [zl1]))
        (refine zl3 4 ?_ rfl ?_ ?_; rotate_left; (· (rintro w ⟨c0, c1, c2⟩; go_simp; try with_reducible rfl)); (try simp only [zl1]))
        (refine zl3 5 ?_ rfl ?_ ?_; rotate_left; (· (rintro w ⟨c0, c1, c2⟩; go_simp; try with_reducible rfl)); (try simp only [zl1]))
        (refine zl3 6 ?_ rfl ?_ ?_; rotate_left; (· (rintro w ⟨c0, c1, c2⟩; go_simp; try with_reducible rfl)); (try simp only [zl1]))
        (refine zl3 7 ?_ rfl ?_ ?_; rotate_left; (· (rintro w ⟨c0, c1, c2⟩; go_simp; try with_reducible rfl)); (try simp only [zl1]))
        (refine zl3 8 ?_ rfl ?_ ?_; rotate_left; (· (rintro w ⟨c0, c1, c2⟩; go_simp; try with_reducible rfl)); (try simp only [zl1]))
        refine wpAnyH_ready (rs := [9]) (by kernel_rfl) (by simp) (AllReadyH.cons rfl (fun K hK => ?_) AllReadyH.nil)
        go_simp
        refine (HC1.out _ HBC.out.drew).mono ?_
        rintro e wq ⟨v', rfl, hv', hbc⟩
        have HV := Lib.hid hv'
        replace HBC := Lib.hid (HBC.out.drew.trans (hbc.mono HBC.out.size))
        refine hK.out _ _ ⟨(keepQ hz HSQ.out HBC.out).1, (keepQ hz HSQ.out HBC.out).2, (HBC.out.cell (p := ⟨b, o, none⟩) hzb).trans hg2⟩ (fun _ => ?_)
        clear hK K hS0 hbc hv'
        (try simp only [zl1])
        refine wpAnyH_ready (rs := [10]) (by kernel_rfl) (by simp) (AllReadyH.cons rfl (fun K hK => ?_) AllReadyH.nil)
        go_simp
        refine (HEQ.out _ _ HBC.out HV.out).mono ?_
        rintro e w2 ⟨rfl, hbc⟩
        replace HBC := Lib.hid (HBC.out.trans (hbc.mono HBC.out.size))
        refine hK.out _ _ ⟨(keepQ hz HSQ.out HBC.out).1, (keepQ hz HSQ.out HBC.out).2, (HBC.out.cell (p := ⟨b, o, none⟩) hzb).trans hg2⟩ (fun hS2 => ?_)
        clear hK K hbc
        (try simp only [zl1])
        (refine zl3 11 ?_ rfl ?_ ?_; rotate_left; (· (rintro w ⟨c0, c1, c2⟩; go_simp; try with_reducible rfl)); (try simp only [zl1]))
        (refine zl3 12 ?_ rfl ?_ ?_; rotate_left; (· (rintro w ⟨c0, c1, c2⟩; go_simp; try with_reducible rfl)); (try simp only [zl1]))
        (refine zl3 13 ?_ rfl ?_ ?_; rotate_left; (· (rintro w ⟨c0, c1, c2⟩; go_simp; try with_reducible rfl)); (try simp only [zl1]))
        cases bq with
        | false =>
          have HX := Lib.hid (show E = 1 by rw [← HE.out]; unfold reqE; rw [if_neg (by rw [HLE.out]; simp), if_pos (.inr (of_decide_eq_false HBQ.out))])
          (refine zl2 (i := 14) (v := undef) rfl (Or.inr ⟨by rfl, rfl⟩) (by assumption) ?_; (try simp only [zl1]))
          (refine zl2 (i := 15) (v := undef) rfl (Or.inr ⟨by rfl, rfl⟩) (by assumption) ?_; (try simp only [zl1]))
          (refine zl2 (i := 16) (v := undef) rfl (Or.inr ⟨by rfl, rfl⟩) (by assumption) ?_; (try simp only [zl1]))
          (refine zl2 (i := 17) (v := undef) rfl (Or.inr ⟨by rfl, rfl⟩) (by assumption) ?_; (try simp only [zl1]))
          (refine zl2 (i := 18) (v := undef) rfl (Or.inr ⟨by rfl, rfl⟩) (by assumption) ?_; (try simp only [zl1]))
          (refine zl2 (i := 19) (v := undef) rfl (Or.inr ⟨by rfl, rfl⟩) (by assumption) ?_; (try simp only [zl1]))
          (refine zl2 (i := 20) (v := undef) rfl (Or.inr ⟨by rfl, rfl⟩) (by assumption) ?_; (try simp only [zl1]))
          (refine zl2 (i := 21) (v := undef) rfl (Or.inr ⟨by rfl, rfl⟩) (by assumption) ?_; (try simp only [zl1]))
          (refine zl2 (i := 22) (v := undef) rfl (Or.inr ⟨by rfl, rfl⟩) (by assumption) ?_; (try simp only [zl1]))
          (refine zl2 (i := 23) (v := undef) rfl (Or.inr ⟨by rfl, rfl⟩) (by assumption) ?_; (try simp only [zl1]))
          (refine zl2 (i := 24) (v := undef) rfl (Or.inr ⟨by rfl, rfl⟩) (by assumption) ?_; (try simp only [zl1]))
          (refine zl3 25 ?_ rfl ?_ ?_; rotate_left; (· (rintro w ⟨c0, c1, c2⟩; go_simp; try with_reducible rfl)); (try simp only [zl1]))
          refine wpAnyH_done (by kernel_rfl) ?_ _
          refine NoPanic.normal ?_
          go_wp2_with fail
          go_ret
          exact ⟨by rw [HX.out]; rfl, HB1.out.trans (HBC.out.mono (by omega))⟩
        | true =>
          have HX := Lib.hid (show E = if ltB q p = true then 0 else 1 by rw [← HE.out]; unfold reqE; rw [if_neg (by rw [HLE.out]; simp), if_neg (fun h => h.elim h2 (fun h => h (of_decide_eq_true HBQ.out)))])
          have HLQ0 := Lib.hid (leq_lt p q)
          cases hlt : ltB q p with
          | true =>
            rw [hlt] at HX HLQ0
            have HLQ := HLQ0
            clear HLQ0 hlt
            (refine zl3 14 ?_ rfl ?_ ?_; rotate_left; (· (rintro w ⟨c0, c1, c2⟩; go_simp; try with_reducible rfl)); (try simp only [zl1]))
            (refine zl3 15 ?_ rfl ?_ ?_; rotate_left; (· (rintro w ⟨c0, c1, c2⟩; go_simp; try with_reducible rfl)); (try simp only [zl1]))
            (refine zl3 16 ?_ rfl ?_ ?_; rotate_left; (· (rintro w ⟨c0, c1, c2⟩; go_simp; try with_reducible rfl)); (try simp only [zl1]))
            (refine zl3 17 ?_ rfl ?_ ?_; rotate_left; (· (rintro w ⟨c0, c1, c2⟩; go_simp; try with_reducible rfl)); (try simp only [zl1]))
            (refine zl3 18 ?_ rfl ?_ ?_; rotate_left; (· (rintro w ⟨c0, c1, c2⟩; go_simp; try with_reducible rfl)); (try simp only [zl1]))
            (refine zl3 19 ?_ rfl ?_ ?_; rotate_left; (· (rintro w ⟨c0, c1, c2⟩; go_simp; try with_reducible rfl)); (try simp only [zl1]))
            (refine zl3 20 ?_ rfl ?_ ?_; rotate_left; (· (rintro w ⟨c0, c1, c2⟩; go_simp; try with_reducible rfl)); (try simp only [zl1]))
            (refine zl3 21 ?_ rfl ?_ ?_; rotate_left; (· (rintro w ⟨c0, c1, c2⟩; go_simp; try with_reducible rfl)); (try simp only [zl1]))
            (refine zl3 22 ?_ rfl ?_ ?_; rotate_left; (· (rintro w ⟨c0, c1, c2⟩; go_simp; try with_reducible rfl)); (try simp only [zl1]))
            (refine zl3 23 ?_ rfl ?_ ?_; rotate_left; (· (rintro w ⟨c0, c1, c2⟩; go_simp; try with_reducible rfl)); (try simp only [zl1]))
            (refine zl3 24 ?_ rfl ?_ ?_; rotate_left; (· (rintro w ⟨c0, c1, c2⟩; go_simp; try with_reducible rfl)); (try simp only [zl1]))
            (refine zl3 25 ?_ rfl ?_ ?_; rotate_left; (· (rintro w ⟨c0, c1, c2⟩; go_simp; try with_reducible rfl)); (try simp only [zl1]))
            simp only [HLQ.out]
            refine wpAnyH_done (by kernel_rfl) ?_ _
            refine NoPanic.normal ?_
            go_wp2_with fail
            go_ret
            exact ⟨by rw [HX.out]; rfl, HB1.out.trans (HBC.out.mono (by omega))⟩
          | false =>
            rw [hlt] at HX HLQ0
            have HLQ := HLQ0
            clear HLQ0 hlt
            (refine zl3 14 ?_ rfl ?_ ?_; rotate_left; (· (rintro w ⟨c0, c1, c2⟩; go_simp; try with_reducible rfl)); (try simp only [zl1]))
            (refine zl3 15 ?_ rfl ?_ ?_; rotate_left; (· (rintro w ⟨c0, c1, c2⟩; go_simp; try with_reducible rfl)); (try simp only [zl1]))
            (refine zl3 16 ?_ rfl ?_ ?_; rotate_left; (· (rintro w ⟨c0, c1, c2⟩; go_simp; try with_reducible rfl)); (try simp only [zl1]))
            (refine zl3 17 ?_ rfl ?_ ?_; rotate_left; (· (rintro w ⟨c0, c1, c2⟩; go_simp; try with_reducible rfl)); (try simp only [zl1]))
            (refine zl3 18 ?_ rfl ?_ ?_; rotate_left; (· (rintro w ⟨c0, c1, c2⟩; go_simp; try with_reducible rfl)); (try simp only [zl1]))
            (refine zl3 19 ?_ rfl ?_ ?_; rotate_left; (· (rintro w ⟨c0, c1, c2⟩; go_simp; try with_reducible rfl)); (try simp only [zl1]))
            (refine zl3 20 ?_ rfl ?_ ?_; rotate_left; (· (rintro w ⟨c0, c1, c2⟩; go_simp; try with_reducible rfl)); (try simp only [zl1]))
            (refine zl3 21 ?_ rfl ?_ ?_; rotate_left; (· (rintro w ⟨c0, c1, c2⟩; go_simp; try with_reducible rfl)); (try simp only [zl1]))
            (refine zl3 22 ?_ rfl ?_ ?_; rotate_left; (· (rintro w ⟨c0, c1, c2⟩; go_simp; try with_reducible rfl)); (try simp only [zl1]))
            (refine zl3 23 ?_ rfl ?_ ?_; rotate_left; (· (rintro w ⟨c0, c1, c2⟩; go_simp; try with_reducible rfl)); (try simp only [zl1]))
            (refine zl3 24 ?_ rfl ?_ ?_; rotate_left; (· (rintro w ⟨c0, c1, c2⟩; go_simp; try with_reducible rfl)); (try simp only [zl1]))
            (refine zl3 25 ?_ rfl ?_ ?_; rotate_left; (· (rintro w ⟨c0, c1, c2⟩; go_simp; try with_reducible rfl)); (try simp only [zl1]))
            simp only [HLQ.out]
            refine wpAnyH_done (by kernel_rfl) ?_ _
            refine NoPanic.normal ?_
            go_wp2_with fail
            go_ret
            exact ⟨by rw [HX.out]; rfl, HB1.out.trans (HBC.out.mono (by omega))⟩
end Go.Proofs.YtenfkejbndifdaaGreatDoor

namespace Go.Proofs.YtenfkejbndifdaaGreatDoor
set_option linter.unusedVariables false
set_option linter.unusedSimpArgs false
open Go Go.RowKit

theorem beforeQ_succ (l : List ReqL) (k : Nat) : beforeQ l (k + 1) = some (l.getD k default).1 := by simp [beforeQ]
set_option maxRecDepth 100000 in
set_option maxHeartbeats 4000000 in
theorem CheckReqs_any (v : Value) (l : List ReqL) (w : World) (hm : MaxOk w) (hl : l.length ≤ 1000000000) (hq : ∀ q ∈ l, q.1.size ≤ 1000000 ∧ q.2.length ≤ 1000000000) (hR : ReqsOf w.heap.size v l w) :
    Calls Tryz.prog 72 #[v] w fun e w' => e = .returned (.int .i64 (checkReqs l)) ∧ Below w.heap.size w w' := by
  obtain ⟨ao, cap, rfl, hR⟩ := hR
  have HR := Lib.hid hR
  have HQ := Lib.hid hq
  have HM := Lib.hid hm
  clear hR hq hm
  obtain ⟨E, hE⟩ : ∃ E, checkReqs l = E := ⟨_, rfl⟩
  have HE := Lib.hid hE
  rw [hE]
  clear hE
  by_cases h16 : 16 < l.length
  · have h16a : (16 : Int) < (l.length : Int) := by omega
    have h16b : decide ((16 : Int) < (l.length : Int)) = true := decide_eq_true h16a
    have HX := Lib.hid (show E = 7 by rw [← HE.out]; unfold checkReqs; rw [if_pos h16])
    go_enter Tryz.func72, Tryz.ntmps72
    go_wp2_with fail
    go_ret
    exact ⟨by rw [HX.out]; rfl, Below.refl _ _⟩
  · have h16a : ¬ ((16 : Int) < (l.length : Int)) := by omega
    have h16b : decide ((16 : Int) < (l.length : Int)) = false := decide_eq_false h16a
    have HF := Lib.hid (show E = firstE l.length fun k => reqE (l.getD k default) (beforeQ l k) by rw [← HE.out]; unfold checkReqs; rw [if_neg h16])
    go_enter Tryz.func72, Tryz.ntmps72
    go_wp2_with fail
    go_loopw [3, 12] (fun bp p wr => ∃ k : Nat, k ≤ l.length ∧ p = .int .i64 k ∧ Hid (BeforeAt wr bp (beforeQ l k)) ∧ Hid (∀ j, j < k → reqE (l.getD j default) (beforeQ l j) = 0) ∧ Hid (Below w.heap.size w wr)) (fun _ p _ => l.length - (intOf p).toNat)
    case atStart => exact ⟨0, Nat.zero_le _, rfl, Lib.hid (.inl ⟨rfl, rfl⟩), Lib.hid (fun j hj => absurd hj (Nat.not_lt_zero _)), Lib.hid (Below.refl _ _)⟩
    case round =>
      obtain ⟨k, hk, rfl, HBA, HZ, HB⟩ := hrel
      by_cases hlt : k < l.length
      case neg =>
        have hk2 : k = l.length := by omega
        subst hk2
        have HX := Lib.hid (show E = 0 by rw [HF.out]; exact firstE_none fun j hj => HZ.out j hj)
        go_wp2_with fail
        go_ret
        exact ⟨by rw [HX.out]; rfl, HB.out⟩
      case pos =>
        obtain ⟨b, off, r, rfl, hbl, hc0, hc1, hsp⟩ := HR.out k l[k] (by simp [hlt])
        have hd0 := (HB.out.cell (p := ⟨b, off + k * 2, none⟩) hbl).trans hc0
        have hd1 := (HB.out.cell (p := ⟨b, off + k * 2 + 1, none⟩) hbl).trans hc1
        have hbw : b < wr.heap.size := Nat.lt_of_lt_of_le hbl HB.out.size
        have hgd : l.getD k default = l[k] := by rw [List.getD_eq_getElem?_getD, List.getElem?_eq_getElem hlt]; rfl
        obtain ⟨q1, q2⟩ := HQ.out l[k] (List.getElem_mem hlt)
        have HB2 : Hid (Below w.heap.size w (wr.alloc (.cells #[.string l[k].1, r] 58))) := Lib.hid (HB.out.trans ((belQ wr _).mono HB.out.size))
        have hBA : BeforeAt (wr.alloc (.cells #[.string l[k].1, r] 58)) u3 (beforeQ l k) := by
          rcases HBA.out with h | ⟨q, b2, o2, h1, h2, h3, h4⟩
          · exact .inl h
          · exact .inr ⟨q, b2, o2, h1, h2, by simp; omega, ((belQ wr _).cell (p := ⟨b2, o2, none⟩) h3).trans h4⟩
        have HC := Lib.hid (checkReq_any l[k].1 l[k].2 r u3 (beforeQ l k) (wr.alloc (.cells #[.string l[k].1, r] 58)) (HM.out.below HB2.out HM.out.pos) q1 q2 (Nat.le_trans (canon_len _) q2) ((hsp.below HB2.out (Nat.le_refl _)).mono HB2.out.size) hBA)
        have HS := Lib.hid hsp
        obtain ⟨ra, rc, rfl, _⟩ := hsp
        clear hBA q1 q2
        have e0 : (l[k].1, l[k].2) = l[k] := rfl
        rw [e0] at HC
        have HD0 := Lib.hid hd0
        go_wp2_with fail
        refine HC.out.mono ?_
        rintro e w3 ⟨rfl, hb3⟩
        have HB3 := Lib.hid (HB2.out.trans (hb3.mono HB2.out.size))
        have HD3 : Hid (w3.cell? ⟨b, off + k * 2, none⟩ = some (.string l[k].1)) := Lib.hid ((HB3.out.cell (p := ⟨b, off + k * 2, none⟩) hbl).trans hc0)
        have hs3 := HB3.out.size
        clear hb3
        by_cases hz : reqE l[k] (beforeQ l k) = 0
        case neg =>
          have HX := Lib.hid (show E = reqE l[k] (beforeQ l k) by rw [HF.out, firstE_at hlt (fun j hj => HZ.out j hj) (by rw [hgd]; exact hz), hgd])
          generalize reqE l[k] (beforeQ l k) = er at *
          have hz2 : (er != 0) = true := by simpa using hz
          go_wp2_with fail
          go_ret
          exact ⟨by rw [HX.out]; rfl, HB3.out⟩
        case pos =>
          have HZ2 := Lib.hid (show ∀ j, j < k + 1 → reqE (l.getD j default) (beforeQ l j) = 0 from fun j hj => by
            by_cases e : j = k
            · rw [e, hgd]; exact hz
            · exact HZ.out j (by omega))
          rw [hz]
          go_wp2_with fail
          go_roundw
          case rel => exact ⟨k + 1, by omega, by simp, Lib.hid (.inr ⟨l[k].1, b, off + k * 2, by rw [beforeQ_succ, hgd], rfl, by omega, HD3.out⟩), HZ2, HB3⟩
          case measure => simp [intOf]; omega
end Go.Proofs.YtenfkejbndifdaaGreatDoor

namespace Go.Proofs.YtenfkejbndifdaaGreatDoor
set_option linter.unusedVariables false
set_option linter.unusedSimpArgs false
open Go Go.RowKit

def relC (x : RelL) (r : Value) : Array Value := #[.string x.path, intC x.ver.1, intC x.ver.2.1, intC x.ver.2.2, r, .string x.ar, .string x.ifc, .string x.cert, .bool x.yk]
set_option maxRecDepth 100000 in
theorem key_any (x : RelL) (r : Value) (w : World) : Calls Tryz.prog 115 #[.agg (relC x r)] w fun e w' => e = .returned (.agg #[.string x.path, intC x.ver.1, intC x.ver.2.1, intC x.ver.2.2]) ∧ Below w.heap.size w w' := by
  unfold relC
  go_enter Tryz.func115, Tryz.ntmps115
  go_wp2_with fail
  refine bodyPost_ret (results_cell_row rfl _ _ (w.heap.size + 1) _ _ _ _ rfl (by have := World.alloc_heap_new (w.alloc (.cells #[.string x.path, intC x.ver.1, intC x.ver.2.1, intC x.ver.2.2, r, .string x.ar, .string x.ifc, .string x.cert, .bool x.yk] 71)) (.cells #[.string x.path, intC x.ver.1, intC x.ver.2.1, intC x.ver.2.2] 43); rw [World.size_alloc] at this; exact this) Tryz.underlying43 rfl (by kernel_rfl)) rfl ?_
  exact ⟨rfl, (by repeat (first | exact Below.refl _ _ | refine Below.drew ?_ | refine Below.alloc ?_ (by simp <;> omega) _ | refine Below.setCell ?_ (by simp <;> omega) _))⟩
end Go.Proofs.YtenfkejbndifdaaGreatDoor

namespace Go.Proofs.YtenfkejbndifdaaGreatDoor
set_option linter.unusedVariables false
set_option linter.unusedSimpArgs false
open Go Go.RowKit

set_option maxRecDepth 100000 in
theorem or2_any (g : Nat) (x y : Int) (w : World) (h0 : w.cell? ⟨g, 0, none⟩ = some (.int .i64 x)) (h1 : w.cell? ⟨g, 1, none⟩ = some (.int .i64 y)) :
    Calls Tryz.prog 145 #[.slice (some ⟨g, 0, none⟩) 2 2] w fun e w' => e = .returned (.int .i64 (if x ≠ 0 then x else y)) ∧ w = w' := by
  obtain ⟨R, hR⟩ : ∃ R, (if x ≠ 0 then x else y) = R := ⟨_, rfl⟩
  rw [hR]
  have HR := Lib.hid hR
  clear hR
  obtain ⟨P1, hP1⟩ : ∃ P1 : Prop, P1 = (x = 0) := ⟨_, rfl⟩
  obtain ⟨P2, hP2⟩ : ∃ P2 : Prop, P2 = (y = 0) := ⟨_, rfl⟩
  have HP := Lib.hid (And.intro hP1 hP2)
  clear hP1 hP2
  go_enter Tryz.func145, Tryz.ntmps145
  go_wp2_with fail
  go_loopw [8] (fun i wr => ((i = .int .i64 0) ∨ (i = .int .i64 1 ∧ Hid P1) ∨ (i = .int .i64 2 ∧ Hid (P1 ∧ P2))) ∧ wr = w) (fun i _ => 3 - (intOf i).toNat)
  case atStart => exact ⟨.inl rfl, rfl⟩
  case round =>
    obtain ⟨hrel, rfl⟩ := hrel
    rcases hrel with rfl | ⟨rfl, H1⟩ | ⟨rfl, H2⟩
    · by_cases hx : x = 0
      · have HX : Hid P1 := Lib.hid (by rw [HP.out.1]; exact hx)
        subst hx
        go_wp2_with fail
        go_roundw
        case rel => exact ⟨.inr (.inl ⟨rfl, HX⟩), trivial⟩
        case measure => simp [intOf]
      · have hb : (x != 0) = true := by simpa using hx
        go_wp2_with fail
        go_ret
        exact ⟨by rw [← HR.out, if_pos hx]; rfl, rfl⟩
    · by_cases hy : y = 0
      · have HX : Hid (P1 ∧ P2) := Lib.hid ⟨H1.out, by rw [HP.out.2]; exact hy⟩
        subst hy
        go_wp2_with fail
        go_roundw
        case rel => exact ⟨.inr (.inr ⟨rfl, HX⟩), trivial⟩
        case measure => simp [intOf]
      · have hb : (y != 0) = true := by simpa using hy
        have HE := Lib.hid (show R = y by rw [← HR.out, if_neg (fun h => h (HP.out.1 ▸ H1.out))])
        go_wp2_with fail
        go_ret
        exact ⟨by rw [HE.out]; rfl, rfl⟩
    · have HE := Lib.hid (show R = 0 by rw [← HR.out, if_neg (fun h => h (HP.out.1 ▸ H2.out.1))]; exact HP.out.2 ▸ H2.out.2)
      go_wp2_with fail
      go_ret
      exact ⟨by rw [HE.out]; rfl, rfl⟩
end Go.Proofs.YtenfkejbndifdaaGreatDoor
