/- Contracts of package waves: needs. -/
import Derived.Test.YtnjiibiafhnmgaaGreatDoorZI
namespace Go.Proofs.YtnjiibiafhnmgaaGreatDoor
open Go Go.RowKit Go.Maps

def HeldU (g m1 m2 : Nat) (W : World) : Prop := W.cell? ⟨g, 0, none⟩ = some (.map (some m1)) ∧ W.cell? ⟨g, 1, none⟩ = some (.map (some m2))
set_option maxRecDepth 100000 in
set_option maxHeartbeats 8000000 in
theorem needs_any (X : List RelL) (f t : List SelL) (hGf : GoodS X f) (hGt : GoodS X t) (L : List ByteArray) (g : Nat) (w : World) (a b : ByteArray) (ha : a.size ≤ maxLen) (hb : b.size ≤ maxLen) (hU : UpV X f t L g w) :
    Calls Tryz.prog 73 #[.pointer (some ⟨g, 0, none⟩), .string a, .string b] w fun e w' => e = .returned (.bool (needB X f t a b)) ∧ Below w.heap.size w w' := by
  obtain ⟨m1, m2, fv, tv, pv, B, hbx, hs1, hs2, _⟩ := hU
  have hgl : g < w.heap.size := (Array.getElem?_eq_some_iff.1 hbx).1
  have HC1 := Lib.hid (fun W (hw : Below w.heap.size w W) => clash_any X t f hGt hGf a b ha m2 m1 W (hs2.below hw) (hs1.below hw))
  have HC2 := Lib.hid (fun W (hw : Below w.heap.size w W) => clash_any X f t hGf hGt b a hb m1 m2 W (hs1.below hw) (hs2.below hw))
  have HSB : Hid (∀ W, Below w.heap.size w W → HeldU g m1 m2 W) := Lib.hid (fun W hw => ⟨(hw.cell (p := ⟨g, 0, none⟩) hgl).trans (cell_of_row _ _ 0 _ _ _ hbx), (hw.cell (p := ⟨g, 1, none⟩) hgl).trans (cell_of_row _ _ 1 _ _ _ hbx)⟩)
  have HBD : Hid (Below w.heap.size w w.drew) := Lib.hid (Below.refl _ _).drew
  have HNB : Hid (needB X f t a b = (decide (a ≠ b) && (clashB X t a f b || clashB X f b t a))) := Lib.hid rfl
  generalize clashB X t a f b = x1 at *
  generalize clashB X f b t a = x2 at *
  obtain ⟨eb, heb⟩ : ∃ eb, (a.toList == b.toList) = eb := ⟨_, rfl⟩
  have HDE : Hid (decide (a ≠ b) = !eb) := Lib.hid (by
    have h := eqs_dec a b
    rw [heb] at h
    rw [h]
    by_cases e : a = b <;> simp [e])
  have heb2 : (a.toList != b.toList) = !eb := by unfold bne; rw [heb]
  clear hbx hs1 hs2 hGf hGt
  go_enter Tryz.func73, Tryz.ntmps73
  cases eb with
  | true =>
    have HR : Hid (needB X f t a b = false) := Lib.hid (by rw [HNB.out, HDE.out]; rfl)
    simp only [Bool.not_true] at heb2
    clear HC1 HC2 HNB HDE
    go_upto_region 2 with fail
    refine wp_region_noPanic ?_
    refine wp_region_held_drew (S := HeldU g m1 m2) (by kernel_rfl) (HSB.out _ HBD.out) (fun hS0 => ?_)
    (refine zl3 0 ?_ rfl ?_ ?_; rotate_left; (· (rintro w ⟨d0, d1⟩; go_simp; try with_reducible rfl)); (try simp only [zl1]))
    (refine zl3 1 ?_ rfl ?_ ?_; rotate_left; (· (rintro w ⟨d0, d1⟩; go_simp; try with_reducible rfl)); (try simp only [zl1]))
    (refine zl3 2 ?_ rfl ?_ ?_; rotate_left; (· (rintro w ⟨d0, d1⟩; go_simp; try with_reducible rfl)); (try simp only [zl1]))
    (refine zl3 3 ?_ rfl ?_ ?_; rotate_left; (· (rintro w ⟨d0, d1⟩; go_simp; try with_reducible rfl)); (try simp only [zl1]))
    (refine zl2 (i := 4) (v := undef) rfl (Or.inr ⟨by rfl, rfl⟩) (by assumption) ?_; (try simp only [zl1]))
    (refine zl2 (i := 5) (v := undef) rfl (Or.inr ⟨by rfl, rfl⟩) (by assumption) ?_; (try simp only [zl1]))
    (refine zl2 (i := 6) (v := undef) rfl (Or.inr ⟨by rfl, rfl⟩) (by assumption) ?_; (try simp only [zl1]))
    (refine zl2 (i := 7) (v := undef) rfl (Or.inr ⟨by rfl, rfl⟩) (by assumption) ?_; (try simp only [zl1]))
    (refine zl2 (i := 8) (v := undef) rfl (Or.inr ⟨by rfl, rfl⟩) (by assumption) ?_; (try simp only [zl1]))
    (refine zl2 (i := 9) (v := undef) rfl (Or.inr ⟨by rfl, rfl⟩) (by assumption) ?_; (try simp only [zl1]))
    (refine zl2 (i := 10) (v := undef) rfl (Or.inr ⟨by rfl, rfl⟩) (by assumption) ?_; (try simp only [zl1]))
    (refine zl2 (i := 11) (v := undef) rfl (Or.inr ⟨by rfl, rfl⟩) (by assumption) ?_; (try simp only [zl1]))
    (refine zl2 (i := 12) (v := undef) rfl (Or.inr ⟨by rfl, rfl⟩) (by assumption) ?_; (try simp only [zl1]))
    (refine zl2 (i := 13) (v := undef) rfl (Or.inr ⟨by rfl, rfl⟩) (by assumption) ?_; (try simp only [zl1]))
    (refine zl2 (i := 14) (v := undef) rfl (Or.inr ⟨by rfl, rfl⟩) (by assumption) ?_; (try simp only [zl1]))
    (refine zl2 (i := 15) (v := undef) rfl (Or.inr ⟨by rfl, rfl⟩) (by assumption) ?_; (try simp only [zl1]))
    (refine zl2 (i := 16) (v := undef) rfl (Or.inr ⟨by rfl, rfl⟩) (by assumption) ?_; (try simp only [zl1]))
    (refine zl2 (i := 17) (v := undef) rfl (Or.inr ⟨by rfl, rfl⟩) (by assumption) ?_; (try simp only [zl1]))
    (refine zl2 (i := 18) (v := undef) rfl (Or.inr ⟨by rfl, rfl⟩) (by assumption) ?_; (try simp only [zl1]))
    (refine zl2 (i := 19) (v := undef) rfl (Or.inr ⟨by rfl, rfl⟩) (by assumption) ?_; (try simp only [zl1]))
    (refine zl2 (i := 20) (v := undef) rfl (Or.inr ⟨by rfl, rfl⟩) (by assumption) ?_; (try simp only [zl1]))
    (refine zl2 (i := 21) (v := undef) rfl (Or.inr ⟨by rfl, rfl⟩) (by assumption) ?_; (try simp only [zl1]))
    (refine zl2 (i := 22) (v := undef) rfl (Or.inr ⟨by rfl, rfl⟩) (by assumption) ?_; (try simp only [zl1]))
    (refine zl2 (i := 23) (v := undef) rfl (Or.inr ⟨by rfl, rfl⟩) (by assumption) ?_; (try simp only [zl1]))
    (refine zl2 (i := 24) (v := undef) rfl (Or.inr ⟨by rfl, rfl⟩) (by assumption) ?_; (try simp only [zl1]))
    (refine zl2 (i := 25) (v := undef) rfl (Or.inr ⟨by rfl, rfl⟩) (by assumption) ?_; (try simp only [zl1]))
    (refine zl2 (i := 26) (v := undef) rfl (Or.inr ⟨by rfl, rfl⟩) (by assumption) ?_; (try simp only [zl1]))
    (refine zl2 (i := 27) (v := undef) rfl (Or.inr ⟨by rfl, rfl⟩) (by assumption) ?_; (try simp only [zl1]))
    (refine zl2 (i := 28) (v := undef) rfl (Or.inr ⟨by rfl, rfl⟩) (by assumption) ?_; (try simp only [zl1]))
    (refine zl2 (i := 29) (v := undef) rfl (Or.inr ⟨by rfl, rfl⟩) (by assumption) ?_; (try simp only [zl1]))
    (refine zl3 30 ?_ rfl ?_ ?_; rotate_left; (· (rintro w ⟨d0, d1⟩; go_simp; try with_reducible rfl)); (try simp only [zl1]))
    (refine zl3 31 ?_ rfl ?_ ?_; rotate_left; (· (rintro w ⟨d0, d1⟩; go_simp; try with_reducible rfl)); (try simp only [zl1]))
    refine wpAnyH_done (by kernel_rfl) ?_ _
    refine NoPanic.normal ?_
    go_wp2_with fail
    go_ret
    exact ⟨by rw [HR.out]; rfl, HBD.out⟩
  | false =>
    simp only [Bool.not_false] at heb2
    cases x1 with
    | true =>
      have HR : Hid (needB X f t a b = true) := Lib.hid (by rw [HNB.out, HDE.out]; rfl)
      clear HC2 HNB HDE
      go_upto_region 2 with fail
      refine wp_region_noPanic ?_
      refine wp_region_held_drew (S := HeldU g m1 m2) (by kernel_rfl) (HSB.out _ HBD.out) (fun hS0 => ?_)
      (refine zl3 0 ?_ rfl ?_ ?_; rotate_left; (· (rintro w ⟨d0, d1⟩; go_simp; try with_reducible rfl)); (try simp only [zl1]))
      (refine zl3 1 ?_ rfl ?_ ?_; rotate_left; (· (rintro w ⟨d0, d1⟩; go_simp; try with_reducible rfl)); (try simp only [zl1]))
      (refine zl3 2 ?_ rfl ?_ ?_; rotate_left; (· (rintro w ⟨d0, d1⟩; go_simp; try with_reducible rfl)); (try simp only [zl1]))
      (refine zl3 3 ?_ rfl ?_ ?_; rotate_left; (· (rintro w ⟨d0, d1⟩; go_simp; try with_reducible rfl)); (try simp only [zl1]))
      (refine zl3 4 ?_ rfl ?_ ?_; rotate_left; (· (rintro w ⟨d0, d1⟩; go_simp; try with_reducible rfl)); (try simp only [zl1]))
      (refine zl3 5 ?_ rfl ?_ ?_; rotate_left; (· (rintro w ⟨d0, d1⟩; go_simp; try with_reducible rfl)); (try simp only [zl1]))
      (refine zl3 6 ?_ rfl ?_ ?_; rotate_left; (· (rintro w ⟨d0, d1⟩; go_simp; try with_reducible rfl)); (try simp only [zl1]))
      (refine zl3 7 ?_ rfl ?_ ?_; rotate_left; (· (rintro w ⟨d0, d1⟩; go_simp; try with_reducible rfl)); (try simp only [zl1]))
      (refine zl3 8 ?_ rfl ?_ ?_; rotate_left; (· (rintro w ⟨d0, d1⟩; go_simp; try with_reducible rfl)); (try simp only [zl1]))
      (refine zl3 9 ?_ rfl ?_ ?_; rotate_left; (· (rintro w ⟨d0, d1⟩; go_simp; try with_reducible rfl)); (try simp only [zl1]))
      (refine zl3 10 ?_ rfl ?_ ?_; rotate_left; (· (rintro w ⟨d0, d1⟩; go_simp; try with_reducible rfl)); (try simp only [zl1]))
      (refine zl3 11 ?_ rfl ?_ ?_; rotate_left; (· (rintro w ⟨d0, d1⟩; go_simp; try with_reducible rfl)); (try simp only [zl1]))
      (refine zl3 12 ?_ rfl ?_ ?_; rotate_left; (· (rintro w ⟨d0, d1⟩; go_simp; try with_reducible rfl)); (try simp only [zl1]))
      (refine zl3 13 ?_ rfl ?_ ?_; rotate_left; (· (rintro w ⟨d0, d1⟩; go_simp; try with_reducible rfl)); (try simp only [zl1]))
      (refine zl3 14 ?_ rfl ?_ ?_; rotate_left; (· (rintro w ⟨d0, d1⟩; go_simp; try with_reducible rfl)); (try simp only [zl1]))
      refine wpAnyH_ready (rs := [15]) (by kernel_rfl) (by simp) (AllReadyH.cons rfl (fun K hK => ?_) AllReadyH.nil)
      go_simp
      refine (HC1.out _ HBD.out).mono ?_
      rintro e w1 ⟨rfl, hb1⟩
      have HB1 := Lib.hid (HBD.out.trans (hb1.mono HBD.out.size))
      clear hS0
      have hS0 := HSB.out _ HB1.out
      refine hK.out _ _ hS0 (fun _ => ?_)
      clear hK K hb1
      (try simp only [zl1])
      (refine zl3 16 ?_ rfl ?_ ?_; rotate_left; (· (rintro w ⟨d0, d1⟩; go_simp; try with_reducible rfl)); (try simp only [zl1]))
      (refine zl2 (i := 17) (v := undef) rfl (Or.inr ⟨by rfl, rfl⟩) (by assumption) ?_; (try simp only [zl1]))
      (refine zl2 (i := 18) (v := undef) rfl (Or.inr ⟨by rfl, rfl⟩) (by assumption) ?_; (try simp only [zl1]))
      (refine zl2 (i := 19) (v := undef) rfl (Or.inr ⟨by rfl, rfl⟩) (by assumption) ?_; (try simp only [zl1]))
      (refine zl2 (i := 20) (v := undef) rfl (Or.inr ⟨by rfl, rfl⟩) (by assumption) ?_; (try simp only [zl1]))
      (refine zl2 (i := 21) (v := undef) rfl (Or.inr ⟨by rfl, rfl⟩) (by assumption) ?_; (try simp only [zl1]))
      (refine zl2 (i := 22) (v := undef) rfl (Or.inr ⟨by rfl, rfl⟩) (by assumption) ?_; (try simp only [zl1]))
      (refine zl2 (i := 23) (v := undef) rfl (Or.inr ⟨by rfl, rfl⟩) (by assumption) ?_; (try simp only [zl1]))
      (refine zl2 (i := 24) (v := undef) rfl (Or.inr ⟨by rfl, rfl⟩) (by assumption) ?_; (try simp only [zl1]))
      (refine zl2 (i := 25) (v := undef) rfl (Or.inr ⟨by rfl, rfl⟩) (by assumption) ?_; (try simp only [zl1]))
      (refine zl2 (i := 26) (v := undef) rfl (Or.inr ⟨by rfl, rfl⟩) (by assumption) ?_; (try simp only [zl1]))
      (refine zl2 (i := 27) (v := undef) rfl (Or.inr ⟨by rfl, rfl⟩) (by assumption) ?_; (try simp only [zl1]))
      (refine zl2 (i := 28) (v := undef) rfl (Or.inr ⟨by rfl, rfl⟩) (by assumption) ?_; (try simp only [zl1]))
      (refine zl3 29 ?_ rfl ?_ ?_; rotate_left; (· (rintro w ⟨d0, d1⟩; go_simp; try with_reducible rfl)); (try simp only [zl1]))
      (refine zl3 30 ?_ rfl ?_ ?_; rotate_left; (· (rintro w ⟨d0, d1⟩; go_simp; try with_reducible rfl)); (try simp only [zl1]))
      (refine zl3 31 ?_ rfl ?_ ?_; rotate_left; (· (rintro w ⟨d0, d1⟩; go_simp; try with_reducible rfl)); (try simp only [zl1]))
      refine wpAnyH_done (by kernel_rfl) ?_ _
      refine NoPanic.normal ?_
      go_wp2_with fail
      go_ret
      exact ⟨by rw [HR.out]; rfl, HB1.out⟩
    | false =>
      have HR : Hid (needB X f t a b = x2) := Lib.hid (by rw [HNB.out, HDE.out]; simp)
      clear HNB HDE
      go_upto_region 2 with fail
      refine wp_region_noPanic ?_
      refine wp_region_held_drew (S := HeldU g m1 m2) (by kernel_rfl) (HSB.out _ HBD.out) (fun hS0 => ?_)
      (refine zl3 0 ?_ rfl ?_ ?_; rotate_left; (· (rintro w ⟨d0, d1⟩; go_simp; try with_reducible rfl)); (try simp only [zl1]))
      (refine zl3 1 ?_ rfl ?_ ?_; rotate_left; (· (rintro w ⟨d0, d1⟩; go_simp; try with_reducible rfl)); (try simp only [zl1]))
      (refine zl3 2 ?_ rfl ?_ ?_; rotate_left; (· (rintro w ⟨d0, d1⟩; go_simp; try with_reducible rfl)); (try simp only [zl1]))
      (refine zl3 3 ?_ rfl ?_ ?_; rotate_left; (· (rintro w ⟨d0, d1⟩; go_simp; try with_reducible rfl)); (try simp only [zl1]))
      (refine zl3 4 ?_ rfl ?_ ?_; rotate_left; (· (rintro w ⟨d0, d1⟩; go_simp; try with_reducible rfl)); (try simp only [zl1]))
      (refine zl3 5 ?_ rfl ?_ ?_; rotate_left; (· (rintro w ⟨d0, d1⟩; go_simp; try with_reducible rfl)); (try simp only [zl1]))
      (refine zl3 6 ?_ rfl ?_ ?_; rotate_left; (· (rintro w ⟨d0, d1⟩; go_simp; try with_reducible rfl)); (try simp only [zl1]))
      (refine zl3 7 ?_ rfl ?_ ?_; rotate_left; (· (rintro w ⟨d0, d1⟩; go_simp; try with_reducible rfl)); (try simp only [zl1]))
      (refine zl3 8 ?_ rfl ?_ ?_; rotate_left; (· (rintro w ⟨d0, d1⟩; go_simp; try with_reducible rfl)); (try simp only [zl1]))
      (refine zl3 9 ?_ rfl ?_ ?_; rotate_left; (· (rintro w ⟨d0, d1⟩; go_simp; try with_reducible rfl)); (try simp only [zl1]))
      (refine zl3 10 ?_ rfl ?_ ?_; rotate_left; (· (rintro w ⟨d0, d1⟩; go_simp; try with_reducible rfl)); (try simp only [zl1]))
      (refine zl3 11 ?_ rfl ?_ ?_; rotate_left; (· (rintro w ⟨d0, d1⟩; go_simp; try with_reducible rfl)); (try simp only [zl1]))
      (refine zl3 12 ?_ rfl ?_ ?_; rotate_left; (· (rintro w ⟨d0, d1⟩; go_simp; try with_reducible rfl)); (try simp only [zl1]))
      (refine zl3 13 ?_ rfl ?_ ?_; rotate_left; (· (rintro w ⟨d0, d1⟩; go_simp; try with_reducible rfl)); (try simp only [zl1]))
      (refine zl3 14 ?_ rfl ?_ ?_; rotate_left; (· (rintro w ⟨d0, d1⟩; go_simp; try with_reducible rfl)); (try simp only [zl1]))
      refine wpAnyH_ready (rs := [15]) (by kernel_rfl) (by simp) (AllReadyH.cons rfl (fun K hK => ?_) AllReadyH.nil)
      go_simp
      refine (HC1.out _ HBD.out).mono ?_
      rintro e w1 ⟨rfl, hb1⟩
      have HB1 := Lib.hid (HBD.out.trans (hb1.mono HBD.out.size))
      clear hS0
      have hS0 := HSB.out _ HB1.out
      refine hK.out _ _ hS0 (fun _ => ?_)
      clear hK K hb1
      (try simp only [zl1])
      (refine zl3 16 ?_ rfl ?_ ?_; rotate_left; (· (rintro w ⟨d0, d1⟩; go_simp; try with_reducible rfl)); (try simp only [zl1]))
      (refine zl3 17 ?_ rfl ?_ ?_; rotate_left; (· (rintro w ⟨d0, d1⟩; go_simp; try with_reducible rfl)); (try simp only [zl1]))
      (refine zl3 18 ?_ rfl ?_ ?_; rotate_left; (· (rintro w ⟨d0, d1⟩; go_simp; try with_reducible rfl)); (try simp only [zl1]))
      (refine zl3 19 ?_ rfl ?_ ?_; rotate_left; (· (rintro w ⟨d0, d1⟩; go_simp; try with_reducible rfl)); (try simp only [zl1]))
      (refine zl3 20 ?_ rfl ?_ ?_; rotate_left; (· (rintro w ⟨d0, d1⟩; go_simp; try with_reducible rfl)); (try simp only [zl1]))
      (refine zl3 21 ?_ rfl ?_ ?_; rotate_left; (· (rintro w ⟨d0, d1⟩; go_simp; try with_reducible rfl)); (try simp only [zl1]))
      (refine zl3 22 ?_ rfl ?_ ?_; rotate_left; (· (rintro w ⟨d0, d1⟩; go_simp; try with_reducible rfl)); (try simp only [zl1]))
      (refine zl3 23 ?_ rfl ?_ ?_; rotate_left; (· (rintro w ⟨d0, d1⟩; go_simp; try with_reducible rfl)); (try simp only [zl1]))
      (refine zl3 24 ?_ rfl ?_ ?_; rotate_left; (· (rintro w ⟨d0, d1⟩; go_simp; try with_reducible rfl)); (try simp only [zl1]))
      (refine zl3 25 ?_ rfl ?_ ?_; rotate_left; (· (rintro w ⟨d0, d1⟩; go_simp; try with_reducible rfl)); (try simp only [zl1]))
      (refine zl3 26 ?_ rfl ?_ ?_; rotate_left; (· (rintro w ⟨d0, d1⟩; go_simp; try with_reducible rfl)); (try simp only [zl1]))
      (refine zl3 27 ?_ rfl ?_ ?_; rotate_left; (· (rintro w ⟨d0, d1⟩; go_simp; try with_reducible rfl)); (try simp only [zl1]))
      refine wpAnyH_ready (rs := [28]) (by kernel_rfl) (by simp) (AllReadyH.cons rfl (fun K hK => ?_) AllReadyH.nil)
      go_simp
      refine (HC2.out _ HB1.out).mono ?_
      rintro e w2 ⟨rfl, hb2⟩
      have HB2 := Lib.hid (HB1.out.trans (hb2.mono HB1.out.size))
      clear hS0
      have hS0 := HSB.out _ HB2.out
      refine hK.out _ _ hS0 (fun _ => ?_)
      clear hK K hb2
      (try simp only [zl1])
      (refine zl3 29 ?_ rfl ?_ ?_; rotate_left; (· (rintro w ⟨d0, d1⟩; go_simp; try with_reducible rfl)); (try simp only [zl1]))
      (refine zl3 30 ?_ rfl ?_ ?_; rotate_left; (· (rintro w ⟨d0, d1⟩; go_simp; try with_reducible rfl)); (try simp only [zl1]))
      (refine zl3 31 ?_ rfl ?_ ?_; rotate_left; (· (rintro w ⟨d0, d1⟩; go_simp; try with_reducible rfl)); (try simp only [zl1]))
      refine wpAnyH_done (by kernel_rfl) ?_ _
      refine NoPanic.normal ?_
      go_wp2_with fail
      go_ret
      exact ⟨by rw [HR.out]; rfl, HB2.out⟩
end Go.Proofs.YtnjiibiafhnmgaaGreatDoor
