/- The law MvsSelects returns true. -/
import Derived.Test.YtenfkejbndifdaaGreatDoorXN
import Derived.Test.YtenfkejbndifdaaGreatDoorWX
namespace Go.Proofs.YtenfkejbndifdaaGreatDoor
set_option linter.unusedVariables false
set_option linter.unusedSimpArgs false
open Go Go.RowKit

theorem plain_bool {X : List RelL} {roots : List ReqL} {bb : Bool} (h : bb = true ↔ PlainP X roots) {w w' : World} {e : Ending} (hp : PlainR w X roots e w') : e = .returned (.bool bb) ∧ Below w.heap.size w w' := by
  obtain ⟨hb, b, rfl, h2⟩ := hp
  obtain rfl : b = bb := by rw [Bool.eq_iff_iff]; exact h2.trans h.symm
  exact ⟨rfl, hb⟩
def HeldX (g : Nat) (v iv : Value) (W : World) : Prop := W.cell? ⟨g, 0, none⟩ = some v ∧ W.cell? ⟨g, 1, none⟩ = some iv
set_option maxRecDepth 100000 in
set_option maxHeartbeats 16000000 in
theorem MvsSelects_any (a : Option Addr) (c : Nat) (iv : Value) (X : List RelL) (rov : Value) (roots : List ReqL) (w : World) (hm : MaxOk w) (h0 : RelsOf w.heap.size (.slice a X.length c) X w ∧ X.length ≤ maxLen ∧ ∀ x ∈ X, x.reqs.length ≤ maxLen)
    (h1 : ReqsOf w.heap.size rov roots w ∧ roots.length ≤ maxLen) : Calls Tryz.prog 5 #[.agg #[.slice a X.length c, iv], rov] w fun e w' => e = .returned (.bool true) ∧ Below w.heap.size w w' := by
  obtain ⟨hR, hX, hXr⟩ := h0
  obtain ⟨hRo, hro⟩ := h1
  have HM := Lib.hid hm
  have HR := Lib.hid hR
  have HRo := Lib.hid hRo
  obtain ⟨ra, rc, rfl⟩ : ∃ ra rc, rov = .slice ra roots.length rc := by obtain ⟨a, c, e, _⟩ := hRo; exact ⟨a, c, e⟩
  have HAW := Lib.hid (fun W (hb : RowKit.Below w.heap.size w W) => awake34_any W (hm.below hb hm.pos))
  have HFEW := Lib.hid (fun W (hb : RowKit.Below w.heap.size w W) => few34_any a c iv (.slice ra roots.length rc) X roots W hX hXr (hR.on hb) hro (hRo.on hb))
  clear hm hR hRo
  have HB0 := Lib.hid (LawB.start w (.slice a X.length c) iv)
  go_enter Tryz.func5, Tryz.ntmps5
  go_upto_region 1 with fail
  generalize w.alloc (.cells #[.slice a X.length c, iv] 25) = W at *
  go_wp2_with fail
  refine (HAW.out _ HB0.out.bel).mono ?_
  rintro e w1 ⟨rfl, hb1⟩
  have HB1 := Lib.hid (HB0.out.below hb1)
  clear hb1 HAW
  have c0 := HB1.out.c0
  have c1 := HB1.out.c1
  go_wp2_with fail
  refine (HFEW.out _ HB1.out.bel).mono ?_
  rintro e w2 ⟨fb, rfl, hfb, hb2⟩
  have HB2 := Lib.hid (HB1.out.below hb2)
  have HFB := Lib.hid hfb
  clear hb2 hfb HFEW c0 c1
  cases fb with
  | false =>
    go_wp2_with fail
    go_ret
    exact ⟨rfl, HB2.out.bel⟩
  | true =>
    have HRB := Lib.hid (HFB.out rfl).1.bd
    have HQB := Lib.hid (HFB.out rfl).2.bd
    have hX2 : X.length ≤ 20 := (HFB.out rfl).1.len
    have hro2 : roots.length ≤ 1000000 := by have := (HFB.out rfl).2.len; omega
    have HSE := Lib.hid (fun W (hb : RowKit.Below w.heap.size w W) => MSelect_any (.slice a X.length c) iv (.slice ra roots.length rc) X roots W (HM.out.below hb HM.out.pos) (by omega) HRB.out (HR.out.on hb) hro2 HQB.out (HRo.out.on hb))
    have HNE := Lib.hid (fun W (hb : RowKit.Below w.heap.size w W) => MNewest_any (.slice a X.length c) iv (.slice ra roots.length rc) X roots W (HM.out.below hb HM.out.pos) (by omega) HRB.out (HR.out.on hb) hro2 HQB.out (HRo.out.on hb))
    have HPL := Lib.hid (fun W (hb : RowKit.Below w.heap.size w W) => MPlain_any (.slice a X.length c) iv (.slice ra roots.length rc) X roots W (HM.out.below hb HM.out.pos) (by omega) HRB.out (HR.out.on hb) hro2 HQB.out (HRo.out.on hb))
    have HRS := Lib.hid (fun W (hb : RowKit.Below w.heap.size w W) => rSelect34_any (.slice a X.length c) iv (.slice ra roots.length rc) X roots W (by omega) HRB.out (HR.out.on hb) hro2 HQB.out (HRo.out.on hb))
    have HRN := Lib.hid (fun W (hb : RowKit.Below w.heap.size w W) => rNewest34_any (.slice a X.length c) iv (.slice ra roots.length rc) X roots W (by omega) HRB.out (HR.out.on hb) hro2 HQB.out (HRo.out.on hb))
    have HRP := Lib.hid (fun W (hb : RowKit.Below w.heap.size w W) => rPlain34_any (.slice a X.length c) iv (.slice ra roots.length rc) X roots W (by omega) HRB.out (HR.out.on hb) hro2 HQB.out (HRo.out.on hb))
    have HL1 : Hid ((selM false X roots).1.length ≤ X.length) := Lib.hid selM_len
    have HL2 : Hid ((selM true X roots).1.length ≤ X.length) := Lib.hid selM_len
    unfold SelR at HSE HNE HRS HRN
    generalize selM false X roots = SM at *
    generalize selM true X roots = TM at *
    obtain ⟨s, E⟩ := SM
    obtain ⟨t, F⟩ := TM
    simp only at HSE HNE HRS HRN HL1 HL2
    have hls := HL1.out
    have hlt := HL2.out
    have c0 := HB2.out.c0
    have c1 := HB2.out.c1
    go_wp2_with fail
    refine (HSE.out _ HB2.out.bel).mono ?_
    rintro e w3 ⟨hb, v3, rfl, hl3⟩
    have HB3 := Lib.hid (HB2.out.below hb)
    have HV3 := Lib.hid hl3
    obtain ⟨a3, c3c, rfl⟩ : ∃ x y, v3 = .slice x s.length y := by obtain ⟨x, y, e, _⟩ := hl3; exact ⟨x, y, e⟩
    clear hb hl3 c0 c1 HSE
    have c0 := HB3.out.c0
    have c1 := HB3.out.c1
    go_wp2_with fail
    refine (HRS.out _ HB3.out.bel).mono ?_
    rintro e w4 ⟨hb, v4, rfl, hl4⟩
    have HB4 := Lib.hid (HB3.out.below hb)
    have HV3 := Lib.hid (HV3.out.on hb)
    have HV4 := Lib.hid hl4
    obtain ⟨a4, c4c, rfl⟩ : ∃ x y, v4 = .slice x s.length y := by obtain ⟨x, y, e, _⟩ := hl4; exact ⟨x, y, e⟩
    clear hb hl4 c0 c1 HRS
    have c0 := HB4.out.c0
    have c1 := HB4.out.c1
    go_wp2_with fail
    refine (HNE.out _ HB4.out.bel).mono ?_
    rintro e w5 ⟨hb, v5, rfl, hl5⟩
    have HB5 := Lib.hid (HB4.out.below hb)
    have HV3 := Lib.hid (HV3.out.on hb)
    have HV4 := Lib.hid (HV4.out.on hb)
    have HV5 := Lib.hid hl5
    obtain ⟨a5, c5c, rfl⟩ : ∃ x y, v5 = .slice x t.length y := by obtain ⟨x, y, e, _⟩ := hl5; exact ⟨x, y, e⟩
    clear hb hl5 c0 c1 HNE
    have c0 := HB5.out.c0
    have c1 := HB5.out.c1
    go_wp2_with fail
    refine (HRN.out _ HB5.out.bel).mono ?_
    rintro e w6 ⟨hb, v6, rfl, hl6⟩
    have HB6 := Lib.hid (HB5.out.below hb)
    have HV3 := Lib.hid (HV3.out.on hb)
    have HV4 := Lib.hid (HV4.out.on hb)
    have HV5 := Lib.hid (HV5.out.on hb)
    have HV6 := Lib.hid hl6
    obtain ⟨a6, c6c, rfl⟩ : ∃ x y, v6 = .slice x t.length y := by obtain ⟨x, y, e, _⟩ := hl6; exact ⟨x, y, e⟩
    clear hb hl6 c0 c1 HRN
    have HSB : Hid (∀ W', Below w6.heap.size w6 W' → HeldX w.heap.size (.slice a X.length c) iv W') := Lib.hid (fun W' hb => ⟨(HB6.out.below hb).c0, (HB6.out.below hb).c1⟩)
    have HP6 := Lib.hid (fun W (hb : Below w6.heap.size w6 W) => HPL.out W (HB6.out.bel.trans (hb.mono HB6.out.bel.size)))
    have HRP6 := Lib.hid (fun W (hb : Below w6.heap.size w6 W) => HRP.out W (HB6.out.bel.trans (hb.mono HB6.out.bel.size)))
    have HQ1 := Lib.hid (fun W (hb : Below w6.heap.size w6 W) => eq_sels (.slice a3 s.length c3c) (.slice a4 s.length c4c) s s W (by omega) (by omega) (HV3.out.on hb) (HV4.out.on hb))
    have HQ2 := Lib.hid (fun W (hb : Below w6.heap.size w6 W) => eq_sels (.slice a5 t.length c5c) (.slice a6 t.length c6c) t t W (by omega) (by omega) (HV5.out.on hb) (HV6.out.on hb))
    simp only [decide_true] at HQ1 HQ2
    obtain ⟨bb, hbb⟩ : ∃ bb : Bool, (bb = true ↔ PlainP X roots) := by
      by_cases hp : PlainP X roots
      · exact ⟨true, ⟨fun _ => hp, fun _ => rfl⟩⟩
      · exact ⟨false, ⟨(fun h => by cases h), fun h => absurd h hp⟩⟩
    have HP7 := Lib.hid (fun W (hb : Below w6.heap.size w6 W) => (HP6.out W hb).mono fun e w' h => plain_bool hbb h)
    have HRP7 := Lib.hid (fun W (hb : Below w6.heap.size w6 W) => (HRP6.out W hb).mono fun e w' h => plain_bool hbb h)
    clear hbb HP6 HRP6 HPL HRP
    go_upto_region 9 with fail
    cases bb
    all_goals
      refine wp_region_noPanic ?_
      refine wp_region_held_drew (S := HeldX w.heap.size (.slice a X.length c) iv) (by kernel_rfl) (HSB.out _ (Below.refl _ _).drew) (fun hS0 => ?_)
      (refine wpAnyH_take (i := 0) (v := ?_) rfl (by kernel_rfl) (by kernel_rfl) (by kernel_rfl) (fun _ _ _ h => h) (Or.inl ⟨by rfl, ?_⟩) (by assumption) ?_; rotate_left; (· (intro w hSw; obtain ⟨x0, x1⟩ := hSw; go_simp; try with_reducible rfl)); (try simp only [zl1, zl2, zl3, Act.put, zl4, zl5, zl6]))
      (refine wpAnyH_take (i := 1) (v := ?_) rfl (by kernel_rfl) (by kernel_rfl) (by kernel_rfl) (fun _ _ _ h => h) (Or.inl ⟨by rfl, ?_⟩) (by assumption) ?_; rotate_left; (· (intro w hSw; obtain ⟨x0, x1⟩ := hSw; go_simp; try with_reducible rfl)); (try simp only [zl1, zl2, zl3, Act.put, zl4, zl5, zl6]))
      (refine wpAnyH_take (i := 3) (v := ?_) rfl (by kernel_rfl) (by kernel_rfl) (by kernel_rfl) (fun _ _ _ h => h) (Or.inl ⟨by rfl, ?_⟩) (by assumption) ?_; rotate_left; (· (intro w hSw; obtain ⟨x0, x1⟩ := hSw; go_simp; try with_reducible rfl)); (try simp only [zl1, zl2, zl3, Act.put, zl4, zl5, zl6]))
      (refine wpAnyH_take (i := 4) (v := ?_) rfl (by kernel_rfl) (by kernel_rfl) (by kernel_rfl) (fun _ _ _ h => h) (Or.inl ⟨by rfl, ?_⟩) (by assumption) ?_; rotate_left; (· (intro w hSw; obtain ⟨x0, x1⟩ := hSw; go_simp; try with_reducible rfl)); (try simp only [zl1, zl2, zl3, Act.put, zl4, zl5, zl6]))
      refine wpAnyH_ready (rs := [2]) (by kernel_rfl) (by simp) (AllReadyH.cons rfl (fun K hK => ?_) AllReadyH.nil)
      go_simp
      refine (HP7.out _ (Below.refl w6.heap.size w6).drew).mono ?_
      rintro e w7 ⟨rfl, hb7⟩
      have HB7 := Lib.hid ((Below.refl w6.heap.size w6).drew.trans hb7)
      clear hS0
      have hS0 := HSB.out _ HB7.out
      refine hK.out _ _ hS0 (fun _ => ?_)
      clear hK K hb7
      (try simp only [zl1, zl2, zl3, Act.put, zl4, zl5, zl6])
      refine wpAnyH_ready (rs := [5]) (by kernel_rfl) (by simp) (AllReadyH.cons rfl (fun K hK => ?_) AllReadyH.nil)
      go_simp
      refine (HRP7.out _ HB7.out).mono ?_
      rintro e w8 ⟨rfl, hb8⟩
      have HB8 := Lib.hid (HB7.out.trans (hb8.mono HB7.out.size))
      clear hS0
      have hS0 := HSB.out _ HB8.out
      refine hK.out _ _ hS0 (fun _ => ?_)
      clear hK K hb8
      (try simp only [zl1, zl2, zl3, Act.put, zl4, zl5, zl6])
      (refine wpAnyH_take (i := 6) (v := ?_) rfl (by kernel_rfl) (by kernel_rfl) (by kernel_rfl) (fun _ _ _ h => h) (Or.inl ⟨by rfl, ?_⟩) (by assumption) ?_; rotate_left; (· (intro w hSw; obtain ⟨x0, x1⟩ := hSw; go_simp; try with_reducible rfl)); (try simp only [zl1, zl2, zl3, Act.put, zl4, zl5, zl6]))
      (refine wpAnyH_take (i := 7) (v := ?_) rfl (by kernel_rfl) (by kernel_rfl) (by kernel_rfl) (fun _ _ _ h => h) (Or.inl ⟨by rfl, ?_⟩) (by assumption) ?_; rotate_left; (· (intro w hSw; obtain ⟨x0, x1⟩ := hSw; go_simp; try with_reducible rfl)); (try simp only [zl1, zl2, zl3, Act.put, zl4, zl5, zl6]))
      (refine wpAnyH_take (i := 8) (v := ?_) rfl (by kernel_rfl) (by kernel_rfl) (by kernel_rfl) (fun _ _ _ h => h) (Or.inl ⟨by rfl, ?_⟩) (by assumption) ?_; rotate_left; (· (intro w hSw; obtain ⟨x0, x1⟩ := hSw; go_simp; try with_reducible rfl)); (try simp only [zl1, zl2, zl3, Act.put, zl4, zl5, zl6]))
      (refine wpAnyH_take (i := 9) (v := ?_) rfl (by kernel_rfl) (by kernel_rfl) (by kernel_rfl) (fun _ _ _ h => h) (Or.inl ⟨by rfl, ?_⟩) (by assumption) ?_; rotate_left; (· (intro w hSw; obtain ⟨x0, x1⟩ := hSw; go_simp; try with_reducible rfl)); (try simp only [zl1, zl2, zl3, Act.put, zl4, zl5, zl6]))
      refine wpAnyH_ready (rs := [10]) (by kernel_rfl) (by simp) (AllReadyH.cons rfl (fun K hK => ?_) AllReadyH.nil)
      go_simp
      refine (HQ1.out _ HB8.out).mono ?_
      rintro e w9 ⟨rfl, hb9⟩
      have HB9 := Lib.hid (HB8.out.trans (hb9.mono HB8.out.size))
      clear hS0
      have hS0 := HSB.out _ HB9.out
      refine hK.out _ _ hS0 (fun _ => ?_)
      clear hK K hb9
      (try simp only [zl1, zl2, zl3, Act.put, zl4, zl5, zl6])
      (refine wpAnyH_take (i := 11) (v := ?_) rfl (by kernel_rfl) (by kernel_rfl) (by kernel_rfl) (fun _ _ _ h => h) (Or.inl ⟨by rfl, ?_⟩) (by assumption) ?_; rotate_left; (· (intro w hSw; obtain ⟨x0, x1⟩ := hSw; go_simp; try with_reducible rfl)); (try simp only [zl1, zl2, zl3, Act.put, zl4, zl5, zl6]))
      (refine wpAnyH_take (i := 12) (v := ?_) rfl (by kernel_rfl) (by kernel_rfl) (by kernel_rfl) (fun _ _ _ h => h) (Or.inl ⟨by rfl, ?_⟩) (by assumption) ?_; rotate_left; (· (intro w hSw; obtain ⟨x0, x1⟩ := hSw; go_simp; try with_reducible rfl)); (try simp only [zl1, zl2, zl3, Act.put, zl4, zl5, zl6]))
      (refine wpAnyH_take (i := 13) (v := ?_) rfl (by kernel_rfl) (by kernel_rfl) (by kernel_rfl) (fun _ _ _ h => h) (Or.inl ⟨by rfl, ?_⟩) (by assumption) ?_; rotate_left; (· (intro w hSw; obtain ⟨x0, x1⟩ := hSw; go_simp; try with_reducible rfl)); (try simp only [zl1, zl2, zl3, Act.put, zl4, zl5, zl6]))
      (refine wpAnyH_take (i := 14) (v := ?_) rfl (by kernel_rfl) (by kernel_rfl) (by kernel_rfl) (fun _ _ _ h => h) (Or.inl ⟨by rfl, ?_⟩) (by assumption) ?_; rotate_left; (· (intro w hSw; obtain ⟨x0, x1⟩ := hSw; go_simp; try with_reducible rfl)); (try simp only [zl1, zl2, zl3, Act.put, zl4, zl5, zl6]))
      (refine wpAnyH_take (i := 15) (v := ?_) rfl (by kernel_rfl) (by kernel_rfl) (by kernel_rfl) (fun _ _ _ h => h) (Or.inl ⟨by rfl, ?_⟩) (by assumption) ?_; rotate_left; (· (intro w hSw; obtain ⟨x0, x1⟩ := hSw; go_simp; try with_reducible rfl)); (try simp only [zl1, zl2, zl3, Act.put, zl4, zl5, zl6]))
      (refine wpAnyH_take (i := 16) (v := ?_) rfl (by kernel_rfl) (by kernel_rfl) (by kernel_rfl) (fun _ _ _ h => h) (Or.inl ⟨by rfl, ?_⟩) (by assumption) ?_; rotate_left; (· (intro w hSw; obtain ⟨x0, x1⟩ := hSw; go_simp; try with_reducible rfl)); (try simp only [zl1, zl2, zl3, Act.put, zl4, zl5, zl6]))
      (refine wpAnyH_take (i := 17) (v := ?_) rfl (by kernel_rfl) (by kernel_rfl) (by kernel_rfl) (fun _ _ _ h => h) (Or.inl ⟨by rfl, ?_⟩) (by assumption) ?_; rotate_left; (· (intro w hSw; obtain ⟨x0, x1⟩ := hSw; go_simp; try with_reducible rfl)); (try simp only [zl1, zl2, zl3, Act.put, zl4, zl5, zl6]))
      (refine wpAnyH_take (i := 18) (v := ?_) rfl (by kernel_rfl) (by kernel_rfl) (by kernel_rfl) (fun _ _ _ h => h) (Or.inl ⟨by rfl, ?_⟩) (by assumption) ?_; rotate_left; (· (intro w hSw; obtain ⟨x0, x1⟩ := hSw; go_simp; try with_reducible rfl)); (try simp only [zl1, zl2, zl3, Act.put, zl4, zl5, zl6]))
      (refine wpAnyH_take (i := 19) (v := ?_) rfl (by kernel_rfl) (by kernel_rfl) (by kernel_rfl) (fun _ _ _ h => h) (Or.inl ⟨by rfl, ?_⟩) (by assumption) ?_; rotate_left; (· (intro w hSw; obtain ⟨x0, x1⟩ := hSw; go_simp; try with_reducible rfl)); (try simp only [zl1, zl2, zl3, Act.put, zl4, zl5, zl6]))
      refine wpAnyH_ready (rs := [20]) (by kernel_rfl) (by simp) (AllReadyH.cons rfl (fun K hK => ?_) AllReadyH.nil)
      go_simp
      refine (HQ2.out _ HB9.out).mono ?_
      rintro e w10 ⟨rfl, hb10⟩
      have HB10 := Lib.hid (HB9.out.trans (hb10.mono HB9.out.size))
      clear hS0
      have hS0 := HSB.out _ HB10.out
      refine hK.out _ _ hS0 (fun _ => ?_)
      clear hK K hb10
      (try simp only [zl1, zl2, zl3, Act.put, zl4, zl5, zl6])
      (refine wpAnyH_take (i := 21) (v := ?_) rfl (by kernel_rfl) (by kernel_rfl) (by kernel_rfl) (fun _ _ _ h => h) (Or.inl ⟨by rfl, ?_⟩) (by assumption) ?_; rotate_left; (· (intro w hSw; obtain ⟨x0, x1⟩ := hSw; go_simp; try with_reducible rfl)); (try simp only [zl1, zl2, zl3, Act.put, zl4, zl5, zl6]))
      (refine wpAnyH_take (i := 22) (v := ?_) rfl (by kernel_rfl) (by kernel_rfl) (by kernel_rfl) (fun _ _ _ h => h) (Or.inl ⟨by rfl, ?_⟩) (by assumption) ?_; rotate_left; (· (intro w hSw; obtain ⟨x0, x1⟩ := hSw; go_simp; try with_reducible rfl)); (try simp only [zl1, zl2, zl3, Act.put, zl4, zl5, zl6]))
      (refine wpAnyH_take (i := 23) (v := ?_) rfl (by kernel_rfl) (by kernel_rfl) (by kernel_rfl) (fun _ _ _ h => h) (Or.inl ⟨by rfl, ?_⟩) (by assumption) ?_; rotate_left; (· (intro w hSw; obtain ⟨x0, x1⟩ := hSw; go_simp; try with_reducible rfl)); (try simp only [zl1, zl2, zl3, Act.put, zl4, zl5, zl6]))
      (refine wpAnyH_take (i := 24) (v := ?_) rfl (by kernel_rfl) (by kernel_rfl) (by kernel_rfl) (fun _ _ _ h => h) (Or.inl ⟨by rfl, ?_⟩) (by assumption) ?_; rotate_left; (· (intro w hSw; obtain ⟨x0, x1⟩ := hSw; go_simp; try with_reducible rfl)); (try simp only [zl1, zl2, zl3, Act.put, zl4, zl5, zl6]))
      (refine wpAnyH_take (i := 25) (v := ?_) rfl (by kernel_rfl) (by kernel_rfl) (by kernel_rfl) (fun _ _ _ h => h) (Or.inl ⟨by rfl, ?_⟩) (by assumption) ?_; rotate_left; (· (intro w hSw; obtain ⟨x0, x1⟩ := hSw; go_simp; try with_reducible rfl)); (try simp only [zl1, zl2, zl3, Act.put, zl4, zl5, zl6]))
      (refine wpAnyH_take (i := 26) (v := ?_) rfl (by kernel_rfl) (by kernel_rfl) (by kernel_rfl) (fun _ _ _ h => h) (Or.inl ⟨by rfl, ?_⟩) (by assumption) ?_; rotate_left; (· (intro w hSw; obtain ⟨x0, x1⟩ := hSw; go_simp; try with_reducible rfl)); (try simp only [zl1, zl2, zl3, Act.put, zl4, zl5, zl6]))
      (refine wpAnyH_take (i := 27) (v := ?_) rfl (by kernel_rfl) (by kernel_rfl) (by kernel_rfl) (fun _ _ _ h => h) (Or.inl ⟨by rfl, ?_⟩) (by assumption) ?_; rotate_left; (· (intro w hSw; obtain ⟨x0, x1⟩ := hSw; go_simp; try with_reducible rfl)); (try simp only [zl1, zl2, zl3, Act.put, zl4, zl5, zl6]))
      refine wpAnyH_done (by kernel_rfl) ?_ _
      refine NoPanic.normal ?_
      go_wp2_with fail
      go_ret
      exact ⟨rfl, HB6.out.bel.trans (HB10.out.mono HB6.out.bel.size)⟩
end Go.Proofs.YtenfkejbndifdaaGreatDoor
