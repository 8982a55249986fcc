/- The law MvsExplains returns true. -/
import Derived.Test.YtenfkejbndifdaaGreatDoorZL
import Derived.Test.YtenfkejbndifdaaGreatDoorYT
import Derived.Test.YtenfkejbndifdaaGreatDoorYK
namespace Go.Proofs.YtenfkejbndifdaaGreatDoor
set_option linter.unusedVariables false
set_option linter.unusedSimpArgs false
open Go Go.RowKit

structure ExpB (w : World) (v iv : Value) (p : ByteArray) (r : Int) (cv : Value) (W : World) : Prop where
  bel : Below w.heap.size w W
  idx : W.heap[w.heap.size]? = some (.cells #[v, iv] 25 (0, 0))
  cau : W.heap[w.heap.size + 1]? = some (.cells #[.string p, .int .i64 r, cv] 29 (0, 0))
section
variable {w : World} {v iv : Value} {p : ByteArray} {r : Int} {cv : Value} {W W' : World}
theorem ExpB.lt (h : ExpB w v iv p r cv W) : w.heap.size + 1 < W.heap.size := (Array.getElem?_eq_some_iff.1 h.cau).1
theorem ExpB.below (h : ExpB w v iv p r cv W) (hb : Below W.heap.size W W') : ExpB w v iv p r cv W' := by
  have hl := h.lt
  exact ⟨h.bel.trans (hb.mono h.bel.size), (hb.block _ (by omega)).trans h.idx, (hb.block _ hl).trans h.cau⟩
end
theorem ExpB.start (w : World) (v iv : Value) (p : ByteArray) (r : Int) (cv : Value) : ExpB w v iv p r cv ((w.alloc (.cells #[v, iv] 25)).alloc (.cells #[.string p, .int .i64 r, cv] 29)) := by
  refine ⟨(by repeat (first | exact Below.refl _ _ | refine Below.drew ?_ | refine Below.alloc ?_ (by simp <;> omega) _ | refine Below.setCell ?_ (by simp <;> omega) _)), ?_, ?_⟩
  · (simp only [alloc_get, World.size_alloc]; repeat (first | rw [if_pos trivial] | rw [if_neg (by omega)] | rw [if_pos (by omega)]))
  · (simp only [alloc_get, World.size_alloc]; repeat (first | rw [if_pos trivial] | rw [if_neg (by omega)] | rw [if_pos (by omega)]))
def CauAt (W : World) (g : Nat) (p : ByteArray) (r : Int) (v : Value) : Prop := W.heap[g]? = some (.cells #[.string p, .int .i64 r, v] 29 (0, 0))
theorem CauAt.lt {W : World} {g : Nat} {p : ByteArray} {r : Int} {v : Value} (h : CauAt W g p r v) : g < W.heap.size := (Array.getElem?_eq_some_iff.1 h).1
theorem CauAt.on {W W' : World} {g : Nat} {p : ByteArray} {r : Int} {v : Value} (h : CauAt W g p r v) (hb : Below W.heap.size W W') : CauAt W' g p r v := (hb.block g h.lt).trans h
theorem CauAt.cells {W : World} {g : Nat} {p : ByteArray} {r : Int} {v : Value} (h : CauAt W g p r v) : W.cell? ⟨g, 0, none⟩ = some (.string p) ∧ W.cell? ⟨g, 1, none⟩ = some (.int .i64 r) ∧ W.cell? ⟨g, 2, none⟩ = some v := ⟨cell_of_row _ _ 0 _ _ _ h, cell_of_row _ _ 1 _ _ _ h, cell_of_row _ _ 2 _ _ _ h⟩
def HeldE (g ga gb : Nat) (v iv : Value) (p : ByteArray) (r : Int) (cv : Value) (P : ByteArray) (R : Int) (av bv : Value) (W : World) : Prop :=
  (W.cell? ⟨g, 0, none⟩ = some v ∧ W.cell? ⟨g, 1, none⟩ = some iv) ∧ (W.cell? ⟨g + 1, 0, none⟩ = some (.string p) ∧ W.cell? ⟨g + 1, 1, none⟩ = some (.int .i64 r) ∧ W.cell? ⟨g + 1, 2, none⟩ = some cv) ∧
  (W.cell? ⟨ga, 0, none⟩ = some (.string P) ∧ W.cell? ⟨ga, 1, none⟩ = some (.int .i64 R) ∧ W.cell? ⟨ga, 2, none⟩ = some av) ∧ (W.cell? ⟨gb, 0, none⟩ = some (.string P) ∧ W.cell? ⟨gb, 1, none⟩ = some (.int .i64 R) ∧ W.cell? ⟨gb, 2, none⟩ = some bv)
theorem whyV_len {X : List RelL} {roots : List ReqL} {p : ByteArray} : (whyV X roots p).1.2.2.length ≤ X.length + 1 := by
  by_cases h0 : (selM false X roots).2 = 0
  · have hpa := selM_zero h0
    cases ht : tgtM X roots p with
    | none => rw [whyV_none hpa.1 hpa.2 ht]; exact Nat.zero_le _
    | some t =>
      have htX : t < X.length := by
        unfold tgtM at ht
        exact (topM_mem.1 (List.mem_of_find?_eq_some ht)).1.lt.1
      rw [whyV_best h0 ht]
      simp only [List.length_map]
      exact (bestW_path htX).2
  · rw [whyV_err h0]; exact Nat.zero_le _
set_option maxRecDepth 100000 in
set_option maxHeartbeats 16000000 in
theorem MvsExplains_any (a : Option Addr) (c : Nat) (iv : Value) (X : List RelL) (rov : Value) (roots : List ReqL) (p p2 : ByteArray) (r : Int) (cv : Value) (ch : List SelL) (w : World) (hm : MaxOk w) (h0 : RelsOf w.heap.size (.slice a X.length c) X w ∧ X.length ≤ maxLen ∧ ∀ x ∈ X, x.reqs.length ≤ maxLen)
    (h1 : ReqsOf w.heap.size rov roots w ∧ roots.length ≤ maxLen) (hcap : CapOk rov) (h2 : SelsOf w.heap.size cv ch w) (hs : ch.length ≤ maxLen) : Calls Tryz.prog 3 #[.agg #[.slice a X.length c, iv], rov, .string p, .agg #[.string p2, .int .i64 r, cv]] w fun e w' => e = .returned (.bool true) ∧ Below w.heap.size w w' := by
  obtain ⟨hR, hX, hXr⟩ := h0
  obtain ⟨hRo, hro⟩ := h1
  have HM := Lib.hid hm
  have HR := Lib.hid hR
  have HRo := Lib.hid hRo
  have HCH := Lib.hid h2
  have HCP := Lib.hid hcap
  obtain ⟨ra, rc, rfl⟩ : ∃ ra rc, rov = .slice ra roots.length rc := by obtain ⟨a, c, e, _⟩ := hRo; exact ⟨a, c, e⟩
  obtain ⟨ka, kc, rfl⟩ : ∃ ra rc, cv = .slice ra ch.length rc := by obtain ⟨a, c, e, _⟩ := h2; exact ⟨a, c, e⟩
  have HAW := Lib.hid (fun W (hb : RowKit.Below w.heap.size w W) => awake34_any W (hm.below hb hm.pos))
  have HFEW := Lib.hid (fun W (hb : RowKit.Below w.heap.size w W) => few34_any a c iv (.slice ra roots.length rc) X roots W hX hXr (hR.on hb) hro (hRo.on hb))
  clear hm hR hRo h2 hcap
  have HB0 := Lib.hid (ExpB.start w (.slice a X.length c) iv p2 r (.slice ka ch.length kc))
  go_enter Tryz.func3, Tryz.ntmps3
  go_upto_region 1 with fail
  generalize (w.alloc (.cells #[.slice a X.length c, iv] 25)).alloc (.cells #[.string p2, .int .i64 r, .slice ka ch.length kc] 29) = W at *
  go_wp2_with fail
  refine (HAW.out _ HB0.out.bel).mono ?_
  rintro e w1 ⟨rfl, hb1⟩
  have HB1 := Lib.hid (HB0.out.below hb1)
  clear hb1 HAW
  have c0 : w1.cell? ⟨w.heap.size, 0, none⟩ = some (.slice a X.length c) := cell_of_row _ _ 0 _ _ _ HB1.out.idx
  have c1 : w1.cell? ⟨w.heap.size, 1, none⟩ = some iv := cell_of_row _ _ 1 _ _ _ HB1.out.idx
  by_cases hp : 100 < p.size
  case pos =>
    have e1 : decide ((100 : Int) < (p.size : Int)) = true := decide_eq_true (by omega)
    have e2 : decide (100 < p.size) = true := decide_eq_true hp
    go_wp2_with fail
    refine (HFEW.out _ HB1.out.bel).mono ?_
    rintro e w2 ⟨fb, rfl, hfb, hb2⟩
    have HB2 := Lib.hid (HB1.out.below hb2)
    clear hb2 hfb c0 c1
    cases fb
    all_goals
      go_wp2_with fail
      go_ret
      exact ⟨rfl, HB2.out.bel⟩
  case neg =>
  have e1 : decide ((100 : Int) < (p.size : Int)) = false := decide_eq_false (by omega)
  have e2 : decide (100 < p.size) = false := decide_eq_false hp
  go_wp2_with fail
  refine (HFEW.out _ HB1.out.bel).mono ?_
  rintro e w2 ⟨fb, rfl, hfb, hb2⟩
  have HB2 := Lib.hid (HB1.out.below hb2)
  have HFB := Lib.hid hfb
  clear hb2 hfb c0 c1 HFEW
  have k2 : w2.cell? ⟨w.heap.size + 1, 2, none⟩ = some (.slice ka ch.length kc) := cell_of_row _ _ 2 _ _ _ HB2.out.cau
  have c0 : w2.cell? ⟨w.heap.size, 0, none⟩ = some (.slice a X.length c) := cell_of_row _ _ 0 _ _ _ HB2.out.idx
  have c1 : w2.cell? ⟨w.heap.size, 1, none⟩ = some iv := cell_of_row _ _ 1 _ _ _ HB2.out.idx
  cases fb with
  | false =>
    go_wp2_with fail
    go_ret
    exact ⟨rfl, HB2.out.bel⟩
  | true =>
    by_cases hch : 20 < ch.length
    case pos =>
      have e3 : decide ((20 : Int) < (ch.length : Int)) = true := decide_eq_true (by omega)
      have e4 : decide (20 < ch.length) = true := decide_eq_true hch
      go_wp2_with fail
      go_ret
      exact ⟨rfl, HB2.out.bel⟩
    case neg =>
    have e3 : decide ((20 : Int) < (ch.length : Int)) = false := decide_eq_false (by omega)
    have e4 : decide (20 < ch.length) = false := decide_eq_false hch
    have HRB := Lib.hid (HFB.out rfl).1.bd
    have HQB := Lib.hid (HFB.out rfl).2.bd
    have hX2 : X.length ≤ 20 := (HFB.out rfl).1.len
    have hro2 : roots.length ≤ 1000000 := by have := (HFB.out rfl).2.len; omega
    have HY1 := Lib.hid (fun W (hb : RowKit.Below w.heap.size w W) => Why_any (.slice a X.length c) iv (.slice ra roots.length rc) X roots p W (HM.out.below hb HM.out.pos) (by omega) HRB.out (HR.out.on hb) hro2 HQB.out (HRo.out.on hb))
    have HY2 := Lib.hid (fun W (hb : RowKit.Below w.heap.size w W) => rWhy34_any (.slice a X.length c) iv (.slice ra roots.length rc) X roots p W (by omega) HRB.out (HR.out.on hb) hro2 HQB.out (HRo.out.on hb))
    have HC1 := Lib.hid (fun W (hb : RowKit.Below w.heap.size w W) => Check_any (.slice a X.length c) iv (.slice ra roots.length rc) (.slice ka ch.length kc) X roots p2 r ch W (HM.out.below hb HM.out.pos) (by omega) HRB.out (HR.out.on hb) hro2 HQB.out (HRo.out.on hb) HCP.out (by omega) (HCH.out.on hb))
    have HC2 := Lib.hid (fun W (hb : RowKit.Below w.heap.size w W) => rCheck34_any (.slice a X.length c) iv (.slice ra roots.length rc) (.slice ka ch.length kc) X roots p2 r ch W (by omega) HRB.out (HR.out.on hb) hro2 HQB.out (HRo.out.on hb) (by omega) (HCH.out.on hb))
    have HWL := Lib.hid (@whyV_len X roots p)
    unfold WhyR at HY1
    unfold WhyRr at HY2
    generalize whyV X roots p = WV at *
    obtain ⟨⟨P, R, C⟩, E⟩ := WV
    simp only at HY1 HY2 HWL
    have hCl : C.length ≤ 1000000 := by have := HWL.out; omega
    generalize checkV X roots (p2, r, ch) = kb at *
    clear HFB HWL
    go_wp2_with fail
    refine (HY1.out _ HB2.out.bel).mono ?_
    rintro e w3 ⟨hb3, av, rfl, ha3, _⟩
    have HB3 := Lib.hid (HB2.out.below hb3)
    have HA3 := Lib.hid ha3
    obtain ⟨aa, ac, rfl⟩ : ∃ x y, av = .slice x C.length y := by obtain ⟨x, y, e, _⟩ := ha3; exact ⟨x, y, e⟩
    clear hb3 ha3 HY1 c0 c1 k2 HB2
    have HB4 := Lib.hid (HB3.out.below (belQ w3 (.cells #[.string P, .int .i64 R, .slice aa C.length ac] 29)))
    have HA4 := Lib.hid (HA3.out.on (belQ w3 (.cells #[.string P, .int .i64 R, .slice aa C.length ac] 29)))
    have HG4 : Hid (CauAt (w3.alloc (.cells #[.string P, .int .i64 R, .slice aa C.length ac] 29)) w3.heap.size P R (.slice aa C.length ac)) := Lib.hid (World.alloc_heap_new w3 _)
    have c0 : (w3.alloc (.cells #[.string P, .int .i64 R, .slice aa C.length ac] 29)).cell? ⟨w.heap.size, 0, none⟩ = some (.slice a X.length c) := cell_of_row _ _ 0 _ _ _ HB4.out.idx
    have c1 : (w3.alloc (.cells #[.string P, .int .i64 R, .slice aa C.length ac] 29)).cell? ⟨w.heap.size, 1, none⟩ = some iv := cell_of_row _ _ 1 _ _ _ HB4.out.idx
    go_upto_region 6 with fail
    generalize w3.alloc (.cells #[.string P, .int .i64 R, .slice aa C.length ac] 29) = w4 at *
    obtain ⟨ga, hga⟩ : ∃ ga, w3.heap.size = ga := ⟨_, rfl⟩
    rw [hga] at HG4
    simp only [hga]
    clear hga HA3 HB3
    go_wp2_with fail
    refine (HY2.out _ HB4.out.bel).mono ?_
    rintro e w5 ⟨hb5, bv, rfl, ha5⟩
    have HB5 := Lib.hid (HB4.out.below hb5)
    have HA5 := Lib.hid (HA4.out.on hb5)
    have HG5 := Lib.hid (HG4.out.on hb5)
    have HBV5 := Lib.hid ha5
    obtain ⟨ba, bc, rfl⟩ : ∃ x y, bv = .slice x C.length y := by obtain ⟨x, y, e, _⟩ := ha5; exact ⟨x, y, e⟩
    clear hb5 ha5 HY2 c0 c1 HB4 HA4 HG4
    have hbl := belQ w5 (.cells #[.string P, .int .i64 R, .slice ba C.length bc] 29)
    have HB6 := Lib.hid (HB5.out.below hbl)
    have HA6 := Lib.hid (HA5.out.on hbl)
    have HG6 := Lib.hid (HG5.out.on hbl)
    have HBV6 := Lib.hid (HBV5.out.on hbl)
    have HK6 : Hid (CauAt (w5.alloc (.cells #[.string P, .int .i64 R, .slice ba C.length bc] 29)) w5.heap.size P R (.slice ba C.length bc)) := Lib.hid (World.alloc_heap_new w5 _)
    clear hbl
    go_upto_region 7 with fail
    generalize w5.alloc (.cells #[.string P, .int .i64 R, .slice ba C.length bc] 29) = w6 at *
    obtain ⟨gb, hgb⟩ : ∃ gb, w5.heap.size = gb := ⟨_, rfl⟩
    rw [hgb] at HK6
    simp only [hgb]
    clear hgb HB5 HA5 HG5 HBV5
    have HSB : Hid (∀ W', Below w6.heap.size w6 W' → HeldE w.heap.size ga gb (.slice a X.length c) iv p2 r (.slice ka ch.length kc) P R (.slice aa C.length ac) (.slice ba C.length bc) W') := Lib.hid (fun W' hb => ⟨⟨cell_of_row _ _ 0 _ _ _ (HB6.out.below hb).idx, cell_of_row _ _ 1 _ _ _ (HB6.out.below hb).idx⟩, ⟨cell_of_row _ _ 0 _ _ _ (HB6.out.below hb).cau, cell_of_row _ _ 1 _ _ _ (HB6.out.below hb).cau, cell_of_row _ _ 2 _ _ _ (HB6.out.below hb).cau⟩, (HG6.out.on hb).cells, (HK6.out.on hb).cells⟩)
    have HSC := Lib.hid (fun W (hb : Below w6.heap.size w6 W) => sameCause_any (.slice aa C.length ac) (.slice ba C.length bc) P P R R C C W hCl hCl (HA6.out.on hb) (HBV6.out.on hb))
    have HK1 := Lib.hid (fun W (hb : Below w6.heap.size w6 W) => HC1.out W (HB6.out.bel.trans (hb.mono HB6.out.bel.size)))
    have HK2 := Lib.hid (fun W (hb : Below w6.heap.size w6 W) => HC2.out W (HB6.out.bel.trans (hb.mono HB6.out.bel.size)))
    simp only [and_self, decide_true] at HSC
    clear HC1 HC2 HA6 HBV6 HG6 HK6
    cases kb
    all_goals
      refine wp_region_noPanic ?_
      refine wp_region_held_drew (S := HeldE w.heap.size ga gb (.slice a X.length c) iv p2 r (.slice ka ch.length kc) P R (.slice aa C.length ac) (.slice ba C.length bc)) (by kernel_rfl) (HSB.out _ (Below.refl _ _).drew) (fun hS0 => ?_)
      (refine zl2 (i := 0) (v := ?_) rfl (Or.inl ⟨by rfl, ?_⟩) (by assumption) ?_; rotate_left; (· (rintro w ⟨⟨x0, x1⟩, ⟨y0, y1, y2⟩, ⟨z0, z1, z2⟩, u0, u1, u2⟩; go_simp; try with_reducible rfl)); (try simp only [zl1, Act.put]))
      (refine zl2 (i := 1) (v := ?_) rfl (Or.inl ⟨by rfl, ?_⟩) (by assumption) ?_; rotate_left; (· (rintro w ⟨⟨x0, x1⟩, ⟨y0, y1, y2⟩, ⟨z0, z1, z2⟩, u0, u1, u2⟩; go_simp; try with_reducible rfl)); (try simp only [zl1, Act.put]))
      refine wpAnyH_ready (rs := [2]) (by kernel_rfl) (by simp) (AllReadyH.cons rfl (fun K hK => ?_) AllReadyH.nil)
      go_simp
      refine (HSC.out _ (Below.refl w6.heap.size w6).drew).mono ?_
      rintro e w7 ⟨rfl, hb7⟩
      have HB7 := Lib.hid ((Below.refl w6.heap.size w6).drew.trans hb7)
      clear hS0
      have hS0 := HSB.out _ HB7.out
      refine hK.out _ _ hS0 (fun _ => ?_)
      clear hK K hb7
      (try simp only [zl1, Act.put])
      (refine zl2 (i := 3) (v := ?_) rfl (Or.inl ⟨by rfl, ?_⟩) (by assumption) ?_; rotate_left; (· (rintro w ⟨⟨x0, x1⟩, ⟨y0, y1, y2⟩, ⟨z0, z1, z2⟩, u0, u1, u2⟩; go_simp; try with_reducible rfl)); (try simp only [zl1, Act.put]))
      (refine zl2 (i := 4) (v := ?_) rfl (Or.inl ⟨by rfl, ?_⟩) (by assumption) ?_; rotate_left; (· (rintro w ⟨⟨x0, x1⟩, ⟨y0, y1, y2⟩, ⟨z0, z1, z2⟩, u0, u1, u2⟩; go_simp; try with_reducible rfl)); (try simp only [zl1, Act.put]))
      (refine zl2 (i := 5) (v := ?_) rfl (Or.inl ⟨by rfl, ?_⟩) (by assumption) ?_; rotate_left; (· (rintro w ⟨⟨x0, x1⟩, ⟨y0, y1, y2⟩, ⟨z0, z1, z2⟩, u0, u1, u2⟩; go_simp; try with_reducible rfl)); (try simp only [zl1, Act.put]))
      (refine zl2 (i := 6) (v := ?_) rfl (Or.inl ⟨by rfl, ?_⟩) (by assumption) ?_; rotate_left; (· (rintro w ⟨⟨x0, x1⟩, ⟨y0, y1, y2⟩, ⟨z0, z1, z2⟩, u0, u1, u2⟩; go_simp; try with_reducible rfl)); (try simp only [zl1, Act.put]))
      (refine zl2 (i := 7) (v := ?_) rfl (Or.inl ⟨by rfl, ?_⟩) (by assumption) ?_; rotate_left; (· (rintro w ⟨⟨x0, x1⟩, ⟨y0, y1, y2⟩, ⟨z0, z1, z2⟩, u0, u1, u2⟩; go_simp; try with_reducible rfl)); (try simp only [zl1, Act.put]))
      (refine zl2 (i := 8) (v := ?_) rfl (Or.inl ⟨by rfl, ?_⟩) (by assumption) ?_; rotate_left; (· (rintro w ⟨⟨x0, x1⟩, ⟨y0, y1, y2⟩, ⟨z0, z1, z2⟩, u0, u1, u2⟩; go_simp; try with_reducible rfl)); (try simp only [zl1, Act.put]))
      (refine zl2 (i := 9) (v := ?_) rfl (Or.inl ⟨by rfl, ?_⟩) (by assumption) ?_; rotate_left; (· (rintro w ⟨⟨x0, x1⟩, ⟨y0, y1, y2⟩, ⟨z0, z1, z2⟩, u0, u1, u2⟩; go_simp; try with_reducible rfl)); (try simp only [zl1, Act.put]))
      (refine zl2 (i := 10) (v := ?_) rfl (Or.inl ⟨by rfl, ?_⟩) (by assumption) ?_; rotate_left; (· (rintro w ⟨⟨x0, x1⟩, ⟨y0, y1, y2⟩, ⟨z0, z1, z2⟩, u0, u1, u2⟩; go_simp; try with_reducible rfl)); (try simp only [zl1, Act.put]))
      (refine zl2 (i := 11) (v := ?_) rfl (Or.inl ⟨by rfl, ?_⟩) (by assumption) ?_; rotate_left; (· (rintro w ⟨⟨x0, x1⟩, ⟨y0, y1, y2⟩, ⟨z0, z1, z2⟩, u0, u1, u2⟩; go_simp; try with_reducible rfl)); (try simp only [zl1, Act.put]))
      (refine zl2 (i := 13) (v := ?_) rfl (Or.inl ⟨by rfl, ?_⟩) (by assumption) ?_; rotate_left; (· (rintro w ⟨⟨x0, x1⟩, ⟨y0, y1, y2⟩, ⟨z0, z1, z2⟩, u0, u1, u2⟩; go_simp; try with_reducible rfl)); (try simp only [zl1, Act.put]))
      (refine zl2 (i := 14) (v := ?_) rfl (Or.inl ⟨by rfl, ?_⟩) (by assumption) ?_; rotate_left; (· (rintro w ⟨⟨x0, x1⟩, ⟨y0, y1, y2⟩, ⟨z0, z1, z2⟩, u0, u1, u2⟩; go_simp; try with_reducible rfl)); (try simp only [zl1, Act.put]))
      (refine zl2 (i := 15) (v := ?_) rfl (Or.inl ⟨by rfl, ?_⟩) (by assumption) ?_; rotate_left; (· (rintro w ⟨⟨x0, x1⟩, ⟨y0, y1, y2⟩, ⟨z0, z1, z2⟩, u0, u1, u2⟩; go_simp; try with_reducible rfl)); (try simp only [zl1, Act.put]))
      refine wpAnyH_ready (rs := [12]) (by kernel_rfl) (by simp) (AllReadyH.cons rfl (fun K hK => ?_) AllReadyH.nil)
      go_simp
      refine (HK1.out _ HB7.out).mono ?_
      rintro e w8 ⟨rfl, hb8⟩
      have HB8 := Lib.hid (HB7.out.trans (hb8.mono HB7.out.size))
      clear hS0
      have hS0 := HSB.out _ HB8.out
      refine hK.out _ _ hS0 (fun _ => ?_)
      clear hK K hb8
      (try simp only [zl1, Act.put])
      refine wpAnyH_ready (rs := [16]) (by kernel_rfl) (by simp) (AllReadyH.cons rfl (fun K hK => ?_) AllReadyH.nil)
      go_simp
      refine (HK2.out _ HB8.out).mono ?_
      rintro e w9 ⟨rfl, hb9⟩
      have HB9 := Lib.hid (HB8.out.trans (hb9.mono HB8.out.size))
      clear hS0
      have hS0 := HSB.out _ HB9.out
      refine hK.out _ _ hS0 (fun _ => ?_)
      clear hK K hb9
      (try simp only [zl1, Act.put])
      (refine zl2 (i := 17) (v := ?_) rfl (Or.inl ⟨by rfl, ?_⟩) (by assumption) ?_; rotate_left; (· (rintro w ⟨⟨x0, x1⟩, ⟨y0, y1, y2⟩, ⟨z0, z1, z2⟩, u0, u1, u2⟩; go_simp; try with_reducible rfl)); (try simp only [zl1, Act.put]))
      (refine zl2 (i := 18) (v := ?_) rfl (Or.inl ⟨by rfl, ?_⟩) (by assumption) ?_; rotate_left; (· (rintro w ⟨⟨x0, x1⟩, ⟨y0, y1, y2⟩, ⟨z0, z1, z2⟩, u0, u1, u2⟩; go_simp; try with_reducible rfl)); (try simp only [zl1, Act.put]))
      (refine zl2 (i := 19) (v := ?_) rfl (Or.inl ⟨by rfl, ?_⟩) (by assumption) ?_; rotate_left; (· (rintro w ⟨⟨x0, x1⟩, ⟨y0, y1, y2⟩, ⟨z0, z1, z2⟩, u0, u1, u2⟩; go_simp; try with_reducible rfl)); (try simp only [zl1, Act.put]))
      refine wpAnyH_done (by kernel_rfl) ?_ _
      refine NoPanic.normal ?_
      go_wp2_with fail
      go_ret
      exact ⟨rfl, HB6.out.bel.trans (HB9.out.mono HB6.out.bel.size)⟩
end Go.Proofs.YtenfkejbndifdaaGreatDoor
