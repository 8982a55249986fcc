/- Contracts of the reference 34: upward, Plain, named. -/
import Derived.Test.YtenfkejbndifdaaGreatDoorUY
import Derived.Test.YtenfkejbndifdaaGreatDoorVD
import Derived.Test.YtenfkejbndifdaaGreatDoorVG
import Derived.Test.YtenfkejbndifdaaGreatDoorUW
namespace Go.Proofs.YtenfkejbndifdaaGreatDoor
set_option linter.unusedVariables false
set_option linter.unusedSimpArgs false
open Go Go.RowKit

set_option maxRecDepth 100000 in
set_option maxHeartbeats 4000000 in
theorem rupward34_any (v : Value) (l : List ReqL) (w : World) (hl : l.length ≤ 1000000) (hq : ReqsBd l) (hR : ReqsOf w.heap.size v l w) :
    Calls Tryz.prog 78 #[v] w fun e w' => e = .returned (.bool (upAll l)) ∧ Below w.heap.size w w' := by
  have HR := Lib.hid hR
  have HQ := Lib.hid hq
  obtain ⟨U, hU⟩ : ∃ U, upAll l = U := ⟨_, rfl⟩
  have HU := Lib.hid hU
  rw [hU]
  obtain ⟨la, lc, rfl⟩ : ∃ la lc, v = .slice la l.length lc := by obtain ⟨a, c, e, _⟩ := hR; exact ⟨a, c, e⟩
  clear hR hq hU
  go_enter Tryz.func78, Tryz.ntmps78
  go_wp2_with fail
  go_loopw [3] (fun q wr => Hid (∃ k : Nat, k ≤ l.length ∧ q = .int .i64 (k : Int) ∧ Below w.heap.size w wr ∧ ∀ x ∈ l.take k, upB (canon x.2) = true)) (fun q _ => l.length - (intOf q).toNat)
  case atStart => exact Lib.hid ⟨0, Nat.zero_le _, rfl, Below.refl _ _, fun x hx => by simp at hx⟩
  case round =>
    obtain ⟨k, hk, rfl, hw, hn⟩ := hrel.out
    have HW := Lib.hid hw
    have HN := Lib.hid hn
    clear hrel hw hn
    by_cases hlk : k < l.length
    case neg =>
      have hkk : k = l.length := Nat.le_antisymm hk (Nat.le_of_not_lt hlk)
      subst hkk
      have HUT : Hid (U = true) := Lib.hid (HU.out.symm.trans (upAll_iff.2 (by have := HN.out; rwa [List.take_length] at this)))
      go_wp2_with fail
      go_ret
      exact ⟨by rw [HUT.out]; rfl, HW.out⟩
    case pos =>
      obtain ⟨b, off, r, e1, hb, c0, c1, hsp⟩ : ∃ b off r, la = some ⟨b, off, none⟩ ∧ b < w.heap.size ∧ w.cell? ⟨b, off + k * 2, none⟩ = some (.string l[k].1) ∧ w.cell? ⟨b, off + k * 2 + 1, none⟩ = some r ∧ SpansOf w.heap.size r l[k].2 w := by
        obtain ⟨a, c, e, h⟩ := HR.out
        injection e with e1 e2 e3
        subst e1
        exact h k _ (List.getElem?_eq_getElem hlk)
      subst e1
      have hk1 : (0 : Int) ≤ (k : Int) := Int.natCast_nonneg k
      have hk2 : (k : Int) < (l.length : Int) := Int.ofNat_lt.2 hlk
      have HS1 : Hid (upB (canon l[k].2) = true → ∀ x ∈ l.take (k + 1), upB (canon x.2) = true) := Lib.hid (fun h x hx => by
        rw [List.take_succ_eq_append_getElem hlk] at hx
        rcases List.mem_append.1 hx with h1 | h1
        · exact HN.out x h1
        · rw [List.mem_singleton.1 h1]; exact h)
      have HS2 : Hid (upB (canon l[k].2) = false → U = false) := Lib.hid (fun h => by
        rw [← HU.out]
        cases hu : upAll l with
        | false => rfl
        | true => have := upAll_iff.1 hu _ (List.getElem_mem hlk); rw [h] at this; cases this)
      have hbd := (HQ.out _ (List.getElem_mem hlk)).2
      generalize l[k] = q at *
      have c1 := (HW.out.cell (p := ⟨b, off + k * 2 + 1, none⟩) hb).trans c1
      have HUP := Lib.hid (rUpward_any r q.2 wr hbd (hsp.on HW.out))
      obtain ⟨ra, rc, rfl, _⟩ := hsp
      obtain ⟨ub, hub⟩ : ∃ ub, upB (canon q.2) = ub := ⟨_, rfl⟩
      rw [hub] at HUP HS1 HS2
      clear hub c0
      go_wp2_with fail
      refine HUP.out.mono ?_
      rintro e w1 ⟨rfl, hb1⟩
      have HB1 := Lib.hid (HW.out.trans (hb1.mono HW.out.size))
      clear hb1 HUP c1
      cases ub with
      | false =>
        have HUF := Lib.hid (HS2.out rfl)
        go_wp2_with fail
        go_ret
        exact ⟨by rw [HUF.out]; rfl, HB1.out⟩
      | true =>
        have HN2 := Lib.hid (HS1.out rfl)
        go_wp2_with fail
        go_roundw
        case rel => exact Lib.hid ⟨k + 1, hlk, by go_num, HB1.out, HN2.out⟩
        case measure => simp [intOf]; omega
set_option maxRecDepth 100000 in
set_option maxHeartbeats 8000000 in
theorem rPlain34_any (v iv rov : Value) (X : List RelL) (roots : List ReqL) (w : World) (hX : X.length ≤ 1000000) (hq : ∀ x ∈ X, RelBd x) (hR : RelsOf w.heap.size v X w)
    (hro : roots.length ≤ 1000000) (hrq : ReqsBd roots) (hRo : ReqsOf w.heap.size rov roots w) :
    Calls Tryz.prog 23 #[.agg #[v, iv], rov] w (PlainR w X roots) := by
  have HC := Lib.hid (fun W (hb : Below w.heap.size w W) => rCheck32_any v iv X W hX hq (hR.on hb))
  have HQ := Lib.hid (fun W (hb : Below w.heap.size w W) => rCheckReqs_any rov roots W hro hrq (hRo.on hb))
  have HU := Lib.hid (fun W (hb : Below w.heap.size w W) => rupward34_any rov roots W hro hrq (hRo.on hb))
  obtain ⟨ao, cap, rv, rfl, hrv⟩ := hR.rv
  have HRV := Lib.hid hrv
  have HBD := Lib.hid hq
  obtain ⟨ra, rc, rfl⟩ : ∃ ra rc, rov = .slice ra roots.length rc := by obtain ⟨a, c, e, _⟩ := hRo; exact ⟨a, c, e⟩
  clear hR hRo hrq hq hrv
  obtain ⟨e1, he1⟩ : ∃ e1, checkX X = e1 := ⟨_, rfl⟩
  obtain ⟨e2, he2⟩ : ∃ e2, checkReqs roots = e2 := ⟨_, rfl⟩
  obtain ⟨b3, hb3⟩ : ∃ b3, upAll roots = b3 := ⟨_, rfl⟩
  rw [he1] at HC
  rw [he2] at HQ
  rw [hb3] at HU
  have HE1 := Lib.hid he1
  have HE2 := Lib.hid he2
  have HE3 := Lib.hid hb3
  clear he1 he2 hb3
  have HB0 := Lib.hid (LawB.start w (.slice ao X.length cap) iv)
  go_enter Tryz.func23, Tryz.ntmps23
  go_upto_region 1 with fail
  generalize w.alloc (.cells #[.slice ao X.length cap, iv] 25) = W at *
  have c0 := HB0.out.c0
  have c1 := HB0.out.c1
  go_wp2_with fail
  refine (HC.out _ HB0.out.bel).mono ?_
  rintro e w1 ⟨rfl, hb1⟩
  have HB1 := Lib.hid (HB0.out.below hb1)
  clear hb1 c0 c1 HC
  by_cases h1 : e1 = 0
  case neg =>
    have h1b : (e1 != 0) = true := by simpa using h1
    go_wp2_with fail
    go_ret
    exact PlainR.no HB1.out.bel (fun h => h1 (HE1.out.symm.trans h.idx))
  subst h1
  go_wp2_with fail
  refine (HQ.out _ HB1.out.bel).mono ?_
  rintro e w2 ⟨rfl, hb2⟩
  have HB2 := Lib.hid (HB1.out.below hb2)
  clear hb2 HQ
  by_cases h2 : e2 = 0
  case neg =>
    have h2b : (e2 != 0) = true := by simpa using h2
    go_wp2_with fail
    go_ret
    exact PlainR.no HB2.out.bel (fun h => h2 (HE2.out.symm.trans h.roots.1))
  subst h2
  go_wp2_with fail
  refine (HU.out _ HB2.out.bel).mono ?_
  rintro e w3 ⟨rfl, hb3⟩
  have HB3 := Lib.hid (HB2.out.below hb3)
  clear hb3 HU
  cases b3 with
  | false =>
    go_wp2_with fail
    go_ret
    exact PlainR.no HB3.out.bel (fun h => by have := upAll_iff.2 h.roots.2; rw [HE3.out] at this; cases this)
  | true =>
    go_wp2_with fail
    go_loopw [5] (fun q wr => Hid (∃ k : Nat, k ≤ X.length ∧ q = .int .i64 (k : Int) ∧ LawB w (.slice ao X.length cap) iv wr ∧ ∀ i, i < k → ∀ q ∈ (X.getD i default).reqs, upB (canon q.2) = true)) (fun q _ => X.length - (intOf q).toNat)
    case atStart => exact Lib.hid ⟨0, Nat.zero_le _, rfl, HB3.out, fun i hi => absurd hi (Nat.not_lt_zero _)⟩
    case round =>
      obtain ⟨k, hk, rfl, hw, hn⟩ := hrel.out
      have HW := Lib.hid hw
      have HN := Lib.hid hn
      clear hrel hw hn
      have c0 := HW.out.c0
      by_cases hlk : k < X.length
      case neg =>
        have hkk : k = X.length := Nat.le_antisymm hk (Nat.le_of_not_lt hlk)
        subst hkk
        go_wp2_with fail
        go_ret
        exact PlainR.mk HW.out.bel ⟨fun _ => ⟨HE1.out, ⟨HE2.out, upAll_iff.1 HE3.out⟩, HN.out⟩, fun _ => rfl⟩
      case pos =>
        obtain ⟨b, off, e1, hb, hcs, hrq⟩ := HRV.out k _ (List.getElem?_eq_getElem hlk)
        subst e1
        have hg : X.getD k default = X[k] := by rw [List.getD_eq_getElem?_getD, List.getElem?_eq_getElem hlk]; rfl
        have HS1 : Hid (upAll X[k].reqs = true → ∀ i, i < k + 1 → ∀ q ∈ (X.getD i default).reqs, upB (canon q.2) = true) := Lib.hid (fun h i hi => by
          rcases Nat.lt_or_eq_of_le (Nat.le_of_lt_succ hi) with h1 | rfl
          · exact HN.out i h1
          · rw [hg]; exact upAll_iff.1 h)
        have HS2 : Hid (upAll X[k].reqs = false → ¬ PlainP X roots) := Lib.hid (fun h hp => by
          have := upAll_iff.2 (hp.own k hlk)
          rw [hg, h] at this; cases this)
        have hbx := HBD.out _ (List.getElem_mem hlk)
        have hcs := hcs.below HW.out.bel hb
        have HUX := Lib.hid (rupward34_any (rv k) X[k].reqs wr hbx.len hbx.reqs (hrq.on HW.out.bel))
        generalize X[k] = x at *
        generalize rv k = r at *
        obtain ⟨xa, xc, rfl, _⟩ := hrq
        obtain ⟨_, _, _, _, d4, _⟩ := hcs
        obtain ⟨ub, hub⟩ : ∃ ub, upAll x.reqs = ub := ⟨_, rfl⟩
        rw [hub] at HUX HS1 HS2
        have hk1 : (0 : Int) ≤ (k : Int) := Int.natCast_nonneg k
        have hk2 : (k : Int) < (X.length : Int) := Int.ofNat_lt.2 hlk
        clear hub hg hbx
        go_wp2_with fail
        refine HUX.out.mono ?_
        rintro e w4 ⟨rfl, hb4⟩
        have HB4 := Lib.hid (HW.out.below hb4)
        clear hb4 HUX c0 d4
        cases ub with
        | false =>
          have HNP := Lib.hid (HS2.out rfl)
          go_wp2_with fail
          go_ret
          exact PlainR.no HB4.out.bel HNP.out
        | true =>
          have HN2 := Lib.hid (HS1.out rfl)
          go_wp2_with fail
          go_roundw
          case rel => exact Lib.hid ⟨k + 1, hlk, by go_num, HB4.out, HN2.out⟩
          case measure => simp [intOf]; omega
theorem plc_wrap {v : Int × Int × Int} (hv : validB v.1 v.2.1 v.2.2 = true) : IntKind.i64.wrap (1000 * v.2.1) = 1000 * v.2.1 ∧ wrap64 (1000 * v.2.1) = 1000 * v.2.1 ∧ IntKind.i64.wrap (1000 * v.2.1 + v.2.2) = plc v ∧ wrap64 (1000 * v.2.1 + v.2.2) = plc v := by
  obtain ⟨⟨a0, a1⟩, ⟨b0, b1⟩, c0, c1⟩ := valid_le hv
  unfold plc
  refine ⟨by rw [IntWalk.i64_in _ (by omega)], by unfold wrap64; omega, by rw [IntWalk.i64_in _ (by omega)], by unfold wrap64; omega⟩
set_option maxRecDepth 100000 in
theorem rplace32_any (v : Int × Int × Int) (w : World) (hv : validB v.1 v.2.1 v.2.2 = true) :
    Calls Tryz.prog 89 #[.agg #[intC v.1, intC v.2.1, intC v.2.2]] w fun e w' => e = .returned (.int .i64 (plc v)) ∧ Below w.heap.size w w' := by
  obtain ⟨h1, h2, h3, h4⟩ := plc_wrap hv
  generalize plc v = p at *
  clear hv
  go_enter Tryz.func89, Tryz.ntmps89
  go_wp2_with fail
  go_ret
  exact ⟨rfl, belQ w _⟩
def HeldRq (gq gx : Nat) (q : ReqL) (rq : Value) (x : RelL) (W : World) : Prop := (W.cell? ⟨gq, 0, none⟩ = some (.string q.1) ∧ W.cell? ⟨gq, 1, none⟩ = some rq) ∧ W.cell? ⟨gx, 0, none⟩ = some (.string x.path) ∧ W.cell? ⟨gx, 1, none⟩ = some (intC x.ver.1) ∧ W.cell? ⟨gx, 2, none⟩ = some (intC x.ver.2.1) ∧ W.cell? ⟨gx, 3, none⟩ = some (intC x.ver.2.2)
set_option maxRecDepth 100000 in
set_option maxHeartbeats 4000000 in
theorem rreaches_any (q : ReqL) (rq : Value) (x : RelL) (rx : Value) (w : World) (hq : q.2.length ≤ 1000000) (hv : validB x.ver.1 x.ver.2.1 x.ver.2.2 = true) (hQ : SpansOf w.heap.size rq q.2 w) (hx : ∃ a n c, rx = .slice a n c) :
    Calls Tryz.prog 111 #[.agg #[.string q.1, rq], .agg (relC x rx)] w fun e w' => e = .returned (.bool (reachB q x)) ∧ Below w.heap.size w w' := by
  have HP := Lib.hid (fun W => rplace32_any x.ver W hv)
  have HH := Lib.hid (fun W (hb : Below w.heap.size w W) => rHas_any rq q.2 (plc x.ver) W hq (hQ.on hb))
  obtain ⟨qa, qc, rfl, _⟩ := hQ
  obtain ⟨xa, xn, xc, rfl⟩ := hx
  unfold reachB
  generalize plc x.ver = p at *
  generalize hasB q.2 p = hb at *
  have HB0 : Hid (Below w.heap.size w ((w.alloc (.cells #[.string q.1, .slice qa q.2.length qc] 58)).alloc (.cells (relC x (.slice xa xn xc)) 71))) := Lib.hid (by repeat (first | exact Below.refl _ _ | refine Below.drew ?_ | refine Below.alloc ?_ (by simp <;> omega) _ | refine Below.setCell ?_ (by simp <;> omega) _))
  have HSB : Hid (∀ W', Below ((w.alloc (.cells #[.string q.1, .slice qa q.2.length qc] 58)).alloc (.cells (relC x (.slice xa xn xc)) 71)).heap.size ((w.alloc (.cells #[.string q.1, .slice qa q.2.length qc] 58)).alloc (.cells (relC x (.slice xa xn xc)) 71)) W' → HeldRq w.heap.size (w.heap.size + 1) q (.slice qa q.2.length qc) x W') := Lib.hid (fun W' hb => by
    have h1 := (hb.block w.heap.size (by simp; omega)).trans (((belQ (w.alloc (.cells #[.string q.1, .slice qa q.2.length qc] 58)) (.cells (relC x (.slice xa xn xc)) 71)).block w.heap.size (by simp)).trans (World.alloc_heap_new w (.cells #[.string q.1, .slice qa q.2.length qc] 58)))
    have h2 := World.alloc_heap_new (w.alloc (.cells #[.string q.1, .slice qa q.2.length qc] 58)) (.cells (relC x (.slice xa xn xc)) 71)
    rw [World.size_alloc] at h2
    have h2 := (hb.block (w.heap.size + 1) (by simp)).trans h2
    exact ⟨⟨cell_of_row _ _ 0 _ _ _ h1, cell_of_row _ _ 1 _ _ _ h1⟩, cell_of_row _ _ 0 _ _ _ h2, cell_of_row _ _ 1 _ _ _ h2, cell_of_row _ _ 2 _ _ _ h2, cell_of_row _ _ 3 _ _ _ h2⟩)
  clear hq hv
  simp only [relC_at] at HB0 HSB ⊢
  by_cases he : q.1 = x.path
  case neg =>
    have hpb : (q.1.toList == x.path.toList) = false := by rw [eqs_dec]; exact decide_eq_false he
    rw [decide_eq_false he, Bool.false_and]
    clear he
    go_enter Tryz.func111, Tryz.ntmps111
    go_upto_region 1 with fail
    generalize (w.alloc (.cells #[.string q.1, .slice qa q.2.length qc] 58)).alloc (.cells #[.string x.path, intC x.ver.1, intC x.ver.2.1, intC x.ver.2.2, .slice xa xn xc, .string x.ar, .string x.ifc, .string x.cert, .bool x.yk] 71) = W at *
    refine wp_region_noPanic ?_
    refine wp_region_held_drew (S := HeldRq w.heap.size (w.heap.size + 1) q (.slice qa q.2.length qc) x) (by kernel_rfl) (HSB.out _ (Below.refl _ _).drew) (fun hS0 => ?_)
    (refine zl3 0 ?_ rfl ?_ ?_; rotate_left; (· (rintro w ⟨⟨q0, q1⟩, x0, x1, x2, x3⟩; go_simp; try with_reducible rfl)); (try simp only [zl1]))
    (refine zl3 1 ?_ rfl ?_ ?_; rotate_left; (· (rintro w ⟨⟨q0, q1⟩, x0, x1, x2, x3⟩; go_simp; try with_reducible rfl)); (try simp only [zl1]))
    (refine zl3 2 ?_ rfl ?_ ?_; rotate_left; (· (rintro w ⟨⟨q0, q1⟩, x0, x1, x2, x3⟩; go_simp; try with_reducible rfl)); (try simp only [zl1]))
    (refine zl3 3 ?_ rfl ?_ ?_; rotate_left; (· (rintro w ⟨⟨q0, q1⟩, x0, x1, x2, x3⟩; go_simp; try with_reducible rfl)); (try simp only [zl1]))
    (refine zl3 4 ?_ rfl ?_ ?_; rotate_left; (· (rintro w ⟨⟨q0, q1⟩, x0, x1, x2, x3⟩; go_simp; try with_reducible rfl)); (try simp only [zl1]))
    (refine zl3 5 ?_ rfl ?_ ?_; rotate_left; (· (rintro w ⟨⟨q0, q1⟩, x0, x1, x2, x3⟩; go_simp; try with_reducible rfl)); (try simp only [zl1]))
    (refine zl2 (i := 6) (v := undef) rfl (Or.inr ⟨by rfl, rfl⟩) (by assumption) ?_; (try simp only [zl1]))
    (refine zl2 (i := 7) (v := undef) rfl (Or.inr ⟨by rfl, rfl⟩) (by assumption) ?_; (try simp only [zl1]))
    (refine zl2 (i := 8) (v := undef) rfl (Or.inr ⟨by rfl, rfl⟩) (by assumption) ?_; (try simp only [zl1]))
    (refine zl2 (i := 9) (v := undef) rfl (Or.inr ⟨by rfl, rfl⟩) (by assumption) ?_; (try simp only [zl1]))
    (refine zl2 (i := 10) (v := undef) rfl (Or.inr ⟨by rfl, rfl⟩) (by assumption) ?_; (try simp only [zl1]))
    (refine zl2 (i := 11) (v := undef) rfl (Or.inr ⟨by rfl, rfl⟩) (by assumption) ?_; (try simp only [zl1]))
    (refine zl3 12 ?_ rfl ?_ ?_; rotate_left; (· (rintro w ⟨⟨q0, q1⟩, x0, x1, x2, x3⟩; go_simp; try with_reducible rfl)); (try simp only [zl1]))
    (refine zl3 13 ?_ rfl ?_ ?_; rotate_left; (· (rintro w ⟨⟨q0, q1⟩, x0, x1, x2, x3⟩; go_simp; try with_reducible rfl)); (try simp only [zl1]))
    refine wpAnyH_done (by kernel_rfl) ?_ _
    refine NoPanic.normal ?_
    go_wp2_with fail
    go_ret
    exact ⟨rfl, HB0.out.drew⟩
  case pos =>
    have hpb : (q.1.toList == x.path.toList) = true := by rw [eqs_dec]; exact decide_eq_true he
    rw [decide_eq_true he, Bool.true_and]
    clear he
    go_enter Tryz.func111, Tryz.ntmps111
    go_upto_region 1 with fail
    generalize (w.alloc (.cells #[.string q.1, .slice qa q.2.length qc] 58)).alloc (.cells #[.string x.path, intC x.ver.1, intC x.ver.2.1, intC x.ver.2.2, .slice xa xn xc, .string x.ar, .string x.ifc, .string x.cert, .bool x.yk] 71) = W at *
    refine wp_region_noPanic ?_
    refine wp_region_held_drew (S := HeldRq w.heap.size (w.heap.size + 1) q (.slice qa q.2.length qc) x) (by kernel_rfl) (HSB.out _ (Below.refl _ _).drew) (fun hS0 => ?_)
    (refine zl3 0 ?_ rfl ?_ ?_; rotate_left; (· (rintro w ⟨⟨q0, q1⟩, x0, x1, x2, x3⟩; go_simp; try with_reducible rfl)); (try simp only [zl1]))
    (refine zl3 1 ?_ rfl ?_ ?_; rotate_left; (· (rintro w ⟨⟨q0, q1⟩, x0, x1, x2, x3⟩; go_simp; try with_reducible rfl)); (try simp only [zl1]))
    (refine zl3 2 ?_ rfl ?_ ?_; rotate_left; (· (rintro w ⟨⟨q0, q1⟩, x0, x1, x2, x3⟩; go_simp; try with_reducible rfl)); (try simp only [zl1]))
    (refine zl3 3 ?_ rfl ?_ ?_; rotate_left; (· (rintro w ⟨⟨q0, q1⟩, x0, x1, x2, x3⟩; go_simp; try with_reducible rfl)); (try simp only [zl1]))
    (refine zl3 4 ?_ rfl ?_ ?_; rotate_left; (· (rintro w ⟨⟨q0, q1⟩, x0, x1, x2, x3⟩; go_simp; try with_reducible rfl)); (try simp only [zl1]))
    (refine zl3 5 ?_ rfl ?_ ?_; rotate_left; (· (rintro w ⟨⟨q0, q1⟩, x0, x1, x2, x3⟩; go_simp; try with_reducible rfl)); (try simp only [zl1]))
    (refine zl3 6 ?_ rfl ?_ ?_; rotate_left; (· (rintro w ⟨⟨q0, q1⟩, x0, x1, x2, x3⟩; go_simp; try with_reducible rfl)); (try simp only [zl1]))
    (refine zl3 7 ?_ rfl ?_ ?_; rotate_left; (· (rintro w ⟨⟨q0, q1⟩, x0, x1, x2, x3⟩; go_simp; try with_reducible rfl)); (try simp only [zl1]))
    (refine zl3 8 ?_ rfl ?_ ?_; rotate_left; (· (rintro w ⟨⟨q0, q1⟩, x0, x1, x2, x3⟩; go_simp; try with_reducible rfl)); (try simp only [zl1]))
    (refine zl3 9 ?_ rfl ?_ ?_; rotate_left; (· (rintro w ⟨⟨q0, q1⟩, x0, x1, x2, x3⟩; go_simp; try with_reducible rfl)); (try simp only [zl1]))
    refine wpAnyH_ready (rs := [10]) (by kernel_rfl) (by simp) (AllReadyH.cons rfl (fun K hK => ?_) AllReadyH.nil)
    go_simp
    refine (HP.out _).mono ?_
    rintro e w1 ⟨rfl, hb1⟩
    have HB1 := Lib.hid ((Below.refl W.heap.size W).drew.trans hb1)
    clear hS0
    have hS0 := HSB.out _ HB1.out
    refine hK.out _ _ hS0 (fun _ => ?_)
    clear hK K hb1
    (try simp only [zl1])
    refine wpAnyH_ready (rs := [11]) (by kernel_rfl) (by simp) (AllReadyH.cons rfl (fun K hK => ?_) AllReadyH.nil)
    go_simp
    refine (HH.out _ (HB0.out.trans (HB1.out.mono HB0.out.size))).mono ?_
    rintro e w2 ⟨rfl, hb2⟩
    have HB2 := Lib.hid (HB1.out.trans (hb2.mono HB1.out.size))
    clear hS0
    have hS0 := HSB.out _ HB2.out
    refine hK.out _ _ hS0 (fun _ => ?_)
    clear hK K hb2
    (try simp only [zl1])
    (refine zl3 12 ?_ rfl ?_ ?_; rotate_left; (· (rintro w ⟨⟨q0, q1⟩, x0, x1, x2, x3⟩; go_simp; try with_reducible rfl)); (try simp only [zl1]))
    (refine zl3 13 ?_ rfl ?_ ?_; rotate_left; (· (rintro w ⟨⟨q0, q1⟩, x0, x1, x2, x3⟩; go_simp; try with_reducible rfl)); (try simp only [zl1]))
    refine wpAnyH_done (by kernel_rfl) ?_ _
    refine NoPanic.normal ?_
    go_wp2_with fail
    go_ret
    exact ⟨rfl, HB0.out.trans (HB2.out.mono HB0.out.size)⟩
structure NamB (w : World) (v iv : Value) (q : ReqL) (rq : Value) (W : World) : Prop where
  bel : Below w.heap.size w W
  idx : W.heap[w.heap.size]? = some (.cells #[v, iv] 25 (0, 0))
  req : W.heap[w.heap.size + 1]? = some (.cells #[.string q.1, rq] 58 (0, 0))
theorem NamB.lt {w : World} {v iv : Value} {q : ReqL} {rq : Value} {W : World} (h : NamB w v iv q rq W) : w.heap.size + 1 < W.heap.size := (Array.getElem?_eq_some_iff.1 h.req).1
theorem NamB.below {w : World} {v iv : Value} {q : ReqL} {rq : Value} {W W' : World} (h : NamB w v iv q rq W) (hb : Below W.heap.size W W') : NamB w v iv q rq W' := by
  have hl := h.lt
  exact ⟨h.bel.trans (hb.mono h.bel.size), (hb.block _ (by omega)).trans h.idx, (hb.block _ hl).trans h.req⟩
theorem NamB.start (w : World) (v iv : Value) (q : ReqL) (rq : Value) : NamB w v iv q rq ((w.alloc (.cells #[v, iv] 25)).alloc (.cells #[.string q.1, rq] 58)) := by
  have hget : ∀ (w : World) (o : Obj) (k : Nat), (w.alloc o).heap[k]? = if k = w.heap.size then some o else w.heap[k]? := fun w o k => by
    show (w.heap.push o)[k]? = _
    rw [Array.getElem?_push]
  refine ⟨(by repeat (first | exact Below.refl _ _ | refine Below.drew ?_ | refine Below.alloc ?_ (by simp <;> omega) _ | refine Below.setCell ?_ (by simp <;> omega) _)), ?_, ?_⟩
  · simp only [hget, World.size_alloc]; repeat (first | rw [if_pos trivial] | rw [if_neg (by omega)] | rw [if_pos (by omega)])
  · simp only [hget, World.size_alloc]; repeat (first | rw [if_pos trivial] | rw [if_neg (by omega)] | rw [if_pos (by omega)])
def HeldNm (g b o : Nat) (v iv : Value) (q : ReqL) (rq : Value) (x : RelL) (rx : Value) (W : World) : Prop := (W.cell? ⟨g, 0, none⟩ = some v ∧ W.cell? ⟨g, 1, none⟩ = some iv) ∧ (W.cell? ⟨g + 1, 0, none⟩ = some (.string q.1) ∧ W.cell? ⟨g + 1, 1, none⟩ = some rq) ∧ CellsAt W b o x rx
theorem NamB.held {w : World} {v iv : Value} {q : ReqL} {rq : Value} {W : World} (h : NamB w v iv q rq W) {b o : Nat} {x : RelL} {rx : Value} (hc : CellsAt W b o x rx) (hb : b < W.heap.size) : ∀ W', Below W.heap.size W W' → HeldNm w.heap.size b o v iv q rq x rx W' := fun W' hw => by
  have h2 := h.below hw
  exact ⟨⟨cell_of_row _ _ 0 _ _ _ h2.idx, cell_of_row _ _ 1 _ _ _ h2.idx⟩, ⟨cell_of_row _ _ 0 _ _ _ h2.req, cell_of_row _ _ 1 _ _ _ h2.req⟩, hc.below hw hb⟩
theorem candB_of {X : List RelL} {q : ReqL} {k : Nat} (hk : k < X.length) : candB X q k = (reachB q X[k] && !X[k].yk) := by
  unfold candB
  rw [List.getD_eq_getElem?_getD, List.getElem?_eq_getElem hk]
  rfl
set_option maxRecDepth 100000 in
set_option maxHeartbeats 16000000 in
theorem rnamed_any (nw : Bool) (v iv : Value) (X : List RelL) (q : ReqL) (rq : Value) (w : World) (hX : X.length ≤ 1000000) (hv : ∀ x ∈ X, validB x.ver.1 x.ver.2.1 x.ver.2.2 = true) (hR : RelsOf w.heap.size v X w) (hq : q.2.length ≤ 1000000) (hQ : SpansOf w.heap.size rq q.2 w) :
    Calls Tryz.prog 63 #[.agg #[v, iv], .agg #[.string q.1, rq], .bool nw] w fun e w' => e = .returned (.int .i64 (optI (namedI nw X q))) ∧ Below w.heap.size w w' := by
  obtain ⟨ao, cap, rv, rfl, hrv⟩ := hR.rv
  have HRV := Lib.hid hrv
  have HV := Lib.hid hv
  have HQS := Lib.hid hQ
  obtain ⟨qa, qc, rfl⟩ : ∃ a c, rq = .slice a q.2.length c := by obtain ⟨a, c, e, _⟩ := hQ; exact ⟨a, c, e⟩
  clear hR hrv hv hQ
  have HB0 := Lib.hid (NamB.start w (.slice ao X.length cap) iv q (.slice qa q.2.length qc))
  go_enter Tryz.func63, Tryz.ntmps63
  go_upto_region 1 with fail
  generalize (w.alloc (.cells #[.slice ao X.length cap, iv] 25)).alloc (.cells #[.string q.1, .slice qa q.2.length qc] 58) = W at *
  go_wp2_with fail
  go_loopw [7, 8] (fun o p wr => Hid (∃ k : Nat, k ≤ X.length ∧ o = .int .i64 (optI (namedK nw X q k)) ∧ p = .int .i64 (k : Int) ∧ NamB w (.slice ao X.length cap) iv q (.slice qa q.2.length qc) wr)) (fun _ p _ => X.length - (intOf p).toNat)
  case atStart => exact Lib.hid ⟨0, Nat.zero_le _, by rw [namedK_zero]; rfl, rfl, HB0.out⟩
  case round =>
    obtain ⟨k, hk, rfl, rfl, hw⟩ := hrel.out
    have HW := Lib.hid hw
    clear hrel hw
    have c0 : wr.cell? ⟨w.heap.size, 0, none⟩ = some (.slice ao X.length cap) := cell_of_row _ _ 0 _ _ _ HW.out.idx
    by_cases hlk : k < X.length
    case neg =>
      have hkk : k = X.length := Nat.le_antisymm hk (Nat.le_of_not_lt hlk)
      subst hkk
      rw [namedK_all]
      go_wp2_with fail
      go_ret
      exact ⟨rfl, HW.out.bel⟩
    case pos =>
      obtain ⟨b, off, e1, hb, hcs, hrq⟩ := HRV.out k _ (List.getElem?_eq_getElem hlk)
      subst e1
      have HCB := Lib.hid (candB_of (q := q) hlk)
      have hvk := HV.out _ (List.getElem_mem hlk)
      have hcs := hcs.below HW.out.bel hb
      generalize X[k] = x at *
      generalize rv k = r at *
      obtain ⟨xa, xc, rfl, _⟩ := hrq
      have HSB := Lib.hid (HW.out.held hcs (Nat.lt_of_lt_of_le hb HW.out.bel.size))
      have HRE := Lib.hid (fun W' (hb : Below wr.heap.size wr W') => rreaches_any q (.slice qa q.2.length qc) x (.slice xa x.reqs.length xc) W' hq hvk (HQS.out.on (HW.out.bel.trans (hb.mono HW.out.bel.size))) ⟨_, _, _, rfl⟩)
      have hk1 : (0 : Int) ≤ (k : Int) := Int.natCast_nonneg k
      have hk2 : (k : Int) < (X.length : Int) := Int.ofNat_lt.2 hlk
      obtain ⟨o, ho⟩ : ∃ o, optI (namedK nw X q k) = o := ⟨_, rfl⟩
      have HO := Lib.hid ho
      obtain ⟨rb, hrb⟩ : ∃ rb, reachB q x = rb := ⟨_, rfl⟩
      rw [hrb] at HRE HCB
      obtain ⟨yb, hyb⟩ : ∃ yb, x.yk = yb := ⟨_, rfl⟩
      rw [hyb] at HCB
      have HYB := Lib.hid hyb
      rw [ho]
      clear hcs ho hrb hyb hvk
      simp only [relC_at] at HRE
      go_upto_region 5 with fail
      cases rb with
      | false =>
        refine wp_region_noPanic ?_
        refine wp_region_held_drew (S := HeldNm w.heap.size b (off + k * 9) (.slice (some ⟨b, off, none⟩) X.length cap) iv q (.slice qa q.2.length qc) x (.slice xa x.reqs.length xc)) (by kernel_rfl) (HSB.out _ (Below.refl _ _).drew) (fun hS0 => ?_)
        (refine zl3 0 ?_ rfl ?_ ?_; rotate_left; (· (rintro w ⟨⟨c0, c1⟩, ⟨q0, q1⟩, d0, d1, d2, d3, d4, d5, d6, d7, d8⟩; go_simp; try with_reducible rfl)); (try simp only [zl1]))
        (refine zl3 1 ?_ rfl ?_ ?_; rotate_left; (· (rintro w ⟨⟨c0, c1⟩, ⟨q0, q1⟩, d0, d1, d2, d3, d4, d5, d6, d7, d8⟩; go_simp; try with_reducible rfl)); (try simp only [zl1]))
        (refine zl3 2 ?_ rfl ?_ ?_; rotate_left; (· (rintro w ⟨⟨c0, c1⟩, ⟨q0, q1⟩, d0, d1, d2, d3, d4, d5, d6, d7, d8⟩; go_simp; try with_reducible rfl)); (try simp only [zl1]))
        (refine zl3 3 ?_ rfl ?_ ?_; rotate_left; (· (rintro w ⟨⟨c0, c1⟩, ⟨q0, q1⟩, d0, d1, d2, d3, d4, d5, d6, d7, d8⟩; go_simp; try with_reducible rfl)); (try simp only [zl1]))
        (refine zl3 4 ?_ rfl ?_ ?_; rotate_left; (· (rintro w ⟨⟨c0, c1⟩, ⟨q0, q1⟩, d0, d1, d2, d3, d4, d5, d6, d7, d8⟩; go_simp; try with_reducible rfl)); (try simp only [zl1]))
        (refine zl3 5 ?_ rfl ?_ ?_; rotate_left; (· (rintro w ⟨⟨c0, c1⟩, ⟨q0, q1⟩, d0, d1, d2, d3, d4, d5, d6, d7, d8⟩; go_simp; try with_reducible rfl)); (try simp only [zl1]))
        refine wpAnyH_ready (rs := [6]) (by kernel_rfl) (by simp) (AllReadyH.cons rfl (fun K hK => ?_) AllReadyH.nil)
        go_simp
        refine (HRE.out _ (Below.refl wr.heap.size wr).drew).mono ?_
        rintro e w1 ⟨rfl, hb1⟩
        have HB1 := Lib.hid ((Below.refl wr.heap.size wr).drew.trans hb1)
        clear hS0
        have hS0 := HSB.out _ HB1.out
        refine hK.out _ _ hS0 (fun _ => ?_)
        clear hK K hb1
        (try simp only [zl1])
        (refine zl3 7 ?_ rfl ?_ ?_; rotate_left; (· (rintro w ⟨⟨c0, c1⟩, ⟨q0, q1⟩, d0, d1, d2, d3, d4, d5, d6, d7, d8⟩; go_simp; try with_reducible rfl)); (try simp only [zl1]))
        (refine zl2 (i := 8) (v := undef) rfl (Or.inr ⟨by rfl, rfl⟩) (by assumption) ?_; (try simp only [zl1]))
        (refine zl2 (i := 9) (v := undef) rfl (Or.inr ⟨by rfl, rfl⟩) (by assumption) ?_; (try simp only [zl1]))
        (refine zl2 (i := 10) (v := undef) rfl (Or.inr ⟨by rfl, rfl⟩) (by assumption) ?_; (try simp only [zl1]))
        (refine zl2 (i := 11) (v := undef) rfl (Or.inr ⟨by rfl, rfl⟩) (by assumption) ?_; (try simp only [zl1]))
        (refine zl2 (i := 12) (v := undef) rfl (Or.inr ⟨by rfl, rfl⟩) (by assumption) ?_; (try simp only [zl1]))
        (refine zl2 (i := 13) (v := undef) rfl (Or.inr ⟨by rfl, rfl⟩) (by assumption) ?_; (try simp only [zl1]))
        (refine zl2 (i := 14) (v := undef) rfl (Or.inr ⟨by rfl, rfl⟩) (by assumption) ?_; (try simp only [zl1]))
        (refine zl3 15 ?_ rfl ?_ ?_; rotate_left; (· (rintro w ⟨⟨c0, c1⟩, ⟨q0, q1⟩, d0, d1, d2, d3, d4, d5, d6, d7, d8⟩; go_simp; try with_reducible rfl)); (try simp only [zl1]))
        (refine zl3 16 ?_ rfl ?_ ?_; rotate_left; (· (rintro w ⟨⟨c0, c1⟩, ⟨q0, q1⟩, d0, d1, d2, d3, d4, d5, d6, d7, d8⟩; go_simp; try with_reducible rfl)); (try simp only [zl1]))
        (refine zl2 (i := 17) (v := undef) rfl (Or.inr ⟨by rfl, rfl⟩) (by assumption) ?_; (try simp only [zl1]))
        (refine zl2 (i := 18) (v := undef) rfl (Or.inr ⟨by rfl, rfl⟩) (by assumption) ?_; (try simp only [zl1]))
        (refine zl2 (i := 19) (v := undef) rfl (Or.inr ⟨by rfl, rfl⟩) (by assumption) ?_; (try simp only [zl1]))
        (refine zl2 (i := 20) (v := undef) rfl (Or.inr ⟨by rfl, rfl⟩) (by assumption) ?_; (try simp only [zl1]))
        (refine zl2 (i := 21) (v := undef) rfl (Or.inr ⟨by rfl, rfl⟩) (by assumption) ?_; (try simp only [zl1]))
        (refine zl3 22 ?_ rfl ?_ ?_; rotate_left; (· (rintro w ⟨⟨c0, c1⟩, ⟨q0, q1⟩, d0, d1, d2, d3, d4, d5, d6, d7, d8⟩; go_simp; try with_reducible rfl)); (try simp only [zl1]))
        refine wpAnyH_done (by kernel_rfl) ?_ _
        refine NoPanic.normal ?_
        have HW1 := Lib.hid (HW.out.below HB1.out)
        have HN1 : Hid (optI (namedK nw X q (k + 1)) = o) := Lib.hid (by rw [namedK_no (HCB.out.trans (Bool.false_and _)), HO.out])
        clear HSB HRE HB1 HW hS0
        go_wp2_with fail
        go_roundw
        case rel => exact Lib.hid ⟨k + 1, hlk, by rw [HN1.out], by go_num, HW1.out⟩
        case measure => simp [intOf]; omega
      | true =>
        cases yb with
        | true =>
          refine wp_region_noPanic ?_
          refine wp_region_held_drew (S := HeldNm w.heap.size b (off + k * 9) (.slice (some ⟨b, off, none⟩) X.length cap) iv q (.slice qa q.2.length qc) x (.slice xa x.reqs.length xc)) (by kernel_rfl) (HSB.out _ (Below.refl _ _).drew) (fun hS0 => ?_)
          (refine zl3 0 ?_ rfl ?_ ?_; rotate_left; (· (rintro w ⟨⟨c0, c1⟩, ⟨q0, q1⟩, d0, d1, d2, d3, d4, d5, d6, d7, d8⟩; go_simp; try with_reducible rfl)); (try simp only [zl1]))
          (refine zl3 1 ?_ rfl ?_ ?_; rotate_left; (· (rintro w ⟨⟨c0, c1⟩, ⟨q0, q1⟩, d0, d1, d2, d3, d4, d5, d6, d7, d8⟩; go_simp; try with_reducible rfl)); (try simp only [zl1]))
          (refine zl3 2 ?_ rfl ?_ ?_; rotate_left; (· (rintro w ⟨⟨c0, c1⟩, ⟨q0, q1⟩, d0, d1, d2, d3, d4, d5, d6, d7, d8⟩; go_simp; try with_reducible rfl)); (try simp only [zl1]))
          (refine zl3 3 ?_ rfl ?_ ?_; rotate_left; (· (rintro w ⟨⟨c0, c1⟩, ⟨q0, q1⟩, d0, d1, d2, d3, d4, d5, d6, d7, d8⟩; go_simp; try with_reducible rfl)); (try simp only [zl1]))
          (refine zl3 4 ?_ rfl ?_ ?_; rotate_left; (· (rintro w ⟨⟨c0, c1⟩, ⟨q0, q1⟩, d0, d1, d2, d3, d4, d5, d6, d7, d8⟩; go_simp; try with_reducible rfl)); (try simp only [zl1]))
          (refine zl3 5 ?_ rfl ?_ ?_; rotate_left; (· (rintro w ⟨⟨c0, c1⟩, ⟨q0, q1⟩, d0, d1, d2, d3, d4, d5, d6, d7, d8⟩; go_simp; try with_reducible rfl)); (try simp only [zl1]))
          refine wpAnyH_ready (rs := [6]) (by kernel_rfl) (by simp) (AllReadyH.cons rfl (fun K hK => ?_) AllReadyH.nil)
          go_simp
          refine (HRE.out _ (Below.refl wr.heap.size wr).drew).mono ?_
          rintro e w1 ⟨rfl, hb1⟩
          have HB1 := Lib.hid ((Below.refl wr.heap.size wr).drew.trans hb1)
          clear hS0
          have hS0 := HSB.out _ HB1.out
          refine hK.out _ _ hS0 (fun _ => ?_)
          clear hK K hb1
          (try simp only [zl1])
          (refine zl3 7 ?_ rfl ?_ ?_; rotate_left; (· (intro w hSw; obtain ⟨⟨c0, c1⟩, ⟨q0, q1⟩, d0, d1, d2, d3, d4, d5, d6, d7, d8⟩ := hSw; rw [HYB.out] at d8; go_simp; try with_reducible rfl)); (try simp only [zl1]))
          (refine zl3 8 ?_ rfl ?_ ?_; rotate_left; (· (intro w hSw; obtain ⟨⟨c0, c1⟩, ⟨q0, q1⟩, d0, d1, d2, d3, d4, d5, d6, d7, d8⟩ := hSw; rw [HYB.out] at d8; go_simp; try with_reducible rfl)); (try simp only [zl1]))
          (refine zl3 9 ?_ rfl ?_ ?_; rotate_left; (· (intro w hSw; obtain ⟨⟨c0, c1⟩, ⟨q0, q1⟩, d0, d1, d2, d3, d4, d5, d6, d7, d8⟩ := hSw; rw [HYB.out] at d8; go_simp; try with_reducible rfl)); (try simp only [zl1]))
          (refine zl3 10 ?_ rfl ?_ ?_; rotate_left; (· (intro w hSw; obtain ⟨⟨c0, c1⟩, ⟨q0, q1⟩, d0, d1, d2, d3, d4, d5, d6, d7, d8⟩ := hSw; rw [HYB.out] at d8; go_simp; try with_reducible rfl)); (try simp only [zl1]))
          (refine zl3 11 ?_ rfl ?_ ?_; rotate_left; (· (intro w hSw; obtain ⟨⟨c0, c1⟩, ⟨q0, q1⟩, d0, d1, d2, d3, d4, d5, d6, d7, d8⟩ := hSw; rw [HYB.out] at d8; go_simp; try with_reducible rfl)); (try simp only [zl1]))
          (refine zl3 12 ?_ rfl ?_ ?_; rotate_left; (· (intro w hSw; obtain ⟨⟨c0, c1⟩, ⟨q0, q1⟩, d0, d1, d2, d3, d4, d5, d6, d7, d8⟩ := hSw; rw [HYB.out] at d8; go_simp; try with_reducible rfl)); (try simp only [zl1]))
          (refine zl3 13 ?_ rfl ?_ ?_; rotate_left; (· (intro w hSw; obtain ⟨⟨c0, c1⟩, ⟨q0, q1⟩, d0, d1, d2, d3, d4, d5, d6, d7, d8⟩ := hSw; rw [HYB.out] at d8; go_simp; try with_reducible rfl)); (try simp only [zl1]))
          (refine zl3 14 ?_ rfl ?_ ?_; rotate_left; (· (intro w hSw; obtain ⟨⟨c0, c1⟩, ⟨q0, q1⟩, d0, d1, d2, d3, d4, d5, d6, d7, d8⟩ := hSw; rw [HYB.out] at d8; go_simp; try with_reducible rfl)); (try simp only [zl1]))
          (refine zl3 15 ?_ rfl ?_ ?_; rotate_left; (· (rintro w ⟨⟨c0, c1⟩, ⟨q0, q1⟩, d0, d1, d2, d3, d4, d5, d6, d7, d8⟩; go_simp; try with_reducible rfl)); (try simp only [zl1]))
          (refine zl3 16 ?_ rfl ?_ ?_; rotate_left; (· (rintro w ⟨⟨c0, c1⟩, ⟨q0, q1⟩, d0, d1, d2, d3, d4, d5, d6, d7, d8⟩; go_simp; try with_reducible rfl)); (try simp only [zl1]))
          (refine zl2 (i := 17) (v := undef) rfl (Or.inr ⟨by rfl, rfl⟩) (by assumption) ?_; (try simp only [zl1]))
          (refine zl2 (i := 18) (v := undef) rfl (Or.inr ⟨by rfl, rfl⟩) (by assumption) ?_; (try simp only [zl1]))
          (refine zl2 (i := 19) (v := undef) rfl (Or.inr ⟨by rfl, rfl⟩) (by assumption) ?_; (try simp only [zl1]))
          (refine zl2 (i := 20) (v := undef) rfl (Or.inr ⟨by rfl, rfl⟩) (by assumption) ?_; (try simp only [zl1]))
          (refine zl2 (i := 21) (v := undef) rfl (Or.inr ⟨by rfl, rfl⟩) (by assumption) ?_; (try simp only [zl1]))
          (refine zl3 22 ?_ rfl ?_ ?_; rotate_left; (· (rintro w ⟨⟨c0, c1⟩, ⟨q0, q1⟩, d0, d1, d2, d3, d4, d5, d6, d7, d8⟩; go_simp; try with_reducible rfl)); (try simp only [zl1]))
          refine wpAnyH_done (by kernel_rfl) ?_ _
          refine NoPanic.normal ?_
          have HW1 := Lib.hid (HW.out.below HB1.out)
          have HN1 : Hid (optI (namedK nw X q (k + 1)) = o) := Lib.hid (by rw [namedK_no (HCB.out.trans rfl), HO.out])
          clear HSB HRE HB1 HW hS0
          go_wp2_with fail
          go_roundw
          case rel => exact Lib.hid ⟨k + 1, hlk, by rw [HN1.out], by go_num, HW1.out⟩
          case measure => simp [intOf]; omega
        | false =>
          cases hnk : namedK nw X q k with
          | none =>
            have ho0 : decide (o < 0) = true := decide_eq_true (by rw [← HO.out, hnk]; decide)
            have HNN := Lib.hid hnk
            clear hnk
            refine wp_region_noPanic ?_
            refine wp_region_held_drew (S := HeldNm w.heap.size b (off + k * 9) (.slice (some ⟨b, off, none⟩) X.length cap) iv q (.slice qa q.2.length qc) x (.slice xa x.reqs.length xc)) (by kernel_rfl) (HSB.out _ (Below.refl _ _).drew) (fun hS0 => ?_)
            (refine zl3 0 ?_ rfl ?_ ?_; rotate_left; (· (rintro w ⟨⟨c0, c1⟩, ⟨q0, q1⟩, d0, d1, d2, d3, d4, d5, d6, d7, d8⟩; go_simp; try with_reducible rfl)); (try simp only [zl1]))
            (refine zl3 1 ?_ rfl ?_ ?_; rotate_left; (· (rintro w ⟨⟨c0, c1⟩, ⟨q0, q1⟩, d0, d1, d2, d3, d4, d5, d6, d7, d8⟩; go_simp; try with_reducible rfl)); (try simp only [zl1]))
            (refine zl3 2 ?_ rfl ?_ ?_; rotate_left; (· (rintro w ⟨⟨c0, c1⟩, ⟨q0, q1⟩, d0, d1, d2, d3, d4, d5, d6, d7, d8⟩; go_simp; try with_reducible rfl)); (try simp only [zl1]))
            (refine zl3 3 ?_ rfl ?_ ?_; rotate_left; (· (rintro w ⟨⟨c0, c1⟩, ⟨q0, q1⟩, d0, d1, d2, d3, d4, d5, d6, d7, d8⟩; go_simp; try with_reducible rfl)); (try simp only [zl1]))
            (refine zl3 4 ?_ rfl ?_ ?_; rotate_left; (· (rintro w ⟨⟨c0, c1⟩, ⟨q0, q1⟩, d0, d1, d2, d3, d4, d5, d6, d7, d8⟩; go_simp; try with_reducible rfl)); (try simp only [zl1]))
            (refine zl3 5 ?_ rfl ?_ ?_; rotate_left; (· (rintro w ⟨⟨c0, c1⟩, ⟨q0, q1⟩, d0, d1, d2, d3, d4, d5, d6, d7, d8⟩; go_simp; try with_reducible rfl)); (try simp only [zl1]))
            refine wpAnyH_ready (rs := [6]) (by kernel_rfl) (by simp) (AllReadyH.cons rfl (fun K hK => ?_) AllReadyH.nil)
            go_simp
            refine (HRE.out _ (Below.refl wr.heap.size wr).drew).mono ?_
            rintro e w1 ⟨rfl, hb1⟩
            have HB1 := Lib.hid ((Below.refl wr.heap.size wr).drew.trans hb1)
            clear hS0
            have hS0 := HSB.out _ HB1.out
            refine hK.out _ _ hS0 (fun _ => ?_)
            clear hK K hb1
            (try simp only [zl1])
            (refine zl3 7 ?_ rfl ?_ ?_; rotate_left; (· (intro w hSw; obtain ⟨⟨c0, c1⟩, ⟨q0, q1⟩, d0, d1, d2, d3, d4, d5, d6, d7, d8⟩ := hSw; rw [HYB.out] at d8; go_simp; try with_reducible rfl)); (try simp only [zl1]))
            (refine zl3 8 ?_ rfl ?_ ?_; rotate_left; (· (intro w hSw; obtain ⟨⟨c0, c1⟩, ⟨q0, q1⟩, d0, d1, d2, d3, d4, d5, d6, d7, d8⟩ := hSw; rw [HYB.out] at d8; go_simp; try with_reducible rfl)); (try simp only [zl1]))
            (refine zl3 9 ?_ rfl ?_ ?_; rotate_left; (· (intro w hSw; obtain ⟨⟨c0, c1⟩, ⟨q0, q1⟩, d0, d1, d2, d3, d4, d5, d6, d7, d8⟩ := hSw; rw [HYB.out] at d8; go_simp; try with_reducible rfl)); (try simp only [zl1]))
            (refine zl3 10 ?_ rfl ?_ ?_; rotate_left; (· (intro w hSw; obtain ⟨⟨c0, c1⟩, ⟨q0, q1⟩, d0, d1, d2, d3, d4, d5, d6, d7, d8⟩ := hSw; rw [HYB.out] at d8; go_simp; try with_reducible rfl)); (try simp only [zl1]))
            (refine zl3 11 ?_ rfl ?_ ?_; rotate_left; (· (intro w hSw; obtain ⟨⟨c0, c1⟩, ⟨q0, q1⟩, d0, d1, d2, d3, d4, d5, d6, d7, d8⟩ := hSw; rw [HYB.out] at d8; go_simp; try with_reducible rfl)); (try simp only [zl1]))
            (refine zl3 12 ?_ rfl ?_ ?_; rotate_left; (· (intro w hSw; obtain ⟨⟨c0, c1⟩, ⟨q0, q1⟩, d0, d1, d2, d3, d4, d5, d6, d7, d8⟩ := hSw; rw [HYB.out] at d8; go_simp; try with_reducible rfl)); (try simp only [zl1]))
            (refine zl3 13 ?_ rfl ?_ ?_; rotate_left; (· (intro w hSw; obtain ⟨⟨c0, c1⟩, ⟨q0, q1⟩, d0, d1, d2, d3, d4, d5, d6, d7, d8⟩ := hSw; rw [HYB.out] at d8; go_simp; try with_reducible rfl)); (try simp only [zl1]))
            (refine zl3 14 ?_ rfl ?_ ?_; rotate_left; (· (intro w hSw; obtain ⟨⟨c0, c1⟩, ⟨q0, q1⟩, d0, d1, d2, d3, d4, d5, d6, d7, d8⟩ := hSw; rw [HYB.out] at d8; go_simp; try with_reducible rfl)); (try simp only [zl1]))
            (refine zl3 15 ?_ rfl ?_ ?_; rotate_left; (· (rintro w ⟨⟨c0, c1⟩, ⟨q0, q1⟩, d0, d1, d2, d3, d4, d5, d6, d7, d8⟩; go_simp; try with_reducible rfl)); (try simp only [zl1]))
            (refine zl3 16 ?_ rfl ?_ ?_; rotate_left; (· (rintro w ⟨⟨c0, c1⟩, ⟨q0, q1⟩, d0, d1, d2, d3, d4, d5, d6, d7, d8⟩; go_simp; try with_reducible rfl)); (try simp only [zl1]))
            (refine zl3 17 ?_ rfl ?_ ?_; rotate_left; (· (rintro w ⟨⟨c0, c1⟩, ⟨q0, q1⟩, d0, d1, d2, d3, d4, d5, d6, d7, d8⟩; go_simp; try with_reducible rfl)); (try simp only [zl1]))
            (refine zl3 18 ?_ rfl ?_ ?_; rotate_left; (· (rintro w ⟨⟨c0, c1⟩, ⟨q0, q1⟩, d0, d1, d2, d3, d4, d5, d6, d7, d8⟩; go_simp; try with_reducible rfl)); (try simp only [zl1]))
            (refine zl3 19 ?_ rfl ?_ ?_; rotate_left; (· (rintro w ⟨⟨c0, c1⟩, ⟨q0, q1⟩, d0, d1, d2, d3, d4, d5, d6, d7, d8⟩; go_simp; try with_reducible rfl)); (try simp only [zl1]))
            (refine zl2 (i := 20) (v := undef) rfl (Or.inr ⟨by rfl, rfl⟩) (by assumption) ?_; (try simp only [zl1]))
            (refine zl3 21 ?_ rfl ?_ ?_; rotate_left; (· (rintro w ⟨⟨c0, c1⟩, ⟨q0, q1⟩, d0, d1, d2, d3, d4, d5, d6, d7, d8⟩; go_simp; try with_reducible rfl)); (try simp only [zl1]))
            (refine zl3 22 ?_ rfl ?_ ?_; rotate_left; (· (rintro w ⟨⟨c0, c1⟩, ⟨q0, q1⟩, d0, d1, d2, d3, d4, d5, d6, d7, d8⟩; go_simp; try with_reducible rfl)); (try simp only [zl1]))
            refine wpAnyH_done (by kernel_rfl) ?_ _
            refine NoPanic.normal ?_
            have HW1 := Lib.hid (HW.out.below HB1.out)
            have HN1 : Hid (optI (namedK nw X q (k + 1)) = (k : Int)) := Lib.hid (by rw [namedK_put (HCB.out.trans rfl) (.inr HNN.out)]; rfl)
            clear HSB HRE HB1 HW hS0
            go_wp2_with fail
            go_roundw
            case rel => exact Lib.hid ⟨k + 1, hlk, by rw [HN1.out], by go_num, HW1.out⟩
            case measure => simp [intOf]; omega
          | some j =>
            have ho0 : decide (o < 0) = false := decide_eq_false (by rw [← HO.out, hnk]; show ¬ (j : Int) < 0; omega)
            have HNN := Lib.hid hnk
            clear hnk
            cases nw with
            | true =>
              refine wp_region_noPanic ?_
              refine wp_region_held_drew (S := HeldNm w.heap.size b (off + k * 9) (.slice (some ⟨b, off, none⟩) X.length cap) iv q (.slice qa q.2.length qc) x (.slice xa x.reqs.length xc)) (by kernel_rfl) (HSB.out _ (Below.refl _ _).drew) (fun hS0 => ?_)
              (refine zl3 0 ?_ rfl ?_ ?_; rotate_left; (· (rintro w ⟨⟨c0, c1⟩, ⟨q0, q1⟩, d0, d1, d2, d3, d4, d5, d6, d7, d8⟩; go_simp; try with_reducible rfl)); (try simp only [zl1]))
              (refine zl3 1 ?_ rfl ?_ ?_; rotate_left; (· (rintro w ⟨⟨c0, c1⟩, ⟨q0, q1⟩, d0, d1, d2, d3, d4, d5, d6, d7, d8⟩; go_simp; try with_reducible rfl)); (try simp only [zl1]))
              (refine zl3 2 ?_ rfl ?_ ?_; rotate_left; (· (rintro w ⟨⟨c0, c1⟩, ⟨q0, q1⟩, d0, d1, d2, d3, d4, d5, d6, d7, d8⟩; go_simp; try with_reducible rfl)); (try simp only [zl1]))
              (refine zl3 3 ?_ rfl ?_ ?_; rotate_left; (· (rintro w ⟨⟨c0, c1⟩, ⟨q0, q1⟩, d0, d1, d2, d3, d4, d5, d6, d7, d8⟩; go_simp; try with_reducible rfl)); (try simp only [zl1]))
              (refine zl3 4 ?_ rfl ?_ ?_; rotate_left; (· (rintro w ⟨⟨c0, c1⟩, ⟨q0, q1⟩, d0, d1, d2, d3, d4, d5, d6, d7, d8⟩; go_simp; try with_reducible rfl)); (try simp only [zl1]))
              (refine zl3 5 ?_ rfl ?_ ?_; rotate_left; (· (rintro w ⟨⟨c0, c1⟩, ⟨q0, q1⟩, d0, d1, d2, d3, d4, d5, d6, d7, d8⟩; go_simp; try with_reducible rfl)); (try simp only [zl1]))
              refine wpAnyH_ready (rs := [6]) (by kernel_rfl) (by simp) (AllReadyH.cons rfl (fun K hK => ?_) AllReadyH.nil)
              go_simp
              refine (HRE.out _ (Below.refl wr.heap.size wr).drew).mono ?_
              rintro e w1 ⟨rfl, hb1⟩
              have HB1 := Lib.hid ((Below.refl wr.heap.size wr).drew.trans hb1)
              clear hS0
              have hS0 := HSB.out _ HB1.out
              refine hK.out _ _ hS0 (fun _ => ?_)
              clear hK K hb1
              (try simp only [zl1])
              (refine zl3 7 ?_ rfl ?_ ?_; rotate_left; (· (intro w hSw; obtain ⟨⟨c0, c1⟩, ⟨q0, q1⟩, d0, d1, d2, d3, d4, d5, d6, d7, d8⟩ := hSw; rw [HYB.out] at d8; go_simp; try with_reducible rfl)); (try simp only [zl1]))
              (refine zl3 8 ?_ rfl ?_ ?_; rotate_left; (· (intro w hSw; obtain ⟨⟨c0, c1⟩, ⟨q0, q1⟩, d0, d1, d2, d3, d4, d5, d6, d7, d8⟩ := hSw; rw [HYB.out] at d8; go_simp; try with_reducible rfl)); (try simp only [zl1]))
              (refine zl3 9 ?_ rfl ?_ ?_; rotate_left; (· (intro w hSw; obtain ⟨⟨c0, c1⟩, ⟨q0, q1⟩, d0, d1, d2, d3, d4, d5, d6, d7, d8⟩ := hSw; rw [HYB.out] at d8; go_simp; try with_reducible rfl)); (try simp only [zl1]))
              (refine zl3 10 ?_ rfl ?_ ?_; rotate_left; (· (intro w hSw; obtain ⟨⟨c0, c1⟩, ⟨q0, q1⟩, d0, d1, d2, d3, d4, d5, d6, d7, d8⟩ := hSw; rw [HYB.out] at d8; go_simp; try with_reducible rfl)); (try simp only [zl1]))
              (refine zl3 11 ?_ rfl ?_ ?_; rotate_left; (· (intro w hSw; obtain ⟨⟨c0, c1⟩, ⟨q0, q1⟩, d0, d1, d2, d3, d4, d5, d6, d7, d8⟩ := hSw; rw [HYB.out] at d8; go_simp; try with_reducible rfl)); (try simp only [zl1]))
              (refine zl3 12 ?_ rfl ?_ ?_; rotate_left; (· (intro w hSw; obtain ⟨⟨c0, c1⟩, ⟨q0, q1⟩, d0, d1, d2, d3, d4, d5, d6, d7, d8⟩ := hSw; rw [HYB.out] at d8; go_simp; try with_reducible rfl)); (try simp only [zl1]))
              (refine zl3 13 ?_ rfl ?_ ?_; rotate_left; (· (intro w hSw; obtain ⟨⟨c0, c1⟩, ⟨q0, q1⟩, d0, d1, d2, d3, d4, d5, d6, d7, d8⟩ := hSw; rw [HYB.out] at d8; go_simp; try with_reducible rfl)); (try simp only [zl1]))
              (refine zl3 14 ?_ rfl ?_ ?_; rotate_left; (· (intro w hSw; obtain ⟨⟨c0, c1⟩, ⟨q0, q1⟩, d0, d1, d2, d3, d4, d5, d6, d7, d8⟩ := hSw; rw [HYB.out] at d8; go_simp; try with_reducible rfl)); (try simp only [zl1]))
              (refine zl3 15 ?_ rfl ?_ ?_; rotate_left; (· (rintro w ⟨⟨c0, c1⟩, ⟨q0, q1⟩, d0, d1, d2, d3, d4, d5, d6, d7, d8⟩; go_simp; try with_reducible rfl)); (try simp only [zl1]))
              (refine zl3 16 ?_ rfl ?_ ?_; rotate_left; (· (rintro w ⟨⟨c0, c1⟩, ⟨q0, q1⟩, d0, d1, d2, d3, d4, d5, d6, d7, d8⟩; go_simp; try with_reducible rfl)); (try simp only [zl1]))
              (refine zl3 17 ?_ rfl ?_ ?_; rotate_left; (· (rintro w ⟨⟨c0, c1⟩, ⟨q0, q1⟩, d0, d1, d2, d3, d4, d5, d6, d7, d8⟩; go_simp; try with_reducible rfl)); (try simp only [zl1]))
              (refine zl3 18 ?_ rfl ?_ ?_; rotate_left; (· (rintro w ⟨⟨c0, c1⟩, ⟨q0, q1⟩, d0, d1, d2, d3, d4, d5, d6, d7, d8⟩; go_simp; try with_reducible rfl)); (try simp only [zl1]))
              (refine zl3 19 ?_ rfl ?_ ?_; rotate_left; (· (rintro w ⟨⟨c0, c1⟩, ⟨q0, q1⟩, d0, d1, d2, d3, d4, d5, d6, d7, d8⟩; go_simp; try with_reducible rfl)); (try simp only [zl1]))
              (refine zl3 20 ?_ rfl ?_ ?_; rotate_left; (· (rintro w ⟨⟨c0, c1⟩, ⟨q0, q1⟩, d0, d1, d2, d3, d4, d5, d6, d7, d8⟩; go_simp; try with_reducible rfl)); (try simp only [zl1]))
              (refine zl3 21 ?_ rfl ?_ ?_; rotate_left; (· (rintro w ⟨⟨c0, c1⟩, ⟨q0, q1⟩, d0, d1, d2, d3, d4, d5, d6, d7, d8⟩; go_simp; try with_reducible rfl)); (try simp only [zl1]))
              (refine zl3 22 ?_ rfl ?_ ?_; rotate_left; (· (rintro w ⟨⟨c0, c1⟩, ⟨q0, q1⟩, d0, d1, d2, d3, d4, d5, d6, d7, d8⟩; go_simp; try with_reducible rfl)); (try simp only [zl1]))
              refine wpAnyH_done (by kernel_rfl) ?_ _
              refine NoPanic.normal ?_
              have HW1 := Lib.hid (HW.out.below HB1.out)
              have HN1 : Hid (optI (namedK true X q (k + 1)) = (k : Int)) := Lib.hid (by rw [namedK_put (HCB.out.trans rfl) (.inl rfl)]; rfl)
              clear HSB HRE HB1 HW hS0
              go_wp2_with fail
              go_roundw
              case rel => exact Lib.hid ⟨k + 1, hlk, by rw [HN1.out], by go_num, HW1.out⟩
              case measure => simp [intOf]; omega
            | false =>
              refine wp_region_noPanic ?_
              refine wp_region_held_drew (S := HeldNm w.heap.size b (off + k * 9) (.slice (some ⟨b, off, none⟩) X.length cap) iv q (.slice qa q.2.length qc) x (.slice xa x.reqs.length xc)) (by kernel_rfl) (HSB.out _ (Below.refl _ _).drew) (fun hS0 => ?_)
              (refine zl3 0 ?_ rfl ?_ ?_; rotate_left; (· (rintro w ⟨⟨c0, c1⟩, ⟨q0, q1⟩, d0, d1, d2, d3, d4, d5, d6, d7, d8⟩; go_simp; try with_reducible rfl)); (try simp only [zl1]))
              (refine zl3 1 ?_ rfl ?_ ?_; rotate_left; (· (rintro w ⟨⟨c0, c1⟩, ⟨q0, q1⟩, d0, d1, d2, d3, d4, d5, d6, d7, d8⟩; go_simp; try with_reducible rfl)); (try simp only [zl1]))
              (refine zl3 2 ?_ rfl ?_ ?_; rotate_left; (· (rintro w ⟨⟨c0, c1⟩, ⟨q0, q1⟩, d0, d1, d2, d3, d4, d5, d6, d7, d8⟩; go_simp; try with_reducible rfl)); (try simp only [zl1]))
              (refine zl3 3 ?_ rfl ?_ ?_; rotate_left; (· (rintro w ⟨⟨c0, c1⟩, ⟨q0, q1⟩, d0, d1, d2, d3, d4, d5, d6, d7, d8⟩; go_simp; try with_reducible rfl)); (try simp only [zl1]))
              (refine zl3 4 ?_ rfl ?_ ?_; rotate_left; (· (rintro w ⟨⟨c0, c1⟩, ⟨q0, q1⟩, d0, d1, d2, d3, d4, d5, d6, d7, d8⟩; go_simp; try with_reducible rfl)); (try simp only [zl1]))
              (refine zl3 5 ?_ rfl ?_ ?_; rotate_left; (· (rintro w ⟨⟨c0, c1⟩, ⟨q0, q1⟩, d0, d1, d2, d3, d4, d5, d6, d7, d8⟩; go_simp; try with_reducible rfl)); (try simp only [zl1]))
              refine wpAnyH_ready (rs := [6]) (by kernel_rfl) (by simp) (AllReadyH.cons rfl (fun K hK => ?_) AllReadyH.nil)
              go_simp
              refine (HRE.out _ (Below.refl wr.heap.size wr).drew).mono ?_
              rintro e w1 ⟨rfl, hb1⟩
              have HB1 := Lib.hid ((Below.refl wr.heap.size wr).drew.trans hb1)
              clear hS0
              have hS0 := HSB.out _ HB1.out
              refine hK.out _ _ hS0 (fun _ => ?_)
              clear hK K hb1
              (try simp only [zl1])
              (refine zl3 7 ?_ rfl ?_ ?_; rotate_left; (· (intro w hSw; obtain ⟨⟨c0, c1⟩, ⟨q0, q1⟩, d0, d1, d2, d3, d4, d5, d6, d7, d8⟩ := hSw; rw [HYB.out] at d8; go_simp; try with_reducible rfl)); (try simp only [zl1]))
              (refine zl3 8 ?_ rfl ?_ ?_; rotate_left; (· (intro w hSw; obtain ⟨⟨c0, c1⟩, ⟨q0, q1⟩, d0, d1, d2, d3, d4, d5, d6, d7, d8⟩ := hSw; rw [HYB.out] at d8; go_simp; try with_reducible rfl)); (try simp only [zl1]))
              (refine zl3 9 ?_ rfl ?_ ?_; rotate_left; (· (intro w hSw; obtain ⟨⟨c0, c1⟩, ⟨q0, q1⟩, d0, d1, d2, d3, d4, d5, d6, d7, d8⟩ := hSw; rw [HYB.out] at d8; go_simp; try with_reducible rfl)); (try simp only [zl1]))
              (refine zl3 10 ?_ rfl ?_ ?_; rotate_left; (· (intro w hSw; obtain ⟨⟨c0, c1⟩, ⟨q0, q1⟩, d0, d1, d2, d3, d4, d5, d6, d7, d8⟩ := hSw; rw [HYB.out] at d8; go_simp; try with_reducible rfl)); (try simp only [zl1]))
              (refine zl3 11 ?_ rfl ?_ ?_; rotate_left; (· (intro w hSw; obtain ⟨⟨c0, c1⟩, ⟨q0, q1⟩, d0, d1, d2, d3, d4, d5, d6, d7, d8⟩ := hSw; rw [HYB.out] at d8; go_simp; try with_reducible rfl)); (try simp only [zl1]))
              (refine zl3 12 ?_ rfl ?_ ?_; rotate_left; (· (intro w hSw; obtain ⟨⟨c0, c1⟩, ⟨q0, q1⟩, d0, d1, d2, d3, d4, d5, d6, d7, d8⟩ := hSw; rw [HYB.out] at d8; go_simp; try with_reducible rfl)); (try simp only [zl1]))
              (refine zl3 13 ?_ rfl ?_ ?_; rotate_left; (· (intro w hSw; obtain ⟨⟨c0, c1⟩, ⟨q0, q1⟩, d0, d1, d2, d3, d4, d5, d6, d7, d8⟩ := hSw; rw [HYB.out] at d8; go_simp; try with_reducible rfl)); (try simp only [zl1]))
              (refine zl3 14 ?_ rfl ?_ ?_; rotate_left; (· (intro w hSw; obtain ⟨⟨c0, c1⟩, ⟨q0, q1⟩, d0, d1, d2, d3, d4, d5, d6, d7, d8⟩ := hSw; rw [HYB.out] at d8; go_simp; try with_reducible rfl)); (try simp only [zl1]))
              (refine zl3 15 ?_ rfl ?_ ?_; rotate_left; (· (rintro w ⟨⟨c0, c1⟩, ⟨q0, q1⟩, d0, d1, d2, d3, d4, d5, d6, d7, d8⟩; go_simp; try with_reducible rfl)); (try simp only [zl1]))
              (refine zl3 16 ?_ rfl ?_ ?_; rotate_left; (· (rintro w ⟨⟨c0, c1⟩, ⟨q0, q1⟩, d0, d1, d2, d3, d4, d5, d6, d7, d8⟩; go_simp; try with_reducible rfl)); (try simp only [zl1]))
              (refine zl3 17 ?_ rfl ?_ ?_; rotate_left; (· (rintro w ⟨⟨c0, c1⟩, ⟨q0, q1⟩, d0, d1, d2, d3, d4, d5, d6, d7, d8⟩; go_simp; try with_reducible rfl)); (try simp only [zl1]))
              (refine zl3 18 ?_ rfl ?_ ?_; rotate_left; (· (rintro w ⟨⟨c0, c1⟩, ⟨q0, q1⟩, d0, d1, d2, d3, d4, d5, d6, d7, d8⟩; go_simp; try with_reducible rfl)); (try simp only [zl1]))
              (refine zl3 19 ?_ rfl ?_ ?_; rotate_left; (· (rintro w ⟨⟨c0, c1⟩, ⟨q0, q1⟩, d0, d1, d2, d3, d4, d5, d6, d7, d8⟩; go_simp; try with_reducible rfl)); (try simp only [zl1]))
              (refine zl3 20 ?_ rfl ?_ ?_; rotate_left; (· (rintro w ⟨⟨c0, c1⟩, ⟨q0, q1⟩, d0, d1, d2, d3, d4, d5, d6, d7, d8⟩; go_simp; try with_reducible rfl)); (try simp only [zl1]))
              (refine zl3 21 ?_ rfl ?_ ?_; rotate_left; (· (rintro w ⟨⟨c0, c1⟩, ⟨q0, q1⟩, d0, d1, d2, d3, d4, d5, d6, d7, d8⟩; go_simp; try with_reducible rfl)); (try simp only [zl1]))
              (refine zl3 22 ?_ rfl ?_ ?_; rotate_left; (· (rintro w ⟨⟨c0, c1⟩, ⟨q0, q1⟩, d0, d1, d2, d3, d4, d5, d6, d7, d8⟩; go_simp; try with_reducible rfl)); (try simp only [zl1]))
              refine wpAnyH_done (by kernel_rfl) ?_ _
              refine NoPanic.normal ?_
              have HW1 := Lib.hid (HW.out.below HB1.out)
              have HN1 : Hid (optI (namedK false X q (k + 1)) = o) := Lib.hid (by rw [namedK_keep HNN.out, ← HO.out, HNN.out])
              clear HSB HRE HB1 HW hS0
              go_wp2_with fail
              go_roundw
              case rel => exact Lib.hid ⟨k + 1, hlk, by rw [HN1.out], by go_num, HW1.out⟩
              case measure => simp [intOf]; omega
end Go.Proofs.YtenfkejbndifdaaGreatDoor
