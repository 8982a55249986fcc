/- ConstraintUnique returns true at every input. -/
import Derived.Test.YtdhihdiifgcfdaaGreatDoorCLawKit
import Derived.Test.YtdhihdiifgcfdaaGreatDoorCSets
namespace Go.Proofs.YtdhihdiifgcfdaaGreatDoor
set_option linter.unusedVariables false
set_option linter.unusedSimpArgs false
open Go Go.RowKit

theorem sets_new2 (W : World) (v u : Value) (a b : List (Int × Int)) (hE : EdgesOf W.heap.size v a W) (hF : EdgesOf W.heap.size u b W) : SetsOf (W.alloc (.cells #[v, u] 32)).heap.size (.slice (some ⟨W.heap.size, 0, none⟩) 2 2) [a, b] (W.alloc (.cells #[v, u] 32)) :=
  sets_two (by simp) (by simp [go_sem]) (by simp [go_sem]) (hE.on (bel1 _ _)) (hF.on (bel1 _ _))
theorem two_mem {a b : List (Int × Int)} {C : Nat} (ha : a.length ≤ C) (hb : b.length ≤ C) : ∀ s ∈ [a, b], s.length ≤ C := fun s hs => by
  rcases List.mem_cons.1 hs with rfl | hs
  · exact ha
  · rcases List.mem_singleton.1 hs with rfl; exact hb
theorem two_cases (x y d : Bool) (h : (x && y) = d) : (x = false ∧ d = false) ∨ (x = true ∧ y = d) := by cases x <;> cases y <;> cases d <;> simp_all
theorem two_bools (x y d : Bool) (h : (x && y) = d) : (x = false ∧ d = false) ∨ (x = true ∧ y = true ∧ d = true) ∨ (x = true ∧ y = false ∧ d = false) := by cases x <;> cases y <;> cases d <;> simp_all
set_option maxRecDepth 100000 in
set_option maxHeartbeats 64000000 in
theorem ConstraintUnique_any (v : Value) (a : List (Int × Int)) (u : Value) (b : List (Int × Int)) (w : World) (hm : EnvOk w) (hE : EdgesOf w.heap.size v a w) (hF : EdgesOf w.heap.size u b w) :
    Calls Tryz.prog 8 #[v, u] w fun e w' => e = .returned (.bool true) ∧ Below w.heap.size w w' := by
  have HA := Lib.hid (cawake_any w hm)
  have HV := Lib.hid hE
  have HU := Lib.hid hF
  have HB : Hid (Below w.heap.size w w) := Lib.hid (Below.refl _ _)
  obtain ⟨ao, ec, rfl, _⟩ := hE
  obtain ⟨bo, fc, rfl, _⟩ := hF
  clear hm
  by_cases hg : 30 < a.length ∨ 30 < b.length
  · have hgi : ((30 : Int) < (a.length : Int)) ∨ (¬ (30 : Int) < (a.length : Int) ∧ (30 : Int) < (b.length : Int)) := by omega
    clear hg
    rcases hgi with g1 | ⟨g1, g2⟩
    all_goals
      go_enter Tryz.func8, Tryz.ntmps8
      go_wp2_with fail
      (with_reducible refine HA.out.mono ?_)
      rintro e w1 ⟨rfl, hb⟩
      replace HB := Lib.hid (belT HB.out hb)
      clear hb
      go_wp2_with fail
      go_ret
      exact ⟨rfl, HB.out⟩
  · have g1 : ¬ (30 : Int) < (a.length : Int) := by omega
    have g2 : ¬ (30 : Int) < (b.length : Int) := by omega
    have g2j : decide ((30 : Int) < (b.length : Int)) = false := decide_eq_false g2
    have ha : a.length ≤ 30 := by omega
    have hb' : b.length ≤ 30 := by omega
    have hca := Nat.le_trans (canon_len a) ha
    have hcb := Nat.le_trans (canon_len b) hb'
    have hla := complS_len a
    have hlb := complS_len b
    have hlc := complS_len (complS a)
    have hlu := union_len [a, b] 30 (two_mem ha hb')
    have hln := complS_len (unionS [a, b])
    have hli := inter_len [a, b] 30 (two_mem ha hb')
    have hlm : (minusS a b).length ≤ 1000 := by
      have := inter_len [a, complS b] 61 (two_mem (by omega) (by omega))
      unfold minusS
      simp only [List.length_cons, List.length_nil] at this
      omega
    have hlx := inter_len [complS a, complS b] 61 (two_mem (by omega) (by omega))
    simp only [List.length_cons, List.length_nil] at hlu hli hlx
    have V : Prop := True
    have H1 := Lib.hid (fun (W : World) (h : EdgesOf W.heap.size (.slice ao a.length ec) a W) => Canonical_any _ a W (by omega) h)
    have H2 := Lib.hid (fun (W : World) (h : EdgesOf W.heap.size (.slice bo b.length fc) b W) => Canonical_any _ b W (by omega) h)
    have H3 := Lib.hid (fun (W : World) (h : EdgesOf W.heap.size (.slice ao a.length ec) a W) (h2 : EdgesOf W.heap.size (.slice bo b.length fc) b W) => Subset_any _ _ a b W (by omega) (by omega) h h2)
    have H4 := Lib.hid (fun (W : World) (h : EdgesOf W.heap.size (.slice ao a.length ec) a W) (h2 : EdgesOf W.heap.size (.slice bo b.length fc) b W) => Subset_any _ _ b a W (by omega) (by omega) h2 h)
    have H5 := Lib.hid (fun (W : World) (x y : Value) (h : EdgesOf W.heap.size x (canon a) W) (h2 : EdgesOf W.heap.size y (canon b) W) => Same_any x y _ _ W (by omega) (by omega) h h2)
    have H6 := Lib.hid (fun (W : World) (v u : Value) (h : EdgesOf W.heap.size v a W) (h2 : EdgesOf W.heap.size u b W) => Union_any _ [a, b] _ (by simp) (two_mem (by omega) (by omega)) (sets_new2 W v u a b h h2))
    have H7 := Lib.hid (fun (W : World) (x : Value) (h : EdgesOf W.heap.size x (unionS [a, b]) W) => Complement_any x _ W (by omega) h)
    have H8 := Lib.hid (fun (W : World) (h : EdgesOf W.heap.size (.slice ao a.length ec) a W) => Complement_any _ a W (by omega) h)
    have H9 := Lib.hid (fun (W : World) (h : EdgesOf W.heap.size (.slice bo b.length fc) b W) => Complement_any _ b W (by omega) h)
    have H10 := Lib.hid (fun (W : World) (x y : Value) (h : EdgesOf W.heap.size x (complS a) W) (h2 : EdgesOf W.heap.size y (complS b) W) => Intersect_any _ [complS a, complS b] _ (by simp) (two_mem (by omega) (by omega)) (sets_new2 W x y _ _ h h2))
    have H11 := Lib.hid (fun (W : World) (h : EdgesOf W.heap.size (.slice ao a.length ec) a W) (h2 : EdgesOf W.heap.size (.slice bo b.length fc) b W) => Minus_any _ _ a b W (by omega) (by omega) h h2)
    have H12 := Lib.hid (fun (W : World) (v u : Value) (h : EdgesOf W.heap.size v a W) (h2 : EdgesOf W.heap.size u b W) => Intersect_any _ [a, b] _ (by simp) (two_mem (by omega) (by omega)) (sets_new2 W v u a b h h2))
    have H13 := Lib.hid (fun (W : World) (x y : Value) (h : EdgesOf W.heap.size x (minusS a b) W) (h2 : EdgesOf W.heap.size y (interS [a, b]) W) => Union_any _ [minusS a b, interS [a, b]] _ (by simp) (two_mem (by omega) (by omega)) (sets_new2 W x y _ _ h h2))
    have H14 := Lib.hid (fun (W : World) (x y : Value) (h : EdgesOf W.heap.size x (interS [complS a, complS b]) W) (h2 : EdgesOf W.heap.size y (interS [complS a, complS b]) W) => Same_yes _ x y W (by omega) h h2)
    have H15 := Lib.hid (fun (W : World) (x y : Value) (h : EdgesOf W.heap.size x (canon a) W) (h2 : EdgesOf W.heap.size y (canon a) W) => Same_yes _ x y W (by omega) h h2)
    have H16 := Lib.hid (fun (W : World) (x : Value) (h : EdgesOf W.heap.size x (complS a) W) => Complement_any x _ W (by omega) h)
    rw [no_both] at H7
    rw [back_canon] at H13
    rw [compl_compl] at H16
    have hsub := same_sub a b
    have HCN := Lib.hid (canon_can a)
    have hcl : (canon a).length ≤ 30 := hca
    generalize decide (canon a = canon b) = D at *
    generalize subB a b = s1 at *
    generalize subB b a = s2 at *
    generalize interS [complS a, complS b] = ic at *
    generalize interS [a, b] = ib at *
    generalize minusS a b = mb at *
    generalize unionS [a, b] = ub at *
    generalize complS a = ca at *
    generalize complS b = cb at *
    generalize canon a = cx at *
    generalize canon b = cy at *
    clear hla hlb hlc hlu hln hli hlm hlx hca hcb ha hb' V hg
    rcases two_bools s1 s2 D hsub with ⟨rfl, rfl⟩ | ⟨rfl, rfl, rfl⟩ | ⟨rfl, rfl, rfl⟩
    · clear hsub
      go_enter Tryz.func8, Tryz.ntmps8
      go_wp2_with fail
      (with_reducible refine (HA.out).mono ?_)
      rintro e w1 ⟨rfl, hb⟩
      replace HV := Lib.hid (HV.out.on hb)
      replace HU := Lib.hid (HU.out.on hb)
      replace HB := Lib.hid (belT HB.out hb)
      clear hb
      go_wp2_with fail
      (with_reducible refine (H1.out _ HV.out).mono ?_)
      rintro e w2 ⟨x, rfl, hE, hb⟩
      replace HV := Lib.hid (HV.out.on hb)
      replace HU := Lib.hid (HU.out.on hb)
      replace HB := Lib.hid (belT HB.out hb)
      have Hx := Lib.hid hE
      clear hE
      clear hb
      go_wp2_with fail
      (with_reducible refine (H2.out _ HU.out).mono ?_)
      rintro e w3 ⟨y, rfl, hE, hb⟩
      replace HV := Lib.hid (HV.out.on hb)
      replace HU := Lib.hid (HU.out.on hb)
      replace Hx := Lib.hid (Hx.out.on hb)
      replace HB := Lib.hid (belT HB.out hb)
      have Hy := Lib.hid hE
      clear hE
      clear hb
      go_wp2_with fail
      (with_reducible refine (H3.out _ HV.out HU.out).mono ?_)
      rintro e w4 ⟨rfl, hb⟩
      replace HV := Lib.hid (HV.out.on hb)
      replace HU := Lib.hid (HU.out.on hb)
      replace Hx := Lib.hid (Hx.out.on hb)
      replace Hy := Lib.hid (Hy.out.on hb)
      replace HB := Lib.hid (belT HB.out hb)
      clear hb
      go_wp2_with fail
      (with_reducible refine (H5.out _ _ _ Hx.out Hy.out).mono ?_)
      rintro e w5 ⟨rfl, hb⟩
      replace HV := Lib.hid (HV.out.on hb)
      replace HU := Lib.hid (HU.out.on hb)
      replace Hx := Lib.hid (Hx.out.on hb)
      replace Hy := Lib.hid (Hy.out.on hb)
      replace HB := Lib.hid (belT HB.out hb)
      clear hb
      obtain ⟨xo, xc, rfl, hEx⟩ := Hx.out
      have HEx := Lib.hid hEx
      clear hEx
      have HBc := Lib.hid HB.out
      obtain ⟨wx, hwx⟩ : ∃ W, W = w5 := ⟨_, rfl⟩
      rw [← hwx] at HV HU HB Hx HEx ⊢
      clear hwx HBc
      go_wp2_with fail
      go_loopw [8, 43] (fun at_ i wr => ∃ (k : Nat) (q : Int), k ≤ cx.length ∧ i = .int .i64 k ∧ at_ = .int .i64 q ∧ Hid (∀ z ∈ cx.drop k, q < z.1) ∧ Hid (Can (cx.drop k)) ∧ Hid (Below wx.heap.size wx wr)) (fun _ i _ => cx.length - (intOf i).toNat)
      case atStart => exact ⟨0, -1, Nat.zero_le _, rfl, rfl, Lib.hid (fun z hz => by have := (HCN.out.2 z (by simpa using hz)).1; omega), Lib.hid (by simpa using HCN.out), Lib.hid (Below.refl _ _)⟩
      case round =>
        obtain ⟨k, q, hk, rfl, rfl, HQ, HC, HBr⟩ := hrel
        by_cases hlt : k < cx.length
        · obtain ⟨b5, off, rfl, hb5, hc1, hc2⟩ := HEx.out k cx[k] (by simp [hlt])
          have hc1 := (HBr.out.cell (p := ⟨b5, off + k * 2, none⟩) hb5).trans hc1
          have hc2 := (HBr.out.cell (p := ⟨b5, off + k * 2 + 1, none⟩) hb5).trans hc2
          have hd := List.drop_eq_getElem_cons hlt
          have hq1 := HQ.out cx[k] (by rw [hd]; exact List.mem_cons_self)
          have hcn := HC.out
          rw [hd] at hcn
          obtain ⟨p1, p2, p3⟩ := can_cons.1 hcn
          have HQ2 := Lib.hid p2
          have HC2 := Lib.hid p3
          have hszr := HBr.out.size
          obtain ⟨⟨x1, x2⟩, hxk⟩ : ∃ z, z = cx[k] := ⟨_, rfl⟩
          rw [← hxk] at hc1 hc2 hq1 p1 HQ2
          clear hxk hd hcn p2 p3
          simp only at hc1 hc2 hq1 p1
          obtain ⟨p1a, p1b, p1c⟩ := p1
          have hn1 : ¬ x1 ≤ q := by omega
          have hn2 : ¬ x2 ≤ x1 := by omega
          have hn3 : ¬ 1000000 < x2 := by omega
          go_wp2_with fail
          go_roundw
          case rel => exact ⟨k + 1, x2, by omega, by go_num, rfl, HQ2, HC2, Lib.hid (HBr.out.alloc hszr _)⟩
          case measure => simp [intOf]; omega
        · have hbr := HBr.out
          replace HV := Lib.hid (HV.out.on hbr)
          replace HU := Lib.hid (HU.out.on hbr)
          replace Hx := Lib.hid (Hx.out.on hbr)
          replace HB := Lib.hid (belT HB.out hbr)
          clear hbr HBr HEx HQ HC
          go_wp2_with fail
          (with_reducible refine (H6.out wr _ _ HV.out HU.out).mono ?_)
          rintro e w11 ⟨r1, rfl, hE, hb0⟩
          have hb := belT (bel1 wr (.cells #[.slice ao a.length ec, .slice bo b.length fc] 32)) hb0
          replace HV := Lib.hid (HV.out.on hb)
          replace HU := Lib.hid (HU.out.on hb)
          replace Hx := Lib.hid (Hx.out.on hb)
          replace HB := Lib.hid (belT HB.out hb)
          have Hr1 := Lib.hid hE
          obtain ⟨ar1, cr1, rfl, _⟩ := hE
          clear hb hb0
          go_wp2_with fail
          (with_reducible refine (H7.out _ _ Hr1.out).mono ?_)
          rintro e w12 ⟨r2, rfl, hE, hb⟩
          replace HV := Lib.hid (HV.out.on hb)
          replace HU := Lib.hid (HU.out.on hb)
          replace Hx := Lib.hid (Hx.out.on hb)
          replace Hr1 := Lib.hid (Hr1.out.on hb)
          replace HB := Lib.hid (belT HB.out hb)
          have Hr2 := Lib.hid hE
          clear hE
          clear hb
          go_wp2_with fail
          (with_reducible refine (H8.out _ HV.out).mono ?_)
          rintro e w13 ⟨r3, rfl, hE, hb⟩
          replace HV := Lib.hid (HV.out.on hb)
          replace HU := Lib.hid (HU.out.on hb)
          replace Hx := Lib.hid (Hx.out.on hb)
          replace Hr2 := Lib.hid (Hr2.out.on hb)
          replace HB := Lib.hid (belT HB.out hb)
          have Hr3 := Lib.hid hE
          obtain ⟨ar3, cr3, rfl, _⟩ := hE
          clear hb
          go_wp2_with fail
          (with_reducible refine (H9.out _ HU.out).mono ?_)
          rintro e w14 ⟨r4, rfl, hE, hb⟩
          replace HV := Lib.hid (HV.out.on hb)
          replace HU := Lib.hid (HU.out.on hb)
          replace Hx := Lib.hid (Hx.out.on hb)
          replace Hr2 := Lib.hid (Hr2.out.on hb)
          replace Hr3 := Lib.hid (Hr3.out.on hb)
          replace HB := Lib.hid (belT HB.out hb)
          have Hr4 := Lib.hid hE
          obtain ⟨ar4, cr4, rfl, _⟩ := hE
          clear hb
          go_wp2_with fail
          (with_reducible refine (H10.out w14 _ _ Hr3.out Hr4.out).mono ?_)
          rintro e w15 ⟨r5, rfl, hE, hb0⟩
          have hb := belT (bel1 w14 (.cells #[.slice ar3 ca.length cr3, .slice ar4 cb.length cr4] 32)) hb0
          replace HV := Lib.hid (HV.out.on hb)
          replace HU := Lib.hid (HU.out.on hb)
          replace Hx := Lib.hid (Hx.out.on hb)
          replace Hr2 := Lib.hid (Hr2.out.on hb)
          replace Hr3 := Lib.hid (Hr3.out.on hb)
          replace Hr4 := Lib.hid (Hr4.out.on hb)
          replace HB := Lib.hid (belT HB.out hb)
          have Hr5 := Lib.hid hE
          obtain ⟨ar5, cr5, rfl, _⟩ := hE
          clear hb hb0
          go_wp2_with fail
          (with_reducible refine (H11.out _ HV.out HU.out).mono ?_)
          rintro e w16 ⟨r6, rfl, hE, hb⟩
          replace HV := Lib.hid (HV.out.on hb)
          replace HU := Lib.hid (HU.out.on hb)
          replace Hx := Lib.hid (Hx.out.on hb)
          replace Hr2 := Lib.hid (Hr2.out.on hb)
          replace Hr5 := Lib.hid (Hr5.out.on hb)
          replace HB := Lib.hid (belT HB.out hb)
          have Hr6 := Lib.hid hE
          obtain ⟨ar6, cr6, rfl, _⟩ := hE
          clear hb
          go_wp2_with fail
          (with_reducible refine (H12.out w16 _ _ HV.out HU.out).mono ?_)
          rintro e w17 ⟨r7, rfl, hE, hb0⟩
          have hb := belT (bel1 w16 (.cells #[.slice ao a.length ec, .slice bo b.length fc] 32)) hb0
          replace HV := Lib.hid (HV.out.on hb)
          replace HU := Lib.hid (HU.out.on hb)
          replace Hx := Lib.hid (Hx.out.on hb)
          replace Hr2 := Lib.hid (Hr2.out.on hb)
          replace Hr5 := Lib.hid (Hr5.out.on hb)
          replace Hr6 := Lib.hid (Hr6.out.on hb)
          replace HB := Lib.hid (belT HB.out hb)
          have Hr7 := Lib.hid hE
          obtain ⟨ar7, cr7, rfl, _⟩ := hE
          clear hb hb0
          go_wp2_with fail
          (with_reducible refine (H13.out w17 _ _ Hr6.out Hr7.out).mono ?_)
          rintro e w18 ⟨r8, rfl, hE, hb0⟩
          have hb := belT (bel1 w17 (.cells #[.slice ar6 mb.length cr6, .slice ar7 ib.length cr7] 32)) hb0
          replace HV := Lib.hid (HV.out.on hb)
          replace HU := Lib.hid (HU.out.on hb)
          replace Hx := Lib.hid (Hx.out.on hb)
          replace Hr2 := Lib.hid (Hr2.out.on hb)
          replace Hr5 := Lib.hid (Hr5.out.on hb)
          replace Hr6 := Lib.hid (Hr6.out.on hb)
          replace Hr7 := Lib.hid (Hr7.out.on hb)
          replace HB := Lib.hid (belT HB.out hb)
          have Hr8 := Lib.hid hE
          obtain ⟨ar8, cr8, rfl, _⟩ := hE
          clear hb hb0
          go_wp2_with fail
          (with_reducible refine (H14.out _ _ _ Hr2.out Hr5.out).mono ?_)
          rintro e w19 ⟨rfl, hb⟩
          replace HV := Lib.hid (HV.out.on hb)
          replace HU := Lib.hid (HU.out.on hb)
          replace Hx := Lib.hid (Hx.out.on hb)
          replace Hr2 := Lib.hid (Hr2.out.on hb)
          replace Hr5 := Lib.hid (Hr5.out.on hb)
          replace Hr6 := Lib.hid (Hr6.out.on hb)
          replace Hr7 := Lib.hid (Hr7.out.on hb)
          replace Hr8 := Lib.hid (Hr8.out.on hb)
          replace HB := Lib.hid (belT HB.out hb)
          clear hb
          go_wp2_with fail
          (with_reducible refine (H15.out _ _ _ Hr8.out Hx.out).mono ?_)
          rintro e w20 ⟨rfl, hb⟩
          replace HV := Lib.hid (HV.out.on hb)
          replace HU := Lib.hid (HU.out.on hb)
          replace Hx := Lib.hid (Hx.out.on hb)
          replace Hr2 := Lib.hid (Hr2.out.on hb)
          replace Hr5 := Lib.hid (Hr5.out.on hb)
          replace Hr6 := Lib.hid (Hr6.out.on hb)
          replace Hr7 := Lib.hid (Hr7.out.on hb)
          replace Hr8 := Lib.hid (Hr8.out.on hb)
          replace HB := Lib.hid (belT HB.out hb)
          clear hb
          go_wp2_with fail
          (with_reducible refine (H8.out _ HV.out).mono ?_)
          rintro e w21 ⟨r9, rfl, hE, hb⟩
          replace HV := Lib.hid (HV.out.on hb)
          replace HU := Lib.hid (HU.out.on hb)
          replace Hx := Lib.hid (Hx.out.on hb)
          replace Hr2 := Lib.hid (Hr2.out.on hb)
          replace Hr5 := Lib.hid (Hr5.out.on hb)
          replace Hr6 := Lib.hid (Hr6.out.on hb)
          replace Hr7 := Lib.hid (Hr7.out.on hb)
          replace Hr8 := Lib.hid (Hr8.out.on hb)
          replace HB := Lib.hid (belT HB.out hb)
          have Hr9 := Lib.hid hE
          clear hE
          clear hb
          go_wp2_with fail
          (with_reducible refine (H16.out _ _ Hr9.out).mono ?_)
          rintro e w22 ⟨r10, rfl, hE, hb⟩
          replace HV := Lib.hid (HV.out.on hb)
          replace HU := Lib.hid (HU.out.on hb)
          replace Hx := Lib.hid (Hx.out.on hb)
          replace Hr2 := Lib.hid (Hr2.out.on hb)
          replace Hr5 := Lib.hid (Hr5.out.on hb)
          replace Hr6 := Lib.hid (Hr6.out.on hb)
          replace Hr7 := Lib.hid (Hr7.out.on hb)
          replace Hr8 := Lib.hid (Hr8.out.on hb)
          replace Hr9 := Lib.hid (Hr9.out.on hb)
          replace HB := Lib.hid (belT HB.out hb)
          have Hr10 := Lib.hid hE
          clear hE
          clear hb
          go_wp2_with fail
          (with_reducible refine (H15.out _ _ _ Hr10.out Hx.out).mono ?_)
          rintro e w23 ⟨rfl, hb⟩
          replace HV := Lib.hid (HV.out.on hb)
          replace HU := Lib.hid (HU.out.on hb)
          replace Hx := Lib.hid (Hx.out.on hb)
          replace Hr2 := Lib.hid (Hr2.out.on hb)
          replace Hr5 := Lib.hid (Hr5.out.on hb)
          replace Hr6 := Lib.hid (Hr6.out.on hb)
          replace Hr7 := Lib.hid (Hr7.out.on hb)
          replace Hr8 := Lib.hid (Hr8.out.on hb)
          replace Hr9 := Lib.hid (Hr9.out.on hb)
          replace Hr10 := Lib.hid (Hr10.out.on hb)
          replace HB := Lib.hid (belT HB.out hb)
          clear hb
          go_wp2_with fail
          go_ret
          exact ⟨rfl, HB.out⟩
    all_goals
      clear hsub
      go_enter Tryz.func8, Tryz.ntmps8
      go_wp2_with fail
      (with_reducible refine (HA.out).mono ?_)
      rintro e w1 ⟨rfl, hb⟩
      replace HV := Lib.hid (HV.out.on hb)
      replace HU := Lib.hid (HU.out.on hb)
      replace HB := Lib.hid (belT HB.out hb)
      clear hb
      go_wp2_with fail
      (with_reducible refine (H1.out _ HV.out).mono ?_)
      rintro e w2 ⟨x, rfl, hE, hb⟩
      replace HV := Lib.hid (HV.out.on hb)
      replace HU := Lib.hid (HU.out.on hb)
      replace HB := Lib.hid (belT HB.out hb)
      have Hx := Lib.hid hE
      clear hE
      clear hb
      go_wp2_with fail
      (with_reducible refine (H2.out _ HU.out).mono ?_)
      rintro e w3 ⟨y, rfl, hE, hb⟩
      replace HV := Lib.hid (HV.out.on hb)
      replace HU := Lib.hid (HU.out.on hb)
      replace Hx := Lib.hid (Hx.out.on hb)
      replace HB := Lib.hid (belT HB.out hb)
      have Hy := Lib.hid hE
      clear hE
      clear hb
      go_wp2_with fail
      (with_reducible refine (H3.out _ HV.out HU.out).mono ?_)
      rintro e w4 ⟨rfl, hb⟩
      replace HV := Lib.hid (HV.out.on hb)
      replace HU := Lib.hid (HU.out.on hb)
      replace Hx := Lib.hid (Hx.out.on hb)
      replace Hy := Lib.hid (Hy.out.on hb)
      replace HB := Lib.hid (belT HB.out hb)
      clear hb
      go_wp2_with fail
      (with_reducible refine (H4.out _ HV.out HU.out).mono ?_)
      rintro e w5 ⟨rfl, hb⟩
      replace HV := Lib.hid (HV.out.on hb)
      replace HU := Lib.hid (HU.out.on hb)
      replace Hx := Lib.hid (Hx.out.on hb)
      replace Hy := Lib.hid (Hy.out.on hb)
      replace HB := Lib.hid (belT HB.out hb)
      clear hb
      go_wp2_with fail
      (with_reducible refine (H5.out _ _ _ Hx.out Hy.out).mono ?_)
      rintro e w6 ⟨rfl, hb⟩
      replace HV := Lib.hid (HV.out.on hb)
      replace HU := Lib.hid (HU.out.on hb)
      replace Hx := Lib.hid (Hx.out.on hb)
      replace Hy := Lib.hid (Hy.out.on hb)
      replace HB := Lib.hid (belT HB.out hb)
      clear hb
      obtain ⟨xo, xc, rfl, hEx⟩ := Hx.out
      have HEx := Lib.hid hEx
      clear hEx
      have HBc := Lib.hid HB.out
      obtain ⟨wx, hwx⟩ : ∃ W, W = w6 := ⟨_, rfl⟩
      rw [← hwx] at HV HU HB Hx HEx ⊢
      clear hwx HBc
      go_wp2_with fail
      go_loopw [8, 43] (fun at_ i wr => ∃ (k : Nat) (q : Int), k ≤ cx.length ∧ i = .int .i64 k ∧ at_ = .int .i64 q ∧ Hid (∀ z ∈ cx.drop k, q < z.1) ∧ Hid (Can (cx.drop k)) ∧ Hid (Below wx.heap.size wx wr)) (fun _ i _ => cx.length - (intOf i).toNat)
      case atStart => exact ⟨0, -1, Nat.zero_le _, rfl, rfl, Lib.hid (fun z hz => by have := (HCN.out.2 z (by simpa using hz)).1; omega), Lib.hid (by simpa using HCN.out), Lib.hid (Below.refl _ _)⟩
      case round =>
        obtain ⟨k, q, hk, rfl, rfl, HQ, HC, HBr⟩ := hrel
        by_cases hlt : k < cx.length
        · obtain ⟨b5, off, rfl, hb5, hc1, hc2⟩ := HEx.out k cx[k] (by simp [hlt])
          have hc1 := (HBr.out.cell (p := ⟨b5, off + k * 2, none⟩) hb5).trans hc1
          have hc2 := (HBr.out.cell (p := ⟨b5, off + k * 2 + 1, none⟩) hb5).trans hc2
          have hd := List.drop_eq_getElem_cons hlt
          have hq1 := HQ.out cx[k] (by rw [hd]; exact List.mem_cons_self)
          have hcn := HC.out
          rw [hd] at hcn
          obtain ⟨p1, p2, p3⟩ := can_cons.1 hcn
          have HQ2 := Lib.hid p2
          have HC2 := Lib.hid p3
          have hszr := HBr.out.size
          obtain ⟨⟨x1, x2⟩, hxk⟩ : ∃ z, z = cx[k] := ⟨_, rfl⟩
          rw [← hxk] at hc1 hc2 hq1 p1 HQ2
          clear hxk hd hcn p2 p3
          simp only at hc1 hc2 hq1 p1
          obtain ⟨p1a, p1b, p1c⟩ := p1
          have hn1 : ¬ x1 ≤ q := by omega
          have hn2 : ¬ x2 ≤ x1 := by omega
          have hn3 : ¬ 1000000 < x2 := by omega
          go_wp2_with fail
          go_roundw
          case rel => exact ⟨k + 1, x2, by omega, by go_num, rfl, HQ2, HC2, Lib.hid (HBr.out.alloc hszr _)⟩
          case measure => simp [intOf]; omega
        · have hbr := HBr.out
          replace HV := Lib.hid (HV.out.on hbr)
          replace HU := Lib.hid (HU.out.on hbr)
          replace Hx := Lib.hid (Hx.out.on hbr)
          replace HB := Lib.hid (belT HB.out hbr)
          clear hbr HBr HEx HQ HC
          go_wp2_with fail
          (with_reducible refine (H6.out wr _ _ HV.out HU.out).mono ?_)
          rintro e w11 ⟨r1, rfl, hE, hb0⟩
          have hb := belT (bel1 wr (.cells #[.slice ao a.length ec, .slice bo b.length fc] 32)) hb0
          replace HV := Lib.hid (HV.out.on hb)
          replace HU := Lib.hid (HU.out.on hb)
          replace Hx := Lib.hid (Hx.out.on hb)
          replace HB := Lib.hid (belT HB.out hb)
          have Hr1 := Lib.hid hE
          obtain ⟨ar1, cr1, rfl, _⟩ := hE
          clear hb hb0
          go_wp2_with fail
          (with_reducible refine (H7.out _ _ Hr1.out).mono ?_)
          rintro e w12 ⟨r2, rfl, hE, hb⟩
          replace HV := Lib.hid (HV.out.on hb)
          replace HU := Lib.hid (HU.out.on hb)
          replace Hx := Lib.hid (Hx.out.on hb)
          replace Hr1 := Lib.hid (Hr1.out.on hb)
          replace HB := Lib.hid (belT HB.out hb)
          have Hr2 := Lib.hid hE
          clear hE
          clear hb
          go_wp2_with fail
          (with_reducible refine (H8.out _ HV.out).mono ?_)
          rintro e w13 ⟨r3, rfl, hE, hb⟩
          replace HV := Lib.hid (HV.out.on hb)
          replace HU := Lib.hid (HU.out.on hb)
          replace Hx := Lib.hid (Hx.out.on hb)
          replace Hr2 := Lib.hid (Hr2.out.on hb)
          replace HB := Lib.hid (belT HB.out hb)
          have Hr3 := Lib.hid hE
          obtain ⟨ar3, cr3, rfl, _⟩ := hE
          clear hb
          go_wp2_with fail
          (with_reducible refine (H9.out _ HU.out).mono ?_)
          rintro e w14 ⟨r4, rfl, hE, hb⟩
          replace HV := Lib.hid (HV.out.on hb)
          replace HU := Lib.hid (HU.out.on hb)
          replace Hx := Lib.hid (Hx.out.on hb)
          replace Hr2 := Lib.hid (Hr2.out.on hb)
          replace Hr3 := Lib.hid (Hr3.out.on hb)
          replace HB := Lib.hid (belT HB.out hb)
          have Hr4 := Lib.hid hE
          obtain ⟨ar4, cr4, rfl, _⟩ := hE
          clear hb
          go_wp2_with fail
          (with_reducible refine (H10.out w14 _ _ Hr3.out Hr4.out).mono ?_)
          rintro e w15 ⟨r5, rfl, hE, hb0⟩
          have hb := belT (bel1 w14 (.cells #[.slice ar3 ca.length cr3, .slice ar4 cb.length cr4] 32)) hb0
          replace HV := Lib.hid (HV.out.on hb)
          replace HU := Lib.hid (HU.out.on hb)
          replace Hx := Lib.hid (Hx.out.on hb)
          replace Hr2 := Lib.hid (Hr2.out.on hb)
          replace Hr3 := Lib.hid (Hr3.out.on hb)
          replace Hr4 := Lib.hid (Hr4.out.on hb)
          replace HB := Lib.hid (belT HB.out hb)
          have Hr5 := Lib.hid hE
          obtain ⟨ar5, cr5, rfl, _⟩ := hE
          clear hb hb0
          go_wp2_with fail
          (with_reducible refine (H11.out _ HV.out HU.out).mono ?_)
          rintro e w16 ⟨r6, rfl, hE, hb⟩
          replace HV := Lib.hid (HV.out.on hb)
          replace HU := Lib.hid (HU.out.on hb)
          replace Hx := Lib.hid (Hx.out.on hb)
          replace Hr2 := Lib.hid (Hr2.out.on hb)
          replace Hr5 := Lib.hid (Hr5.out.on hb)
          replace HB := Lib.hid (belT HB.out hb)
          have Hr6 := Lib.hid hE
          obtain ⟨ar6, cr6, rfl, _⟩ := hE
          clear hb
          go_wp2_with fail
          (with_reducible refine (H12.out w16 _ _ HV.out HU.out).mono ?_)
          rintro e w17 ⟨r7, rfl, hE, hb0⟩
          have hb := belT (bel1 w16 (.cells #[.slice ao a.length ec, .slice bo b.length fc] 32)) hb0
          replace HV := Lib.hid (HV.out.on hb)
          replace HU := Lib.hid (HU.out.on hb)
          replace Hx := Lib.hid (Hx.out.on hb)
          replace Hr2 := Lib.hid (Hr2.out.on hb)
          replace Hr5 := Lib.hid (Hr5.out.on hb)
          replace Hr6 := Lib.hid (Hr6.out.on hb)
          replace HB := Lib.hid (belT HB.out hb)
          have Hr7 := Lib.hid hE
          obtain ⟨ar7, cr7, rfl, _⟩ := hE
          clear hb hb0
          go_wp2_with fail
          (with_reducible refine (H13.out w17 _ _ Hr6.out Hr7.out).mono ?_)
          rintro e w18 ⟨r8, rfl, hE, hb0⟩
          have hb := belT (bel1 w17 (.cells #[.slice ar6 mb.length cr6, .slice ar7 ib.length cr7] 32)) hb0
          replace HV := Lib.hid (HV.out.on hb)
          replace HU := Lib.hid (HU.out.on hb)
          replace Hx := Lib.hid (Hx.out.on hb)
          replace Hr2 := Lib.hid (Hr2.out.on hb)
          replace Hr5 := Lib.hid (Hr5.out.on hb)
          replace Hr6 := Lib.hid (Hr6.out.on hb)
          replace Hr7 := Lib.hid (Hr7.out.on hb)
          replace HB := Lib.hid (belT HB.out hb)
          have Hr8 := Lib.hid hE
          obtain ⟨ar8, cr8, rfl, _⟩ := hE
          clear hb hb0
          go_wp2_with fail
          (with_reducible refine (H14.out _ _ _ Hr2.out Hr5.out).mono ?_)
          rintro e w19 ⟨rfl, hb⟩
          replace HV := Lib.hid (HV.out.on hb)
          replace HU := Lib.hid (HU.out.on hb)
          replace Hx := Lib.hid (Hx.out.on hb)
          replace Hr2 := Lib.hid (Hr2.out.on hb)
          replace Hr5 := Lib.hid (Hr5.out.on hb)
          replace Hr6 := Lib.hid (Hr6.out.on hb)
          replace Hr7 := Lib.hid (Hr7.out.on hb)
          replace Hr8 := Lib.hid (Hr8.out.on hb)
          replace HB := Lib.hid (belT HB.out hb)
          clear hb
          go_wp2_with fail
          (with_reducible refine (H15.out _ _ _ Hr8.out Hx.out).mono ?_)
          rintro e w20 ⟨rfl, hb⟩
          replace HV := Lib.hid (HV.out.on hb)
          replace HU := Lib.hid (HU.out.on hb)
          replace Hx := Lib.hid (Hx.out.on hb)
          replace Hr2 := Lib.hid (Hr2.out.on hb)
          replace Hr5 := Lib.hid (Hr5.out.on hb)
          replace Hr6 := Lib.hid (Hr6.out.on hb)
          replace Hr7 := Lib.hid (Hr7.out.on hb)
          replace Hr8 := Lib.hid (Hr8.out.on hb)
          replace HB := Lib.hid (belT HB.out hb)
          clear hb
          go_wp2_with fail
          (with_reducible refine (H8.out _ HV.out).mono ?_)
          rintro e w21 ⟨r9, rfl, hE, hb⟩
          replace HV := Lib.hid (HV.out.on hb)
          replace HU := Lib.hid (HU.out.on hb)
          replace Hx := Lib.hid (Hx.out.on hb)
          replace Hr2 := Lib.hid (Hr2.out.on hb)
          replace Hr5 := Lib.hid (Hr5.out.on hb)
          replace Hr6 := Lib.hid (Hr6.out.on hb)
          replace Hr7 := Lib.hid (Hr7.out.on hb)
          replace Hr8 := Lib.hid (Hr8.out.on hb)
          replace HB := Lib.hid (belT HB.out hb)
          have Hr9 := Lib.hid hE
          clear hE
          clear hb
          go_wp2_with fail
          (with_reducible refine (H16.out _ _ Hr9.out).mono ?_)
          rintro e w22 ⟨r10, rfl, hE, hb⟩
          replace HV := Lib.hid (HV.out.on hb)
          replace HU := Lib.hid (HU.out.on hb)
          replace Hx := Lib.hid (Hx.out.on hb)
          replace Hr2 := Lib.hid (Hr2.out.on hb)
          replace Hr5 := Lib.hid (Hr5.out.on hb)
          replace Hr6 := Lib.hid (Hr6.out.on hb)
          replace Hr7 := Lib.hid (Hr7.out.on hb)
          replace Hr8 := Lib.hid (Hr8.out.on hb)
          replace Hr9 := Lib.hid (Hr9.out.on hb)
          replace HB := Lib.hid (belT HB.out hb)
          have Hr10 := Lib.hid hE
          clear hE
          clear hb
          go_wp2_with fail
          (with_reducible refine (H15.out _ _ _ Hr10.out Hx.out).mono ?_)
          rintro e w23 ⟨rfl, hb⟩
          replace HV := Lib.hid (HV.out.on hb)
          replace HU := Lib.hid (HU.out.on hb)
          replace Hx := Lib.hid (Hx.out.on hb)
          replace Hr2 := Lib.hid (Hr2.out.on hb)
          replace Hr5 := Lib.hid (Hr5.out.on hb)
          replace Hr6 := Lib.hid (Hr6.out.on hb)
          replace Hr7 := Lib.hid (Hr7.out.on hb)
          replace Hr8 := Lib.hid (Hr8.out.on hb)
          replace Hr9 := Lib.hid (Hr9.out.on hb)
          replace Hr10 := Lib.hid (Hr10.out.on hb)
          replace HB := Lib.hid (belT HB.out hb)
          clear hb
          go_wp2_with fail
          go_ret
          exact ⟨rfl, HB.out⟩
end Go.Proofs.YtdhihdiifgcfdaaGreatDoor
