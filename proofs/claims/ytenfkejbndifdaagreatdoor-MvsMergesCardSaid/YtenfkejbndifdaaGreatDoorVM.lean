/- Contracts of the reference 34: Reduce. slices.IndexFunc and ContainsFunc at lists of requirements, and the law's closure. -/
import Derived.Test.YtenfkejbndifdaaGreatDoorVL
import Derived.Test.YtenfkejbndifdaaGreatDoorUV
import Derived.Test.YtenfkejbndifdaaGreatDoorUX
import Derived.Test.YtenfkejbndifdaaGreatDoorUI
namespace Go.Proofs.YtenfkejbndifdaaGreatDoor
set_option linter.unusedVariables false
set_option linter.unusedSimpArgs false
open Go Go.RowKit Go.Maps

def SelAtM (W : World) (b o : Nat) (y : SelL) : Prop := W.cell? ⟨b, o, none⟩ = some (.string y.1) ∧ W.cell? ⟨b, o + 1, none⟩ = some (.int .i64 y.2.1) ∧ W.cell? ⟨b, o + 2, none⟩ = some (.int .i64 y.2.2.1) ∧ W.cell? ⟨b, o + 3, none⟩ = some (.int .i64 y.2.2.2)
theorem SelAtM.below {W W' : World} {b o : Nat} {y : SelL} (h : SelAtM W b o y) (hb : b < W.heap.size) (hw : Below W.heap.size W W') : SelAtM W' b o y :=
  ⟨(hw.cell (p := ⟨b, o, none⟩) hb).trans h.1, (hw.cell (p := ⟨b, o + 1, none⟩) hb).trans h.2.1, (hw.cell (p := ⟨b, o + 2, none⟩) hb).trans h.2.2.1, (hw.cell (p := ⟨b, o + 3, none⟩) hb).trans h.2.2.2⟩
def HeldWm (g : Nat) (v iv : Value) (b o : Nat) (y : SelL) (W : World) : Prop := (W.cell? ⟨g, 0, none⟩ = some v ∧ W.cell? ⟨g, 1, none⟩ = some iv) ∧ SelAtM W b o y
def ReduceRr (X : List RelL) (s : List SelL) (w : World) (e : Ending) (w' : World) : Prop := Below w.heap.size w w' ∧ ∃ v, e = .returned (.tuple #[v, .int .i64 (reduceV X s).2]) ∧ ReqsOf w'.heap.size v (reduceV X s).1 w'
theorem ReduceRr.no {X : List RelL} {s : List SelL} {w w' : World} {en : Int} (hb : Below w.heap.size w w') (h : reduceV X s = ([], en)) : ReduceRr X s w (.returned (.tuple #[.slice none 0 0, .int .i64 en])) w' := ⟨hb, _, by rw [h], by rw [h]; exact ⟨_, _, rfl, fun i q hq => by simp at hq⟩⟩
theorem reqs_head {B b off c j : Nat} {R : List ReqL} {W : World} (h : ReqsOf B (.slice (some ⟨b, off, none⟩) R.length c) R W) (hj : j ≤ R.length) :
    ∃ ys : List Value, ys.length = j * 2 ∧ (∀ i u, ys[i]? = some u → W.cell? ⟨b, off + i, none⟩ = some u) ∧ ReqXs B (R.take j) ys W ∧ ∀ u ∈ ys, u.oneCell' = true := by
  have h1 := h.cut hj
  have e : (R.take j).length = j := by rw [List.length_take]; omega
  rw [show Value.slice (some (⟨b, off, none⟩ : Addr)) j c = .slice (some ⟨b, off, none⟩) (R.take j).length c by rw [e]] at h1
  obtain ⟨ys, a, b, c, d⟩ := reqs_cells2 h1
  rw [e] at a
  exact ⟨ys, a, b, c, d⟩
theorem reqs_tail {B b off c k : Nat} {R : List ReqL} {W : World} (h : ReqsOf B (.slice (some ⟨b, off, none⟩) R.length c) R W) (hc : R.length ≤ c) (hk : k ≤ R.length) :
    ∃ (o : Nat) (ys : List Value), (if c = k then some (⟨b, off, none⟩ : Addr) else some ⟨b, off + k * 2, none⟩) = some ⟨b, o, none⟩ ∧ ys.length = (R.length - k) * 2 ∧ (∀ i u, ys[i]? = some u → W.cell? ⟨b, o + i, none⟩ = some u) ∧ ReqXs B (R.drop k) ys W ∧ ∀ u ∈ ys, u.oneCell' = true := by
  by_cases e : c = k
  · have : R.length = k := by omega
    refine ⟨off, [], if_pos e, by simp; omega, fun i u hu => by simp at hu, ?_, fun u hu => by cases hu⟩
    rw [List.drop_eq_nil_of_le (by omega)]
    exact fun i q hq => by simp at hq
  · obtain ⟨ys, h1, h2, h3, h4⟩ := reqs_cells2 (h.rest k c)
    rw [List.length_drop] at h1
    exact ⟨off + k * 2, ys, if_neg e, h1, h2, h3, h4⟩
theorem app_cut {j n : Nat} (h : j < n) (h2 : n ≤ 16) : j + (n - (j + 1)) ≤ 16 := by omega
theorem take_lt {α : Type} {R : List α} {j : Nat} (h : j < R.length) : (R.take j).length = j := by rw [List.length_take]; omega
theorem cut_len {α : Type} {R : List α} {j : Nat} (h : j < R.length) : j + (R.length - (j + 1)) = (R.eraseIdx j).length := by rw [List.length_eraseIdx_of_lt h]; omega
theorem own_len (s : List SelL) (k : Nat) (hk : k ≤ s.length) : (ownL (s.take k)).length = k := by unfold ownL; rw [List.length_map, List.length_take]; omega
theorem own_snoc {X : List RelL} (hX : IdxOk X) {s : List SelL} {k i : Nat} (hk : k < s.length) (hl : lookK X X.length s[k] = some i) : ownL (s.take (k + 1)) = ownL (s.take k) ++ [(s[k].1, canon [(plc s[k].2, 1000000)])] := by
  obtain ⟨hi, he⟩ := lookK_some hl
  have hp := (hX.rel i hi).plc
  have hv : (X.getD i default).ver = s[k].2 := by rw [← he]; rfl
  rw [hv] at hp
  rw [canon_up hp.1 hp.2, List.take_succ_eq_append_getElem hk]
  unfold ownL
  rw [List.map_append]
  rfl
theorem gives_sel {X : List RelL} {s : List SelL} {R : List ReqL} (h0 : (selM false X R).2 = 0) : givesB X s R = decide ((selM false X R).1 = s) := by
  unfold givesB
  rw [h0, decide_eq_true (rfl : (0 : Int) = 0), Bool.and_true]
set_option maxRecDepth 100000 in
set_option maxHeartbeats 16000000 in
theorem rReduce_any (v iv sv : Value) (X : List RelL) (s : List SelL) (w : World) (hX : X.length ≤ 1000000) (hq : ∀ x ∈ X, RelBd x) (hR : RelsOf w.heap.size v X w)
    (hs : s.length ≤ 1000000) (hS : SelsOf w.heap.size sv s w) :
    Calls Tryz.prog 31 #[.agg #[v, iv], sv] w (ReduceRr X s w) := by
  have HPL := Lib.hid (fun W (hb : RowKit.Below w.heap.size w W) => rPlain34_any v iv (.slice none 0 0) X [] W hX hq (hR.on hb) (by simp) (fun q hq => by cases hq) ⟨_, _, rfl, fun i q hq => by simp at hq⟩)
  have HIC := Lib.hid (fun W (hb : RowKit.Below w.heap.size w W) => rIncr_any sv s W hs (hS.on hb))
  have HPO := Lib.hid (fun (y : SelL) W (hb : RowKit.Below w.heap.size w W) => rposition_any v iv X y W hX (hR.on hb))
  have HSE := Lib.hid (fun W rov (roots : List ReqL) (hb : RowKit.Below w.heap.size w W) (hro : List.length roots ≤ 1000000) (hrq : ReqsBd roots) (hRo : ReqsOf W.heap.size rov roots W) => rSelect34_any v iv rov X roots W hX hq (hR.on hb) hro hrq hRo)
  have HGV := Lib.hid (fun W rov (roots : List ReqL) (hb : RowKit.Below w.heap.size w W) (hro : List.length roots ≤ 1000000) (hrq : ReqsBd roots) (hRo : ReqsOf W.heap.size rov roots W) => rselects_any v iv rov sv X roots s W hX hq (hR.on hb) hro hrq hRo hs (hS.on hb))
  have HS := Lib.hid hS
  have HQB := Lib.hid hq
  obtain ⟨va, vn, vc, rfl⟩ : ∃ a n c, v = .slice a n c := by obtain ⟨a, c, _, e, _⟩ := hR.rv; exact ⟨_, _, _, e⟩
  obtain ⟨sa, sc, rfl⟩ : ∃ sa sc, sv = .slice sa s.length sc := by obtain ⟨a, c, e, _⟩ := hS; exact ⟨a, c, e⟩
  clear hq hR hS
  have HB0 := Lib.hid (LawB.start w (.slice va vn vc) iv)
  obtain ⟨si0, hsi0, hsz0, hsz1, hsz2⟩ := info_parts info_reqs
  go_enter Tryz.func31, Tryz.ntmps31
  go_upto_region 1 with fail
  generalize w.alloc (.cells #[.slice va vn vc, iv] 25) = W at *
  have c0 := HB0.out.c0
  have c1 := HB0.out.c1
  go_wp2_with fail
  refine (HPL.out _ HB0.out.bel).mono ?_
  rintro e w1 ⟨hb1, bp, rfl, hbp⟩
  have HB1 := Lib.hid (HB0.out.below hb1)
  have HBP := Lib.hid hbp
  clear hb1 c0 c1 hbp HPL
  cases bp with
  | false =>
    have HV := Lib.hid (reduceV_arg (X := X) (s := s) (.inl (fun h => by have := HBP.out.2 h; cases this)))
    go_wp2_with fail
    go_ret2
    exact ReduceRr.no HB1.out.bel HV.out
  | true =>
    have HP := Lib.hid (HBP.out.1 rfl)
    clear HBP
    go_wp2_with fail
    refine (HIC.out _ HB1.out.bel).mono ?_
    rintro e w2 ⟨bi, rfl, hbi, hb2⟩
    have HB2 := Lib.hid (HB1.out.below hb2)
    have HBI := Lib.hid hbi
    clear hb2 hbi HIC HB1
    cases bi with
    | false =>
      have HV := Lib.hid (reduceV_arg (X := X) (s := s) (.inr (.inr (fun h => by have := HBI.out.2 h; cases this))))
      go_wp2_with fail
      go_ret2
      exact ReduceRr.no HB2.out.bel HV.out
    | true =>
      have HIN := Lib.hid (HBI.out.1 rfl)
      clear HBI
      by_cases h16 : s.length ≤ 16
      case neg =>
        have h16a : (16 : Int) < (s.length : Int) := by omega
        have h16b : decide ((16 : Int) < (s.length : Int)) = true := decide_eq_true h16a
        have HV := Lib.hid (reduceV_arg (X := X) (s := s) (.inr (.inl (by omega))))
        go_wp2_with fail
        go_ret2
        exact ReduceRr.no HB2.out.bel HV.out
      have h16a : ¬ (16 : Int) < (s.length : Int) := by omega
      have h16b : decide ((16 : Int) < (s.length : Int)) = false := decide_eq_false h16a
      have HIX := Lib.hid (idx_ok HP.out.idx)
      have HO0 : Hid (RowX w2.heap.size (.slice (some ⟨w2.heap.size, 0, none⟩) 0 0) (ownL (s.take 0)) [] (w2.alloc (.cells #[] 58))) := Lib.hid ⟨World.ownsRow_made w2 #[] 0 (Nat.le_refl _) (by decide) rfl, fun i q hq => by simp [ownL] at hq⟩
      have HBE := Lib.hid (belQ w2 (.cells #[] 58))
      go_wp2_with fail
      go_loopw [6, 7] (fun rv p wr => Hid (∃ (k : Nat) (xs : List Value), k ≤ s.length ∧ p = .int .i64 (k : Int) ∧ (∀ y ∈ s.take k, (findR X y).isSome = true) ∧ RowX w2.heap.size rv (ownL (s.take k)) xs wr ∧ Below w2.heap.size w2 wr)) (fun _ p _ => s.length - (intOf p).toNat)
      case atStart => exact Lib.hid ⟨0, [], Nat.zero_le _, rfl, fun y hy => (by simp at hy), HO0.out, HBE.out⟩
      case round =>
        obtain ⟨k, xs, hk, rfl, hfd, ho, hb⟩ := hrel.out
        have HFD := Lib.hid hfd
        have HO := Lib.hid ho
        have HB := Lib.hid hb
        obtain ⟨oa, oc, rfl⟩ := own_any ho.own
        clear hrel hfd ho hb HO0 HBE
        have hrl := own_len s k hk
        rw [hrl] at HO ⊢
        have HRL := Lib.hid hrl
        clear hrl
        have HBW := Lib.hid (HB2.out.below HB.out)
        by_cases hlt : k < s.length
        case neg =>
          have hk2 : k = s.length := Nat.le_antisymm hk (Nat.le_of_not_lt hlt)
          clear hk
          subst hk2
          rw [List.take_length] at HFD HO HRL
          have HOW := Lib.hid HO.out.now
          have hoc := (own_cap HO.out.own).le
          have HVV := Lib.hid (reduceV_found HP.out h16 HIN.out HFD.out)
          have hol : (ownL s).length ≤ 1000000 := by rw [HRL.out]; omega
          have HOB := Lib.hid (own_bd HQB.out HFD.out (List.Sublist.refl (ownL s)))
          have HS1 := Lib.hid (HSE.out wr (.slice oa s.length oc) (ownL s) HBW.out.bel hol HOB.out HOW.out)
          have HG1 := Lib.hid (fun W (hb : Below wr.heap.size wr W) => HGV.out W (.slice oa s.length oc) (ownL s) ((HBW.out.below hb).bel) hol HOB.out (HOW.out.on hb))
          have HGS := Lib.hid (@gives_sel X s (ownL s))
          have c0 := HBW.out.c0
          have c1 := HBW.out.c1
          unfold SelR at HS1
          obtain ⟨RES, hRES⟩ : ∃ RES, redStep (givesB X s) s.length (ownL s) = RES := ⟨_, rfl⟩
          have HRES := Lib.hid hRES
          rw [hRES] at HVV
          obtain ⟨gb, hgb⟩ : ∃ gb, givesB X s (ownL s) = gb := ⟨_, rfl⟩
          rw [hgb] at HG1 HGS
          clear hRES hgb
          generalize selM false X (ownL s) = SM at *
          obtain ⟨T, E⟩ := SM
          simp only at HS1 HVV HGS
          clear HO
          go_wp2_with fail
          refine HS1.out.mono ?_
          rintro e w4 ⟨hb4, tv, rfl, _⟩
          have HB4 := Lib.hid (HBW.out.below hb4)
          have HBB4 := Lib.hid hb4
          have HOW4 := Lib.hid (HOW.out.on hb4)
          clear hb4 c0 c1 HS1
          by_cases hE : E = 0
          case neg =>
            have hE1 : (E != 0) = true := by simpa using hE
            have HV : Hid (reduceV X s = ([], E)) := Lib.hid (by rw [HVV.out, if_pos hE])
            go_wp2_with fail
            go_ret2
            exact ReduceRr.no HB4.out.bel HV.out
          subst hE
          have c0 := HB4.out.c0
          have c1 := HB4.out.c1
          go_wp2_with fail
          refine (HG1.out w4 HBB4.out).mono ?_
          rintro e w5 ⟨rfl, hb5⟩
          have HB5 := Lib.hid (HB4.out.below hb5)
          have HOW5 := Lib.hid (HOW4.out.on hb5)
          clear hb5 c0 c1 HG1 HOW4 HB4 HBB4 HBW HB HOW
          have hgs0 : gb = decide (T = s) := HGS.out (by first | rfl | trivial)
          have hgs := Lib.hid hgs0
          clear hgs0
          cases gb with
          | false =>
            have HV : Hid (reduceV X s = ([], 8)) := Lib.hid (by rw [HVV.out, if_neg (fun h => h rfl), if_pos (of_decide_eq_false hgs.out.symm)])
            go_wp2_with fail
            go_ret2
            exact ReduceRr.no HB5.out.bel HV.out
          | true =>
            have HV : Hid (reduceV X s = (RES, 0)) := Lib.hid (by rw [HVV.out, if_neg (fun h => h rfl), if_neg (fun h => h (of_decide_eq_true hgs.out.symm))])
            clear hgs HGS HVV
            have hwp : wrap64 ((s.length : Int) - 1) = (s.length : Int) - 1 := wrap_small h16
            go_wp2_with fail
            clear hwp
            go_loopw [6, 10] (fun rv p wr => ∃ (i : Nat) (R : List ReqL) (a : Option Addr) (c : Nat), rv = .slice a R.length c ∧ R.length ≤ c ∧ i ≤ R.length ∧ R.length ≤ 16 ∧ Hid (p = .int .i64 ((i : Int) - 1)) ∧ Hid (R.Sublist (ownL s)) ∧ Hid (redStep (givesB X s) i R = RES) ∧ Hid (ReqsOf wr.heap.size rv R wr) ∧ Hid (Below w5.heap.size w5 wr)) (fun _ p _ => (intOf p + 1).toNat)
            case atStart => exact ⟨s.length, ownL s, oa, oc, by rw [HRL.out], by rw [HRL.out]; exact hoc, by rw [HRL.out]; exact Nat.le_refl _, by rw [HRL.out]; exact h16, Lib.hid rfl, Lib.hid (List.Sublist.refl _), HRES, HOW5, Lib.hid (Below.refl _ _)⟩
            case round =>
              obtain ⟨i, R, a, c, rfl, hRc, hiR, hR16, HPI, HSU, HRS, HRQ, HB⟩ := hrel
              have HRy := Lib.hid (HB5.out.below HB.out)
              clear HRES HOW5
              have hpi := HPI.out
              clear HPI
              cases i with
              | zero =>
                rw [show ((0 : Nat) : Int) - 1 = -1 from rfl] at hpi
                subst hpi
                have HRR : Hid (R = RES) := HRS
                go_wp2_with fail
                go_ret2
                refine ⟨HRy.out.bel, .slice a R.length c, by rw [HV.out]; rfl, ?_⟩
                rw [HV.out, ← HRR.out]
                exact HRQ.out
              | succ j =>
                rw [pred_succ] at hpi
                subst hpi
                have hjR : j < R.length := hiR
                obtain ⟨b3, off3, _, rfl, hb3, _, _, _⟩ := HRQ.out.get hjR
                have hj0 : (0 : Int) ≤ (j : Int) := Int.natCast_nonneg j
                have hjc : (j : Int) ≤ (c : Int) := kk4 hjR hRc
                have hjn : j ≤ R.length := Nat.le_of_lt hjR
                have hw1 : wrap64 ((j : Int) + 1) = (j : Int) + 1 := wrap_succ (kk6 hjR hR16)
                have hw2 : IntKind.i64.wrap ((j : Int) + 1) = (j : Int) + 1 := i64_succ (kk6 hjR hR16)
                have hj1 : (0 : Int) ≤ (j : Int) + 1 := kk0 j
                have hj2 : (j : Int) + 1 ≤ (R.length : Int) := kk5 hjR
                have hj3 : j + 1 ≤ R.length := hjR
                have hjj : (j : Int) ≤ (j : Int) + 1 := Int.le_add_one (Int.le_refl _)
                obtain ⟨ys1, hy1, hy2, hy3, hy4⟩ := reqs_head HRQ.out hjn
                obtain ⟨o2, ys2, ho2, hz1, hz2, hz3, hz4⟩ := reqs_tail HRQ.out hRc hj3
                have HY2 := Lib.hid hy2
                have HY3 := Lib.hid hy3
                have HY4 := Lib.hid hy4
                have HZ2 := Lib.hid hz2
                have HZ3 := Lib.hid hz3
                have HZ4 := Lib.hid hz4
                have HY1 := Lib.hid hy1
                have HZ1 := Lib.hid hz1
                have HOE : Hid ((wr.drew.alloc (.cells #[] 58)).ownsRow wr.heap.size 58 2 (.slice (some ⟨wr.heap.size, 0, none⟩) 0 0) 0 []) := Lib.hid (World.ownsRow_made wr.drew #[] 0 (Nat.le_refl _) (by decide) rfl)
                have HBA : Hid (Below wr.heap.size wr (wr.drew.alloc (.cells #[] 58))) := Lib.hid ((Below.refl wr.heap.size wr).drew.trans (belQ wr.drew _))
                have hwa : wr.heap.size ≤ (wr.drew.alloc (.cells #[] 58)).heap.size := HBA.out.size
                have htl1 : 0 + j ≤ 16 := by rw [Nat.zero_add]; exact Nat.le_trans hjn hR16
                have htl2 : j + (R.length - (j + 1)) ≤ 16 := app_cut hjR hR16
                clear hy1 hy2 hy3 hy4 hz1 hz2 hz3 hz4
                go_upto_region 18 with fail
                refine wp_region_noPanic ?_
                refine wp_region_held_drew (S := fun _ => True) (by kernel_rfl) trivial (fun hS0 => ?_)
                (refine zl3 1 ?_ rfl ?_ ?_; rotate_left; (· (intro w hSw; go_simp; try with_reducible rfl)); (try simp only [zl1]))
                (refine zl3 2 ?_ rfl ?_ ?_; rotate_left; (· (intro w hSw; go_simp; try with_reducible rfl)); (try simp only [zl1]))
                (refine zl3 3 ?_ rfl ?_ ?_; rotate_left; (· (intro w hSw; go_simp; try with_reducible rfl)); (try simp only [zl1]))
                (refine zl3 5 ?_ rfl ?_ ?_; rotate_left; (· (intro w hSw; go_simp; try with_reducible rfl)); (try simp only [zl1]))
                (refine zl3 6 ?_ rfl ?_ ?_; rotate_left; (· (intro w hSw; go_simp; try with_reducible rfl)); (try simp only [zl1]))
                (refine zl3 7 ?_ rfl ?_ ?_; rotate_left; (· (intro w hSw; go_simp; try with_reducible rfl)); (try simp only [zl1]))
                (refine zl3 8 ?_ rfl ?_ ?_; rotate_left; (· (intro w hSw; go_simp; try with_reducible rfl)); (try simp only [zl1]))
                refine wpAnyH_ready (rs := [0]) (by kernel_rfl) (by simp) (AllReadyH.cons rfl (fun K hK => ?_) AllReadyH.nil)
                go_simp
                refine hK.out _ _ trivial (fun _ => ?_)
                clear hK K
                (try simp only [zl1])
                refine wpAnyH_ready (rs := [4]) (by kernel_rfl) (by simp) (AllReadyH.cons rfl (fun K hK => ?_) AllReadyH.nil)
                refine oper_of_list (ops := #[]) rfl ?_
                refine wpList_append_own _ rfl _ _ 26 rfl wr.heap.size 58 si0 _ 2 40 Tryz.underlying26 hsi0 hsz0 hsz1 hsz2 rfl (by decide) (.slice (some ⟨wr.heap.size, 0, none⟩) 0 0) 0 [] (by rfl) HOE.out ⟨b3, off3, none⟩ j c ys1 (by rfl) HY1.out (fun i u hu => by rw [Addr.add_lit]; exact (HBA.out.cell (p := ⟨b3, off3 + i, none⟩) hb3).trans (HY2.out i u hu)) HY4.out (app3 htl1) (app4 htl1) hwa ?_
                intro v4 w4 hown4 hgrow4 _
                rw [Nat.zero_add, List.nil_append] at hown4
                obtain ⟨cva, cvc, rfl⟩ := own_any hown4
                have HOC := Lib.hid hown4
                have HB4 : Hid (Below wr.heap.size wr w4) := Lib.hid (HBA.out.grown hgrow4 hwa (fun b hb => by cases hb; exact Nat.le_refl _))
                clear hown4 hgrow4
                refine wpList_nil ?_
                show K _ _
                refine hK.out _ _ trivial (fun _ => ?_)
                clear hK K
                (try simp only [zl1])
                refine wpAnyH_ready (rs := [9]) (by kernel_rfl) (by simp) (AllReadyH.cons rfl (fun K hK => ?_) AllReadyH.nil)
                refine oper_of_list (ops := #[]) rfl ?_
                refine wpList_append_own _ rfl _ _ 26 rfl wr.heap.size 58 si0 _ 2 40 Tryz.underlying26 hsi0 hsz0 hsz1 hsz2 rfl (by decide) (.slice cva j cvc) j ys1 (by rfl) HOC.out ⟨b3, o2, none⟩ (R.length - (j + 1)) (c - (j + 1)) ys2 (by rfl) HZ1.out (fun i u hu => by rw [Addr.add_lit]; exact (HB4.out.cell (p := ⟨b3, o2 + i, none⟩) hb3).trans (HZ2.out i u hu)) HZ4.out (app3 htl2) (app4 htl2) HB4.out.size ?_
                intro v' wB hown' hgrow _
                have HOW := Lib.hid hown'
                have HBB : Hid (Below wr.heap.size wr wB) := Lib.hid (HB4.out.grown hgrow HB4.out.size (fun b hb => (own_lo HOC.out b hb).1))
                clear hown' hgrow
                refine wpList_nil ?_
                show K _ _
                refine hK.out _ _ trivial (fun _ => ?_)
                clear hK K
                (try simp only [zl1])
                (refine zl3 10 ?_ rfl ?_ ?_; rotate_left; (· (intro w hSw; go_simp; try with_reducible rfl)); (try simp only [zl1]))
                refine wpAnyH_done (by kernel_rfl) ?_ _
                refine NoPanic.normal ?_
                have htk : (R.take j).length = j := take_lt hjR
                have hrl : j + (R.length - (j + 1)) = (R.eraseIdx j).length := cut_len hjR
                have hrr : ReqsOf wB.heap.size v' (R.eraseIdx j) wB := by
                  refine rows_reqs (xs := ys1 ++ ys2) (by rw [← hrl]; exact HOW.out) ?_
                  rw [erase_cut]
                  refine ReqXs.join ?_ (by rw [htk]; exact HY1.out) ?_
                  · exact fun i q hq => by obtain ⟨r, a, b, d⟩ := HY3.out i q hq; exact ⟨r, a, b, (d.below HBB.out (Nat.le_refl _)).mono HBB.out.size⟩
                  · exact fun i q hq => by obtain ⟨r, a, b, d⟩ := HZ3.out i q hq; exact ⟨r, a, b, (d.below HBB.out (Nat.le_refl _)).mono HBB.out.size⟩
                obtain ⟨a', c', rfl⟩ := own_any HOW.out
                have hcc := (own_cap HOW.out).le
                rw [hrl] at hcc hrr ⊢
                have HRR := Lib.hid hrr
                clear hw1 hw2 hrr hrl htk HOW HOC HB4 HY1 HY2 HY3 HY4 HZ1 HZ2 HZ3 HZ4 HOE HBA hwa
                have HBx := Lib.hid (HB.out.trans (HBB.out.mono HB.out.size))
                have HRz := Lib.hid (HRy.out.below HBB.out)
                have HRQ9 := Lib.hid (HRQ.out.on HBB.out)
                have hsub2 : (R.eraseIdx j).Sublist (ownL s) := (List.eraseIdx_sublist R j).trans HSU.out
                have hlen2 : (R.eraseIdx j).length ≤ 1000000 := Nat.le_trans (List.eraseIdx_sublist R j).length_le (Nat.le_trans hR16 (by decide))
                have hlen3 : (R.eraseIdx j).length = R.length - 1 := List.length_eraseIdx_of_lt hjR
                have HS2 := Lib.hid hsub2
                have HL3 := Lib.hid hlen3
                have HG2 := Lib.hid (HGV.out wB (.slice a' (R.eraseIdx j).length c') (R.eraseIdx j) HRz.out.bel hlen2 (own_bd HQB.out HFD.out hsub2) HRR.out)
                have HST : Hid (redStep (givesB X s) (j + 1) R = if givesB X s (R.eraseIdx j) = true then redStep (givesB X s) j (R.eraseIdx j) else redStep (givesB X s) j R) := Lib.hid rfl
                obtain ⟨g1, hg1⟩ : ∃ g1, givesB X s (R.eraseIdx j) = g1 := ⟨_, rfl⟩
                rw [hg1] at HG2 HST
                have c0 := HRz.out.c0
                have c1 := HRz.out.c1
                clear hg1 hsub2 hlen2 hlen3
                go_wp2_with fail
                refine HG2.out.mono ?_
                rintro e w6 ⟨rfl, hb6⟩
                have HB6 := Lib.hid (HBx.out.trans (hb6.mono HBx.out.size))
                have HRR6 := Lib.hid (HRR.out.on hb6)
                have HRQ6 := Lib.hid (HRQ9.out.on hb6)
                have hwj : wrap64 ((j : Int) - 1) = (j : Int) - 1 := wrap_pre hjR hR16
                clear hb6 HG2 c0 c1
                cases g1 with
                | false =>
                  have HS3 : Hid (redStep (givesB X s) j R = RES) := Lib.hid (by rw [← HRS.out, HST.out]; simp)
                  go_wp2_with fail
                  go_roundw
                  case rel => exact ⟨j, R, _, c, rfl, hRc, Nat.le_of_lt hjR, hR16, Lib.hid (by first | rfl | rw [hwj]), HSU, HS3, HRQ6, HB6⟩
                  case measure => simp [intOf]; try (rw [hwj]; exact Int.sub_lt_self _ (by decide))
                | true =>
                  have HS3 : Hid (redStep (givesB X s) j (R.eraseIdx j) = RES) := Lib.hid (by rw [← HRS.out, HST.out]; simp)
                  go_wp2_with fail
                  go_roundw
                  case rel => exact ⟨j, R.eraseIdx j, a', c', rfl, hcc, by rw [HL3.out]; exact le_pred hjR, by rw [HL3.out]; exact Nat.le_trans (Nat.sub_le _ _) hR16, Lib.hid (by first | rfl | rw [hwj]), HS2, HS3, HRR6, HB6⟩
                  case measure => simp [intOf]; try (rw [hwj]; exact Int.sub_lt_self _ (by decide))
        case pos =>
          obtain ⟨b, off, rfl, hbl, d0, d1, d2, d3⟩ := HS.out.at hlt
          rw [show s.getD k default = s[k] by rw [List.getD_eq_getElem?_getD, List.getElem?_eq_getElem hlt]; rfl] at d0 d1 d2 d3
          have hsz := (SelAtM.below (y := s[k]) ⟨d0, d1, d2, d3⟩ hbl HBW.out.bel)
          have hbw : b < wr.heap.size := Nat.lt_of_lt_of_le hbl HBW.out.bel.size
          have hk0 : (0 : Int) ≤ (k : Int) := Int.natCast_nonneg k
          have hlt2 : (k : Int) < (s.length : Int) := Int.ofNat_lt.2 hlt
          have HFN : Hid (lookK X X.length s[k] = none → ∃ y ∈ s, findR X y = none) := Lib.hid (fun h => ⟨s[k], List.getElem_mem hlt, by rw [lookK_find HIX.out, h]; rfl⟩)
          have HFS : Hid (∀ i, lookK X X.length s[k] = some i → validB s[k].2.1 s[k].2.2.1 s[k].2.2.2 = true ∧ (∀ y ∈ s.take (k + 1), (findR X y).isSome = true) ∧ ownL (s.take (k + 1)) = ownL (s.take k) ++ [(s[k].1, canon [(plc s[k].2, 1000000)])]) := Lib.hid (fun i h => by
            obtain ⟨hi, he⟩ := lookK_some h
            have hv := validX HIX.out i hi
            rw [show (X.getD i default).ver = s[k].2 by rw [← he]; rfl] at hv
            refine ⟨hv, fun y hy => ?_, own_snoc HIX.out hlt h⟩
            rw [List.take_succ_eq_append_getElem hlt] at hy
            rcases List.mem_append.1 hy with h1 | h1
            · exact HFD.out y h1
            · rw [List.mem_singleton.1 h1, lookK_find HIX.out, h]; rfl)
          have HPY := Lib.hid (fun W (hb : RowKit.Below w.heap.size w W) => HPO.out s[k] W hb)
          clear d0 d1 d2 d3
          generalize s[k] = y at *
          obtain ⟨lo, hlo⟩ : ∃ lo, lookK X X.length y = lo := ⟨_, rfl⟩
          rw [hlo] at HFN HFS HPY
          clear hlo
          have HSB : Hid (∀ W', Below wr.heap.size wr W' → HeldWm w.heap.size (.slice va vn vc) iv b (off + k * 4) y W') := Lib.hid (fun W' hb => ⟨⟨(HBW.out.below hb).c0, (HBW.out.below hb).c1⟩, hsz.below hbw hb⟩)
          have HPW := Lib.hid (fun W' (hb : Below wr.heap.size wr W') => HPY.out W' (HBW.out.bel.trans (hb.mono HBW.out.bel.size)))
          clear hsz
          go_upto_region 7 with fail
          cases lo with
          | none =>
            simp only [optI] at HPW
            have HV := Lib.hid (reduceV_not HP.out h16 HIN.out (HFN.out rfl))
            refine wp_region_noPanic ?_
            refine wp_region_held_drew (S := HeldWm w.heap.size (.slice va vn vc) iv b (off + k * 4) y) (by kernel_rfl) (HSB.out _ (Below.refl _ _).drew) (fun hS0 => ?_)
            (refine zl3 0 ?_ rfl ?_ ?_; rotate_left; (· (rintro w ⟨⟨c0, c1⟩, s0, s1, s2, s3⟩; go_simp; try with_reducible rfl)); (try simp only [zl1]))
            (refine zl3 1 ?_ rfl ?_ ?_; rotate_left; (· (rintro w ⟨⟨c0, c1⟩, s0, s1, s2, s3⟩; go_simp; try with_reducible rfl)); (try simp only [zl1]))
            (refine zl3 2 ?_ rfl ?_ ?_; rotate_left; (· (rintro w ⟨⟨c0, c1⟩, s0, s1, s2, s3⟩; go_simp; try with_reducible rfl)); (try simp only [zl1]))
            (refine zl3 3 ?_ rfl ?_ ?_; rotate_left; (· (rintro w ⟨⟨c0, c1⟩, s0, s1, s2, s3⟩; go_simp; try with_reducible rfl)); (try simp only [zl1]))
            (refine zl3 4 ?_ rfl ?_ ?_; rotate_left; (· (rintro w ⟨⟨c0, c1⟩, s0, s1, s2, s3⟩; go_simp; try with_reducible rfl)); (try simp only [zl1]))
            refine wpAnyH_ready (rs := [5]) (by kernel_rfl) (by simp) (AllReadyH.cons rfl (fun K hK => ?_) AllReadyH.nil)
            go_simp
            refine (HPW.out _ (Below.refl wr.heap.size wr).drew).mono ?_
            rintro e w5 ⟨rfl, hb5⟩
            have HB5 := Lib.hid ((Below.refl wr.heap.size wr).drew.trans hb5)
            clear hS0
            have hS0 := HSB.out _ HB5.out
            refine hK.out _ _ hS0 (fun _ => ?_)
            clear hK K hb5
            (try simp only [zl1])
            (refine zl3 6 ?_ rfl ?_ ?_; rotate_left; (· (rintro w ⟨⟨c0, c1⟩, s0, s1, s2, s3⟩; go_simp; try with_reducible rfl)); (try simp only [zl1]))
            refine wpAnyH_done (by kernel_rfl) ?_ _
            refine NoPanic.normal ?_
            have HB7 := Lib.hid (HBW.out.below HB5.out)
            clear HSB HPW hS0 HB5 HB HBW
            go_wp2_with fail
            go_ret2
            exact ReduceRr.no HB7.out.bel HV.out
          | some i =>
            simp only [optI] at HPW
            obtain ⟨hvd, hfd, hsn⟩ := HFS.out i rfl
            have HFD2 := Lib.hid hfd
            have HSN := Lib.hid hsn
            have HPC := Lib.hid (fun W => rplace32_any y.2 W hvd)
            have hni : decide ((i : Int) < 0) = false := decide_eq_false (by omega)
            clear hvd hfd hsn HFS HFN
            refine wp_region_noPanic ?_
            refine wp_region_held_drew (S := HeldWm w.heap.size (.slice va vn vc) iv b (off + k * 4) y) (by kernel_rfl) (HSB.out _ (Below.refl _ _).drew) (fun hS0 => ?_)
            (refine zl3 0 ?_ rfl ?_ ?_; rotate_left; (· (rintro w ⟨⟨c0, c1⟩, s0, s1, s2, s3⟩; go_simp; try with_reducible rfl)); (try simp only [zl1]))
            (refine zl3 1 ?_ rfl ?_ ?_; rotate_left; (· (rintro w ⟨⟨c0, c1⟩, s0, s1, s2, s3⟩; go_simp; try with_reducible rfl)); (try simp only [zl1]))
            (refine zl3 2 ?_ rfl ?_ ?_; rotate_left; (· (rintro w ⟨⟨c0, c1⟩, s0, s1, s2, s3⟩; go_simp; try with_reducible rfl)); (try simp only [zl1]))
            (refine zl3 3 ?_ rfl ?_ ?_; rotate_left; (· (rintro w ⟨⟨c0, c1⟩, s0, s1, s2, s3⟩; go_simp; try with_reducible rfl)); (try simp only [zl1]))
            (refine zl3 4 ?_ rfl ?_ ?_; rotate_left; (· (rintro w ⟨⟨c0, c1⟩, s0, s1, s2, s3⟩; go_simp; try with_reducible rfl)); (try simp only [zl1]))
            refine wpAnyH_ready (rs := [5]) (by kernel_rfl) (by simp) (AllReadyH.cons rfl (fun K hK => ?_) AllReadyH.nil)
            go_simp
            refine (HPW.out _ (Below.refl wr.heap.size wr).drew).mono ?_
            rintro e w5 ⟨rfl, hb5⟩
            have HB5 := Lib.hid ((Below.refl wr.heap.size wr).drew.trans hb5)
            clear hS0
            have hS0 := HSB.out _ HB5.out
            refine hK.out _ _ hS0 (fun _ => ?_)
            clear hK K hb5
            (try simp only [zl1])
            (refine zl3 6 ?_ rfl ?_ ?_; rotate_left; (· (rintro w ⟨⟨c0, c1⟩, s0, s1, s2, s3⟩; go_simp; try with_reducible rfl)); (try simp only [zl1]))
            refine wpAnyH_done (by kernel_rfl) ?_ _
            refine NoPanic.normal ?_
            have HBB7 := Lib.hid (HB.out.trans (HB5.out.mono HB.out.size))
            have HO7 := Lib.hid (HO.out.below HB5.out)
            have HSB7 : Hid (∀ W', Below w5.heap.size w5 W' → SelAtM W' b (off + k * 4) y) := Lib.hid (fun W' hb => (HSB.out W' (HB5.out.trans (hb.mono HB5.out.size))).2)
            have hbw7 : b < w5.heap.size := Nat.lt_of_lt_of_le hbw HB5.out.size
            have HBlo : Hid (b < w2.heap.size) := Lib.hid (Nat.lt_of_lt_of_le hbl HB2.out.bel.size)
            clear HSB HPW hS0 HB5 HB HO HBW
            go_wp2_with fail
            go_upto_region 9 with fail
            simp only [intC] at *
            refine wp_region_noPanic ?_
            refine wp_region_held_drew (S := fun W => SelAtM W b (off + k * 4) y) (by kernel_rfl) (HSB7.out _ (Below.refl _ _).drew) (fun hS0 => ?_)
            (refine zl3 0 ?_ rfl ?_ ?_; rotate_left; (· (rintro w ⟨s0, s1, s2, s3⟩; go_simp; try with_reducible rfl)); (try simp only [zl1]))
            (refine zl3 1 ?_ rfl ?_ ?_; rotate_left; (· (rintro w ⟨s0, s1, s2, s3⟩; go_simp; try with_reducible rfl)); (try simp only [zl1]))
            (refine zl3 2 ?_ rfl ?_ ?_; rotate_left; (· (rintro w ⟨s0, s1, s2, s3⟩; go_simp; try with_reducible rfl)); (try simp only [zl1]))
            (refine zl3 3 ?_ rfl ?_ ?_; rotate_left; (· (rintro w ⟨s0, s1, s2, s3⟩; go_simp; try with_reducible rfl)); (try simp only [zl1]))
            (refine zl3 4 ?_ rfl ?_ ?_; rotate_left; (· (rintro w ⟨s0, s1, s2, s3⟩; go_simp; try with_reducible rfl)); (try simp only [zl1]))
            (refine zl3 5 ?_ rfl ?_ ?_; rotate_left; (· (rintro w ⟨s0, s1, s2, s3⟩; go_simp; try with_reducible rfl)); (try simp only [zl1]))
            (refine zl3 6 ?_ rfl ?_ ?_; rotate_left; (· (rintro w ⟨s0, s1, s2, s3⟩; go_simp; try with_reducible rfl)); (try simp only [zl1]))
            (refine zl3 7 ?_ rfl ?_ ?_; rotate_left; (· (rintro w ⟨s0, s1, s2, s3⟩; go_simp; try with_reducible rfl)); (try simp only [zl1]))
            (refine zl3 8 ?_ rfl ?_ ?_; rotate_left; (· (rintro w ⟨s0, s1, s2, s3⟩; go_simp; try with_reducible rfl)); (try simp only [zl1]))
            (refine zl3 9 ?_ rfl ?_ ?_; rotate_left; (· (rintro w ⟨s0, s1, s2, s3⟩; go_simp; try with_reducible rfl)); (try simp only [zl1]))
            (refine zl3 10 ?_ rfl ?_ ?_; rotate_left; (· (rintro w ⟨s0, s1, s2, s3⟩; go_simp; try with_reducible rfl)); (try simp only [zl1]))
            refine wpAnyH_ready (rs := [11]) (by kernel_rfl) (by simp) (AllReadyH.cons rfl (fun K hK => ?_) AllReadyH.nil)
            go_simp
            refine (HPC.out _).mono ?_
            rintro e w6 ⟨rfl, hb6⟩
            have HB6 := Lib.hid ((Below.refl w5.heap.size w5).drew.trans hb6)
            clear hS0
            have hS0 := HSB7.out _ HB6.out
            refine hK.out _ _ hS0 (fun _ => ?_)
            clear hK K hb6
            (try simp only [zl1])
            refine wpAnyH_ready (rs := [12]) (by kernel_rfl) (by simp) (AllReadyH.cons rfl (fun K hK => ?_) AllReadyH.nil)
            go_simp
            refine (rAtLeast_own (plc y.2) w6).mono ?_
            rintro e w7 ⟨v7, rfl, ho7, hb7⟩
            have HB7 := Lib.hid (HB6.out.trans (hb7.mono HB6.out.size))
            have HOS := Lib.hid ho7
            obtain ⟨va3, vc3, hve⟩ := own_form ho7
            clear hS0
            have hS0 := HSB7.out _ HB7.out
            refine hK.out _ _ hS0 (fun _ => ?_)
            clear hK K hb7 ho7
            (try simp only [zl1])
            (refine zl3 13 ?_ rfl ?_ ?_; rotate_left; (· (rintro w ⟨s0, s1, s2, s3⟩; go_simp; try with_reducible rfl)); (try simp only [zl1]))
            subst hve
            have HN8 : Hid ((w7.alloc (.cells #[.string y.1, .slice va3 (canon [(plc y.2, 1000000)]).length vc3] 58)).heap[w7.heap.size]? = some (.cells #[.string y.1, .slice va3 (canon [(plc y.2, 1000000)]).length vc3] 58)) := Lib.hid (heap_alloc_new w7 _)
            have HB8 := Lib.hid (HB7.out.alloc HB7.out.size (.cells #[.string y.1, .slice va3 (canon [(plc y.2, 1000000)]).length vc3] 58))
            have HSV8 := Lib.hid ((own_spans HOS.out).on (belQ w7 (.cells #[.string y.1, .slice va3 (canon [(plc y.2, 1000000)]).length vc3] 58)))
            have HO8 := Lib.hid (HO7.out.below HB8.out)
            have HLO : Hid (∀ b, (Value.slice va3 (canon [(plc y.2, 1000000)]).length vc3).ownBlock = some b → (Value.slice oa k oc).ownBlock ≠ some b) := Lib.hid (fun b hb h2 => own_apartC (HO7.out.below HB7.out).own HOS.out (by decide) b h2 hb)
            refine wpAnyH_ready (rs := [14]) (by kernel_rfl) (by simp) (AllReadyH.cons rfl (fun K hK => ?_) AllReadyH.nil)
            go_simp
            clear hS0
            have hS0 := HSB7.out _ HB8.out
            refine hK.out _ _ hS0 (fun _ => ?_)
            clear hK K
            (try simp only [zl1])
            have hszA : w2.heap.size ≤ (w7.alloc (.cells #[.string y.1, .slice va3 (canon [(plc y.2, 1000000)]).length vc3] 58)).heap.size := Nat.le_trans HBB7.out.size HB8.out.size
            generalize hW8 : w7.alloc (.cells #[.string y.1, .slice va3 (canon [(plc y.2, 1000000)]).length vc3] 58) = W8 at *
            clear hW8
            refine wpAnyH_ready (rs := [15]) (by kernel_rfl) (by simp) (AllReadyH.cons rfl (fun K hK => ?_) AllReadyH.nil)
            refine oper_of_list (ops := #[]) rfl ?_
            refine wpList_append_own_at _ rfl _ _ 26 rfl w2.heap.size 58 si0 _ 2 40 Tryz.underlying26 hsi0 hsz0 hsz1 hsz2 rfl (by decide) (.slice oa k oc) _ _ (by rfl) HO8.out.own ⟨w7.heap.size, 0, none⟩ 1 1 [.string y.1, .slice va3 (canon [(plc y.2, 1000000)]).length vc3] (by rfl) (by rfl) (World.news_of_block HN8.out) (by simp [Value.oneCell']) (by rw [HRL.out]; unfold maxLen; omega) (by rw [HRL.out]; omega) hszA ?_
            intro v' wB hown' hgrow _ hat
            have HRX := Lib.hid (HO8.out.push (q := (y.1, canon [(plc y.2, 1000000)])) HSV8.out (fun _ => HLO.out) hown' hgrow hat)
            have HGW := Lib.hid hgrow
            have HBF : Hid (Below w2.heap.size w2 wB) := Lib.hid ((HBB7.out.trans (HB8.out.mono HBB7.out.size)).grown hgrow hszA (fun b hb => (own_lo HO8.out.own b hb).1))
            have HNB : Hid (∀ b', (Value.slice oa k oc).ownBlock = some b' → b' ≠ b) := Lib.hid (fun b' hb e => by
              have h1 := (own_lo HO8.out.own b' hb).1
              have h2 := HBlo.out
              omega)
            obtain ⟨g3, gc3, rfl⟩ := ownsRow_succ hown'
            clear hown' hgrow hat
            have hSB : SelAtM wB b (off + k * 4) y := by
              obtain ⟨a0, a1, a2, a3⟩ := HSB7.out _ HB8.out
              have hb8 : b < W8.heap.size := Nat.lt_of_lt_of_le hbw7 HB8.out.size
              have hf : ∀ o, wB.cell? ⟨b, o, none⟩ = W8.cell? ⟨b, o, none⟩ := fun o => HGW.out.cell_far ⟨b, o, none⟩ hb8 (fun e => HNB.out b e.symm rfl)
              exact ⟨(hf _).trans a0, (hf _).trans a1, (hf _).trans a2, (hf _).trans a3⟩
            refine wpList_nil ?_
            show K _ _
            refine hK.out _ _ hSB (fun _ => ?_)
            clear hK K hS0
            have hS0 := hSB
            clear hSB
            (try simp only [zl1])
            (refine zl3 16 ?_ rfl ?_ ?_; rotate_left; (· (rintro w ⟨s0, s1, s2, s3⟩; go_simp; try with_reducible rfl)); (try simp only [zl1]))
            refine wpAnyH_done (by kernel_rfl) ?_ _
            refine NoPanic.normal ?_
            clear hS0 HSB7 HN8 HSV8 HO8 HB8 HB7 HO7 HLO HOS HB6 HBB7 HNB HGW
            go_wp2_with fail
            go_roundw
            case rel => exact Lib.hid ⟨k + 1, _, hlt, by go_num, HFD2.out, by rw [HSN.out]; exact HRX.out, HBF.out⟩
            case measure => simp [intOf]; omega
end Go.Proofs.YtenfkejbndifdaaGreatDoor

namespace Go.Proofs.YtenfkejbndifdaaGreatDoor
set_option linter.unusedVariables false
set_option linter.unusedSimpArgs false
open Go Go.RowKit

def PredL (g : Nat) (lb : Array Value) (es : List (List ReqL)) (G : List ReqL → Prop) (w : World) : Prop :=
  ∀ (W : World) (x : List ReqL) (r : Value), x ∈ es → Below w.heap.size w W → ReqsOf W.heap.size r x W → Calls Tryz.prog g (#[r] ++ lb) W fun e w' => ∃ b : Bool, e = .returned (.bool b) ∧ (b = false → G x) ∧ Below w.heap.size w w'
set_option maxRecDepth 100000 in
set_option maxHeartbeats 4000000 in
theorem idx_lst (g : Nat) (lb : Array Value) (eg : ∀ args w, (callFunc g args).run Tryz.prog w = .ok (.enter g args) w) (G : List ReqL → Prop) (v : Value) (es : List (List ReqL)) (w : World) (hes : es.length ≤ 1000000000) (hE : ListsOf w.heap.size v es w) (hp : PredL g lb es G w) :
    Calls Tryz.prog 79 #[v, .func (.func g) #[] lb] w fun e w' => ∃ n : Int, e = .returned (.int .i64 n) ∧ (n < 0 → ∀ x ∈ es, G x) ∧ Below w.heap.size w w' := by
  obtain ⟨ao, ec, rfl, hE⟩ := hE
  have HE := Lib.hid hE
  have HP := Lib.hid hp
  clear hE hp
  go_enter Tryz.func79, Tryz.ntmps79
  go_wp2_with fail
  go_loopw [8] (fun s wr => ∃ k : Nat, k ≤ es.length ∧ s = .int .i64 k ∧ Hid (Below w.heap.size w wr) ∧ Hid (∀ x ∈ es.take k, G x)) (fun s _ => es.length - (intOf s).toNat)
  case atStart => exact ⟨0, by omega, rfl, Lib.hid (Below.refl _ _), Lib.hid (by simp)⟩
  case round =>
    obtain ⟨k, hk, rfl, HB, HA⟩ := hrel
    by_cases hlt : k < es.length
    · have hlt2 : (k : Int) < (es.length : Int) := by omega
      obtain ⟨b, off, r, rfl, hb, hc1, hr⟩ := HE.out k es[k] (by simp [hlt])
      have hd1 := (HB.out.cell (p := ⟨b, off + k, none⟩) hb).trans hc1
      have HT : Hid (es.take (k + 1) = es.take k ++ [es[k]]) := Lib.hid (List.take_succ_eq_append_getElem hlt)
      have HCALL := Lib.hid (HP.out wr es[k] r (List.getElem_mem hlt) HB.out ((hr.below HB.out (Nat.le_refl _)).mono HB.out.size))
      obtain ⟨ra, rc, rfl, _⟩ := hr
      generalize es[k] = x at *
      have HC2 : Hid (Calls Tryz.prog g (#[.slice ra x.length rc] ++ lb) wr fun e w' => ∃ b : Bool, e = .returned (.bool b) ∧ (b = true ∧ Below w.heap.size w w' ∨ b = false ∧ G x ∧ Below w.heap.size w w')) := Lib.hid (HCALL.out.mono fun e w' ⟨b, h1, h2, h3⟩ => ⟨b, h1, by cases b with
        | true => exact .inl ⟨rfl, h3⟩
        | false => exact .inr ⟨rfl, h2 rfl, h3⟩⟩)
      clear HCALL
      go_wp2_with (go_at_fn g; refine HC2.out.mono ?_; rintro e w' ⟨bq, rfl, ⟨rfl, hb'⟩ | ⟨rfl, hg, hb'⟩⟩)
      · go_wp2_with fail
        go_ret
        exact ⟨k, rfl, fun h => by omega, hb'⟩
      · go_wp2_with fail
        go_roundw
        case rel =>
          refine ⟨k + 1, by omega, by go_num, Lib.hid hb', Lib.hid ?_⟩
          rw [HT.out]
          intro y hy
          rcases List.mem_append.1 hy with hy | hy
          · exact HA.out y hy
          · rw [List.mem_singleton] at hy; rw [hy]; exact hg
        case measure => simp [intOf]; omega
    · have hkk : k = es.length := by omega
      subst hkk
      rw [List.take_length] at HA
      go_wp2_with fail
      go_ret
      exact ⟨-1, rfl, fun _ => HA.out, HB.out⟩
theorem has_lst (g : Nat) (lb : Array Value) (eg : ∀ args w, (callFunc g args).run Tryz.prog w = .ok (.enter g args) w) (G : List ReqL → Prop) (v : Value) (es : List (List ReqL)) (w : World) (hes : es.length ≤ 1000000000) (hE : ListsOf w.heap.size v es w) (hp : PredL g lb es G w) :
    Calls Tryz.prog 25 #[v, .func (.func g) #[] lb] w fun e w' => ∃ b : Bool, e = .returned (.bool b) ∧ (b = false → ∀ x ∈ es, G x) ∧ Below w.heap.size w w' := by
  have HI := Lib.hid (idx_lst g lb eg G v es w hes hE hp)
  obtain ⟨ao, ec, rfl, _⟩ := hE
  clear hp eg
  go_enter Tryz.func25, Tryz.ntmps25
  go_wp2_with fail
  refine HI.out.mono ?_
  rintro e w' ⟨n, rfl, hn, hb⟩
  by_cases h0 : 0 ≤ n
  · go_wp2_with fail
    go_ret
    exact ⟨true, rfl, fun h => (by cases h), hb⟩
  · have h1 : decide (0 ≤ n) = false := decide_eq_false h0
    have HN := Lib.hid (hn (by omega))
    clear hn
    go_wp2_with fail
    go_ret
    exact ⟨false, rfl, fun _ => HN.out, hb⟩
set_option maxRecDepth 100000 in
theorem fewL_pred (es : List (List ReqL)) (w : World) (hes : ∀ x ∈ es, x.length ≤ 9223372036854775807) : PredL 26 #[] es FewQ w := fun W x r hx hb hR => by
  have HF := Lib.hid (FewQ_any r x W (hes x hx) hR)
  have HB := Lib.hid hb
  obtain ⟨a, c, rfl, _⟩ := hR
  clear hb hes
  rw [Array.append_empty]
  go_enter Tryz.func26, Tryz.ntmps26
  go_wp2_with fail
  refine HF.out.mono ?_
  rintro e w' ⟨b, rfl, hb1, rfl⟩
  have HF2 := Lib.hid hb1
  clear hb1
  go_wp2_with fail
  go_ret
  exact ⟨!b, rfl, fun h => HF2.out (by simpa using h), HB.out⟩
end Go.Proofs.YtenfkejbndifdaaGreatDoor
