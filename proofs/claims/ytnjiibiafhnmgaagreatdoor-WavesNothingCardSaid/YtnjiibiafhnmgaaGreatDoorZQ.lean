/- Contracts of package waves: Check. The waves' laws: few. What a law of the waves is given, and what the program returns for it. -/
import Derived.Test.YtnjiibiafhnmgaaGreatDoorZP
import Derived.Test.YtnjiibiafhnmgaaGreatDoorZI
import Derived.Test.YtnjiibiafhnmgaaGreatDoorYL
import Derived.Test.YtnjiibiafhnmgaaGreatDoorZH
namespace Go.Proofs.YtnjiibiafhnmgaaGreatDoor
open Go Go.RowKit Go.Maps

def HeldX (g : Nat) (v iv : Value) (W : World) : Prop := W.cell? ⟨g, 0, none⟩ = some v ∧ W.cell? ⟨g, 1, none⟩ = some iv
theorem flat_take {L : List (List ByteArray)} {k : Nat} (hk : k < L.length) : (L.take (k + 1)).flatten = (L.take k).flatten ++ L[k] := by
  rw [List.take_succ_eq_append_getElem hk, List.flatten_append]; simp
theorem flat_le {L : List (List ByteArray)} (k : Nat) : (L.take k).flatten.length ≤ L.flatten.length := by
  have h : L.flatten = (L.take k).flatten ++ (L.drop k).flatten := by rw [← List.flatten_append, List.take_append_drop]
  rw [h, List.length_append]; omega
theorem names_at {ao : Option Addr} {cap : Nat} {L : List (List ByteArray)} {w W : World} (h : NamesOf w.heap.size (.slice ao L.length cap) L w) (hb : Below w.heap.size w W) {k : Nat} (hk : k < L.length) :
    ∃ b off r, ao = some ⟨b, off, none⟩ ∧ W.cell? ⟨b, off + k, none⟩ = some r ∧ RowOf Value.string W.heap.size r L[k] W := by
  obtain ⟨a, c, e, h⟩ := h
  cases e
  obtain ⟨b, off, r, h1, h2, h3, h4⟩ := h k _ (List.getElem?_eq_getElem hk)
  exact ⟨b, off, r, h1, (hb.cell (p := ⟨b, off + k, none⟩) h2).trans h3, (h4.below hb (Nat.le_refl _)).mono hb.size⟩
theorem len_names (a : Option Addr) (n c : Nat) (W : World) : (Builtin.len_ #[36] 3 #[.slice a n c]).run Tryz.prog W = .ok (.int .i64 (n : Int)) W := by
  simp [Builtin.len_, run_underlying Tryz.underlying36, goInt, Result.andThen]
theorem planV_first {X : List RelL} {f t : List SelL} {L : List (List ByteArray)} (h0 : errW X f t = 0) (h1 : (∀ l ∈ L, l ≠ [] ∧ sortB l = true) ∧ sortL L.flatten = movesP f t) :
    (∀ k, k < L.length → consV X (betV f t (L.take (k + 1)).flatten) ≠ 0 → planV X f t L = 17) ∧ ((∀ k, k < L.length → consV X (betV f t (L.take (k + 1)).flatten) = 0) → planV X f t L = 0) := by
  have hp := (plan_first (movesP_inc (cons_parts (errW_parts h0).1).2.1 (cons_parts (errW_parts h0).2).2.1)).1 h1
  constructor
  · intro k hk hc
    unfold planV
    rw [if_neg (fun g => g h0), if_neg (fun g => g hp), if_pos ⟨k, hk, fun g => hc (consV_zero.2 g)⟩]
  · intro hc
    unfold planV
    rw [if_neg (fun g => g h0), if_neg (fun g => g hp), if_neg (fun ⟨k, hk, g⟩ => g (consV_zero.1 (hc k hk)))]
theorem take_mem {L : List (List ByteArray)} {k : Nat} {p : ByteArray} (h : p ∈ (L.take k).flatten) : p ∈ L.flatten := by
  obtain ⟨l, hl, hp⟩ := List.mem_flatten.1 h
  exact List.mem_flatten.2 ⟨l, List.mem_of_mem_take hl, hp⟩
theorem bet_bd {f t : List SelL} {m : List ByteArray} (hf : ∀ y ∈ f, SelBd y) (ht : ∀ y ∈ t, SelBd y) : ∀ y ∈ betV f t m, SelBd y := fun y hy => by
  have h := mem_bet.1 hy
  split at h
  · exact ht _ (atS_some h).1
  · exact hf _ (atS_some h).1
theorem btw_len {f t l : List SelL} {M : List ByteArray} (h : l.Perm (oldK f M f.length ++ newK t M t.length)) : l.length ≤ f.length + t.length := by
  rw [h.length_eq, List.length_append]
  unfold oldK newK
  rw [List.take_length, List.take_length]
  have h1 := List.length_filter_le (fun y : SelL => !decide (y.1 ∈ M)) f
  have h2 := List.length_filter_le (fun y : SelL => decide (y.1 ∈ M)) t
  omega
set_option maxRecDepth 100000 in
set_option maxHeartbeats 16000000 in
theorem Check_any (v iv fv tv mv : Value) (X : List RelL) (f t : List SelL) (L : List (List ByteArray)) (w : World) (hm : MaxOk w) (hX : X.length ≤ 1000000) (hq : ∀ x ∈ X, RelBd x) (hR : RelsOf w.heap.size v X w)
    (hf : f.length ≤ 400000) (hfy : ∀ y ∈ f, SelBd y) (hF : SelsOf w.heap.size fv f w) (ht : t.length ≤ 400000) (hty : ∀ y ∈ t, SelBd y) (hT : SelsOf w.heap.size tv t w)
    (hLl : L.length ≤ 1000000) (hFl : L.flatten.length ≤ 1000000) (hLp : ∀ p ∈ L.flatten, p.size ≤ maxLen) (hM : NamesOf w.heap.size mv L w) :
    Calls Tryz.prog 27 #[.agg #[v, iv], fv, tv, mv] w fun e w' => e = .returned (.int .i64 (planV X f t L)) ∧ Below w.heap.size w w' := by
  have HU := Lib.hid (fun W (hb : RowKit.Below w.heap.size w W) => newUpgrade_any v iv fv tv X f t W (hm.below hb hm.pos) hX hq (hR.on hb) (by omega) hfy (hF.on hb) (by omega) hty (hT.on hb))
  have HV1 : Hid (errW X f t ≠ 0 → planV X f t L = errW X f t) := Lib.hid (fun h => by unfold planV; rw [if_pos h])
  have HV2 : Hid (errW X f t = 0 → ¬ ((∀ l ∈ L, l ≠ [] ∧ sortB l = true) ∧ sortL L.flatten = movesP f t) → planV X f t L = 1) := Lib.hid (fun h h2 => by
    unfold planV
    rw [if_neg (fun g => g h), if_pos (fun g => h2 ((plan_first (movesP_inc (cons_parts (errW_parts h).1).2.1 (cons_parts (errW_parts h).2).2.1)).2 g))])
  obtain ⟨va, vn, vc, rfl⟩ : ∃ a n c, v = .slice a n c := by obtain ⟨a, c, _, e, _⟩ := hR.rv; exact ⟨_, _, _, e⟩
  obtain ⟨fa, fc, rfl⟩ : ∃ a c, fv = .slice a f.length c := by obtain ⟨a, c, e, _⟩ := hF; exact ⟨a, c, e⟩
  obtain ⟨ta, tc, rfl⟩ : ∃ a c, tv = .slice a t.length c := by obtain ⟨a, c, e, _⟩ := hT; exact ⟨a, c, e⟩
  obtain ⟨ma, mc, rfl⟩ : ∃ a c, mv = .slice a L.length c := by obtain ⟨a, c, e, _⟩ := hM; exact ⟨a, c, e⟩
  have HBT : Hid (∀ k, errW X f t = 0 → ∀ g W, Below w.heap.size w W → UpV X f t (movesP f t) g W → ∀ mv, RowOf Value.string W.heap.size mv (L.take k).flatten W → Calls Tryz.prog 58 #[.pointer (some ⟨g, 0, none⟩), mv] W fun e w' => ∃ v, e = .returned v ∧ SelsOf w'.heap.size v (betV f t (L.take k).flatten) w' ∧ Below W.heap.size W w' ∧ (betV f t (L.take k).flatten).length ≤ f.length + t.length) := Lib.hid (fun k h0 g W hb hU mv hr => by
    refine (between_any X f t (movesP f t) (by omega) (by omega) (fun y hy => (hfy y hy).path) (fun y hy => (hty y hy).path) g W hU mv (L.take k).flatten (Nat.le_trans (flat_le k) hFl) (fun p hp => hLp p (take_mem hp)) hr).mono ?_
    rintro e w' ⟨v, l, rfl, h1, h2, h3, h4⟩
    have hl := bet_sort (cons_parts (errW_parts h0).1).2.1 (cons_parts (errW_parts h0).2).2.1 h1 h2
    subst hl
    exact ⟨v, rfl, h3, h4, btw_len h1⟩)
  have HCS : Hid (∀ k, (betV f t (L.take k).flatten).length ≤ f.length + t.length → ∀ W, Below w.heap.size w W → ∀ sv, SelsOf W.heap.size sv (betV f t (L.take k).flatten) W → Calls Tryz.prog 18 #[.agg #[.slice va vn vc, iv], sv] W fun e w' => e = .returned (.int .i64 (consV X (betV f t (L.take k).flatten))) ∧ Below W.heap.size W w') := Lib.hid (fun k hk W hb sv hS => Consistent_any (.slice va vn vc) iv sv X (betV f t (L.take k).flatten) W (hm.below hb hm.pos) hX hq (hR.on hb) (by omega) (bet_bd hfy hty) hS)
  have HPF : Hid (errW X f t = 0 → (∀ l ∈ L, l ≠ [] ∧ sortB l = true) ∧ sortL L.flatten = movesP f t → (∀ k, k < L.length → consV X (betV f t (L.take (k + 1)).flatten) ≠ 0 → planV X f t L = 17) ∧ ((∀ k, k < L.length → consV X (betV f t (L.take (k + 1)).flatten) = 0) → planV X f t L = 0)) := Lib.hid (fun h0 h1 => planV_first h0 h1)
  have HMS : Hid ((movesP f t).length ≤ 1000000000) := Lib.hid (by have := movesP_len f t; omega)
  have HF9 : Hid (L.flatten.length ≤ 1000000000) := Lib.hid (by omega)
  have HFX : Hid (∀ k, (L.take k).flatten.length ≤ 1000000) := Lib.hid (fun k => Nat.le_trans (flat_le k) hFl)
  have HNM := Lib.hid hM
  clear hm hq hR hF hT hfy hty hM hLp
  have HB0 := Lib.hid (IdxBx.start w (.slice va vn vc) iv)
  unfold UpgR at HU
  obtain ⟨E, hE⟩ : ∃ E, errW X f t = E := ⟨_, rfl⟩
  rw [hE] at HU HV1 HV2 HBT HPF
  clear hE
  go_enter Tryz.func27, Tryz.ntmps27
  go_upto_region 1 with fail
  generalize w.alloc (.cells #[.slice va vn vc, iv] 25) = W at *
  have c0 := HB0.out.c0
  have c1 := HB0.out.c1
  go_wp2_with fail
  refine (HU.out _ HB0.out.bel).mono ?_
  rintro e w1 ⟨hb1, g, rfl, hg⟩
  have HB1 := Lib.hid (HB0.out.below hb1)
  have HUP := Lib.hid hg
  clear hb1 hg c0 c1 HU HB0
  by_cases h0 : E = 0
  case neg =>
    have h0b : (E != 0) = true := by simpa using h0
    have HV := Lib.hid (HV1.out h0)
    go_wp2_with fail
    go_ret
    exact ⟨by rw [HV.out]; rfl, HB1.out.bel⟩
  subst h0
  obtain ⟨b, rfl, hup⟩ := HUP.out rfl
  have HUV := Lib.hid hup
  clear hup HUP HV1
  obtain ⟨i0, hi0, hz0, hz1, hz2⟩ := info_parts info_strW
  have hln := len_names ma L.length mc w1
  go_wp2_with fail
  try rw [hln]
  clear hln
  go_wp2_with fail
  go_loopw [11, 29] (fun ov p wr => Hid (∃ (k : Nat), k ≤ L.length ∧ p = .int .i64 (k : Int) ∧ wr.ownsRow w1.heap.size 9 1 ov (L.take k).flatten.length (strsC (L.take k).flatten) ∧ (∀ l ∈ L.take k, l ≠ [] ∧ sortB l = true) ∧ Below w1.heap.size w1 wr)) (fun _ p _ => L.length - (intOf p).toNat)
  case atStart => exact Lib.hid ⟨0, Nat.zero_le _, rfl, World.ownsRow_nil _ _ _ _, fun l hl => by (rw [List.take_zero] at hl; cases hl), Below.refl _ _⟩
  case round =>
    obtain ⟨k, hk, rfl, ho, hgd, hb⟩ := hrel.out
    have HO := Lib.hid ho
    have HB := Lib.hid hb
    have HGD := Lib.hid hgd
    obtain ⟨oa, oc, rfl⟩ := own_any ho
    clear hrel ho hb hgd
    have hs8 := HB.out.size
    have HBW := Lib.hid (HB1.out.bel.trans (HB.out.mono HB1.out.bel.size))
    by_cases hlt : k < L.length
    case pos =>
      have hk0 : (0 : Int) ≤ (k : Int) := Int.natCast_nonneg k
      have hkz : (k : Int) < (L.length : Int) := Int.ofNat_lt.2 hlt
      obtain ⟨b2, off, r, rfl, d0, hr⟩ := names_at HNM.out HBW.out hlt
      have HLM : Hid (L[k] ∈ L) := Lib.hid (List.getElem_mem hlt)
      have HFT := Lib.hid (flat_take hlt)
      have hfl := flat_le (L := L) (k + 1)
      rw [HFT.out, List.length_append] at hfl
      have HTK : Hid (L.take (k + 1) = L.take k ++ [L[k]]) := Lib.hid (List.take_succ_eq_append_getElem hlt)
      generalize L[k] = row at *
      have HRW := Lib.hid hr
      obtain ⟨ra, rc, rfl, _⟩ := rowOf_open hr
      have HIS := Lib.hid (sorted_strs _ row wr (by omega) HRW.out)
      clear hr
      by_cases hz : row = []
      case pos =>
        have HV : Hid (planV X f t L = 1) := Lib.hid (HV2.out trivial (fun g => (g.1 row HLM.out).1 hz))
        subst hz
        simp only [List.length_nil] at *
        clear HIS hfl
        go_wp2_with fail
        go_ret
        exact ⟨by rw [HV.out]; rfl, HBW.out⟩
      case neg =>
        have hzl : 0 < row.length := List.length_pos_iff.2 hz
        have hz1 : ((row.length : Int) == 0) = false := by simp; exact hz
        have hz2 : ¬ (row.length : Int) = 0 := by omega
        have hz3 : decide ((row.length : Int) = 0) = false := decide_eq_false hz2
        have HNE := Lib.hid hz
        clear hz
        have HV : Hid (sortB row = false → planV X f t L = 1) := Lib.hid (fun h => HV2.out trivial (fun g => by have := (g.1 row HLM.out).2; rw [h] at this; cases this))
        obtain ⟨sb, hsb⟩ : ∃ sb, sortB row = sb := ⟨_, rfl⟩
        rw [hsb] at HIS HV
        have HSB := Lib.hid hsb
        clear hsb
        go_wp2_with fail
        refine HIS.out.mono ?_
        rintro e w5 ⟨rfl, hb5⟩
        have HB5 := Lib.hid (HB.out.trans (hb5.mono hs8))
        have HBW5 := Lib.hid (HB1.out.bel.trans (HB5.out.mono HB1.out.bel.size))
        have HO5 := Lib.hid (own_on HO.out hb5)
        have HRW5 := Lib.hid ((HRW.out.below hb5 (Nat.le_refl _)).mono hb5.size)
        have hs9 : w1.heap.size ≤ w5.heap.size := HB5.out.size
        clear hb5 HIS HO HB d0
        cases sb with
        | false =>
          have HVV := Lib.hid (HV.out rfl)
          go_wp2_with fail
          go_ret
          exact ⟨by rw [HVV.out]; rfl, HBW5.out⟩
        | true =>
          clear HV
          have HGD2 : Hid (∀ l ∈ L.take (k + 1), l ≠ [] ∧ sortB l = true) := Lib.hid (fun l hl => by
            rw [HTK.out] at hl
            rcases List.mem_append.1 hl with h | h
            · exact HGD.out l h
            · rw [List.mem_singleton.1 h]; exact ⟨HNE.out, HSB.out⟩)
          have HFL : Hid ((L.take (k + 1)).flatten.length = (L.take k).flatten.length + row.length) := Lib.hid (by rw [HFT.out, List.length_append])
          generalize hK : (L.take k).flatten = K at *
          clear hK
          go_wp2_with (at_builtin; refine wpList_app_strs rfl _ _ rfl w1.heap.size (.slice oa K.length oc) K.length K (by rfl) HO5.out (.slice ra row.length rc) row (by rfl) HRW5.out (by omega) hs9 ?_; intro v' wB hown' hgrow; have HOW := Lib.hid hown'; have HGR := Lib.hid hgrow; clear hown' hgrow; obtain ⟨da, dc, rfl⟩ : ∃ a c, v' = .slice a (K.length + row.length) c := own_any HOW.out)
          all_goals
            have HBE := Lib.hid (HB5.out.grown HGR.out hs9 (fun b hb => (own_lo HO5.out b hb).1))
            have HOE : Hid (wB.ownsRow w1.heap.size 9 1 (.slice da (K.length + row.length) dc) (L.take (k + 1)).flatten.length (strsC (L.take (k + 1)).flatten)) := Lib.hid (by rw [HFL.out, HFT.out]; exact HOW.out)
            refine ⟨Lib.hid ⟨k + 1, hlt, by go_num, HOE.out, HGD2.out, HBE.out⟩, ?_⟩
            simp [intOf]; omega
    case neg =>
      have hTK : L.take k = L := List.take_of_length_le (Nat.not_lt.1 hlt)
      rw [hTK] at HO HGD
      rw [hTK]
      clear hTK
      generalize hF : L.flatten = F at *
      clear hF
      obtain ⟨fn, hfn⟩ : ∃ fn, F.length = fn := ⟨_, rfl⟩
      have hSO := sort_strs w1.heap.size _ F wr HO.out HF9.out
      have HSO := Lib.hid hSO
      clear hSO hfn
      go_wp2_with fail
      refine HSO.out.mono ?_
      rintro e w5 ⟨rfl, l', hl', hll, hg5, ho5⟩
      have HB5 := Lib.hid (HB.out.grown hg5 HB.out.size (fun b hb => (own_lo HO.out b hb).1))
      have HBW5 := Lib.hid (HB1.out.bel.trans (HB5.out.mono HB1.out.bel.size))
      have HU5 := Lib.hid (HUV.out.below HB5.out)
      have HSL : Hid (l' = sortL F) := Lib.hid hl'
      obtain ⟨m1, m2, fv5, tv5, pv, Bq, hbx, _, _, hrow, _, _⟩ := HU5.out
      obtain ⟨pa, pc, rfl⟩ := own_any hrow
      have u4 : w5.cell? ⟨b, 4, none⟩ = some (.slice pa (movesP f t).length pc) := cell_of_row _ _ 4 _ _ _ hbx
      have hl9 : l'.length ≤ 1000000000 := by rw [hll]; exact HF9.out
      have HEQ := Lib.hid (equal_rows _ _ l' (movesP f t) w5 hl9 HMS.out (own_row ho5).2 (own_row hrow).2)
      clear HSO HO hl' hll hg5 ho5 hbx hrow hl9 HB HBW
      by_cases heq : l' = movesP f t
      case neg =>
        have HV := Lib.hid (HV2.out trivial (fun g => heq (HSL.out.trans g.2)))
        rw [decide_eq_false heq] at HEQ
        clear heq
        go_wp2_with fail
        refine HEQ.out.mono ?_
        rintro e w6 ⟨rfl, hb6⟩
        have HB6 := Lib.hid (HBW5.out.trans (hb6.mono HBW5.out.size))
        clear hb6
        go_wp2_with fail
        go_ret
        exact ⟨by rw [HV.out]; rfl, HB6.out⟩
      rw [decide_eq_true heq] at HEQ
      have HPL := Lib.hid (HPF.out trivial ⟨HGD.out, HSL.out.symm.trans heq⟩)
      clear heq HSL HPF HGD HV2
      go_wp2_with fail
      refine HEQ.out.mono ?_
      rintro e w6 ⟨rfl, hb6⟩
      have HB6 := Lib.hid (HB5.out.trans (hb6.mono HB5.out.size))
      clear hb6 HEQ u4 HB5 HBW5 HU5
      have hln := len_names ma L.length mc w6
      go_wp2_with fail
      try rw [hln]
      clear hln
      go_wp2_with fail
      go_loopw [14, 56] (fun ov p wr => Hid (∃ (k : Nat), k ≤ L.length ∧ p = .int .i64 (k : Int) ∧ wr.ownsRow w1.heap.size 9 1 ov (L.take k).flatten.length (strsC (L.take k).flatten) ∧ (∀ j, j < k → consV X (betV f t (L.take (j + 1)).flatten) = 0) ∧ Below w1.heap.size w1 wr)) (fun _ p _ => L.length - (intOf p).toNat)
      case atStart => exact Lib.hid ⟨0, Nat.zero_le _, rfl, World.ownsRow_nil _ _ _ _, fun j hj => absurd hj (Nat.not_lt_zero j), HB6.out⟩
      case round =>
        obtain ⟨k, hk, rfl, ho, hgd, hb⟩ := hrel.out
        have HO := Lib.hid ho
        have HB := Lib.hid hb
        have HGD := Lib.hid hgd
        obtain ⟨oa, oc, rfl⟩ := own_any ho
        clear hrel ho hb hgd
        have hs8 := HB.out.size
        have HBW := Lib.hid (HB1.out.bel.trans (HB.out.mono HB1.out.bel.size))
        by_cases hlt : k < L.length
        case pos =>
          have hk0 : (0 : Int) ≤ (k : Int) := Int.natCast_nonneg k
          have hkz : (k : Int) < (L.length : Int) := Int.ofNat_lt.2 hlt
          obtain ⟨b2, off, r, rfl, d0, hr⟩ := names_at HNM.out HBW.out hlt
          have HFT := Lib.hid (flat_take hlt)
          have hfl := HFX.out (k + 1)
          rw [HFT.out, List.length_append] at hfl
          have HCX := Lib.hid (HCS.out (k + 1))
          have HBX := Lib.hid (HBT.out (k + 1) trivial b)
          have HP17 : Hid (consV X (betV f t (L.take (k + 1)).flatten) ≠ 0 → planV X f t L = 17) := Lib.hid (fun h => HPL.out.1 k hlt h)
          generalize L[k] = row at *
          have HRW := Lib.hid hr
          obtain ⟨ra, rc, rfl, _⟩ := rowOf_open hr
          clear hr
          have HFL : Hid ((L.take (k + 1)).flatten.length = (L.take k).flatten.length + row.length) := Lib.hid (by rw [HFT.out, List.length_append])
          generalize hK : (L.take k).flatten = K at *
          clear hK
          obtain ⟨C, hC⟩ : ∃ C, consV X (betV f t (L.take (k + 1)).flatten) = C := ⟨_, rfl⟩
          rw [hC] at HCX HP17
          have HC := Lib.hid hC
          clear hC
          go_upto_region 20 with (at_builtin; refine wpList_app_strs rfl _ _ rfl w1.heap.size (.slice oa K.length oc) K.length K (by rfl) HO.out (.slice ra row.length rc) row (by rfl) HRW.out (by omega) hs8 ?_; intro v' wB hown' hgrow; have HOW := Lib.hid hown'; have HGR := Lib.hid hgrow; clear hown' hgrow; obtain ⟨da, dc, rfl⟩ : ∃ a c, v' = .slice a (K.length + row.length) c := own_any HOW.out)
          have HBE := Lib.hid (HB.out.grown HGR.out hs8 (fun b hb => (own_lo HO.out b hb).1))
          have HOE : Hid (wB.ownsRow w1.heap.size 9 1 (.slice da (K.length + row.length) dc) (L.take (k + 1)).flatten.length (strsC (L.take (k + 1)).flatten)) := Lib.hid (by rw [HFL.out, HFT.out]; exact HOW.out)
          have HBQ : Hid (Below wB.heap.size wB wB.drew) := Lib.hid (Below.refl _ _).drew
          have HBD := Lib.hid (HBE.out.trans (HBQ.out.mono HBE.out.size))
          have HRB : Hid (RowOf Value.string wB.drew.heap.size (.slice da (K.length + row.length) dc) (L.take (k + 1)).flatten wB.drew) := Lib.hid (((own_row HOE.out).2.below HBQ.out (Nat.le_refl _)).mono HBQ.out.size)
          have HBC := Lib.hid (HBX.out wB.drew (HB1.out.bel.trans (HBD.out.mono HB1.out.bel.size)) (HUV.out.below HBD.out) _ HRB.out)
          have HSB : Hid (∀ W, Below w1.heap.size w1 W → HeldX w.heap.size (.slice va vn vc) iv W) := Lib.hid (fun W hw => ⟨(HB1.out.below hw).c0, (HB1.out.below hw).c1⟩)
          clear HOW HGR HO HRW HB HBX HBW HRB d0
          by_cases hc0 : C = 0
          case pos =>
            have hc1 : (C != 0) = false := by rw [hc0]; rfl
            subst hc0
            refine wp_region_noPanic ?_
            refine wp_region_held_drew (S := HeldX w.heap.size (.slice va vn vc) iv) (by kernel_rfl) (HSB.out _ HBD.out) (fun hS0 => ?_)
            (refine zl3 0 ?_ rfl ?_ ?_; rotate_left; (· (rintro w ⟨d0, d1⟩; go_simp; try with_reducible rfl)); (try simp only [zl1]))
            (refine zl3 1 ?_ rfl ?_ ?_; rotate_left; (· (rintro w ⟨d0, d1⟩; go_simp; try with_reducible rfl)); (try simp only [zl1]))
            (refine zl3 2 ?_ rfl ?_ ?_; rotate_left; (· (rintro w ⟨d0, d1⟩; go_simp; try with_reducible rfl)); (try simp only [zl1]))
            refine wpAnyH_ready (rs := [3]) (by kernel_rfl) (by simp) (AllReadyH.cons rfl (fun K hK => ?_) AllReadyH.nil)
            go_simp
            refine (HBC.out).mono ?_
            rintro e w7 ⟨v7, rfl, hs7, hb7, hl7⟩
            have HB7 := Lib.hid (HBD.out.trans (hb7.mono HBD.out.size))
            have HBb7 := Lib.hid (HBQ.out.trans (hb7.mono HBQ.out.size))
            have HCN := Lib.hid (HCX.out hl7 w7 (HB1.out.bel.trans (HB7.out.mono HB1.out.bel.size)) _ hs7)
            obtain ⟨qa, qn, qc, rfl⟩ : ∃ a n c, v7 = .slice a n c := by obtain ⟨a, c, e, _⟩ := hs7; exact ⟨a, _, c, e⟩
            clear hS0
            have hS0 := HSB.out _ HB7.out
            refine hK.out _ _ hS0 (fun _ => ?_)
            clear hK K hb7 hs7 hl7
            (try simp only [zl1])
            refine wpAnyH_ready (rs := [4]) (by kernel_rfl) (by simp) (AllReadyH.cons rfl (fun K hK => ?_) AllReadyH.nil)
            go_simp
            refine (HCN.out).mono ?_
            rintro e w8 ⟨rfl, hb8⟩
            have HB8 := Lib.hid (HB7.out.trans (hb8.mono HB7.out.size))
            have HBb8 := Lib.hid (HBb7.out.trans (hb8.mono HBb7.out.size))
            clear hS0
            have hS0 := HSB.out _ HB8.out
            refine hK.out _ _ hS0 (fun _ => ?_)
            clear hK K hb8
            (try simp only [zl1])
            (refine zl3 5 ?_ rfl ?_ ?_; rotate_left; (· (rintro w ⟨d0, d1⟩; go_simp; try with_reducible rfl)); (try simp only [zl1]))
            refine wpAnyH_done (by kernel_rfl) ?_ _
            refine NoPanic.normal ?_
            have HO8 := Lib.hid (own_on HOE.out HBb8.out)
            go_wp2_with fail
            all_goals
              refine ⟨Lib.hid ⟨k + 1, hlt, by go_num, by first | exact HO8.out | (rw [HFL.out]; exact HO8.out), fun j hj => ?_, HB8.out⟩, ?_⟩
              · by_cases hjk : j < k
                · exact HGD.out j hjk
                · obtain rfl : j = k := Nat.le_antisymm (Nat.lt_succ_iff.1 hj) (Nat.not_lt.1 hjk)
                  exact HC.out
              · simp [intOf]; omega
          case neg =>
            have hc1 : (C != 0) = true := by simpa using hc0
            have HV := Lib.hid (HP17.out hc0)
            refine wp_region_noPanic ?_
            refine wp_region_held_drew (S := HeldX w.heap.size (.slice va vn vc) iv) (by kernel_rfl) (HSB.out _ HBD.out) (fun hS0 => ?_)
            (refine zl3 0 ?_ rfl ?_ ?_; rotate_left; (· (rintro w ⟨d0, d1⟩; go_simp; try with_reducible rfl)); (try simp only [zl1]))
            (refine zl3 1 ?_ rfl ?_ ?_; rotate_left; (· (rintro w ⟨d0, d1⟩; go_simp; try with_reducible rfl)); (try simp only [zl1]))
            (refine zl3 2 ?_ rfl ?_ ?_; rotate_left; (· (rintro w ⟨d0, d1⟩; go_simp; try with_reducible rfl)); (try simp only [zl1]))
            refine wpAnyH_ready (rs := [3]) (by kernel_rfl) (by simp) (AllReadyH.cons rfl (fun K hK => ?_) AllReadyH.nil)
            go_simp
            refine (HBC.out).mono ?_
            rintro e w7 ⟨v7, rfl, hs7, hb7, hl7⟩
            have HB7 := Lib.hid (HBD.out.trans (hb7.mono HBD.out.size))
            have HBb7 := Lib.hid (HBQ.out.trans (hb7.mono HBQ.out.size))
            have HCN := Lib.hid (HCX.out hl7 w7 (HB1.out.bel.trans (HB7.out.mono HB1.out.bel.size)) _ hs7)
            obtain ⟨qa, qn, qc, rfl⟩ : ∃ a n c, v7 = .slice a n c := by obtain ⟨a, c, e, _⟩ := hs7; exact ⟨a, _, c, e⟩
            clear hS0
            have hS0 := HSB.out _ HB7.out
            refine hK.out _ _ hS0 (fun _ => ?_)
            clear hK K hb7 hs7 hl7
            (try simp only [zl1])
            refine wpAnyH_ready (rs := [4]) (by kernel_rfl) (by simp) (AllReadyH.cons rfl (fun K hK => ?_) AllReadyH.nil)
            go_simp
            refine (HCN.out).mono ?_
            rintro e w8 ⟨rfl, hb8⟩
            have HB8 := Lib.hid (HB7.out.trans (hb8.mono HB7.out.size))
            have HBb8 := Lib.hid (HBb7.out.trans (hb8.mono HBb7.out.size))
            clear hS0
            have hS0 := HSB.out _ HB8.out
            refine hK.out _ _ hS0 (fun _ => ?_)
            clear hK K hb8
            (try simp only [zl1])
            (refine zl3 5 ?_ rfl ?_ ?_; rotate_left; (· (rintro w ⟨d0, d1⟩; go_simp; try with_reducible rfl)); (try simp only [zl1]))
            refine wpAnyH_done (by kernel_rfl) ?_ _
            refine NoPanic.normal ?_
            have HBF := Lib.hid (HB1.out.bel.trans (HB8.out.mono HB1.out.bel.size))
            go_wp2_with fail
            go_ret
            exact ⟨by rw [HV.out]; rfl, HBF.out⟩
        case neg =>
          have hkL : k = L.length := Nat.le_antisymm hk (Nat.not_lt.1 hlt)
          have HV := Lib.hid (HPL.out.2 (fun j hj => HGD.out j (by rw [hkL]; exact hj)))
          clear hkL HGD HPL
          go_wp2_with fail
          go_ret
          exact ⟨by rw [HV.out]; rfl, HBW.out⟩
end Go.Proofs.YtnjiibiafhnmgaaGreatDoor

namespace Go.Proofs.YtnjiibiafhnmgaaGreatDoor
open Go Go.RowKit

set_option maxRecDepth 100000 in
set_option maxHeartbeats 4000000 in
theorem few36_any (a : Option Addr) (c : Nat) (iv : Value) (X : List RelL) (w : World) (hX : X.length ≤ 9223372036854775807) (hXr : ∀ x ∈ X, x.reqs.length ≤ 9223372036854775807) (hR : RelsOf w.heap.size (.slice a X.length c) X w) :
    Calls Tryz.prog 40 #[.agg #[.slice a X.length c, iv], .slice none 0 0] w fun e w' => ∃ b : Bool, e = .returned (.bool b) ∧ (b = true → FewR X 16) ∧ Below w.heap.size w w' := by
  have HR := Lib.hid hR
  clear hR
  have HB0 : Hid (Below w.heap.size w (w.alloc (.cells #[.slice a X.length c, iv] 25))) := Lib.hid (belQ _ _)
  have HI0 : Hid ((w.alloc (.cells #[.slice a X.length c, iv] 25)).heap[w.heap.size]? = some (.cells #[.slice a X.length c, iv] 25 (0, 0))) := Lib.hid (World.alloc_heap_new w _)
  go_enter Tryz.func40, Tryz.ntmps40
  go_upto_region 1 with fail
  generalize w.alloc (.cells #[.slice a X.length c, iv] 25) = W at *
  have HF1 := Lib.hid (FewR_any (.slice a X.length c) X 16 W (by omega) hX hXr ((HR.out.below HB0.out (Nat.le_refl _)).mono HB0.out.size))
  have HF2 := Lib.hid (FewQ_any (.slice none 0 0) [] W (by simp) ⟨_, _, rfl, fun i q hq => by simp at hq⟩)
  have c0 : W.cell? ⟨w.heap.size, 0, none⟩ = some (.slice a X.length c) := cell_of_row _ _ 0 _ _ _ HI0.out
  go_wp2_with fail
  refine HF1.out.mono ?_
  rintro e w2 ⟨b1, rfl, hb1, hww⟩
  obtain rfl : W = w2 := hww.symm
  cases b1 with
  | false =>
    go_wp2_with fail
    go_ret
    exact ⟨false, rfl, (fun h => by cases h), HB0.out⟩
  | true =>
    have HFR := Lib.hid (hb1 rfl)
    clear hb1
    go_wp2_with fail
    refine HF2.out.mono ?_
    rintro e w2 ⟨b2, rfl, hb2, hww⟩
    obtain rfl : W = w2 := hww.symm
    have HFQ := Lib.hid hb2
    clear hb2
    go_wp2_with fail
    go_ret
    exact ⟨b2, rfl, fun h => HFR.out, HB0.out⟩
set_option maxRecDepth 100000 in
set_option maxHeartbeats 4000000 in
theorem few44_any (a : Option Addr) (c : Nat) (iv : Value) (X : List RelL) (fa ta : Option Addr) (fn fc tn tc : Nat) (w : World) (hX : X.length ≤ 9223372036854775807) (hXr : ∀ x ∈ X, x.reqs.length ≤ 9223372036854775807) (hR : RelsOf w.heap.size (.slice a X.length c) X w) (hf : fn ≤ maxLen) (ht : tn ≤ maxLen) :
    Calls Tryz.prog 11 #[.agg #[.slice a X.length c, iv], .slice fa fn fc, .slice ta tn tc] w fun e w' => ∃ b : Bool, e = .returned (.bool b) ∧ (b = true → FewR X 16 ∧ fn ≤ 12 ∧ tn ≤ 12) ∧ Below w.heap.size w w' := by
  have HF := Lib.hid (fun W (hb : RowKit.Below w.heap.size w W) => few36_any a c iv X W hX hXr (hR.on hb))
  have HB0 := Lib.hid (IdxBx.start w (.slice a X.length c) iv)
  clear hR
  unfold maxLen at hf ht
  go_enter Tryz.func11, Tryz.ntmps11
  go_upto_region 1 with fail
  generalize w.alloc (.cells #[.slice a X.length c, iv] 25) = W at *
  have c0 := HB0.out.c0
  have c1 := HB0.out.c1
  go_wp2_with fail
  refine (HF.out _ HB0.out.bel).mono ?_
  rintro e w2 ⟨b1, rfl, hb1, hb2⟩
  have HB2 := Lib.hid (HB0.out.bel.trans (hb2.mono HB0.out.bel.size))
  cases b1 with
  | false =>
    clear hb1 hb2
    go_wp2_with fail
    go_ret
    exact ⟨false, rfl, (fun h => by cases h), HB2.out⟩
  | true =>
    have HFR := Lib.hid (hb1 rfl)
    clear hb1 hb2
    by_cases h1 : fn ≤ 12
    · have h1b : decide ((fn : Int) ≤ 12) = true := decide_eq_true (by omega)
      by_cases h2 : tn ≤ 12
      · have h2b : decide ((tn : Int) ≤ 12) = true := decide_eq_true (by omega)
        go_wp2_with fail
        go_ret
        exact ⟨true, by first | rfl | simp [h1b, h2b], fun _ => ⟨HFR.out, h1, h2⟩, HB2.out⟩
      · have h2b : decide ((tn : Int) ≤ 12) = false := decide_eq_false (by omega)
        go_wp2_with fail
        go_ret
        exact ⟨false, by first | rfl | simp [h1b, h2b], (fun h => by cases h), HB2.out⟩
    · have h1b : decide ((fn : Int) ≤ 12) = false := decide_eq_false (by omega)
      go_wp2_with fail
      go_ret
      exact ⟨false, by first | rfl | simp [h1b], (fun h => by cases h), HB2.out⟩
end Go.Proofs.YtnjiibiafhnmgaaGreatDoor

namespace Go.Proofs.YtnjiibiafhnmgaaGreatDoor
open Go Go.RowKit

structure InW (v iv fv tv : Value) (X : List RelL) (f t : List SelL) (w : World) : Prop where
  max : MaxOk w
  xl : X.length ≤ 1000000
  xq : ∀ x ∈ X, RelBd x
  rel : RelsOf w.heap.size v X w
  fl : f.length ≤ 12
  fy : ∀ y ∈ f, SelBd y
  sf : SelsOf w.heap.size fv f w
  tl : t.length ≤ 12
  ty : ∀ y ∈ t, SelBd y
  st : SelsOf w.heap.size tv t w
section
variable {v iv fv tv : Value} {X : List RelL} {f t : List SelL} {w W : World}
theorem InW.on (h : InW v iv fv tv X f t w) (hb : Below w.heap.size w W) : InW v iv fv tv X f t W := ⟨h.max.below hb h.max.pos, h.xl, h.xq, h.rel.on hb, h.fl, h.fy, h.sf.on hb, h.tl, h.ty, h.st.on hb⟩
theorem InW.swap (h : InW v iv fv tv X f t w) : InW v iv tv fv X t f w := ⟨h.max, h.xl, h.xq, h.rel, h.tl, h.ty, h.st, h.fl, h.fy, h.sf⟩
theorem InW.self (h : InW v iv fv tv X f t w) : InW v iv fv fv X f f w := ⟨h.max, h.xl, h.xq, h.rel, h.fl, h.fy, h.sf, h.fl, h.fy, h.sf⟩
theorem InW.graph (h : InW v iv fv tv X f t w) : Calls Tryz.prog 12 #[.agg #[v, iv], fv, tv] w (GraphR w (graphV X f t)) :=
  Graph_any v iv fv tv X f t w h.max h.xl h.xq h.rel (by have := h.fl; omega) h.fy h.sf (by have := h.tl; omega) h.ty h.st
theorem InW.groups (h : InW v iv fv tv X f t w) : Calls Tryz.prog 14 #[.agg #[v, iv], fv, tv] w (NamedR w (grpV X f t) (errW X f t)) :=
  Groups_any v iv fv tv X f t w h.max h.xl h.xq h.rel (by have := h.fl; omega) h.fy h.sf (by have := h.tl; omega) h.ty h.st
theorem InW.waves (h : InW v iv fv tv X f t w) : Calls Tryz.prog 16 #[.agg #[v, iv], fv, tv] w (NamedR w (wavV X f t) (errW X f t)) :=
  Waves_any v iv fv tv X f t w h.max h.xl h.xq h.rel (by have := h.fl; omega) h.fy h.sf (by have := h.tl; omega) h.ty h.st
theorem InW.btw (h : InW v iv fv tv X f t w) {mv : Value} {M : List ByteArray} (hl : M.length ≤ 1000000) (hp : ∀ p ∈ M, p.size ≤ maxLen) (hM : RowOf Value.string w.heap.size mv M w) : Calls Tryz.prog 24 #[.agg #[v, iv], fv, tv, mv] w (BtwR X f t M w) :=
  Between_any v iv fv tv mv X f t M w h.max h.xl h.xq h.rel (by have := h.fl; omega) h.fy h.sf (by have := h.tl; omega) h.ty h.st hl hp hM
theorem InW.check (h : InW v iv fv tv X f t w) {mv : Value} {L : List (List ByteArray)} (hl : L.length ≤ 1000000) (hf : L.flatten.length ≤ 1000000) (hp : ∀ p ∈ L.flatten, p.size ≤ maxLen) (hM : NamesOf w.heap.size mv L w) :
    Calls Tryz.prog 27 #[.agg #[v, iv], fv, tv, mv] w fun e w' => e = .returned (.int .i64 (planV X f t L)) ∧ Below w.heap.size w w' :=
  Check_any v iv fv tv mv X f t L w h.max h.xl h.xq h.rel (by have := h.fl; omega) h.fy h.sf (by have := h.tl; omega) h.ty h.st hl hf hp hM
theorem InW.cons (h : InW v iv fv tv X f t w) {sv : Value} {s : List SelL} (hs : s.length ≤ 1000000) (hy : ∀ y ∈ s, SelBd y) (hS : SelsOf w.heap.size sv s w) :
    Calls Tryz.prog 18 #[.agg #[v, iv], sv] w fun e w' => e = .returned (.int .i64 (consV X s)) ∧ Below w.heap.size w w' :=
  Consistent_any v iv sv X s w h.max h.xl h.xq h.rel hs hy hS
end
theorem names_on {w w' : World} {v : Value} {L : List (List ByteArray)} (h : NamesOf w.heap.size v L w) (hb : Below w.heap.size w w') : NamesOf w'.heap.size v L w' := by
  obtain ⟨a, c, rfl, h⟩ := h
  refine ⟨a, c, rfl, fun i l hl => ?_⟩
  obtain ⟨b, off, r, h1, h2, h3, h4⟩ := h i l hl
  exact ⟨b, off, r, h1, Nat.lt_of_lt_of_le h2 hb.size, (hb.cell (p := ⟨b, off + i, none⟩) h2).trans h3, (h4.below hb (Nat.le_refl _)).mono hb.size⟩
theorem names_nil (B : Nat) (W : World) : NamesOf B (.slice none 0 0) [] W := ⟨none, 0, rfl, fun i l hl => by simp at hl⟩
theorem row_on {w w' : World} {v : Value} {L : List ByteArray} (h : RowOf Value.string w.heap.size v L w) (hb : Below w.heap.size w w') : RowOf Value.string w'.heap.size v L w' := (h.below hb (Nat.le_refl _)).mono hb.size
theorem row_blk {W : World} {g : Nat} {t : TypeId} (L : List ByteArray) (h : W.heap[g]? = some (.cells (L.map Value.string).toArray t (0, 0))) : RowOf Value.string W.heap.size (.slice (some ⟨g, 0, none⟩) L.length L.length) L W := by
  have hg := (Array.getElem?_eq_some_iff.1 h).1
  refine .inr ⟨g, 0, L.length, rfl, hg, fun i x hx => ?_⟩
  have hc : (L.map Value.string).toArray[i]? = some (.string x) := by simp [hx]
  rw [show (0 + i) = i from Nat.zero_add i]
  exact (cell_of_row W g i (L.map Value.string).toArray t (0, 0) h).trans hc
theorem blk0 {W : World} {g : Nat} {t : TypeId} {x y : Value} (h : W.heap[g]? = some (.cells #[x, y] t (0, 0))) : W.cell? ⟨g, 0, none⟩ = some x := cell_of_row _ _ 0 _ _ _ h
theorem blk1 {W : World} {g : Nat} {t : TypeId} {x y : Value} (h : W.heap[g]? = some (.cells #[x, y] t (0, 0))) : W.cell? ⟨g, 1, none⟩ = some y := cell_of_row _ _ 1 _ _ _ h
theorem names_two {W : World} {g : Nat} {t : TypeId} {a b : Value} {A B : List ByteArray} (h : W.heap[g]? = some (.cells #[a, b] t (0, 0))) (ha : RowOf Value.string W.heap.size a A W) (hb : RowOf Value.string W.heap.size b B W) : NamesOf W.heap.size (.slice (some ⟨g, 0, none⟩) 2 2) [A, B] W := by
  have hg := (Array.getElem?_eq_some_iff.1 h).1
  refine ⟨_, _, rfl, fun i l hl => ?_⟩
  match i, hl with
  | 0, hl => cases hl; exact ⟨g, 0, a, rfl, hg, cell_of_row _ _ 0 _ _ _ h, ha⟩
  | 1, hl => cases hl; exact ⟨g, 0, b, rfl, hg, cell_of_row _ _ 1 _ _ _ h, hb⟩
  | i + 2, hl => simp at hl
end Go.Proofs.YtnjiibiafhnmgaaGreatDoor

namespace Go.Proofs.YtnjiibiafhnmgaaGreatDoor
open Go

def wA : ByteArray := ⟨#[97, 47, 118, 49]⟩
def wB : ByteArray := ⟨#[98, 47, 118, 49]⟩
def wC : ByteArray := ⟨#[99, 47, 118, 49]⟩
def onlyQ (p : ByteArray) (m : Int) : ReqL := (p, [(1000 * m, 1000 * m + 1)])
def allQ (p : ByteArray) : ReqL := (p, [(0, 1000000)])
def wR (p : ByteArray) (m : Int) (l : List ReqL) : RelL := ⟨p, (1, m, 0), l, ⟨#[]⟩, ⟨#[]⟩, ⟨#[]⟩, false⟩
def wX : List RelL := [wR wA 0 [onlyQ wB 0], wR wA 1 [onlyQ wB 1, allQ wC], wR wB 0 [], wR wB 1 [], wR wC 0 []]
def wS (p : ByteArray) (m : Int) : SelL := (p, (1, m, 0))
def wF : List SelL := [wS wA 0, wS wB 0]
def wT : List SelL := [wS wA 1, wS wB 1, wS wC 0]
def satB (X : List RelL) (s : List SelL) : Bool := decide (checkX X = 0) && (decide (s.Pairwise fun a b => ltB a.1 b.1 = true) && s.all fun y => (findR X y).isSome && (reqsOf X y).all fun q => metB s q)
theorem satB_iff {X : List RelL} {s : List SelL} : satB X s = true ↔ ConsP X s := by
  unfold satB
  rw [Bool.and_eq_true, Bool.and_eq_true, decide_eq_true_iff, decide_eq_true_iff, List.all_eq_true]
  constructor
  · rintro ⟨h1, h2, h3⟩
    refine ⟨h1, h2, fun y hy => ?_, fun y hy q hq => ?_, fun q hq => by cases hq⟩
    · have := h3 y hy
      rw [Bool.and_eq_true] at this
      exact this.1
    · have := h3 y hy
      rw [Bool.and_eq_true, List.all_eq_true] at this
      exact this.2 q hq
  · intro h
    refine ⟨h.ok, h.incr, fun y hy => ?_⟩
    rw [Bool.and_eq_true, List.all_eq_true]
    exact ⟨h.found y hy, fun q hq => h.own y hy q hq⟩
theorem wex_F : ConsP wX wF := satB_iff.1 (by decide +kernel)
theorem wex_T : ConsP wX wT := satB_iff.1 (by decide +kernel)
theorem wex_err : errW wX wF wT = 0 := errW_zero.2 ⟨wex_F, wex_T⟩
theorem wex_all : allP wF wT = [wA, wB, wC] := by
  have e1 : wF.map (·.1) = [wA, wB] := rfl
  have e2 : wT.map (·.1) = [wA, wB, wC] := rfl
  unfold allP
  rw [e1, e2, mergeU_cons, if_pos rfl, mergeU_cons, if_pos rfl, mergeU_nil]
theorem wex_mov : movesP wF wT = [wA, wB, wC] := by
  unfold movesP
  rw [wex_all]
  decide +kernel
def wEs : List (Int × Int) := [(0, 1), (0, 2), (1, 0)]
theorem wex_wavE : wavE wX wF wT = wEs := by
  unfold wavE
  rw [wex_mov]
  decide +kernel
theorem wex_comps : compsG 3 wEs = [[2], [0, 1]] := by decide +kernel
theorem sort_idW (r : List Nat) (h : (r.map fun n : Nat => (n : Int)).Pairwise fun x y => decide (x ≤ y) = true) : sortN r = r := by
  unfold sortN
  rw [List.mergeSort_of_pairwise h, List.map_map]
  have : (Int.toNat ∘ fun n : Nat => (n : Int)) = id := by funext n; rfl
  rw [this, List.map_id]
theorem wex_run : (lvrun (condG 3 wEs) (nodesG 3 wEs) (listF (condG 3 wEs))).2 = [[2], [0, 1]] := by decide +kernel
theorem wex_levels : levelsG 3 wEs = [[2], [0, 1]] := by
  unfold levelsG
  rw [wex_run]
  simp only [List.map_cons, List.map_nil]
  rw [sort_idW [2] (by decide), sort_idW [0, 1] (by decide)]
theorem wex_grp : grpW wX wF wT = [[wC], [wA, wB]] := by
  unfold grpW
  rw [wex_wavE, wex_mov, show [wA, wB, wC].length = 3 from rfl, wex_comps]
  rfl
theorem wex_wav : wavW wX wF wT = [[wC], [wA, wB]] := by
  unfold wavW
  rw [wex_wavE, wex_mov, show [wA, wB, wC].length = 3 from rfl, wex_levels]
  rfl
theorem wex_plan : planV wX wF wT [[wC], [wA, wB]] = 0 := by
  have h := (right_law wex_err).1
  rwa [wex_grp] at h
theorem wex_bet : betV wF wT [wC] = [wS wA 0, wS wB 0, wS wC 0] := by
  unfold betV
  rw [wex_all]
  decide +kernel
theorem wex_bet2 : betV wF wT [wA, wB] = [wS wA 1, wS wB 1] := by
  unfold betV
  rw [wex_all]
  decide +kernel
theorem wex_cons : consV wX [wS wA 0, wS wB 0, wS wC 0] = 0 := consV_zero.2 (satB_iff.1 (by decide +kernel))
theorem wex_plan2 : planV wX wF wT [[wA, wB], [wC]] = 17 := by
  have hne : ¬ ConsP wX [wS wA 1, wS wB 1] := fun h => by
    have := satB_iff.2 h
    rw [show satB wX [wS wA 1, wS wB 1] = false by decide +kernel] at this
    cases this
  unfold planV
  rw [if_neg (fun h => h wex_err), if_neg, if_pos]
  · exact ⟨0, by decide, fun h => hne (by rw [← wex_bet2]; exact h)⟩
  · rw [Classical.not_not, wex_mov]
    refine ⟨fun l hl => ?_, by decide +kernel, fun p => ?_⟩
    · simp only [List.mem_cons, List.not_mem_nil, or_false] at hl
      rcases hl with rfl | rfl
      · exact ⟨by simp, show IncB [wA, wB] by unfold IncB; decide +kernel⟩
      · exact ⟨by simp, show IncB [wC] by unfold IncB; decide +kernel⟩
    · exact Iff.rfl
end Go.Proofs.YtnjiibiafhnmgaaGreatDoor
