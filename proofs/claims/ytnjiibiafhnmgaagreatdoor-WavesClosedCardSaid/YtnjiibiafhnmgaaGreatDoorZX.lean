/- The law WavesClosed returns true. -/
import Derived.Test.YtnjiibiafhnmgaaGreatDoorZS
namespace Go.Proofs.YtnjiibiafhnmgaaGreatDoor
open Go Go.RowKit

def clE (P M : List ByteArray) (y : Int × Int) : Bool := !(decide (P.getD y.1.toNat default ∈ M) && !decide (P.getD y.2.toNat default ∈ M))
theorem closed_law {X : List RelL} {f t : List SelL} {M : List ByteArray} (h : errW X f t = 0) : consV X (betV f t M) = 0 ↔ (wavE X f t).all (clE (movesP f t) M) = true := by
  obtain ⟨hf, ht⟩ := errW_zero.1 h
  rw [consV_zero, bet_cons hf ht, List.all_eq_true]
  constructor
  · intro hc y hy
    obtain ⟨i, k, hi, hk, hn, rfl⟩ := mem_wavE.1 hy
    have ei : ((i : Int), (k : Int)).1.toNat = i := by simp
    have ek : ((i : Int), (k : Int)).2.toNat = k := by simp
    have mi : (movesP f t).getD i default ∈ movesP f t := by rw [List.getD_eq_getElem?_getD, List.getElem?_eq_getElem hi]; exact List.getElem_mem hi
    have mk : (movesP f t).getD k default ∈ movesP f t := by rw [List.getD_eq_getElem?_getD, List.getElem?_eq_getElem hk]; exact List.getElem_mem hk
    unfold clE
    rw [ei, ek]
    by_cases h1 : (movesP f t).getD i default ∈ M
    · by_cases h2 : (movesP f t).getD k default ∈ M
      · rw [decide_eq_true h1, decide_eq_true h2]; rfl
      · have := hc _ mi _ mk h1 h2
        rw [hn] at this
        cases this
    · rw [decide_eq_false h1]; rfl
  · intro hc a ha b hb h1 h2
    cases hn : needB X f t a b with
    | false => rfl
    | true =>
      obtain ⟨i, hi, rfl⟩ := List.mem_iff_getElem.1 ha
      obtain ⟨k, hk, rfl⟩ := List.mem_iff_getElem.1 hb
      have gi : (movesP f t).getD i default = (movesP f t)[i] := by rw [List.getD_eq_getElem?_getD, List.getElem?_eq_getElem hi]; rfl
      have gk : (movesP f t).getD k default = (movesP f t)[k] := by rw [List.getD_eq_getElem?_getD, List.getElem?_eq_getElem hk]; rfl
      have hw := hc ((i : Int), (k : Int)) (mem_wavE.2 ⟨i, k, hi, hk, by rw [gi, gk]; exact hn, rfl⟩)
      unfold clE at hw
      have ei : ((i : Int), (k : Int)).1.toNat = i := by simp
      have ek : ((i : Int), (k : Int)).2.toNat = k := by simp
      rw [ei, ek, gi, gk, decide_eq_true h1, decide_eq_false h2] at hw
      cases hw
theorem all_takeW {α : Type} {p : α → Bool} {l : List α} {k : Nat} (hk : k < l.length) : (l.take (k + 1)).all p = ((l.take k).all p && p l[k]) := by
  rw [List.take_succ_eq_append_getElem hk, List.all_append]
  simp
theorem edge_bd {X : List RelL} {f t : List SelL} {k : Nat} (hk : k < (wavE X f t).length) : ∃ i j : Nat, i < (movesP f t).length ∧ j < (movesP f t).length ∧ (wavE X f t)[k] = ((i : Int), (j : Int)) := by
  obtain ⟨i, j, hi, hj, _, e⟩ := mem_wavE.1 (List.getElem_mem hk)
  exact ⟨i, j, hi, hj, e⟩
theorem edges_atW {B : Nat} {ao : Option Addr} {cap : Nat} {es : List (Int × Int)} {W : World} (h : EdgesOf B (.slice ao es.length cap) es W) {k : Nat} (hk : k < es.length) :
    ∃ b off, ao = some ⟨b, off, none⟩ ∧ b < B ∧ W.cell? ⟨b, off + k * 2, none⟩ = some (intC es[k].1) ∧ W.cell? ⟨b, off + k * 2 + 1, none⟩ = some (intC es[k].2) := by
  obtain ⟨a, c, e, h⟩ := h
  cases e
  obtain ⟨b, off, h1, h2, h3, h4⟩ := h k _ (List.getElem?_eq_getElem hk)
  exact ⟨b, off, h1, h2, h3, h4⟩
theorem row_atW {B : Nat} {ao : Option Addr} {cap : Nat} {L : List ByteArray} {W : World} (h : RowOf Value.string B (.slice ao L.length cap) L W) {k : Nat} (hk : k < L.length) :
    ∃ b off, ao = some ⟨b, off, none⟩ ∧ b < B ∧ W.cell? ⟨b, off + k, none⟩ = some (.string L[k]) := by
  rcases h with ⟨rfl, _⟩ | ⟨b, off, c, e, hb, h⟩
  · simp at hk
  · cases e
    exact ⟨b, off, rfl, hb, h k _ (List.getElem?_eq_getElem hk)⟩
theorem bet_len (f t : List SelL) (M : List ByteArray) : (betV f t M).length ≤ f.length + t.length := by
  have h1 : (betV f t M).length ≤ (allP f t).length := List.length_filterMap_le _ _
  have h2 := mergeU_len (f.map (·.1)) (t.map (·.1))
  rw [List.length_map, List.length_map] at h2
  exact Nat.le_trans h1 h2
set_option maxRecDepth 100000 in
set_option maxHeartbeats 16000000 in
theorem WavesClosed_any (a : Option Addr) (c : Nat) (iv : Value) (X : List RelL) (fv : Value) (f : List SelL) (tv : Value) (t : List SelL) (bits : Int) (w : World) (hm : MaxOk w) (h0 : RelsOf w.heap.size (.slice a X.length c) X w ∧ X.length ≤ maxLen ∧ ∀ x ∈ X, x.reqs.length ≤ maxLen)
    (h1 : SelsOf w.heap.size fv f w ∧ f.length ≤ maxLen ∧ ∀ y ∈ f, SelBd y) (h2 : SelsOf w.heap.size tv t w ∧ t.length ≤ maxLen ∧ ∀ y ∈ t, SelBd y) :
    Calls Tryz.prog 5 #[.agg #[.slice a X.length c, iv], fv, tv, .int .u16 bits] w fun e w' => e = .returned (.bool true) ∧ Below w.heap.size w w' := by
  obtain ⟨hR, hX, hXr⟩ := h0
  obtain ⟨hF, hfl, hfy⟩ := h1
  obtain ⟨hT, htl, hty⟩ := h2
  obtain ⟨fa, fc, rfl⟩ : ∃ a c, fv = .slice a f.length c := by obtain ⟨a, c, e, _⟩ := hF; exact ⟨a, c, e⟩
  obtain ⟨ta, tc, rfl⟩ : ∃ a c, tv = .slice a t.length c := by obtain ⟨a, c, e, _⟩ := hT; exact ⟨a, c, e⟩
  have HAW := Lib.hid (fun W (hb : RowKit.Below w.heap.size w W) => awake44_any W (hm.below hb hm.pos))
  have HFEW := Lib.hid (fun W (hb : RowKit.Below w.heap.size w W) => few44_any a c iv X fa ta f.length fc t.length tc W hX hXr (hR.on hb) hfl htl)
  have HINP := Lib.hid (fun W (hb : RowKit.Below w.heap.size w W) (h : FewR X 16 ∧ f.length ≤ 12 ∧ t.length ≤ 12) => InW.of_few hm hR hF hfy hT hty (iv := iv) h hb)
  clear hm hR hX hXr hF hfl hfy hT htl hty
  have HB0 := Lib.hid (IdxBx.start w (.slice a X.length c) iv)
  go_enter Tryz.func5, Tryz.ntmps5
  go_upto_region 1 with fail
  generalize w.alloc (.cells #[.slice a X.length c, iv] 25) = W0 at *
  go_wp2_with fail
  refine (HAW.out _ HB0.out.bel).mono ?_
  rintro e w1 ⟨rfl, hb1⟩
  have HB1 := Lib.hid (HB0.out.below hb1)
  clear hb1 HAW HB0
  have c0 := HB1.out.c0
  have c1 := HB1.out.c1
  go_wp2_with fail
  refine (HFEW.out _ HB1.out.bel).mono ?_
  rintro e w2 ⟨fb, rfl, hfew, hb2⟩
  have HB := Lib.hid (HB1.out.below hb2)
  clear hb2 HFEW HB1 c0 c1
  cases fb with
  | false =>
    clear hfew HINP
    go_wp2_with fail
    go_ret
    exact ⟨rfl, HB.out.bel⟩
  | true =>
  have HIN := Lib.hid (HINP.out w2 HB.out.bel (hfew rfl))
  clear hfew HINP
  have c0 := HB.out.c0
  have c1 := HB.out.c1
  have hco := HIN.out.graph
  unfold GraphR graphV at hco
  have HCO := Lib.hid hco
  clear hco
  go_wp2_with fail
  refine HCO.out.mono ?_
  rintro e w3 ⟨nv, ev, rfl, hnr, hne, hbx⟩
  replace HB := Lib.hid (HB.out.below hbx)
  replace HIN := Lib.hid (HIN.out.on hbx)
  have HCL : Hid (errW X f t = 0 → ∀ M, consV X (betV f t M) = 0 ↔ (wavE X f t).all (clE (movesP f t) M) = true) := Lib.hid (fun h M => closed_law h)
  have HEB : Hid (∀ k (hk : k < (wavE X f t).length), ∃ i j : Nat, i < (movesP f t).length ∧ j < (movesP f t).length ∧ (wavE X f t)[k] = ((i : Int), (j : Int))) := Lib.hid (fun k hk => edge_bd hk)
  have HBT : Hid (errW X f t = 0 → ∀ M : List ByteArray, (∀ p ∈ M, p ∈ movesP f t) → btwV X f t M = 0 ∧ btwS X f t M = betV f t M) := Lib.hid (fun h M hM => btwV_zero h hM)
  have HPL : Hid ((movesP f t).length ≤ 24 ∧ ∀ p ∈ movesP f t, p.size ≤ maxLen) := Lib.hid ⟨by have := movesP_len f t; have := HIN.out.fl; have := HIN.out.tl; omega, moves_size HIN.out.fy HIN.out.ty⟩
  have HEL : Hid (errW X f t = 0 → (wavE X f t).length ≤ 4096) := Lib.hid wavE_small
  have HBL : Hid (∀ M, (betV f t M).length ≤ 24 ∧ ∀ y ∈ betV f t M, SelBd y) := Lib.hid (fun M => ⟨by have := bet_len f t M; have := HIN.out.fl; have := HIN.out.tl; omega, bet_bd HIN.out.fy HIN.out.ty⟩)
  by_cases hE0 : errW X f t = 0
  case neg =>
    rw [if_neg hE0] at hnr hne
    obtain ⟨na, nc, rfl, _⟩ := rowOf_open hnr
    obtain ⟨ea, ec, rfl⟩ : ∃ a c, ev = .slice a 0 c := by obtain ⟨a, c, e, _⟩ := hne; exact ⟨a, c, e⟩
    clear hne hnr HCL HEB HBT HPL HEL HBL HIN HCO c0 c1 hbx
    obtain ⟨E, hE⟩ : ∃ E, errW X f t = E := ⟨_, rfl⟩
    rw [hE] at hE0
    simp only [hE]
    clear hE
    have hE1 : (E != 0) = true := by simpa using hE0
    simp only [List.length_nil]
    have hbq := belQ w3 (.cells #[.slice na 0 nc, .slice ea 0 ec] 32)
    replace HB := Lib.hid (HB.out.bel.trans (hbq.mono HB.out.bel.size))
    clear hbq
    go_wp2_with fail
    go_ret
    exact ⟨rfl, HB.out⟩
  rw [if_pos hE0] at hnr hne
  have hel := HEL.out hE0
  have HCL2 := Lib.hid (HCL.out hE0)
  have HBT2 := Lib.hid (HBT.out hE0)
  simp only [hE0]
  have HNR := Lib.hid hnr
  have HNE := Lib.hid hne
  clear HCL HBT HEL hE0 HCO hbx c0 c1
  generalize hP : movesP f t = P at *
  generalize hes : wavE X f t = es at *
  clear hP hes
  obtain ⟨na, nc, rfl, _⟩ := rowOf_open hnr
  obtain ⟨ea, ec, rfl⟩ : ∃ a c, ev = .slice a es.length c := by obtain ⟨a, c, e, _⟩ := hne; exact ⟨a, c, e⟩
  clear hnr hne
  have hpl := HPL.out.1
  have hbx := belQ w3 (.cells #[.slice na P.length nc, .slice ea es.length ec] 32)
  have HBG := Lib.hid (World.alloc_heap_new w3 (.cells #[.slice na P.length nc, .slice ea es.length ec] 32))
  replace HB := Lib.hid (HB.out.below hbx)
  replace HIN := Lib.hid (HIN.out.on hbx)
  replace HNR := Lib.hid (row_on HNR.out hbx)
  replace HNE := Lib.hid (edges_onW HNE.out hbx)
  go_upto_region 6 with fail
  generalize w3.alloc (.cells #[.slice na P.length nc, .slice ea es.length ec] 32) = w4 at *
  generalize w3.heap.size = bg at *
  clear hbx
  have HKG : Hid (∀ W, Below w4.heap.size w4 W → W.heap[bg]? = some (.cells #[.slice na P.length nc, .slice ea es.length ec] 32 (0, 0))) := Lib.hid (fun W hb => (hb.block _ (Array.getElem?_eq_some_iff.1 HBG.out).1).trans HBG.out)
  have g0 := blk0 HBG.out
  obtain ⟨i0, hi0, hz0, hz1, hz2⟩ := info_parts info_strW
  go_wp2_with fail
  clear g0
  go_loopw [11, 41] (fun ov p wr => Hid (∃ (k : Nat) (M : List ByteArray), k ≤ P.length ∧ p = .int .i64 (k : Int) ∧ wr.ownsRow w4.heap.size 9 1 ov M.length (strsC M) ∧ (∀ p ∈ M, p ∈ P) ∧ M.length ≤ k ∧ Below w4.heap.size w4 wr)) (fun _ p _ => P.length - (intOf p).toNat)
  case atStart => exact Lib.hid ⟨0, [], Nat.zero_le _, rfl, World.ownsRow_nil _ _ _ _, (fun p hp => by cases hp), Nat.le_refl _, Below.refl _ _⟩
  case round =>
    obtain ⟨k, M, hk, rfl, ho, hMP, hMl, hb⟩ := hrel.out
    have HO := Lib.hid ho
    have HBW := Lib.hid hb
    have HMP := Lib.hid hMP
    obtain ⟨oa, oc, rfl⟩ := own_any ho
    clear hrel ho hb hMP
    have hs8 := HBW.out.size
    by_cases hlt : k < P.length
    case pos =>
      have hk0 : (0 : Int) ≤ (k : Int) := Int.natCast_nonneg k
      have hkz : (k : Int) < (P.length : Int) := Int.ofNat_lt.2 hlt
      obtain ⟨b2, off, rfl, hlb, d0⟩ := row_atW HNR.out hlt
      have d1 := (HBW.out.cell (p := ⟨b2, off + k, none⟩) hlb).trans d0
      have HPM : Hid (P[k] ∈ P) := Lib.hid (List.getElem_mem hlt)
      generalize P[k] = p at *
      clear d0
      have HBQ := Lib.hid (belQ wr (.cells #[.string p] 9))
      have HN2 := Lib.hid (World.alloc_heap_new wr (.cells #[.string p] 9))
      have HO2 := Lib.hid (own_on HO.out HBQ.out)
      have HB2 := Lib.hid (HBW.out.trans (HBQ.out.mono HBW.out.size))
      have hs10 : w4.heap.size ≤ (wr.alloc (.cells #[.string p] 9)).heap.size := HB2.out.size
      obtain ⟨q, hq⟩ : ∃ q, (Go.bits BinOp.and IntKind.u16 (bits / 2 ^ (k % 16)) 1 == 1) = q := ⟨_, rfl⟩
      cases q with
      | true =>
        have HST : Hid (strsC (M ++ [p]) = strsC M ++ [.string p]) := Lib.hid (strsC_snoc M p)
        go_wp2_with (at_builtin; refine wpList_append_own _ rfl _ _ 29 rfl w4.heap.size 9 i0 _ 1 16 Tryz.underlying29 hi0 hz0 hz1 hz2 rfl (by decide) (.slice oa M.length oc) M.length _ (by rfl) HO2.out ⟨wr.heap.size, 0, none⟩ 1 1 [.string p] (by rfl) (by rfl) (World.news_of_block HN2.out) (by simp [Value.oneCell']) (by unfold maxLen; omega) (by omega) hs10 ?_; intro v' wB hown' hgrow _; have HOW := Lib.hid hown'; have HGR := Lib.hid hgrow; clear hown' hgrow; obtain ⟨g3, gc3, rfl⟩ := ownsRow_succ HOW.out)
        all_goals
          have HB5 := Lib.hid (HB2.out.grown HGR.out hs10 (fun b hb => (own_lo HO2.out b hb).1))
          refine ⟨Lib.hid ⟨k + 1, M ++ [p], hlt, by go_num, by rw [List.length_append, HST.out]; exact HOW.out, fun x hx => ?_, by simp; omega, HB5.out⟩, ?_⟩
          · rcases List.mem_append.1 hx with h | h
            · exact HMP.out x h
            · rw [List.mem_singleton.1 h]; exact HPM.out
          · simp [intOf]; omega
      | false =>
        clear HO2 HN2 HB2 hs10 HBQ
        go_wp2_with fail
        all_goals
          refine ⟨Lib.hid ⟨k + 1, M, hlt, by go_num, HO.out, HMP.out, by omega, HBW.out⟩, ?_⟩
          simp [intOf]; omega
    case neg =>
      replace HB := Lib.hid (HB.out.below HBW.out)
      replace HIN := Lib.hid (HIN.out.on HBW.out)
      replace HNR := Lib.hid (row_on HNR.out HBW.out)
      replace HNE := Lib.hid (edges_onW HNE.out HBW.out)
      have HRM := Lib.hid (own_row HO.out).2
      have HKM := Lib.hid (fun W (hb : Below wr.heap.size wr W) => HKG.out W (HBW.out.trans (hb.mono HBW.out.size)))
      have g1 := blk1 (HKG.out wr HBW.out)
      have hml : M.length ≤ 24 := by omega
      clear HO HBW HKG HBG hs8
      go_wp2_with fail
      clear g1 hMl hk hlt
      obtain ⟨wo, hwo⟩ : ∃ wo, wr = wo := ⟨_, rfl⟩
      replace hwo := hwo.symm
      subst hwo
      go_loopw [14, 60] (fun cv p wr => Hid (∃ (k : Nat), k ≤ es.length ∧ p = .int .i64 (k : Int) ∧ cv = .bool ((es.take k).all (clE P M)) ∧ Below wo.heap.size wo wr)) (fun _ p _ => es.length - (intOf p).toNat)
      case atStart => exact Lib.hid ⟨0, Nat.zero_le _, rfl, rfl, Below.refl _ _⟩
      case round =>
        obtain ⟨k, hk, rfl, hcv, hb⟩ := hrel.out
        obtain ⟨A, hA⟩ : ∃ A, (es.take k).all (clE P M) = A := ⟨_, rfl⟩
        rw [hA] at hcv
        subst hcv
        have HA := Lib.hid hA
        have HBW := Lib.hid hb
        clear hrel hb hA
        by_cases hlt : k < es.length
        case pos =>
          have hk0 : (0 : Int) ≤ (k : Int) := Int.natCast_nonneg k
          have hkz : (k : Int) < (es.length : Int) := Int.ofNat_lt.2 hlt
          obtain ⟨b3, off3, rfl, hlb, d0, d1⟩ := edges_atW HNE.out hlt
          obtain ⟨i, j, hi, hj, he⟩ := HEB.out k hlt
          have HAT := Lib.hid (all_takeW (p := clE P M) hlt)
          rw [he] at d0 d1 HAT
          rw [HA.out] at HAT
          have HCE : Hid (clE P M ((i : Int), (j : Int)) = !(decide (P[i] ∈ M) && !decide (P[j] ∈ M))) := Lib.hid (by
            unfold clE
            have ei : ((i : Int), (j : Int)).1.toNat = i := by simp
            have ej : ((i : Int), (j : Int)).2.toNat = j := by simp
            rw [ei, ej, List.getD_eq_getElem?_getD, List.getD_eq_getElem?_getD, List.getElem?_eq_getElem hi, List.getElem?_eq_getElem hj]
            rfl)
          have d2 := (HBW.out.cell (p := ⟨b3, off3 + k * 2, none⟩) hlb).trans d0
          have d3 := (HBW.out.cell (p := ⟨b3, off3 + k * 2 + 1, none⟩) hlb).trans d1
          obtain ⟨b2, off, rfl, hlp, p0⟩ := row_atW HNR.out hi
          obtain ⟨b2', off', hbb, _, p1⟩ := row_atW HNR.out hj
          injection hbb with hbb
          injection hbb with hb1 hb2
          subst hb1
          subst hb2
          have HBQ := Lib.hid (belQ wr (.cells #[intC (i : Int), intC (j : Int)] 43))
          have HBE := Lib.hid (World.alloc_heap_new wr (.cells #[intC (i : Int), intC (j : Int)] 43))
          have HB5 := Lib.hid (HBW.out.trans (HBQ.out.mono HBW.out.size))
          have HCI := Lib.hid (fun W (hb : Below wo.heap.size wo W) => contains_row _ M P[i] W (by omega) (row_on HRM.out hb))
          have HCJ := Lib.hid (fun W (hb : Below wo.heap.size wo W) => contains_row _ M P[j] W (by omega) (row_on HRM.out hb))
          have q0 := (HB5.out.cell (p := ⟨b2, off + i, none⟩) hlp).trans p0
          have q1 := (HB5.out.cell (p := ⟨b2, off + j, none⟩) hlp).trans p1
          generalize P[i] = pi at *
          generalize P[j] = pj at *
          generalize decide (pi ∈ M) = qa at *
          generalize decide (pj ∈ M) = qb at *
          clear d0 d1 p0 p1 he
          have hi0 : (0 : Int) ≤ (i : Int) := Int.natCast_nonneg i
          have hiz : (i : Int) < (P.length : Int) := Int.ofNat_lt.2 hi
          have hj0 : (0 : Int) ≤ (j : Int) := Int.natCast_nonneg j
          have hjz : (j : Int) < (P.length : Int) := Int.ofNat_lt.2 hj
          have x1 : decide ((i : Int) < 0) = false := decide_eq_false (by omega)
          have x2 : decide ((P.length : Int) ≤ (i : Int)) = false := decide_eq_false (by omega)
          have x3 : decide ((j : Int) < 0) = false := decide_eq_false (by omega)
          have x4 : decide ((P.length : Int) ≤ (j : Int)) = false := decide_eq_false (by omega)
          have x5 : decide (P.length ≤ i) = false := decide_eq_false (by omega)
          have x6 : decide (P.length ≤ j) = false := decide_eq_false (by omega)
          have g0 := blk0 (HKM.out _ HB5.out)
          have e0 := blk0 HBE.out
          have e1 := blk1 HBE.out
          go_upto_region 19 with fail
          generalize wr.alloc (.cells #[intC (i : Int), intC (j : Int)] 43) = w5 at *
          generalize wr.heap.size = be at *
          go_wp2_with fail
          refine (HCI.out w5 HB5.out).mono ?_
          rintro e w6 ⟨rfl, rfl⟩
          cases qa with
          | false =>
            have HAF : Hid ((es.take (k + 1)).all (clE P M) = A) := Lib.hid (by rw [HAT.out, HCE.out]; simp)
            go_wp2_with fail
            all_goals
              refine ⟨Lib.hid ⟨k + 1, hlt, by go_num, by rw [HAF.out], HB5.out⟩, ?_⟩
              simp [intOf]; omega
          | true =>
            go_wp2_with fail
            refine (HCJ.out _ HB5.out).mono ?_
            rintro e w7 ⟨rfl, rfl⟩
            cases qb with
            | true =>
              have HAF : Hid ((es.take (k + 1)).all (clE P M) = A) := Lib.hid (by rw [HAT.out, HCE.out]; simp)
              go_wp2_with fail
              all_goals
                refine ⟨Lib.hid ⟨k + 1, hlt, by go_num, by rw [HAF.out], HB5.out⟩, ?_⟩
                simp [intOf]; omega
            | false =>
              have HAF : Hid ((es.take (k + 1)).all (clE P M) = false) := Lib.hid (by rw [HAT.out, HCE.out]; simp)
              go_wp2_with fail
              all_goals
                refine ⟨Lib.hid ⟨k + 1, hlt, by go_num, by rw [HAF.out], HB5.out⟩, ?_⟩
                simp [intOf]; omega
        case neg =>
          have hkk : k = es.length := Nat.le_antisymm hk (Nat.le_of_not_lt hlt)
          have HAL : Hid (es.all (clE P M) = A) := Lib.hid (by rw [← HA.out, hkk, List.take_length])
          clear hkk HA
          have hfl := HBL.out M
          obtain ⟨hv, hs⟩ := HBT2.out M HMP.out
          have HCL3 := Lib.hid (HCL2.out M)
          replace HB := Lib.hid (HB.out.below HBW.out)
          replace HIN := Lib.hid (HIN.out.on HBW.out)
          skip -- HNR := Lib.hid (row_on HNR.out HBW.out)
          skip -- HNE := Lib.hid (edges_onW HNE.out HBW.out)
          have hco := HIN.out.btw (M := M) (by omega) (fun p hp => HPL.out.2 p (HMP.out p hp)) (row_on HRM.out HBW.out)
          unfold BtwR at hco
          rw [hv, hs] at hco
          generalize betV f t M = s at *
          rw [HAL.out] at HCL3
          have HCO := Lib.hid hco
          have HSB := Lib.hid hfl
          clear hco hv hs hfl HCL2 HBT2
          have c0 := HB.out.c0
          have c1 := HB.out.c1
          go_wp2_with fail
          refine HCO.out.mono ?_
          rintro e w5 ⟨sv, rfl, hsv, hbx⟩
          replace HB := Lib.hid (HB.out.below hbx)
          replace HIN := Lib.hid (HIN.out.on hbx)
          have hco := HIN.out.cons (s := s) (by have := HSB.out.1; omega) HSB.out.2 hsv
          obtain ⟨sa, sc, rfl⟩ : ∃ a c, sv = .slice a s.length c := by obtain ⟨a, c, e, _⟩ := hsv; exact ⟨a, c, e⟩
          obtain ⟨C, hC⟩ : ∃ C, consV X s = C := ⟨_, rfl⟩
          rw [hC] at hco HCL3
          replace HCO := Lib.hid hco
          clear hco hC hsv hbx c0 c1
          have c0 := HB.out.c0
          have c1 := HB.out.c1
          go_wp2_with fail
          refine HCO.out.mono ?_
          rintro e w6 ⟨rfl, hbx⟩
          replace HB := Lib.hid (HB.out.below hbx)
          have hq : ((C == 0) == A) = true := by
            have := HCL3.out
            cases A with
            | true => rw [this.2 rfl]; rfl
            | false =>
              have hc : ¬ C = 0 := fun h => by have := this.1 h; cases this
              have hb : (C == 0) = false := by simpa using hc
              rw [hb]
              rfl
          clear hbx c0 c1 HCL3 HAL
          go_wp2_with fail
          go_ret
          exact ⟨rfl, HB.out.bel⟩
end Go.Proofs.YtnjiibiafhnmgaaGreatDoor
