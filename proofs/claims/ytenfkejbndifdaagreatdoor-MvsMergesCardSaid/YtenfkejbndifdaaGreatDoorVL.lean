/- Contracts of the reference 34: Merge. -/
import Derived.Test.YtenfkejbndifdaaGreatDoorUY
import Derived.Test.YtenfkejbndifdaaGreatDoorVJ
import Derived.Test.YtenfkejbndifdaaGreatDoorVK
namespace Go.Proofs.YtenfkejbndifdaaGreatDoor
set_option linter.unusedVariables false
set_option linter.unusedSimpArgs false
open Go Go.RowKit Go.Maps Go.Sort

def MergeRr (ls : List (List ReqL)) (w : World) (e : Ending) (w' : World) : Prop := Below w.heap.size w w' ∧ ∃ v, e = .returned (.tuple #[v, .int .i64 (mergeV ls).2]) ∧ ReqsOf w'.heap.size v (mergeV ls).1 w'
theorem MergeRr.no {ls : List (List ReqL)} {w w' : World} {en : Int} (hb : Below w.heap.size w w') (h : mergeV ls = ([], en)) : MergeRr ls w (.returned (.tuple #[.slice none 0 0, .int .i64 en])) w' := ⟨hb, _, by rw [h], by rw [h]; exact ⟨_, _, rfl, fun i q hq => by simp at hq⟩⟩
theorem own_newsX {W : World} {B n g cap : Nat} {e : TypeId} {xs : List Value} (h : W.ownsRow B e 2 (.slice (some ⟨g, 0, none⟩) n cap) n xs) (hc : n ≤ cap) (k : Nat) :
    ∃ ad : Addr, (if cap = k then some (⟨g, 0, none⟩ : Addr) else some ⟨g, k * 2, none⟩) = some ad ∧ ∀ j u, (xs.drop (k * 2))[j]? = some u → W.cell? (ad.add j) = some u := by
  have e0 : ∀ o i, (⟨g, o, none⟩ : Addr).add i = ⟨g, o + i, none⟩ := fun o i => by unfold Addr.add; split <;> simp_all
  have hl := h.1
  by_cases hk : cap = k
  · refine ⟨_, if_pos hk, fun j u hu => ?_⟩
    rw [List.drop_eq_nil_of_le (by omega)] at hu
    simp at hu
  · refine ⟨_, if_neg hk, fun j u hu => ?_⟩
    rw [List.getElem?_drop] at hu
    have := h.cells rfl _ u hu
    rw [e0, Nat.zero_add] at this
    rw [e0]
    exact this
theorem own_oldsX {W : World} {B n g cap : Nat} {e : TypeId} {xs : List Value} (h : W.ownsRow B e 2 (.slice (some ⟨g, 0, none⟩) n cap) n xs) (m : Nat) :
    ∀ j u, (xs.take m)[j]? = some u → W.cell? ((⟨g, 0, none⟩ : Addr).add j) = some u := fun j u hu => by
  rw [List.getElem?_take] at hu
  split at hu
  · exact h.cells rfl j u hu
  · cases hu
theorem RowX.one {B : Nat} {v : Value} {l : List ReqL} {xs : List Value} {W : World} (h : RowX B v l xs W) : ∀ u ∈ xs, u.oneCell' = true := fun u hu => by
  have hx1 := h.own.1
  obtain ⟨j, hj, rfl⟩ := List.mem_iff_getElem.1 hu
  obtain ⟨r, h1, h2, ⟨_, _, rfl, _⟩, _⟩ := h.els (j / 2) l[j / 2] (by simp <;> omega)
  rcases Nat.mod_two_eq_zero_or_one j with hm | hm
  · have e2 : j / 2 * 2 = j := by omega
    rw [e2, List.getElem?_eq_getElem hj] at h1
    rw [Option.some.inj h1]; rfl
  · have e2 : j / 2 * 2 + 1 = j := by omega
    rw [e2, List.getElem?_eq_getElem hj] at h2
    rw [Option.some.inj h2]; rfl
theorem RowX.put {B g cap k : Nat} {L : List ReqL} {xs : List Value} {q : ReqL} {s : List (Int × Int)} {r : Value} {W : World} (h : RowX B (.slice (some ⟨g, 0, none⟩) L.length cap) L xs W) (hk : L[k]? = some q) (hs : SpansOf W.heap.size r s W) (hr : s ≠ [] → ∀ b, r.ownBlock = some b → some g ≠ some b) :
    RowX B (.slice (some ⟨g, 0, none⟩) L.length cap) (L.set k (q.1, s)) (xs.set (k * 2 + 1) r) (W.setCell ⟨g, k * 2 + 1, none⟩ r) ∧ W.grownBy (W.setCell ⟨g, k * 2 + 1, none⟩ r) (some g) := by
  obtain ⟨h1, g1⟩ := h.own.stored (k * 2 + 1) r
  refine ⟨⟨by rw [List.length_set]; exact h1, fun i p hp => ?_⟩, g1⟩
  have hxl := h.own.1
  have hkl := (List.getElem?_eq_some_iff.1 hk).1
  have hsz := g1.size
  rw [List.getElem?_set] at hp
  by_cases hi : k = i
  · subst hi
    rw [if_pos rfl, if_pos hkl] at hp
    cases hp
    obtain ⟨_, a, _⟩ := h.els k q hk
    refine ⟨r, ?_, ?_, (spans_kept hs g1 (Nat.le_refl _) (fun hne b hb => hr hne b hb)).mono hsz, fun hne b hb => hr hne b hb⟩
    · rw [List.getElem?_set, if_neg (by omega)]; exact a
    · rw [List.getElem?_set, if_pos rfl, if_pos (by omega)]
  · rw [if_neg hi] at hp
    obtain ⟨r', a, b, c, d⟩ := h.els i p hp
    refine ⟨r', ?_, ?_, (spans_kept c g1 (Nat.le_refl _) (fun hne b hb => d hne b hb)).mono hsz, d⟩
    · rw [List.getElem?_set, if_neg (by omega)]; exact a
    · rw [List.getElem?_set, if_neg (by omega)]; exact b
theorem RowX.ins {B C k : Nat} {v v' : Value} {L : List ReqL} {xs : List Value} {q : ReqL} {r : Value} {W W' : World} (h : RowX B v L xs W) (hk : k ≤ L.length) (hs : SpansOf W.heap.size r q.2 W) (keep : ∀ s r, SpansOf W.heap.size r s W → SpansOf W'.heap.size r s W')
    (hown : W'.ownsRow C 58 2 v' (k + (1 + (L.length - k))) (xs.take (k * 2) ++ ([.string q.1, r] ++ xs.drop (k * 2)))) (hC : W.heap.size ≤ C) (hB : B ≤ C) : RowX B v' (L.take k ++ q :: L.drop k) (xs.take (k * 2) ++ ([.string q.1, r] ++ xs.drop (k * 2))) W' := by
  have hxl := h.own.1
  have hll : (L.take k ++ q :: L.drop k).length = k + (1 + (L.length - k)) := by simp; omega
  have hap : ∀ (s : List (Int × Int)) r, SpansOf W.heap.size r s W → s ≠ [] → ∀ b, r.ownBlock = some b → v'.ownBlock ≠ some b := fun s r h1 hne b hb e => by
    have h2 := spans_lt h1 hne hb
    have h3 := (own_lo hown b e).1
    omega
  have htl : (xs.take (k * 2)).length = k * 2 := by rw [List.length_take]; omega
  refine ⟨by rw [hll]; exact Go.Joins.ownsRow_le hown hB, fun i p hp => ?_⟩
  rcases Nat.lt_trichotomy i k with hi | hi | hi
  · rw [List.getElem?_append_left (by rw [List.length_take]; omega), List.getElem?_take, if_pos hi] at hp
    obtain ⟨r', a, b, c, d⟩ := h.els i p hp
    refine ⟨r', ?_, ?_, keep _ _ c, hap _ _ c⟩
    · rw [List.getElem?_append_left (by omega), List.getElem?_take, if_pos (by omega)]; exact a
    · rw [List.getElem?_append_left (by omega), List.getElem?_take, if_pos (by omega)]; exact b
  · subst hi
    rw [List.getElem?_append_right (by rw [List.length_take]; omega), List.length_take, Nat.min_eq_left hk, Nat.sub_self] at hp
    cases hp
    refine ⟨r, ?_, ?_, keep _ _ hs, hap _ _ hs⟩
    · rw [List.getElem?_append_right (by omega), htl, Nat.sub_self]; rfl
    · rw [List.getElem?_append_right (by omega), htl, show i * 2 + 1 - i * 2 = 1 by omega]; rfl
  · obtain ⟨m, rfl⟩ : ∃ m, i = k + 1 + m := ⟨i - (k + 1), by omega⟩
    rw [List.getElem?_append_right (by rw [List.length_take]; omega), List.length_take, Nat.min_eq_left hk, show k + 1 + m - k = m + 1 by omega, List.getElem?_cons_succ, List.getElem?_drop] at hp
    obtain ⟨r', a, b, c, d⟩ := h.els _ p hp
    refine ⟨r', ?_, ?_, keep _ _ c, hap _ _ c⟩
    · rw [List.getElem?_append_right (by omega), htl, show (k + 1 + m) * 2 - k * 2 = m * 2 + 2 by omega]
      show (xs.drop (k * 2))[m * 2]? = _
      rw [List.getElem?_drop, show k * 2 + m * 2 = (k + m) * 2 by omega]; exact a
    · rw [List.getElem?_append_right (by omega), htl, show (k + 1 + m) * 2 + 1 - k * 2 = m * 2 + 1 + 2 by omega]
      show (xs.drop (k * 2))[m * 2 + 1]? = _
      rw [List.getElem?_drop, show k * 2 + (m * 2 + 1) = (k + m) * 2 + 1 by omega]; exact b
theorem drop_lenX {xs : List Value} {n k : Nat} (h : xs.length = n * 2) : (xs.drop (k * 2)).length = (n - k) * 2 := by rw [List.length_drop]; omega
theorem take_lenX {xs : List Value} {n k : Nat} (h : xs.length = n * 2) (hk : k ≤ n) : (xs.take (k * 2)).length = k * 2 := by rw [List.length_take]; omega
theorem news_oneX {xs : List Value} {p : ByteArray} {a : Option Addr} {n c m : Nat} (h : ∀ u ∈ xs, u.oneCell' = true) : ∀ u ∈ [.string p, .slice a n c] ++ xs.drop m, u.oneCell' = true := fun u hu => by
  rcases List.mem_append.1 hu with hu | hu
  · simp at hu
    rcases hu with rfl | rfl <;> rfl
  · exact h u (List.mem_of_mem_drop hu)
structure RmJ (w : World) (out : List ReqL) (v : Value) (W : World) : Prop where
  bel : Below w.heap.size w W
  inc : incrR out
  good : ∀ x ∈ out, GoodQ x
  row : ∃ xs, RowX w.heap.size v out xs W
  form : ∃ g c, v = .slice (some ⟨g, 0, none⟩) out.length c
theorem RmJ.below {w : World} {out : List ReqL} {v : Value} {W W' : World} (h : RmJ w out v W) (hb : Below W.heap.size W W') : RmJ w out v W' := by
  obtain ⟨xs, hx⟩ := h.row
  exact ⟨h.bel.trans (hb.mono h.bel.size), h.inc, h.good, ⟨xs, hx.below hb⟩, h.form⟩
theorem RmJ.start (w : World) : RmJ w [] (.slice (some ⟨w.heap.size, 0, none⟩) 0 0) (w.alloc (.cells #[] 58)) :=
  ⟨belQ w _, List.Pairwise.nil, fun x hx => (by cases hx), ⟨[], World.ownsRow_made w #[] 0 (Nat.le_refl _) (by decide) rfl, fun i q hq => by simp at hq⟩, _, _, rfl⟩
set_option maxRecDepth 100000 in
set_option maxHeartbeats 16000000 in
theorem rMerge_any (lv : Value) (ls : List (List ReqL)) (w : World) (hll : ls.length ≤ 1000000) (hlb : ∀ l ∈ ls, l.length ≤ 1000000 ∧ ReqsBd l) (hL : ListsOf w.heap.size lv ls w) :
    Calls Tryz.prog 29 #[lv] w (MergeRr ls w) := by
  have HL := Lib.hid hL
  have HLB := Lib.hid hlb
  obtain ⟨la, lc, rfl⟩ : ∃ la lc, lv = .slice la ls.length lc := by obtain ⟨a, c, e, _⟩ := hL; exact ⟨a, c, e⟩
  clear hL hlb
  have HJ0 := Lib.hid (RmJ.start w)
  obtain ⟨i0, hi0', hz0, hz1, hz2⟩ := info_parts info_reqs
  go_enter Tryz.func29, Tryz.ntmps29
  go_upto_region 2 with fail
  generalize w.alloc (.cells #[] 58) = W0 at *
  go_wp2_with fail
  obtain ⟨v0, hv0⟩ : ∃ v0, Value.slice (some ⟨w.heap.size, 0, none⟩) 0 0 = v0 := ⟨_, rfl⟩
  rw [hv0] at HJ0
  have HV0 := Lib.hid hv0
  simp only [hv0]
  clear hv0
  go_loopw [5] (fun p wr => Hid (∃ i, i ≤ ls.length ∧ p = .int .i64 ((i : Nat) : Int) ∧ RmJ w [] v0 wr ∧ ∀ l ∈ ls.take i, UpR l)) (fun p _ => ls.length - (intOf p).toNat)
  case atStart => exact Lib.hid ⟨0, Nat.zero_le _, rfl, HJ0.out, fun l hl => by simp at hl⟩
  case round =>
    obtain ⟨i, hi, rfl, hj, hu⟩ := hrel.out
    have HJ := Lib.hid hj
    have HU := Lib.hid hu
    clear hrel hj hu HJ0
    by_cases hlt : i < ls.length
    case pos =>
      obtain ⟨b, off, r, e, hbl, hc, hRm⟩ : ∃ b off r, la = some ⟨b, off, none⟩ ∧ b < w.heap.size ∧ w.cell? ⟨b, off + i, none⟩ = some r ∧ ReqsOf w.heap.size r ls[i] w := by
        obtain ⟨a, c, e, h⟩ := HL.out
        injection e with e1 e2 e3
        subst e1
        exact h i ls[i] (List.getElem?_eq_getElem hlt)
      subst e
      have HMM : Hid (ls[i] ∈ ls) := Lib.hid (List.getElem_mem hlt)
      have HUX : Hid (UpR ls[i] → ∀ l ∈ ls.take (i + 1), UpR l) := Lib.hid (fun h l hl => by
        rw [List.take_succ_eq_append_getElem hlt] at hl
        rcases List.mem_append.1 hl with h1 | h1
        · exact HU.out l h1
        · rw [List.mem_singleton.1 h1]; exact h)
      obtain ⟨hml, hmb⟩ := HLB.out _ (List.getElem_mem hlt)
      have HMB := Lib.hid hmb
      have hi0 : (0 : Int) ≤ (i : Int) := Int.natCast_nonneg i
      have hi1 : (i : Int) < (ls.length : Int) := Int.ofNat_lt.2 hlt
      generalize ls[i] = m at *
      have hcr := (HJ.out.bel.cell (p := ⟨b, off + i, none⟩) hbl).trans hc
      have HRm := Lib.hid (hRm.on HJ.out.bel)
      obtain ⟨ra, rc, rfl⟩ : ∃ ra rc, r = .slice ra m.length rc := by obtain ⟨a, c, e, _⟩ := hRm; exact ⟨a, c, e⟩
      have HCR := Lib.hid (rCheckReqs_any (.slice ra m.length rc) m wr (by omega) (fun q hq => ⟨(hmb q hq).1, (hmb q hq).2⟩) HRm.out)
      have HUP := Lib.hid (fun W (hb : Below wr.heap.size wr W) => rupward34_any (.slice ra m.length rc) m W (by omega) HMB.out (HRm.out.on hb))
      obtain ⟨E, hE⟩ : ∃ E, checkReqs m = E := ⟨_, rfl⟩
      rw [hE] at HCR
      have HE := Lib.hid hE
      obtain ⟨ub, hub⟩ : ∃ ub, upAll m = ub := ⟨_, rfl⟩
      rw [hub] at HUP
      have HUB := Lib.hid hub
      have HC := Lib.hid hc
      clear hE hub hmb hRm hc
      by_cases h1 : E = 0
      case neg =>
        have h1b : (E != 0) = true := by simpa using h1
        have HNO := Lib.hid (mergeV_bad HMM.out (fun h => h1 (HE.out.symm.trans h.1)))
        clear h1
        go_wp2_with fail
        refine HCR.out.mono ?_
        rintro e w1 ⟨rfl, hb1⟩
        have HJ1 := Lib.hid (HJ.out.below hb1)
        clear hb1 HCR
        go_wp2_with fail
        go_ret2
        exact MergeRr.no HJ1.out.bel HNO.out
      subst h1
      go_wp2_with fail
      refine HCR.out.mono ?_
      rintro e w1 ⟨rfl, hb1⟩
      have HJ1 := Lib.hid (HJ.out.below hb1)
      have HB1 := Lib.hid hb1
      clear hb1 HCR hcr
      have hcr := (HJ1.out.bel.cell (p := ⟨b, off + i, none⟩) hbl).trans HC.out
      go_wp2_with fail
      refine (HUP.out w1 HB1.out).mono ?_
      rintro e w2 ⟨rfl, hb2⟩
      have HJ2 := Lib.hid (HJ1.out.below hb2)
      clear hb2 HUP HRm HB1 HJ1 hcr
      cases ub with
      | false =>
        have HNO := Lib.hid (mergeV_bad HMM.out (fun h => by have := upAll_iff.2 h.2; rw [HUB.out] at this; cases this))
        go_wp2_with fail
        go_ret2
        exact MergeRr.no HJ2.out.bel HNO.out
      | true =>
        have HUM := Lib.hid (HUX.out (upR_of HE.out rfl HUB.out))
        clear HE HUB HUX
        go_wp2_with fail
        all_goals
          refine ⟨Lib.hid ⟨i + 1, hlt, by go_num, HJ2.out, HUM.out⟩, ?_⟩
          simp [intOf]; omega
    case neg =>
      have hii : i = ls.length := Nat.le_antisymm hi (Nat.le_of_not_lt hlt)
      subst hii
      have HUA : Hid (∀ l ∈ ls, UpR l) := Lib.hid (by have := HU.out; rwa [List.take_length] at this)
      have HBIG := Lib.hid (mergeV_big HUA.out)
      have HOKV := Lib.hid (mergeV_ok HUA.out)
      obtain ⟨wo, rfl⟩ : ∃ wo : World, wo = wr := ⟨_, rfl⟩
      have HJS : Hid (RmJ w (mrgK ls 0 [] 0) v0 wo) := Lib.hid (by rw [mrgK_zero]; exact HJ.out)
      clear HU HJ
      go_wp2_with fail
      go_loopw [4, 6] (fun ov p wr => Hid (∃ i, i ≤ ls.length ∧ p = .int .i64 ((i : Nat) : Int) ∧ RmJ w (mrgK ls i [] 0) ov wr ∧ (mrgK ls i [] 0).length ≤ 16 * i)) (fun _ p _ => ls.length - (intOf p).toNat)
      case atStart => exact Lib.hid ⟨0, Nat.zero_le _, rfl, HJS.out, by rw [mrgK_zero]; exact Nat.le_refl _⟩
      case round =>
        obtain ⟨i, hi, rfl, hj, hn⟩ := hrel.out
        have HJ := Lib.hid hj
        have HN := Lib.hid hn
        clear hrel hj hn HJS
        by_cases hlt : i < ls.length
        case neg =>
          have hii : i = ls.length := Nat.le_antisymm hi (Nat.le_of_not_lt hlt)
          subst hii
          have HJL := HJ
          rw [mrgK_all] at HJL
          obtain ⟨xs, hxs⟩ := HJL.out.row
          have HRQ := Lib.hid hxs.now
          obtain ⟨g, c, hv⟩ := HJL.out.form
          have HWB := Lib.hid HJL.out.bel
          clear HJ HJL HN hxs
          generalize hout : mergeL ls = out at *
          clear hout
          subst hv
          by_cases h16 : 16 < out.length
          case pos =>
            have HNO := Lib.hid (HBIG.out h16)
            have hd : decide ((16 : Int) < (out.length : Int)) = true := decide_eq_true (by omega)
            have hd2 : (16 : Int) < (out.length : Int) := by omega
            go_wp2_with fail
            go_ret2
            exact MergeRr.no HWB.out HNO.out
          case neg =>
            have HOK := Lib.hid (HOKV.out h16)
            have hd : decide ((16 : Int) < (out.length : Int)) = false := decide_eq_false (by omega)
            have hd2 : ¬ (16 : Int) < (out.length : Int) := by omega
            go_wp2_with fail
            go_ret2
            exact ⟨HWB.out, _, by rw [HOK.out]; rfl, by rw [HOK.out]; exact HRQ.out⟩
        case pos =>
          obtain ⟨b, off, r, e, hbl, hc, hRm⟩ : ∃ b off r, la = some ⟨b, off, none⟩ ∧ b < w.heap.size ∧ w.cell? ⟨b, off + i, none⟩ = some r ∧ ReqsOf w.heap.size r ls[i] w := by
            obtain ⟨a, c, e, h⟩ := HL.out
            injection e with e1 e2 e3
            subst e1
            exact h i ls[i] (List.getElem?_eq_getElem hlt)
          subst e
          have HNX : Hid (mrgK ls i ls[i] ls[i].length = mrgK ls (i + 1) [] 0) := Lib.hid (mrgK_next hlt rfl)
          have HUM := Lib.hid (HUA.out _ (List.getElem_mem hlt))
          have hm16 : ls[i].length ≤ 16 := (reqs_ok HUM.out.1).len
          have HJS : Hid (RmJ w (mrgK ls i ls[i] 0) u4 wr ∧ (mrgK ls i ls[i] 0).length ≤ 16 * i + 0) := Lib.hid (by rw [mrgK_start ls i ls[i] []]; exact ⟨HJ.out, HN.out⟩)
          have hi0 : (0 : Int) ≤ (i : Int) := Int.natCast_nonneg i
          have hi1 : (i : Int) < (ls.length : Int) := Int.ofNat_lt.2 hlt
          generalize ls[i] = m at *
          have HRW := Lib.hid hRm
          obtain ⟨ra, rc, rfl⟩ : ∃ ra rc, r = .slice ra m.length rc := by obtain ⟨a, c, e, _⟩ := hRm; exact ⟨a, c, e⟩
          have HC := Lib.hid hc
          clear hRm hc HJ HN
          go_wp2_with fail
          go_loopw [4, 7] (fun ov q wr => Hid (∃ j, j ≤ m.length ∧ q = .int .i64 ((j : Nat) : Int) ∧ RmJ w (mrgK ls i m j) ov wr ∧ (mrgK ls i m j).length ≤ 16 * i + j)) (fun _ q _ => m.length - (intOf q).toNat)
          case atStart => exact Lib.hid ⟨0, Nat.zero_le _, rfl, HJS.out.1, HJS.out.2⟩
          case round =>
            obtain ⟨j, hj, rfl, hjj, hn⟩ := hrel.out
            have HJ := Lib.hid hjj
            have HN := Lib.hid hn
            clear hrel hjj hn HJS
            have hcr := (HJ.out.bel.cell (p := ⟨b, off + i, none⟩) hbl).trans HC.out
            by_cases hlj : j < m.length
            case neg =>
              have hjm : j = m.length := Nat.le_antisymm hj (Nat.le_of_not_lt hlj)
              subst hjm
              have HJN := HJ
              have HNN := HN
              rw [HNX.out] at HJN HNN
              have hn3 : (mrgK ls (i + 1) [] 0).length ≤ 16 * (i + 1) := by have := HNN.out; omega
              clear HN HNN HJ
              go_wp2_with fail
              all_goals
                refine ⟨Lib.hid ⟨i + 1, hlt, by go_num, HJN.out, hn3⟩, ?_⟩
                simp [intOf]; omega
            case pos =>
              obtain ⟨qb, qo, rq, e1, hqb, q0, q1, hsp⟩ : ∃ qb qo rq, ra = some ⟨qb, qo, none⟩ ∧ qb < w.heap.size ∧ w.cell? ⟨qb, qo + j * 2, none⟩ = some (.string m[j].1) ∧ w.cell? ⟨qb, qo + j * 2 + 1, none⟩ = some rq ∧ SpansOf w.heap.size rq m[j].2 w := by
                obtain ⟨a, c, e, h⟩ := HRW.out
                injection e with e1 e2 e3
                subst e1
                exact h j _ (List.getElem?_eq_getElem hlj)
              subst e1
              have HQG := Lib.hid (HUM.out.q (List.getElem_mem hlj)).good
              have HSC := Lib.hid (mrgK_succ (ls := ls) (i := i) hlj)
              have hNL : (mrgK ls i m j).length ≤ 16 * i + j := HN.out
              have hLb : (mrgK ls i m j).length ≤ 100000000 := by omega
              have hj0 : (0 : Int) ≤ (j : Int) := Int.natCast_nonneg j
              have hj1 : (j : Int) < (m.length : Int) := Int.ofNat_lt.2 hlj
              generalize m[j] = q at *
              have HN2 : Hid ((mrgK ls i m (j + 1)).length ≤ 16 * i + (j + 1)) := Lib.hid (by rw [HSC.out]; have := @insM_size (mrgK ls i m j) q; omega)
              have q0 := (HJ.out.bel.cell (p := ⟨qb, qo + j * 2, none⟩) hqb).trans q0
              have q1 := (HJ.out.bel.cell (p := ⟨qb, qo + j * 2 + 1, none⟩) hqb).trans q1
              have HSP := Lib.hid (hsp.on HJ.out.bel)
              obtain ⟨sa, sc, rfl⟩ : ∃ a c, rq = .slice a q.2.length c := by obtain ⟨a, c, e, _⟩ := hsp; exact ⟨a, c, e⟩
              obtain ⟨xs, hxs⟩ := HJ.out.row
              have HRX := Lib.hid hxs
              obtain ⟨g, c, hv⟩ := HJ.out.form
              have hov := hv
              have HIN := Lib.hid HJ.out.inc
              have HGD := Lib.hid HJ.out.good
              have HBL := Lib.hid HJ.out.bel
              clear HN hNL hsp hxs HJ
              generalize mrgK ls i m j = L at *
              subst hov
              have hCP : L.length ≤ c := (own_cap HRX.out.own).le
              go_upto_region 14 with fail
              obtain ⟨W, hW⟩ : ∃ W, wr.alloc (.cells #[.string q.1, .slice sa q.2.length sc] 58) = W := ⟨_, rfl⟩
              have HRW2 : Hid (RowX w.heap.size (.slice (some ⟨g, 0, none⟩) L.length c) L xs W) := Lib.hid (by rw [← hW]; exact HRX.out.below (belQ _ _))
              have HSW : Hid (SpansOf W.heap.size (.slice sa q.2.length sc) q.2 W) := Lib.hid (by rw [← hW]; exact HSP.out.on (belQ _ _))
              have HBW : Hid (Below w.heap.size w W) := Lib.hid (by rw [← hW]; exact HBL.out.trans ((belQ _ _).mono HBL.out.size))
              have HBX : Hid (W.heap[wr.heap.size]? = some (.cells #[.string q.1, .slice sa q.2.length sc] 58 (0, 0))) := Lib.hid (by rw [← hW]; exact World.alloc_heap_new _ _)
              have HNE : Hid (g ≠ wr.heap.size) := Lib.hid (fun e => by
                have := (HRX.out.own.lt g rfl).2
                omega)
              rw [hW]
              obtain ⟨gq, hgq⟩ : ∃ gq, wr.heap.size = gq := ⟨_, rfl⟩
              rw [hgq] at HBX HNE
              simp only [hgq]
              have b0 : W.cell? ⟨gq, 0, none⟩ = some (.string q.1) := cell_of_row _ _ 0 _ _ _ HBX.out
              have b1 : W.cell? ⟨gq, 1, none⟩ = some (.slice sa q.2.length sc) := cell_of_row _ _ 1 _ _ _ HBX.out
              clear q0 q1 hcr hW hgq HRX HSP HBL
              go_wp2_with fail
              go_loopw [9] (fun kv wq => Hid (∃ k : Nat, k ≤ L.length ∧ kv = .int .i64 k ∧ (∀ r ∈ L.take k, ltB r.1 q.1 = true) ∧ ∃ n, wq = W.drewN n)) (fun kv _ => L.length - (intOf kv).toNat)
              case atStart => exact Lib.hid ⟨0, Nat.zero_le _, rfl, fun r hr => (by simp at hr), 0, rfl⟩
              case round =>
                obtain ⟨k, hk, rfl, hlow, n, hn⟩ := hrel.out
                have HLOW := Lib.hid hlow
                clear hrel hlow
                subst hn
                have hk0 : (0 : Int) ≤ (k : Int) := Int.natCast_nonneg k
                have hkc : k ≤ c := Nat.le_trans hk hCP
                have hkc2 : (k : Int) ≤ (c : Int) := Int.ofNat_le.2 hkc
                have hkl2 : (k : Int) ≤ (L.length : Int) := Int.ofNat_le.2 hk
                by_cases hkl : k < L.length
                case neg =>
                  have HINS : Hid (insM L q = L.take k ++ q :: L.drop k) := Lib.hid (insM_miss hk HLOW.out (fun h => absurd h hkl))
                  have hk1 : ¬ (k : Int) < (L.length : Int) := fun h => hkl (Int.ofNat_lt.1 h)
                  have hk2 : decide ((k : Int) < (L.length : Int)) = false := decide_eq_false hk1
                  clear HLOW
                  go_wp2_with fail
                  go_quiet (fail)
                  go_wp2_with fail
                  go_quiet (fail)
                  go_wp2_with fail
                  try simp only [World.drewN_drewN]
                  generalize hV : W.drewN _ = V
                  have HRV : Hid (RowX w.heap.size (.slice (some ⟨g, 0, none⟩) L.length c) L xs V) := Lib.hid (by rw [← hV]; exact HRW2.out.below (below_drewN (Below.refl _ _) _))
                  have HSV2 : Hid (SpansOf V.heap.size (.slice sa q.2.length sc) q.2 V) := Lib.hid (by rw [← hV]; exact HSW.out.on (below_drewN (Below.refl _ _) _))
                  have HBV : Hid (Below w.heap.size w V) := Lib.hid (by rw [← hV]; exact below_drewN HBW.out _)
                  have v0 : V.cell? ⟨gq, 0, none⟩ = some (.string q.1) := by rw [← hV]; exact b0
                  have v1 : V.cell? ⟨gq, 1, none⟩ = some (.slice sa q.2.length sc) := by rw [← hV]; exact b1
                  clear b0 b1 hV HRW2 HSW HBW HBX
                  have HS0 : Hid (HeldC ⟨gq, 0, none⟩ ⟨gq, 1, none⟩ (.string q.1) (.slice sa q.2.length sc) V.drew) := Lib.hid ⟨v0, v1⟩
                  have HS1 : Hid (HeldC ⟨gq, 0, none⟩ ⟨gq, 1, none⟩ (.string q.1) (.slice sa q.2.length sc) (V.drew.alloc (.cells #[.string q.1, .slice sa q.2.length sc] 58))) := Lib.hid ⟨cellA _ v0, cellA _ v1⟩
                  have hv1 := HBV.out.size
                  have hbl : gq < V.heap.size := World.block_lt_of_cell? _ _ v0
                  have hgl := (HRV.out.own.lt g rfl).2
                  have HXO : Hid (((V.alloc (.cells #[.string q.1, .slice sa q.2.length sc] 58)).drew).ownsRow V.heap.size 58 2 (.slice (some ⟨V.heap.size, 0, none⟩) 1 1) 1 [.string q.1, .slice sa q.2.length sc]) := Lib.hid (World.ownsRow_lit (base := V.heap.size) V #[.string q.1, .slice sa q.2.length sc] 1 (Nat.le_refl _) (by decide) rfl).drew
                  have HRA := Lib.hid (((HRV.out.own.alloc (.cells #[.string q.1, .slice sa q.2.length sc] 58)).drew))
                  obtain ⟨ad, had, hadc⟩ := own_newsX HRA.out hCP k
                  have HAD := Lib.hid hadc
                  have HXL := Lib.hid HRV.out.own.1
                  have HXN := Lib.hid HRV.out.one
                  have HSG : Hid (∀ w5, ((V.alloc (.cells #[.string q.1, .slice sa q.2.length sc] 58)).drew).grownBy w5 (Value.slice (some ⟨V.heap.size, 0, none⟩) 1 1).ownBlock → HeldC ⟨gq, 0, none⟩ ⟨gq, 1, none⟩ (.string q.1) (.slice sa q.2.length sc) w5) := Lib.hid fun w5 hg => ⟨hg.cell (cellA _ v0) (by simp [Value.ownBlock]; omega), hg.cell (cellA _ v1) (by simp [Value.ownBlock]; omega)⟩
                  have HLG : Hid (∀ w5, ((V.alloc (.cells #[.string q.1, .slice sa q.2.length sc] 58)).drew).grownBy w5 (Value.slice (some ⟨V.heap.size, 0, none⟩) 1 1).ownBlock → w5.ownsRow w.heap.size 58 2 (.slice (some ⟨g, 0, none⟩) L.length c) L.length xs) := Lib.hid fun w5 hg => HRA.out.kept hg (by simp [Value.ownBlock]; omega)
                  have HBG : Hid (∀ w5, ((V.alloc (.cells #[.string q.1, .slice sa q.2.length sc] 58)).drew).grownBy w5 (Value.slice (some ⟨V.heap.size, 0, none⟩) 1 1).ownBlock → Below w.heap.size w w5) := Lib.hid fun w5 hg => ((HBV.out.alloc hv1 _).drew).grown hg (by simp; omega) (fun j hj => by simp [Value.ownBlock] at hj; omega)
                  have HKG : Hid (∀ w5, ((V.alloc (.cells #[.string q.1, .slice sa q.2.length sc] 58)).drew).grownBy w5 (Value.slice (some ⟨V.heap.size, 0, none⟩) 1 1).ownBlock → V.heap.size ≤ w5.heap.size ∧ ∀ s r, SpansOf V.heap.size r s V → SpansOf V.heap.size r s w5) := Lib.hid fun w5 hg => ⟨Nat.le_trans (by simp) hg.size, fun s r h => spans_kept ((h.below (belQ V (.cells #[.string q.1, .slice sa q.2.length sc] 58)) (Nat.le_refl _)).below (Below.refl V.heap.size _).drew (Nat.le_refl _)) hg (show V.heap.size ≤ (V.alloc (.cells #[.string q.1, .slice sa q.2.length sc] 58)).heap.size by simp) (fun hne b hb e => by
                    have h1 := spans_lt h hne hb
                    simp [Value.ownBlock] at e
                    omega)⟩
                  clear hadc v0 v1
                  refine wp_region_noPanic ?_
                  refine region_plain_split (S := HeldC ⟨gq, 0, none⟩ ⟨gq, 1, none⟩ (.string q.1) (.slice sa q.2.length sc)) 11 (by kernel_rfl) (by kernel_rfl) ?_
                  simp only [List.take_succ_cons, List.take_zero]
                  have hS0 := HS0.out
                  (refine zl3 0 ?_ rfl ?_ ?_; rotate_left; (· (rintro w ⟨c0, c1⟩; go_simp; try with_reducible rfl)); (try simp only [zl1]))
                  (refine zl3 1 ?_ rfl ?_ ?_; rotate_left; (· (rintro w ⟨c0, c1⟩; go_simp; try with_reducible rfl)); (try simp only [zl1]))
                  (refine zl3 2 ?_ rfl ?_ ?_; rotate_left; (· (rintro w ⟨c0, c1⟩; go_simp; try with_reducible rfl)); (try simp only [zl1]))
                  (refine zl3 3 ?_ rfl ?_ ?_; rotate_left; (· (rintro w ⟨c0, c1⟩; go_simp; try with_reducible rfl)); (try simp only [zl1]))
                  (refine zl3 4 ?_ rfl ?_ ?_; rotate_left; (· (rintro w ⟨c0, c1⟩; go_simp; try with_reducible rfl)); (try simp only [zl1]))
                  (refine zl3 6 ?_ rfl ?_ ?_; rotate_left; (· (rintro w ⟨c0, c1⟩; go_simp; try with_reducible rfl)); (try simp only [zl1]))
                  (refine zl3 7 ?_ rfl ?_ ?_; rotate_left; (· (rintro w ⟨c0, c1⟩; go_simp; try with_reducible rfl)); (try simp only [zl1]))
                  (refine zl3 8 ?_ rfl ?_ ?_; rotate_left; (· (rintro w ⟨c0, c1⟩; go_simp; try with_reducible rfl)); (try simp only [zl1]))
                  refine wpAnyH_ready (rs := [5]) (by kernel_rfl) (by simp) (AllReadyH.cons rfl (fun K hK => ?_) AllReadyH.nil)
                  go_simp
                  refine hK.out _ _ HS1.out (fun _ => ?_)
                  clear hK K hS0
                  (try simp only [zl1])
                  refine wpAnyH_ready (rs := [9]) (by kernel_rfl) (by simp) (AllReadyH.cons rfl (fun K hK => ?_) AllReadyH.nil)
                  refine step_append_own (by rfl) _ _ _ (by rfl) V.heap.size 58 i0 _ 2 40 Tryz.underlying26 hi0' hz0 hz1 hz2 rfl (by decide) _ 1 [.string q.1, .slice sa q.2.length sc] (by rfl) HXO.out ad (L.length - k) (c - k) (xs.drop (k * 2)) (by rfl) (drop_lenX HXL.out) HAD.out (fun u hu => HXN.out u (List.mem_of_mem_drop hu)) (by unfold maxLen; omega) (by omega) (by simp) ?_
                  intro v5 w5 hown5 hgrow5
                  obtain ⟨g5, c5, rfl⟩ := Go.Joins.ownsRow_form hown5 (by omega)
                  have hS5 : HeldC ⟨gq, 0, none⟩ ⟨gq, 1, none⟩ (.string q.1) (.slice sa q.2.length sc) w5 := HSG.out w5 hgrow5
                  have HS5 := Lib.hid hS5
                  have HO5 := Lib.hid (HLG.out w5 hgrow5)
                  have HB5 := Lib.hid (HBG.out w5 hgrow5)
                  have HK5 := Lib.hid (HKG.out w5 hgrow5)
                  have HN5 := Lib.hid hown5
                  refine hK.out _ _ hS5 (fun _ => ?_)
                  clear hK K hS5 hown5 hgrow5
                  (try simp only [zl1])
                  refine wpAnyH_ready (rs := [10]) (by kernel_rfl) (by simp) (AllReadyH.cons rfl (fun K hK => ?_) AllReadyH.nil)
                  refine step_append_grows (by rfl) _ _ _ (by rfl) 58 i0 _ 2 40 Tryz.underlying26 hi0' hz0 hz1 hz2 rfl (by decide) (some ⟨g, 0, none⟩) k k (xs.take (k * 2)) (by rfl) (fun h => by cases h) (take_lenX HXL.out hk) (fun b hb => by cases hb; exact own_oldsX HO5.out _) ⟨g5, 0, none⟩ (1 + (L.length - k)) c5 _ (by rfl) HN5.out.1 (HN5.out.cells rfl) (news_oneX HXN.out) (by omega) (by unfold maxLen; omega) (by omega) ?_
                  intro v6 w6 hown6 hgrow6
                  obtain ⟨g6, c6, rfl⟩ := Go.Joins.ownsRow_form hown6 (by omega)
                  have HB6 : Hid (Below w.heap.size w w6) := Lib.hid (HB5.out.grown hgrow6 HB5.out.size (fun j hj => by cases hj))
                  have HX6 : Hid (RowX w.heap.size (.slice (some ⟨g6, 0, none⟩) (k + (1 + (L.length - k))) c6) (L.take k ++ q :: L.drop k) (xs.take (k * 2) ++ ([.string q.1, .slice sa q.2.length sc] ++ xs.drop (k * 2))) w6) := Lib.hid (HRV.out.ins hk HSV2.out (fun s r h => (spans_kept (HK5.out.2 s r h) hgrow6 HK5.out.1 (fun _ b _ e => by cases e)).mono (Nat.le_trans HK5.out.1 hgrow6.size)) hown6 HK5.out.1 HB5.out.size)
                  have hS6 : HeldC ⟨gq, 0, none⟩ ⟨gq, 1, none⟩ (.string q.1) (.slice sa q.2.length sc) w6 := ⟨hgrow6.cell (HS5.out).1 (by simp), hgrow6.cell (HS5.out).2 (by simp)⟩
                  refine hK.out _ _ hS6 (fun _ => ?_)
                  clear hK K hS6 hown6 hgrow6
                  (try simp only [zl1])
                  refine wpAnyH_done (by kernel_rfl) ?_ _
                  show wpList _ _ _ _ _ _
                  simp only [List.drop_succ_cons, List.drop_zero]
                  have HLN : Hid ((L.take k ++ q :: L.drop k).length = k + (1 + (L.length - k))) := Lib.hid (by simp; omega)
                  have HJN : Hid (RmJ w (mrgK ls i m (j + 1)) (.slice (some ⟨g6, 0, none⟩) (k + (1 + (L.length - k))) c6) w6) := Lib.hid (by
                    rw [HSC.out]
                    refine ⟨HB6.out, insM_incr q HIN.out, insM_good HGD.out HQG.out, ?_, ?_⟩
                    · rw [HINS.out]; exact ⟨_, HX6.out⟩
                    · rw [HINS.out, HLN.out]; exact ⟨_, _, rfl⟩)
                  go_wp2_with fail
                  refine NoPanic.normal ?_
                  all_goals go_wp2_with fail
                  all_goals
                    refine ⟨Lib.hid ⟨j + 1, hlj, by go_num, HJN.out, HN2.out⟩, ?_⟩
                    simp [intOf]; omega
                case pos =>
                  have hk1 : (k : Int) < (L.length : Int) := Int.ofNat_lt.2 hkl
                  have hk2 : decide ((k : Int) < (L.length : Int)) = true := decide_eq_true hk1
                  obtain ⟨sv, x0, x1, hsv, hap⟩ := HRW2.out.els k L[k] (List.getElem?_eq_getElem hkl)
                  have e0 : ∀ o, (⟨g, 0, none⟩ : Addr).add o = ⟨g, o, none⟩ := fun o => by unfold Addr.add; split <;> simp_all
                  have y0 := HRW2.out.own.cells rfl _ _ x0
                  have y1 := HRW2.out.own.cells rfl _ _ x1
                  rw [e0] at y0 y1
                  have HTK : Hid (L.take (k + 1) = L.take k ++ [L[k]]) := Lib.hid (List.take_succ_eq_append_getElem hkl)
                  have HHIT : Hid (L[k].1 = q.1 → insM L q = L.set k (L[k].1, interS [L[k].2, q.2])) := Lib.hid (insM_hit hkl HLOW.out)
                  have HMIS : Hid (¬ ltB L[k].1 q.1 = true → L[k].1 ≠ q.1 → insM L q = L.take k ++ q :: L.drop k) := Lib.hid (fun h1 h2 => insM_miss hk HLOW.out (fun _ => ⟨h1, h2⟩))
                  have HLK : Hid (L[k]? = some L[k]) := Lib.hid (List.getElem?_eq_getElem hkl)
                  have HGK : Hid (GoodQ L[k]) := Lib.hid (HGD.out _ (List.getElem_mem hkl))
                  have HSV := Lib.hid hsv
                  have HAP := Lib.hid hap
                  clear e0 x0 x1 hap
                  generalize L[k] = y at *
                  obtain ⟨va, vc, rfl⟩ : ∃ a c, sv = .slice a y.2.length c := by obtain ⟨a, c, e, _⟩ := hsv; exact ⟨a, c, e⟩
                  clear hsv
                  by_cases hl : ltB y.1 q.1 = true
                  case pos =>
                    have hl2 : Op.bytesLess y.1.toList q.1.toList = true := hl
                    have HL2 : Hid (∀ r ∈ L.take (k + 1), ltB r.1 q.1 = true) := Lib.hid (fun r hr => by
                      rw [HTK.out] at hr
                      rcases List.mem_append.1 hr with h | h
                      · exact HLOW.out r h
                      · rw [List.mem_singleton.1 h]; exact hl)
                    clear hl
                    go_wp2_with fail
                    go_quiet (fail)
                    go_wp2_with fail
                    all_goals
                      refine ⟨Lib.hid ⟨k + 1, hkl, by go_num, HL2.out, _, rfl⟩, ?_⟩
                      simp [intOf]; omega
                  case neg =>
                    have hl1 : ltB y.1 q.1 = false := by simpa using hl
                    have hl2 : Op.bytesLess y.1.toList q.1.toList = false := hl1
                    by_cases he : y.1 = q.1
                    case neg =>
                      have heb : (y.1.toList == q.1.toList) = false := by rw [eqs_dec]; exact decide_eq_false he
                      have HINS := Lib.hid (HMIS.out hl he)
                      clear hl he HTK HHIT HMIS HLK HGK HSV HAP HLOW
                      go_wp2_with fail
                      go_quiet (fail)
                      go_wp2_with fail
                      go_quiet (fail)
                      go_wp2_with fail
                      clear y0 y1
                      try simp only [World.drewN_drewN]
                      generalize hV : W.drewN _ = V
                      have HRV : Hid (RowX w.heap.size (.slice (some ⟨g, 0, none⟩) L.length c) L xs V) := Lib.hid (by rw [← hV]; exact HRW2.out.below (below_drewN (Below.refl _ _) _))
                      have HSV2 : Hid (SpansOf V.heap.size (.slice sa q.2.length sc) q.2 V) := Lib.hid (by rw [← hV]; exact HSW.out.on (below_drewN (Below.refl _ _) _))
                      have HBV : Hid (Below w.heap.size w V) := Lib.hid (by rw [← hV]; exact below_drewN HBW.out _)
                      have v0 : V.cell? ⟨gq, 0, none⟩ = some (.string q.1) := by rw [← hV]; exact b0
                      have v1 : V.cell? ⟨gq, 1, none⟩ = some (.slice sa q.2.length sc) := by rw [← hV]; exact b1
                      clear b0 b1 hV HRW2 HSW HBW HBX
                      have HS0 : Hid (HeldC ⟨gq, 0, none⟩ ⟨gq, 1, none⟩ (.string q.1) (.slice sa q.2.length sc) V.drew) := Lib.hid ⟨v0, v1⟩
                      have HS1 : Hid (HeldC ⟨gq, 0, none⟩ ⟨gq, 1, none⟩ (.string q.1) (.slice sa q.2.length sc) (V.drew.alloc (.cells #[.string q.1, .slice sa q.2.length sc] 58))) := Lib.hid ⟨cellA _ v0, cellA _ v1⟩
                      have hv1 := HBV.out.size
                      have hbl : gq < V.heap.size := World.block_lt_of_cell? _ _ v0
                      have hgl := (HRV.out.own.lt g rfl).2
                      have HXO : Hid (((V.alloc (.cells #[.string q.1, .slice sa q.2.length sc] 58)).drew).ownsRow V.heap.size 58 2 (.slice (some ⟨V.heap.size, 0, none⟩) 1 1) 1 [.string q.1, .slice sa q.2.length sc]) := Lib.hid (World.ownsRow_lit (base := V.heap.size) V #[.string q.1, .slice sa q.2.length sc] 1 (Nat.le_refl _) (by decide) rfl).drew
                      have HRA := Lib.hid (((HRV.out.own.alloc (.cells #[.string q.1, .slice sa q.2.length sc] 58)).drew))
                      obtain ⟨ad, had, hadc⟩ := own_newsX HRA.out hCP k
                      have HAD := Lib.hid hadc
                      have HXL := Lib.hid HRV.out.own.1
                      have HXN := Lib.hid HRV.out.one
                      have HSG : Hid (∀ w5, ((V.alloc (.cells #[.string q.1, .slice sa q.2.length sc] 58)).drew).grownBy w5 (Value.slice (some ⟨V.heap.size, 0, none⟩) 1 1).ownBlock → HeldC ⟨gq, 0, none⟩ ⟨gq, 1, none⟩ (.string q.1) (.slice sa q.2.length sc) w5) := Lib.hid fun w5 hg => ⟨hg.cell (cellA _ v0) (by simp [Value.ownBlock]; omega), hg.cell (cellA _ v1) (by simp [Value.ownBlock]; omega)⟩
                      have HLG : Hid (∀ w5, ((V.alloc (.cells #[.string q.1, .slice sa q.2.length sc] 58)).drew).grownBy w5 (Value.slice (some ⟨V.heap.size, 0, none⟩) 1 1).ownBlock → w5.ownsRow w.heap.size 58 2 (.slice (some ⟨g, 0, none⟩) L.length c) L.length xs) := Lib.hid fun w5 hg => HRA.out.kept hg (by simp [Value.ownBlock]; omega)
                      have HBG : Hid (∀ w5, ((V.alloc (.cells #[.string q.1, .slice sa q.2.length sc] 58)).drew).grownBy w5 (Value.slice (some ⟨V.heap.size, 0, none⟩) 1 1).ownBlock → Below w.heap.size w w5) := Lib.hid fun w5 hg => ((HBV.out.alloc hv1 _).drew).grown hg (by simp; omega) (fun j hj => by simp [Value.ownBlock] at hj; omega)
                      have HKG : Hid (∀ w5, ((V.alloc (.cells #[.string q.1, .slice sa q.2.length sc] 58)).drew).grownBy w5 (Value.slice (some ⟨V.heap.size, 0, none⟩) 1 1).ownBlock → V.heap.size ≤ w5.heap.size ∧ ∀ s r, SpansOf V.heap.size r s V → SpansOf V.heap.size r s w5) := Lib.hid fun w5 hg => ⟨Nat.le_trans (by simp) hg.size, fun s r h => spans_kept ((h.below (belQ V (.cells #[.string q.1, .slice sa q.2.length sc] 58)) (Nat.le_refl _)).below (Below.refl V.heap.size _).drew (Nat.le_refl _)) hg (show V.heap.size ≤ (V.alloc (.cells #[.string q.1, .slice sa q.2.length sc] 58)).heap.size by simp) (fun hne b hb e => by
                        have h1 := spans_lt h hne hb
                        simp [Value.ownBlock] at e
                        omega)⟩
                      clear hadc v0 v1
                      refine wp_region_noPanic ?_
                      refine region_plain_split (S := HeldC ⟨gq, 0, none⟩ ⟨gq, 1, none⟩ (.string q.1) (.slice sa q.2.length sc)) 11 (by kernel_rfl) (by kernel_rfl) ?_
                      simp only [List.take_succ_cons, List.take_zero]
                      have hS0 := HS0.out
                      (refine zl3 0 ?_ rfl ?_ ?_; rotate_left; (· (rintro w ⟨c0, c1⟩; go_simp; try with_reducible rfl)); (try simp only [zl1]))
                      (refine zl3 1 ?_ rfl ?_ ?_; rotate_left; (· (rintro w ⟨c0, c1⟩; go_simp; try with_reducible rfl)); (try simp only [zl1]))
                      (refine zl3 2 ?_ rfl ?_ ?_; rotate_left; (· (rintro w ⟨c0, c1⟩; go_simp; try with_reducible rfl)); (try simp only [zl1]))
                      (refine zl3 3 ?_ rfl ?_ ?_; rotate_left; (· (rintro w ⟨c0, c1⟩; go_simp; try with_reducible rfl)); (try simp only [zl1]))
                      (refine zl3 4 ?_ rfl ?_ ?_; rotate_left; (· (rintro w ⟨c0, c1⟩; go_simp; try with_reducible rfl)); (try simp only [zl1]))
                      (refine zl3 6 ?_ rfl ?_ ?_; rotate_left; (· (rintro w ⟨c0, c1⟩; go_simp; try with_reducible rfl)); (try simp only [zl1]))
                      (refine zl3 7 ?_ rfl ?_ ?_; rotate_left; (· (rintro w ⟨c0, c1⟩; go_simp; try with_reducible rfl)); (try simp only [zl1]))
                      (refine zl3 8 ?_ rfl ?_ ?_; rotate_left; (· (rintro w ⟨c0, c1⟩; go_simp; try with_reducible rfl)); (try simp only [zl1]))
                      refine wpAnyH_ready (rs := [5]) (by kernel_rfl) (by simp) (AllReadyH.cons rfl (fun K hK => ?_) AllReadyH.nil)
                      go_simp
                      refine hK.out _ _ HS1.out (fun _ => ?_)
                      clear hK K hS0
                      (try simp only [zl1])
                      refine wpAnyH_ready (rs := [9]) (by kernel_rfl) (by simp) (AllReadyH.cons rfl (fun K hK => ?_) AllReadyH.nil)
                      refine step_append_own (by rfl) _ _ _ (by rfl) V.heap.size 58 i0 _ 2 40 Tryz.underlying26 hi0' hz0 hz1 hz2 rfl (by decide) _ 1 [.string q.1, .slice sa q.2.length sc] (by rfl) HXO.out ad (L.length - k) (c - k) (xs.drop (k * 2)) (by rfl) (drop_lenX HXL.out) HAD.out (fun u hu => HXN.out u (List.mem_of_mem_drop hu)) (by unfold maxLen; omega) (by omega) (by simp) ?_
                      intro v5 w5 hown5 hgrow5
                      obtain ⟨g5, c5, rfl⟩ := Go.Joins.ownsRow_form hown5 (by omega)
                      have hS5 : HeldC ⟨gq, 0, none⟩ ⟨gq, 1, none⟩ (.string q.1) (.slice sa q.2.length sc) w5 := HSG.out w5 hgrow5
                      have HS5 := Lib.hid hS5
                      have HO5 := Lib.hid (HLG.out w5 hgrow5)
                      have HB5 := Lib.hid (HBG.out w5 hgrow5)
                      have HK5 := Lib.hid (HKG.out w5 hgrow5)
                      have HN5 := Lib.hid hown5
                      refine hK.out _ _ hS5 (fun _ => ?_)
                      clear hK K hS5 hown5 hgrow5
                      (try simp only [zl1])
                      refine wpAnyH_ready (rs := [10]) (by kernel_rfl) (by simp) (AllReadyH.cons rfl (fun K hK => ?_) AllReadyH.nil)
                      refine step_append_grows (by rfl) _ _ _ (by rfl) 58 i0 _ 2 40 Tryz.underlying26 hi0' hz0 hz1 hz2 rfl (by decide) (some ⟨g, 0, none⟩) k k (xs.take (k * 2)) (by rfl) (fun h => by cases h) (take_lenX HXL.out hk) (fun b hb => by cases hb; exact own_oldsX HO5.out _) ⟨g5, 0, none⟩ (1 + (L.length - k)) c5 _ (by rfl) HN5.out.1 (HN5.out.cells rfl) (news_oneX HXN.out) (by omega) (by unfold maxLen; omega) (by omega) ?_
                      intro v6 w6 hown6 hgrow6
                      obtain ⟨g6, c6, rfl⟩ := Go.Joins.ownsRow_form hown6 (by omega)
                      have HB6 : Hid (Below w.heap.size w w6) := Lib.hid (HB5.out.grown hgrow6 HB5.out.size (fun j hj => by cases hj))
                      have HX6 : Hid (RowX w.heap.size (.slice (some ⟨g6, 0, none⟩) (k + (1 + (L.length - k))) c6) (L.take k ++ q :: L.drop k) (xs.take (k * 2) ++ ([.string q.1, .slice sa q.2.length sc] ++ xs.drop (k * 2))) w6) := Lib.hid (HRV.out.ins hk HSV2.out (fun s r h => (spans_kept (HK5.out.2 s r h) hgrow6 HK5.out.1 (fun _ b _ e => by cases e)).mono (Nat.le_trans HK5.out.1 hgrow6.size)) hown6 HK5.out.1 HB5.out.size)
                      have hS6 : HeldC ⟨gq, 0, none⟩ ⟨gq, 1, none⟩ (.string q.1) (.slice sa q.2.length sc) w6 := ⟨hgrow6.cell (HS5.out).1 (by simp), hgrow6.cell (HS5.out).2 (by simp)⟩
                      refine hK.out _ _ hS6 (fun _ => ?_)
                      clear hK K hS6 hown6 hgrow6
                      (try simp only [zl1])
                      refine wpAnyH_done (by kernel_rfl) ?_ _
                      show wpList _ _ _ _ _ _
                      simp only [List.drop_succ_cons, List.drop_zero]
                      have HLN : Hid ((L.take k ++ q :: L.drop k).length = k + (1 + (L.length - k))) := Lib.hid (by simp; omega)
                      have HJN : Hid (RmJ w (mrgK ls i m (j + 1)) (.slice (some ⟨g6, 0, none⟩) (k + (1 + (L.length - k))) c6) w6) := Lib.hid (by
                        rw [HSC.out]
                        refine ⟨HB6.out, insM_incr q HIN.out, insM_good HGD.out HQG.out, ?_, ?_⟩
                        · rw [HINS.out]; exact ⟨_, HX6.out⟩
                        · rw [HINS.out, HLN.out]; exact ⟨_, _, rfl⟩)
                      go_wp2_with fail
                      refine NoPanic.normal ?_
                      all_goals go_wp2_with fail
                      all_goals
                        refine ⟨Lib.hid ⟨j + 1, hlj, by go_num, HJN.out, HN2.out⟩, ?_⟩
                        simp [intOf]; omega
                    case pos =>
                      have heb : (y.1.toList == q.1.toList) = true := by rw [eqs_dec]; exact decide_eq_true he
                      have HINS := Lib.hid (HHIT.out he)
                      clear hl he HTK HHIT HMIS HLOW
                      go_wp2_with fail
                      go_quiet (fail)
                      go_wp2_with fail
                      go_quiet (fail)
                      go_wp2_with fail
                      try simp only [World.drewN_drewN]
                      generalize hV : W.drewN _ = V
                      have HRV : Hid (RowX w.heap.size (.slice (some ⟨g, 0, none⟩) L.length c) L xs V) := Lib.hid (by rw [← hV]; exact HRW2.out.below (below_drewN (Below.refl _ _) _))
                      have HSV2 : Hid (SpansOf V.heap.size (.slice sa q.2.length sc) q.2 V) := Lib.hid (by rw [← hV]; exact HSW.out.on (below_drewN (Below.refl _ _) _))
                      have HSK2 : Hid (SpansOf V.heap.size (.slice va y.2.length vc) y.2 V) := Lib.hid (by rw [← hV]; exact HSV.out.on (below_drewN (Below.refl _ _) _))
                      have HBV : Hid (Below w.heap.size w V) := Lib.hid (by rw [← hV]; exact below_drewN HBW.out _)
                      have v0 : V.cell? ⟨g, k * 2 + 1, none⟩ = some (.slice va y.2.length vc) := by rw [← hV]; exact y1
                      have v1 : V.cell? ⟨gq, 1, none⟩ = some (.slice sa q.2.length sc) := by rw [← hV]; exact b1
                      clear b0 b1 y0 y1 hV HRW2 HSW HBW HBX HSV
                      have hgl := (HRV.out.own.lt g rfl).2
                      have hbl : gq < V.heap.size := World.block_lt_of_cell? _ _ v1
                      have HSB : Hid (∀ W', Below V.heap.size V W' → HeldC ⟨g, k * 2 + 1, none⟩ ⟨gq, 1, none⟩ (.slice va y.2.length vc) (.slice sa q.2.length sc) W') := Lib.hid (fun W' hb => ⟨(hb.cell (p := ⟨g, k * 2 + 1, none⟩) hgl).trans v0, (hb.cell (p := ⟨gq, 1, none⟩) hbl).trans v1⟩)
                      have HB9 := Lib.hid (belQ V.drew (.cells #[.slice va y.2.length vc, .slice sa q.2.length sc] 56))
                      have HII := Lib.hid (rIntersect_own (.slice (some ⟨V.heap.size, 0, none⟩) 2 2) [y.2, q.2] (V.drew.alloc (.cells #[.slice va y.2.length vc, .slice sa q.2.length sc] 56)) (by simp) (fun s hs => by
                        rcases List.mem_cons.1 hs with rfl | hs
                        · have := good_len HGK.out; omega
                        · rw [List.mem_singleton.1 hs]; have := good_len HQG.out; omega) (sets_pair (W := V.drew) (HSK2.out.on (Below.refl _ _).drew) (HSV2.out.on (Below.refl _ _).drew)))
                      clear v0 v1
                      refine wp_region_noPanic ?_
                      refine region_plain_split (S := HeldC ⟨g, k * 2 + 1, none⟩ ⟨gq, 1, none⟩ (.slice va y.2.length vc) (.slice sa q.2.length sc)) 11 (by kernel_rfl) (by kernel_rfl) ?_
                      simp only [List.take_succ_cons, List.take_zero]
                      have hS0 := HSB.out _ (Below.refl _ _).drew
                      (refine zl3 0 ?_ rfl ?_ ?_; rotate_left; (· (rintro w ⟨c0, c1⟩; go_simp; try with_reducible rfl)); (try simp only [zl1]))
                      (refine zl3 1 ?_ rfl ?_ ?_; rotate_left; (· (rintro w ⟨c0, c1⟩; go_simp; try with_reducible rfl)); (try simp only [zl1]))
                      (refine zl3 2 ?_ rfl ?_ ?_; rotate_left; (· (rintro w ⟨c0, c1⟩; go_simp; try with_reducible rfl)); (try simp only [zl1]))
                      (refine zl3 3 ?_ rfl ?_ ?_; rotate_left; (· (rintro w ⟨c0, c1⟩; go_simp; try with_reducible rfl)); (try simp only [zl1]))
                      (refine zl3 4 ?_ rfl ?_ ?_; rotate_left; (· (rintro w ⟨c0, c1⟩; go_simp; try with_reducible rfl)); (try simp only [zl1]))
                      (refine zl3 5 ?_ rfl ?_ ?_; rotate_left; (· (rintro w ⟨c0, c1⟩; go_simp; try with_reducible rfl)); (try simp only [zl1]))
                      (refine zl3 6 ?_ rfl ?_ ?_; rotate_left; (· (rintro w ⟨c0, c1⟩; go_simp; try with_reducible rfl)); (try simp only [zl1]))
                      (refine zl3 7 ?_ rfl ?_ ?_; rotate_left; (· (rintro w ⟨c0, c1⟩; go_simp; try with_reducible rfl)); (try simp only [zl1]))
                      (refine zl3 8 ?_ rfl ?_ ?_; rotate_left; (· (rintro w ⟨c0, c1⟩; go_simp; try with_reducible rfl)); (try simp only [zl1]))
                      refine wpAnyH_ready (rs := [9]) (by kernel_rfl) (by simp) (AllReadyH.cons rfl (fun K hK => ?_) AllReadyH.nil)
                      go_simp
                      clear hS0
                      have hS0 := HSB.out _ ((Below.refl V.heap.size V).drew.trans HB9.out)
                      refine hK.out _ _ hS0 (fun _ => ?_)
                      clear hK K
                      (try simp only [zl1])
                      refine wpAnyH_ready (rs := [10]) (by kernel_rfl) (by simp) (AllReadyH.cons rfl (fun K hK => ?_) AllReadyH.nil)
                      go_simp
                      refine HII.out.mono ?_
                      rintro e w10 ⟨v2, rfl, ho2, hb10⟩
                      have HB10 := Lib.hid (((Below.refl V.heap.size V).drew.trans HB9.out).trans (hb10.mono (by simp)))
                      have HO2 := Lib.hid ho2
                      obtain ⟨a2, c2, rfl⟩ := own_form ho2
                      clear hS0
                      have hS0 := HSB.out _ HB10.out
                      refine hK.out _ _ hS0 (fun _ => ?_)
                      clear hK K ho2 hb10
                      (try simp only [zl1])
                      refine wpAnyH_done (by kernel_rfl) ?_ _
                      show wpList _ _ _ _ _ _
                      simp only [List.drop_succ_cons, List.drop_zero]
                      have HR10 := Lib.hid (HRV.out.below HB10.out)
                      have HP10 := Lib.hid (HR10.out.put HLK.out (own_spans HO2.out) (fun _ b hb e => own_apartC HR10.out.own HO2.out (by decide) g rfl (hb.trans e.symm)))
                      have hyf := HR10.out.own.frozenAt (k * 2 + 1)
                      obtain ⟨y1, _⟩ := hS0
                      have HGB : Hid (w.heap.size ≤ g) := Lib.hid (HRV.out.own.lt g rfl).1
                      have HJN : Hid (RmJ w (mrgK ls i m (j + 1)) (.slice (some ⟨g, 0, none⟩) L.length c) (w10.setCell ⟨g, k * 2 + 1, none⟩ (.slice a2 (interS [y.2, q.2]).length c2))) := Lib.hid (by
                        rw [HSC.out]
                        refine ⟨(HBV.out.trans (HB10.out.mono HBV.out.size)).setCell HGB.out _, insM_incr q HIN.out, insM_good HGD.out HQG.out, ?_, ?_⟩
                        · rw [HINS.out]; exact ⟨_, HP10.out.1⟩
                        · rw [HINS.out, List.length_set]; exact ⟨_, _, rfl⟩)
                      clear HSB HII HB9 HB10 HSK2 HSV2 HRV HBV HO2 HR10 HP10
                      go_wp2_with fail
                      refine NoPanic.normal ?_
                      all_goals go_wp2_with fail
                      all_goals
                        refine ⟨Lib.hid ⟨j + 1, hlj, by go_num, HJN.out, HN2.out⟩, ?_⟩
                        simp [intOf]; omega
end Go.Proofs.YtenfkejbndifdaaGreatDoor
