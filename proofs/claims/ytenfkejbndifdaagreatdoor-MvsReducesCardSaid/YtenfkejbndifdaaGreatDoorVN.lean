/- Contract of mvs.Merge. -/
import Derived.Test.YtenfkejbndifdaaGreatDoorVM
namespace Go.Proofs.YtenfkejbndifdaaGreatDoor
set_option linter.unusedVariables false
set_option linter.unusedSimpArgs false
open Go Go.RowKit Go.Maps

def MergeR (ls : List (List ReqL)) (w : World) (e : Ending) (w' : World) : Prop := Below w.heap.size w w' ∧ ∃ v, e = .returned (.tuple #[v, .int .i64 (mergeV ls).2]) ∧ ReqsOf w'.heap.size v (mergeV ls).1 w' ∧ CapOk v
theorem MergeR.no {ls : List (List ReqL)} {w w' : World} {en : Int} (hb : Below w.heap.size w w') (h : mergeV ls = ([], en)) : MergeR ls w (.returned (.tuple #[.slice none 0 0, .int .i64 en])) w' := ⟨hb, _, by rw [h], by rw [h]; exact ⟨_, _, rfl, fun i q hq => by simp at hq⟩, ⟨_, _, _, rfl, Nat.le_refl _⟩⟩
theorem mergeV_bad {ls : List (List ReqL)} {l : List ReqL} (hl : l ∈ ls) (h : ¬ UpR l) : mergeV ls = ([], 1) := by unfold mergeV; rw [if_pos ⟨l, hl, h⟩]
theorem mergeV_big {ls : List (List ReqL)} (h : ∀ l ∈ ls, UpR l) (h2 : 16 < (mergeL ls).length) : mergeV ls = ([], 7) := by unfold mergeV; rw [if_neg (fun ⟨l, hl, e⟩ => e (h l hl)), if_pos h2]
theorem mergeV_ok {ls : List (List ReqL)} (h : ∀ l ∈ ls, UpR l) (h2 : ¬ 16 < (mergeL ls).length) : mergeV ls = (mergeL ls, 0) := by unfold mergeV; rw [if_neg (fun ⟨l, hl, e⟩ => e (h l hl)), if_neg h2]
theorem MapF.noCell {P : Program} {k : TypeId} {W : World} {b n : Nat} {f : Lit → Option Value} (h : MapF P k W b n f) (j : Nat) (v : Value) : W.cell? ⟨b, j, none⟩ ≠ some v := fun e => by
  obtain ⟨D, ⟨es, clock, h1, _⟩, _⟩ := h
  unfold World.cell? at e
  simp [h1] at e
theorem spans_nomap {P : Program} {k : TypeId} {W : World} {g n : Nat} {f : Lit → Option Value} (h : MapF P k W g n f) {B : Nat} {r : Value} {s : List (Int × Int)} (hs : SpansOf B r s W) (hne : s ≠ []) : ∀ b, r.ownBlock = some b → (some g : Option Nat) ≠ some b := fun b hb e => by
  injection e with e
  subst e
  obtain ⟨ao, cap, rfl, hs⟩ := hs
  obtain ⟨x, t, rfl⟩ := List.exists_cons_of_ne_nil hne
  obtain ⟨b', off, rfl, _, hc, _⟩ := hs 0 x rfl
  have : b' = g := by simpa [Value.ownBlock] using hb
  subst this
  exact h.noCell _ _ hc
structure MrgJ (w : World) (gm : Nat) (out : List ReqL) (n : Nat) (W : World) : Prop where
  bel : Below w.heap.size w W
  inc : incrR out
  good : ∀ x ∈ out, GoodQ x
  map : ∃ f rv, MapF Tryz.prog 9 W gm n f ∧ SetsF out rv f ∧ ∀ x ∈ out, SpansOf W.heap.size (rv x.1) x.2 W
theorem MrgJ.below {w : World} {gm n : Nat} {out : List ReqL} {W W' : World} (h : MrgJ w gm out n W) (hb : Below W.heap.size W W') : MrgJ w gm out n W' := by
  obtain ⟨h1, h2, h3, f, rv, h4, h5, h6⟩ := h
  exact ⟨h1.trans (hb.mono h1.size), h2, h3, f, rv, h4.below hb, h5, fun x hx => (h6 x hx).on hb⟩
theorem insM_old {out : List ReqL} (ho : incrR out) {q x : ReqL} (hx : x ∈ insM out q) (hne : x.1 ≠ q.1) : x ∈ out := by
  have h1 := (lookM_mem (insM_incr q ho)).1 hx
  rw [insM_look q x.1 ho, if_neg hne] at h1
  exact (lookM_mem ho).2 h1
theorem insM_new {out : List ReqL} (ho : incrR out) {q x : ReqL} (hx : x ∈ insM out q) (he : x.1 = q.1) : x.2 = match lookM out q.1 with | some s => interS [s, q.2] | none => q.2 := by
  have h1 := (lookM_mem (insM_incr q ho)).1 hx
  rw [insM_look q x.1 ho, if_pos he] at h1
  exact (Option.some.inj h1).symm
theorem inter_self {q : ReqL} (h : GoodQ q) : interS [q.2, q.2] = q.2 := by
  obtain ⟨m, e, h0, h1⟩ := h.set
  rw [e, inter_up ⟨h0, h1⟩ ⟨h0, h1⟩, Int.max_self]
def baseM (out : List ReqL) (q : ReqL) : List (Int × Int) := (lookM out q.1).getD q.2
theorem insM_base {out : List ReqL} (ho : incrR out) {q x : ReqL} (hg : GoodQ q) (hx : x ∈ insM out q) (he : x.1 = q.1) : x.2 = interS [baseM out q, q.2] := by
  rw [insM_new ho hx he]
  unfold baseM
  cases lookM out q.1 with
  | some s => rfl
  | none => exact (inter_self hg).symm
theorem MrgJ.put {w : World} {gm n : Nat} {out : List ReqL} {W W' : World} {f : Lit → Option Value} {rv : ByteArray → Value} {q : ReqL} {r : Value} (hb : Below w.heap.size w W) (hw : w.heap.size ≤ gm) (hi : incrR out) (hg : ∀ x ∈ out, GoodQ x) (hm : MapF Tryz.prog 9 W gm n f) (hf : SetsF out rv f) (hs : ∀ x ∈ out, SpansOf W.heap.size (rv x.1) x.2 W)
    (hq : GoodQ q) (hr : SpansOf W.heap.size r (interS [baseM out q, q.2]) W) (h1 : MapF Tryz.prog 9 W' gm (n + 1) (putF f (.string q.1.data.toList) r)) (h2 : W.grownBy W' (some gm)) : MrgJ w gm (insM out q) (n + 1) W' := by
  have hgood := insM_good hg hq
  refine ⟨hb.grown h2 hb.size (fun b hb => by cases hb; exact hw), insM_incr q hi, hgood, _, _, h1, hf.put hi q r, fun x hx => ?_⟩
  by_cases e : x.1 = q.1
  · rw [e, putV_same]
    have e2 := insM_base hi hq hx e
    rw [e2]
    refine (spans_kept hr h2 (Nat.le_refl _) (fun hne => spans_nomap hm hr hne)).mono h2.size
  · rw [putV_other _ _ e]
    have hx2 := hs x (insM_old hi hx e)
    exact (spans_kept hx2 h2 (Nat.le_refl _) (fun hne => spans_nomap hm hx2 hne)).mono h2.size
def mrgK (ls : List (List ReqL)) (i : Nat) (m : List ReqL) (j : Nat) : List ReqL := ((ls.take i).flatten ++ m.take j).foldl insM []
theorem mrgK_zero (ls : List (List ReqL)) (m : List ReqL) : mrgK ls 0 m 0 = [] := by unfold mrgK; simp
theorem mrgK_start (ls : List (List ReqL)) (i : Nat) (m m' : List ReqL) : mrgK ls i m 0 = mrgK ls i m' 0 := by unfold mrgK; simp
theorem mrgK_succ {ls : List (List ReqL)} {i : Nat} {m : List ReqL} {j : Nat} (hj : j < m.length) : mrgK ls i m (j + 1) = insM (mrgK ls i m j) m[j] := by
  unfold mrgK
  rw [List.take_succ_eq_append_getElem hj, ← List.append_assoc, List.foldl_append]
  rfl
theorem mrgK_next {ls : List (List ReqL)} {i : Nat} {m : List ReqL} (hi : i < ls.length) (hm : ls[i] = m) : mrgK ls i m m.length = mrgK ls (i + 1) [] 0 := by
  unfold mrgK
  rw [List.take_length, List.take_succ_eq_append_getElem hi, List.flatten_append, hm]
  simp
theorem mrgK_all (ls : List (List ReqL)) : mrgK ls ls.length [] 0 = mergeL ls := by
  unfold mrgK mergeL
  rw [List.take_length]
  simp
def HeldM (g : Nat) (p : ByteArray) (r : Value) (W : World) : Prop := W.cell? ⟨g, 0, none⟩ = some (.string p) ∧ W.cell? ⟨g, 1, none⟩ = some r
theorem HeldM.below {g : Nat} {p : ByteArray} {r : Value} {W W' : World} (h : HeldM g p r W) (hg : g < W.heap.size) (hb : Below W.heap.size W W') : HeldM g p r W' := ⟨(hb.cell (p := ⟨g, 0, none⟩) hg).trans h.1, (hb.cell (p := ⟨g, 1, none⟩) hg).trans h.2⟩
theorem sets_pair {W : World} {a b : Value} {s t : List (Int × Int)} (ha : SpansOf W.heap.size a s W) (hb : SpansOf W.heap.size b t W) : SetsOf (W.alloc (.cells #[a, b] 56)).heap.size (.slice (some ⟨W.heap.size, 0, none⟩) 2 2) [s, t] (W.alloc (.cells #[a, b] 56)) := by
  have hn := World.alloc_heap_new W (.cells #[a, b] 56)
  have h1 := ha.on (belQ W (.cells #[a, b] 56))
  have h2 := hb.on (belQ W (.cells #[a, b] 56))
  refine ⟨_, _, rfl, fun i x hx => ?_⟩
  match i, hx with
  | 0, hx => cases hx; exact ⟨W.heap.size, 0, a, rfl, by simp, cell_of_row _ _ 0 _ _ _ hn, h1⟩
  | 1, hx => cases hx; exact ⟨W.heap.size, 0, b, rfl, by simp, cell_of_row _ _ 1 _ _ _ hn, h2⟩
  | i + 2, hx => simp at hx
theorem good_len {q : ReqL} (h : GoodQ q) : q.2.length ≤ 1 := by obtain ⟨m, e, _⟩ := h.set; rw [e]; simp
theorem base_len {out : List ReqL} (ho : incrR out) (hg : ∀ x ∈ out, GoodQ x) {q : ReqL} (hq : GoodQ q) : (baseM out q).length ≤ 1 := by
  unfold baseM
  cases hl : lookM out q.1 with
  | none => exact good_len hq
  | some s => exact good_len (hg (q.1, s) ((lookM_mem ho).2 hl))
theorem upR_of {l : List ReqL} {E : Int} (h1 : checkReqs l = E) (h2 : E = 0) (h3 : upAll l = true) : UpR l := ⟨h1.trans h2, upAll_iff.1 h3⟩
set_option maxRecDepth 100000 in
set_option maxHeartbeats 16000000 in
theorem Merge_any (lv : Value) (ls : List (List ReqL)) (w : World) (hm : MaxOk w) (hll : ls.length ≤ 1000000) (hlb : ∀ l ∈ ls, l.length ≤ 1000000 ∧ ReqsBd l) (hL : ListsOf w.heap.size lv ls w) :
    Calls Tryz.prog 28 #[lv] w (MergeR ls w) := by
  have HL := Lib.hid hL
  have HMX := Lib.hid hm
  have HLB := Lib.hid hlb
  have hztd : ∀ W, (zeroValue 56).run Tryz.prog W = .ok (.slice none 0 0) W := Tryz.zeroValue56
  have HZ := Lib.hid hztd
  obtain ⟨la, lc, rfl⟩ : ∃ la lc, lv = .slice la ls.length lc := by obtain ⟨a, c, e, _⟩ := hL; exact ⟨a, c, e⟩
  clear hL hm hlb hztd
  have hmm := @run_makeMap Tryz.prog
  have HJ0 : Hid (MrgJ w w.heap.size (mrgK ls 0 [] 0) 0 (w.alloc (.map #[] 0))) := Lib.hid ⟨belQ w _, by rw [mrgK_zero]; exact List.Pairwise.nil, by rw [mrgK_zero]; exact fun x hx => (by cases hx), _, fun _ => .slice none 0 0, MapF.made Tryz.prog 9 w, by rw [mrgK_zero]; exact SetsF.start _, by rw [mrgK_zero]; exact fun x hx => (by cases hx)⟩
  go_enter Tryz.func28, Tryz.ntmps28
  go_upto_region 2 with fail
  generalize w.alloc (.map #[] 0) = W0 at *
  clear hmm
  go_wp2_with fail
  go_loopw [17] (fun p wr => Hid (∃ i n, i ≤ ls.length ∧ p = .int .i64 ((i : Nat) : Int) ∧ n ≤ 16 * i ∧ MrgJ w w.heap.size (mrgK ls i [] 0) n wr ∧ ∀ l ∈ ls.take i, UpR l)) (fun p _ => ls.length - (intOf p).toNat)
  case atStart => exact Lib.hid ⟨0, 0, Nat.zero_le _, rfl, Nat.zero_le _, HJ0.out, fun l hl => by simp at hl⟩
  case round =>
    obtain ⟨i, n, hi, rfl, hn, hj, hu⟩ := hrel.out
    have HJ := Lib.hid hj
    have HU := Lib.hid hu
    clear hrel hj hu
    by_cases hlt : i < ls.length
    case neg =>
      have hii : i = ls.length := Nat.le_antisymm hi (Nat.le_of_not_lt hlt)
      subst hii
      have HUA : Hid (∀ l ∈ ls, UpR l) := Lib.hid (by have := HU.out; rwa [List.take_length] at this)
      have HJL : Hid (MrgJ w w.heap.size (mergeL ls) n wr) := Lib.hid (by rw [← mrgK_all]; exact HJ.out)
      obtain ⟨f, rv, hmf, hsf, hspn⟩ := HJL.out.map
      have HMF := Lib.hid hmf
      have HSF := Lib.hid hsf
      have HSPN := Lib.hid hspn
      have HKN := Lib.hid (keysM_nodup HJL.out.inc)
      have HKI := Lib.hid (keysM_iff hsf)
      have HKL : Hid ((keysM (mergeL ls)).length = (mergeL ls).length) := Lib.hid (by unfold keysM; simp)
      have HINC := Lib.hid HJL.out.inc
      have HWB := Lib.hid HJL.out.bel
      have hgm : w.heap.size < wr.heap.size := hmf.lt
      have HBIG := Lib.hid (mergeV_big HUA.out)
      have HOKV := Lib.hid (mergeV_ok HUA.out)
      clear hmf hsf hspn HJ HJL HU
      generalize hout : mergeL ls = out at *
      clear hout
      by_cases h16 : 16 < out.length
      case pos =>
        have HNO := Lib.hid (HBIG.out h16)
        have hd : decide ((16 : Int) < (out.length : Int)) = true := decide_eq_true (by omega)
        have hd2 : (16 : Int) < (out.length : Int) := by omega
        go_wp2_with (at_len; refine wpList_len_F rfl _ 113 rfl 9 56 lawStr Tryz.underlying113 w.heap.size n f (by rfl) HMF.out (keysM out) HKN.out HKI.out ?_; rw [HKL.out])
        go_ret2
        exact MergeR.no HWB.out HNO.out
      case neg =>
        have HOK := Lib.hid (HOKV.out h16)
        have hd : decide ((16 : Int) < (out.length : Int)) = false := decide_eq_false (by omega)
        have hd2 : ¬ (16 : Int) < (out.length : Int) := by omega
        have hol : out.length ≤ 16 := Nat.le_of_not_lt h16
        clear h16 HBIG HOKV
        obtain ⟨i0, hi0', hz0, hz1, hz2⟩ := info_parts info_reqs
        go_wp2_with (first | (at_len; refine wpList_len_F rfl _ 113 rfl 9 56 lawStr Tryz.underlying113 w.heap.size n f (by rfl) HMF.out (keysM out) HKN.out HKI.out ?_; rw [HKL.out]) | (at_range; refine wpList_range_F rfl _ 113 rfl 56 lawStr Tryz.underlying113 (by rfl) HMF.out ?_; intro w3 cnt0 hrg0 hg0 hs0; have HG0 := Lib.hid hg0; have HR0 := Lib.hid hrg0; have HS0 := Lib.hid hs0; clear hg0 hrg0 hs0))
        generalize hri : wr.heap.size = ri at HR0 HS0 hgm
        have HRI2 := Lib.hid hri
        have HB0 : Hid (Below ri wr w3) := Lib.hid (by rw [← hri]; exact (Below.refl _ _).grown HG0.out (Nat.le_refl _) (fun b hb => by cases hb))
        have HSP2 : Hid (∀ x ∈ out, SpansOf ri (rv x.1) x.2 wr) := Lib.hid (by rw [← hri]; exact HSPN.out)
        clear hri HSPN HKN HKI HKL hd hd2
        obtain ⟨wo, rfl⟩ : ∃ wo : World, wo = wr := ⟨_, rfl⟩
        go_loopw [11, 12, 13] (fun ov _ _ wx => Hid (∃ (left : Lit → Bool) (cnt : Nat) (l : List RawQ), RangesF Tryz.prog 9 wx w.heap.size ri n f left cnt ∧ CollQ f left l ∧ wx.ownsRow (ri + 1) 58 2 ov l.length (rawCells l) ∧ Below ri wo wx)) (fun _ _ _ wx => wx.rangeLeft w.heap.size ri)
        case atStart => exact Lib.hid ⟨_, cnt0, [], HR0.out, CollQ.start f, World.ownsRow_nil _ _ _ _, HB0.out⟩
        case round =>
          obtain ⟨left, cnt, l, hrg, hcl, hown, hbb⟩ := hrel.out
          have HRG := Lib.hid hrg
          have HCL := Lib.hid hcl
          have HOW := Lib.hid hown
          have HBB := Lib.hid hbb
          have hs8 : ri ≤ wr.heap.size := Nat.le_of_lt hrg.lt
          have hll2 : l.length ≤ out.length := hcl.len HSF.out
          obtain ⟨oa, oc, rfl⟩ := own_any hown
          clear hrel hrg hcl hown hbb HR0 HG0 HS0 HB0
          go_wp2_with (at_next; refine wpList_next_F rfl _ rfl lawStr (fun x : List UInt8 => Value.string ⟨x.toArray⟩) (fun key kl hk => by obtain ⟨x, e, _⟩ := Maps.keyOf_str Tryz.underlying9 hk; exact ⟨x, e⟩) (by rfl) HRG.out ?_ ?_)
          rotate_left
          · intro x v kl w5 cnt1 hkey hlk hf hrg1 hlt1 hg1 hs1 hen
            obtain ⟨x2, ex, rfl, _⟩ := Maps.keyOf_str Tryz.underlying9 hkey
            obtain rfl : x = x2 := by
              have ex : Value.string ⟨x.toArray⟩ = Value.string ⟨x2.toArray⟩ := ex
              injection ex with ex
              injection ex with ex
              simpa using ex
            obtain ⟨⟨a1, n1, c1⟩, hvr⟩ : ∃ rx : Option Addr × Nat × Nat, v = slV rx := by
              rw [show Lit.string x = keyP ⟨x.toArray⟩ from rfl, HSF.out.1] at hf
              obtain ⟨s, hs, e⟩ := Option.map_eq_some_iff.1 hf
              obtain ⟨a, c, e2, _⟩ := HSP2.out (⟨x.toArray⟩, s) ((lookM_mem HINC.out).2 hs)
              exact ⟨(a, s.length, c), e.symm.trans e2⟩
            subst hvr
            have HC5 : Hid (CollQ f (fun z => left z && !z.sameKey (.string x)) (l ++ [((⟨x.toArray⟩ : ByteArray), (a1, n1, c1))])) := Lib.hid (HCL.out.step (x := (⟨x.toArray⟩, (a1, n1, c1))) hf hlk)
            simp only [slV] at hf hen ⊢
            have HR5 := Lib.hid hrg1
            have HLT := Lib.hid hlt1
            have HO5 : Hid (w5.ownsRow (ri + 1) 58 2 (.slice oa l.length oc) l.length (rawCells l)) := Lib.hid (own_far HOW.out (fun b hb => hg1.block b (HOW.out.lt b hb).2 (by intro e; injection e with e; have := (HOW.out.lt b hb).1; omega)))
            have HB5 := Lib.hid (HBB.out.grown hg1 hs8 (fun b hb => by cases hb; exact Nat.le_refl _))
            have HLW := Lib.hid HRG.out.left_eq
            have hr5 : ri + 1 ≤ w5.heap.size := HR5.out.lt
            have hs5 : ri ≤ w5.heap.size := Nat.le_of_lt hr5
            have hll3 : l.length ≤ 1000000 := by omega
            clear hkey hlk hf hrg1 hlt1 hg1 hs1
            have HN9 : Hid ((w5.alloc (.cells #[.string ⟨x.toArray⟩, .slice a1 n1 c1] 58)).heap[w5.heap.size]? = some (.cells #[.string ⟨x.toArray⟩, .slice a1 n1 c1] 58)) := Lib.hid (heap_alloc_new w5 _)
            go_wp2_with (at_builtin; refine wpList_append_own _ rfl _ _ 26 rfl (ri + 1) 58 i0 _ 2 40 Tryz.underlying26 hi0' hz0 hz1 hz2 rfl (by decide) (.slice oa l.length oc) _ _ (by rfl) (HO5.out.alloc _) ⟨w5.heap.size, 0, none⟩ 1 1 [.string ⟨x.toArray⟩, .slice a1 n1 c1] (by rfl) (by rfl) (World.news_of_block HN9.out) (by simp [Value.oneCell']) (by unfold maxLen; omega) (by omega) (by simp; omega) ?_; intro v' wB hown' hgrow _; have HOW6 := Lib.hid hown'; have HGR := Lib.hid hgrow; clear hown' hgrow; obtain ⟨g3, gc3, rfl⟩ := ownsRow_succ HOW6.out)
            have HR6 := Lib.hid ((HR5.out.alloc (.cells #[.string ⟨x.toArray⟩, .slice a1 n1 c1] 58)).kept HGR.out (fun e => by have := (HO5.out.lt _ e.symm).1; omega) (fun e => by have := (HO5.out.lt _ e.symm).1; omega))
            have HB6 : Hid (Below ri wo wB) := Lib.hid ((HB5.out.alloc hs5 _).grown HGR.out (by simp; omega) (fun b hb => by have := (HO5.out.lt b hb).1; omega))
            go_roundw
            case rel => exact Lib.hid ⟨_, cnt1, l ++ [(⟨x.toArray⟩, (a1, n1, c1))], HR6.out, HC5.out, by rw [List.length_append, rawCells_snoc]; exact HOW6.out, HB6.out⟩
            case measure => rw [HR6.out.left_eq, HLW.out]; exact HLT.out
          · intro hl0
            have HL0 := Lib.hid hl0
            have HSO := Lib.hid (sort_reqs (ri + 1) (.slice oa l.length oc) l wr HOW.out (by omega))
            clear hl0
            go_wp2_with fail
            refine HSO.out.mono ?_
            rintro e w6 ⟨rfl, l', hperm, hsorted, hg6, ho6⟩
            have hdone := HCL.out.done HSF.out HINC.out HL0.out hperm hsorted
            have hlen : l.length = out.length := by
              have := congrArg List.length hdone.1
              simp only [List.length_map] at this
              rw [← hperm.length_eq]; exact this
            have HB6 : Hid (Below ri wo w6) := Lib.hid (HBB.out.grown hg6 hs8 (fun b hb => by have := (HOW.out.lt b hb).1; omega))
            have HO6 : Hid (w6.ownsRow (ri + 1) 58 2 (.slice oa l.length oc) out.length (rawCells l')) := Lib.hid (by rw [← hlen]; exact ho6)
            have HXS : Hid (ReqXs w6.heap.size out (rawCells l') w6) := Lib.hid (CollQ.row hdone.1 hdone.2 (fun x hx => ((HSP2.out x hx).below HB6.out (Nat.le_refl _)).mono (Nat.le_trans hs8 hg6.size)))
            have hw6 : w.heap.size ≤ ri := by omega
            clear hdone hlen hperm hsorted hg6 ho6 HSO
            go_wp2_with fail
            go_ret2
            refine ⟨HWB.out.trans (HB6.out.mono hw6), _, by rw [HOK.out]; rfl, ?_, own_cap HO6.out⟩
            rw [HOK.out]
            exact rows_reqs HO6.out HXS.out
    case pos =>
      obtain ⟨b, off, r, e, hbl, hc, hRm⟩ : ∃ b off r, la = some ⟨b, off, none⟩ ∧ b < w.heap.size ∧ w.cell? ⟨b, off + i, none⟩ = some r ∧ ReqsOf w.heap.size r ls[i] w := by
        obtain ⟨a, c, e, h⟩ := HL.out
        injection e with e1 e2 e3
        subst e1
        exact h i ls[i] (List.getElem?_eq_getElem hlt)
      subst e
      have HMM : Hid (ls[i] ∈ ls) := Lib.hid (List.getElem_mem hlt)
      have HNX : Hid (mrgK ls i ls[i] ls[i].length = mrgK ls (i + 1) [] 0) := Lib.hid (mrgK_next hlt rfl)
      have HUX : Hid (UpR ls[i] → ∀ l ∈ ls.take (i + 1), UpR l) := Lib.hid (fun h l hl => by
        rw [List.take_succ_eq_append_getElem hlt] at hl
        rcases List.mem_append.1 hl with h1 | h1
        · exact HU.out l h1
        · rw [List.mem_singleton.1 h1]; exact h)
      obtain ⟨hml, hmb⟩ := HLB.out _ (List.getElem_mem hlt)
      have HMB := Lib.hid hmb
      have hi0 : (0 : Int) ≤ (i : Int) := Int.natCast_nonneg i
      have hi1 : (i : Int) < (ls.length : Int) := Int.ofNat_lt.2 hlt
      generalize ls[i] = m at *
      have hc := (HJ.out.bel.cell (p := ⟨b, off + i, none⟩) hbl).trans hc
      have HRm := Lib.hid (hRm.on HJ.out.bel)
      have HRW := Lib.hid hRm
      obtain ⟨ra, rc, rfl⟩ : ∃ ra rc, r = .slice ra m.length rc := by obtain ⟨a, c, e, _⟩ := hRm; exact ⟨a, c, e⟩
      have HCR := Lib.hid (CheckReqs_any (.slice ra m.length rc) m wr (HMX.out.below HJ.out.bel HMX.out.pos) (by omega) (fun q hq => ⟨(hmb q hq).1, by have := (hmb q hq).2; omega⟩) HRm.out)
      have HUP := Lib.hid (fun W (hb : Below wr.heap.size wr W) => mupward_any (.slice ra m.length rc) m W (by omega) HMB.out (HRm.out.on hb))
      obtain ⟨E, hE⟩ : ∃ E, checkReqs m = E := ⟨_, rfl⟩
      rw [hE] at HCR
      have HE := Lib.hid hE
      obtain ⟨ub, hub⟩ : ∃ ub, upAll m = ub := ⟨_, rfl⟩
      rw [hub] at HUP
      have HUB := Lib.hid hub
      clear hE hub hmb hRm
      go_wp2_with fail
      refine HCR.out.mono ?_
      rintro e w1 ⟨rfl, hb1⟩
      have HJ1 := Lib.hid (HJ.out.below hb1)
      have HB1 := Lib.hid hb1
      clear hb1 HCR hc
      by_cases h1 : E = 0
      case neg =>
        have h1b : (E != 0) = true := by simpa using h1
        have HNO := Lib.hid (mergeV_bad HMM.out (fun h => h1 (HE.out.symm.trans h.1)))
        clear h1
        go_wp2_with fail
        go_ret2
        exact MergeR.no HJ1.out.bel HNO.out
      subst h1
      go_wp2_with fail
      refine (HUP.out w1 HB1.out).mono ?_
      rintro e w2 ⟨rfl, hb2⟩
      have HJ2 := Lib.hid (HJ1.out.below hb2)
      have HR2 := Lib.hid (HRm.out.on (HB1.out.trans (hb2.mono HB1.out.size)))
      clear hb2 HUP HRm HB1 HJ1
      cases ub with
      | false =>
        have HNO := Lib.hid (mergeV_bad HMM.out (fun h => by have := upAll_iff.2 h.2; rw [HUB.out] at this; cases this))
        go_wp2_with fail
        go_ret2
        exact MergeR.no HJ2.out.bel HNO.out
      | true =>
        have HUM := Lib.hid (upR_of HE.out rfl HUB.out)
        have hm16 : m.length ≤ 16 := (reqs_ok HUM.out.1).len
        have HJS : Hid (MrgJ w w.heap.size (mrgK ls i m 0) n w2) := Lib.hid (by rw [mrgK_start ls i m []]; exact HJ2.out)
        clear HJ2 HE HUB HR2
        go_wp2_with fail
        go_loopw [31] (fun q wr => Hid (∃ j n, j ≤ m.length ∧ q = .int .i64 ((j : Nat) : Int) ∧ n ≤ 16 * i + j ∧ MrgJ w w.heap.size (mrgK ls i m j) n wr)) (fun q _ => m.length - (intOf q).toNat)
        case atStart => exact Lib.hid ⟨0, n, Nat.zero_le _, rfl, hn, HJS.out⟩
        case round =>
          obtain ⟨j, n2, hj, rfl, hn2, hjj⟩ := hrel.out
          have HJJ := Lib.hid hjj
          clear hrel hjj
          by_cases hlj : j < m.length
          case neg =>
            have hjm : j = m.length := Nat.le_antisymm hj (Nat.le_of_not_lt hlj)
            subst hjm
            have HJN : Hid (MrgJ w w.heap.size (mrgK ls (i + 1) [] 0) n2 wr) := Lib.hid (by rw [← HNX.out]; exact HJJ.out)
            have HU2 := Lib.hid (HUX.out HUM.out)
            have hn3 : n2 ≤ 16 * (i + 1) := by omega
            go_wp2_with fail
            go_roundw
            case rel => exact Lib.hid ⟨i + 1, n2, hlt, by go_num, hn3, HJN.out, HU2.out⟩
            case measure => simp [intOf]; omega
          case pos =>
            obtain ⟨qb, qo, rq, e1, hqb, q0, q1, hsp⟩ : ∃ qb qo rq, ra = some ⟨qb, qo, none⟩ ∧ qb < w.heap.size ∧ w.cell? ⟨qb, qo + j * 2, none⟩ = some (.string m[j].1) ∧ w.cell? ⟨qb, qo + j * 2 + 1, none⟩ = some rq ∧ SpansOf w.heap.size rq m[j].2 w := by
              obtain ⟨a, c, e, h⟩ := HRW.out
              injection e with e1 e2 e3
              subst e1
              exact h j _ (List.getElem?_eq_getElem hlj)
            subst e1
            have HQG := Lib.hid (HUM.out.q (List.getElem_mem hlj)).good
            have HSC := Lib.hid (mrgK_succ (ls := ls) (i := i) hlj)
            have hqz : m[j].1.size ≤ maxLen := by
              have := (HMB.out _ (List.getElem_mem hlj)).1
              unfold maxLen
              omega
            have hj0 : (0 : Int) ≤ (j : Int) := Int.natCast_nonneg j
            have hj1 : (j : Int) < (m.length : Int) := Int.ofNat_lt.2 hlj
            generalize m[j] = q at *
            generalize mrgK ls i m j = out at *
            have q0 := (HJJ.out.bel.cell (p := ⟨qb, qo + j * 2, none⟩) hqb).trans q0
            have q1 := (HJJ.out.bel.cell (p := ⟨qb, qo + j * 2 + 1, none⟩) hqb).trans q1
            have HSQ := Lib.hid (hsp.on HJJ.out.bel)
            obtain ⟨qa, qc, rfl⟩ : ∃ a c, rq = .slice a q.2.length c := by obtain ⟨a, c, e, _⟩ := hsp; exact ⟨a, c, e⟩
            clear hsp
            obtain ⟨f, rv, hmf, hsf, hspn⟩ := HJJ.out.map
            have HMF := Lib.hid hmf
            have HSF := Lib.hid hsf
            have HSPN := Lib.hid hspn
            have HLK := Lib.hid (show f (.string q.1.data.toList) = (lookM out q.1).map fun _ => rv q.1 from hsf.1 q.1)
            have HKY := Lib.hid (keyStr hqz)
            have HBB := Lib.hid (belQ wr (.cells #[.string q.1, .slice qa q.2.length qc] 58))
            have HNB := Lib.hid (World.alloc_heap_new wr (.cells #[.string q.1, .slice qa q.2.length qc] 58))
            have hgm : w.heap.size < wr.heap.size := hmf.lt
            clear hmf hsf hspn hqz
            go_upto_region 10 with fail
            generalize wr.alloc (.cells #[.string q.1, .slice qa q.2.length qc] 58) = W5 at *
            have HW5 := Lib.hid (HJJ.out.bel.trans (HBB.out.mono HJJ.out.bel.size))
            have HM5 := Lib.hid (HMF.out.below HBB.out)
            have HSQ5 := Lib.hid (HSQ.out.on HBB.out)
            have HSP5 := Lib.hid (fun x hx => (HSPN.out x hx).on HBB.out)
            have HINC := Lib.hid HJJ.out.inc
            have HGD := Lib.hid HJJ.out.good
            generalize hgq : wr.heap.size = gq at *
            have b0 : W5.cell? ⟨gq, 0, none⟩ = some (.string q.1) := cell_of_row _ _ 0 _ _ _ HNB.out
            have b1 : W5.cell? ⟨gq, 1, none⟩ = some (.slice qa q.2.length qc) := cell_of_row _ _ 1 _ _ _ HNB.out
            have hgq5 : gq < W5.heap.size := (Array.getElem?_eq_some_iff.1 HNB.out).1
            clear hgq HBB HMF HSQ HSPN HJJ q0 q1
            cases hlm : lookM out q.1 with
            | none =>
              have HBM : Hid (baseM out q = q.2) := Lib.hid (by unfold baseM; rw [hlm]; rfl)
              rw [hlm] at HLK
              clear hlm
              go_upto_region 13 with (at_lookup; refine wpList_look_ok_F rfl _ _ 113 rfl 9 56 lawStr Tryz.underlying113 (HZ.out _) w.heap.size n2 f (by rfl) HM5.out _ (.string q.1.data.toList) rfl HKY.out ?_; rw [HLK.out])
              have HSV := Lib.hid HSQ5.out
              have hbl : q.2.length ≤ 1 := by have := base_len HINC.out HGD.out HQG.out; rwa [HBM.out] at this
              have hql : q.2.length ≤ 1 := good_len HQG.out
              have HSB : Hid (∀ W', Below W5.heap.size W5 W' → HeldM gq q.1 (.slice qa q.2.length qc) W') := Lib.hid (fun W' hb => HeldM.below ⟨b0, b1⟩ hgq5 hb)
              clear b0 b1
              refine wp_region_noPanic ?_
              refine wp_region_held_drew (S := HeldM gq q.1 (.slice qa q.2.length qc)) (by kernel_rfl) (HSB.out _ (Below.refl _ _).drew) (fun hS0 => ?_)
              (refine wpAnyH_take (i := 0) (v := ?_) rfl (by kernel_rfl) (by kernel_rfl) (by kernel_rfl) (fun _ _ _ h => h) (Or.inl ⟨by rfl, ?_⟩) (by assumption) ?_; rotate_left; (· (intro w hSw; obtain ⟨b0, b1⟩ := hSw; go_simp; try with_reducible rfl)); (try simp only [zl1, zl2, zl3, Act.put, zl4, zl5, zl6]))
              (refine wpAnyH_take (i := 1) (v := ?_) rfl (by kernel_rfl) (by kernel_rfl) (by kernel_rfl) (fun _ _ _ h => h) (Or.inl ⟨by rfl, ?_⟩) (by assumption) ?_; rotate_left; (· (intro w hSw; obtain ⟨b0, b1⟩ := hSw; go_simp; try with_reducible rfl)); (try simp only [zl1, zl2, zl3, Act.put, zl4, zl5, zl6]))
              (refine wpAnyH_take (i := 2) (v := ?_) rfl (by kernel_rfl) (by kernel_rfl) (by kernel_rfl) (fun _ _ _ h => h) (Or.inl ⟨by rfl, ?_⟩) (by assumption) ?_; rotate_left; (· (intro w hSw; obtain ⟨b0, b1⟩ := hSw; go_simp; try with_reducible rfl)); (try simp only [zl1, zl2, zl3, Act.put, zl4, zl5, zl6]))
              (refine wpAnyH_take (i := 3) (v := ?_) rfl (by kernel_rfl) (by kernel_rfl) (by kernel_rfl) (fun _ _ _ h => h) (Or.inl ⟨by rfl, ?_⟩) (by assumption) ?_; rotate_left; (· (intro w hSw; obtain ⟨b0, b1⟩ := hSw; go_simp; try with_reducible rfl)); (try simp only [zl1, zl2, zl3, Act.put, zl4, zl5, zl6]))
              (refine wpAnyH_take (i := 4) (v := ?_) rfl (by kernel_rfl) (by kernel_rfl) (by kernel_rfl) (fun _ _ _ h => h) (Or.inl ⟨by rfl, ?_⟩) (by assumption) ?_; rotate_left; (· (intro w hSw; obtain ⟨b0, b1⟩ := hSw; go_simp; try with_reducible rfl)); (try simp only [zl1, zl2, zl3, Act.put, zl4, zl5, zl6]))
              (refine wpAnyH_take (i := 5) (v := ?_) rfl (by kernel_rfl) (by kernel_rfl) (by kernel_rfl) (fun _ _ _ h => h) (Or.inl ⟨by rfl, ?_⟩) (by assumption) ?_; rotate_left; (· (intro w hSw; obtain ⟨b0, b1⟩ := hSw; go_simp; try with_reducible rfl)); (try simp only [zl1, zl2, zl3, Act.put, zl4, zl5, zl6]))
              have HBD : Hid (Below W5.heap.size W5 (W5.drew.alloc (.cells #[.slice qa q.2.length qc, .slice qa q.2.length qc] 56))) := Lib.hid ((Below.refl W5.heap.size W5).drew.trans (belQ W5.drew _))
              have HST : Hid (SetsOf (W5.drew.alloc (.cells #[.slice qa q.2.length qc, .slice qa q.2.length qc] 56)).heap.size (.slice (some ⟨W5.heap.size, 0, none⟩) 2 2) [q.2, q.2] (W5.drew.alloc (.cells #[.slice qa q.2.length qc, .slice qa q.2.length qc] 56))) := Lib.hid (sets_pair (W := W5.drew) (HSV.out.on (Below.refl W5.heap.size W5).drew) (HSQ5.out.on (Below.refl W5.heap.size W5).drew))
              refine wpAnyH_ready (rs := [6]) (by kernel_rfl) (by simp) (AllReadyH.cons rfl (fun K hK => ?_) AllReadyH.nil)
              go_simp
              clear hS0
              have hS0 := HSB.out _ HBD.out
              refine hK.out _ _ hS0 (fun _ => ?_)
              clear hK K
              (try simp only [zl1, zl2, zl3, Act.put, zl4, zl5, zl6])
              have HIN := Lib.hid (Intersect_any _ [q.2, q.2] _ (by simp) (fun s' hs' => by
                rcases List.mem_cons.1 hs' with h | h
                · rw [h]; omega
                · rw [List.mem_singleton.1 h]; omega) HST.out)
              refine wpAnyH_ready (rs := [7]) (by kernel_rfl) (by simp) (AllReadyH.cons rfl (fun K hK => ?_) AllReadyH.nil)
              go_simp
              refine (HIN.out).mono ?_
              rintro e w7 ⟨v', rfl, hsp7, hb7⟩
              have HB7 := Lib.hid (HBD.out.trans (hb7.mono HBD.out.size))
              have HSP7 := Lib.hid hsp7
              clear hS0
              have hS0 := HSB.out _ HB7.out
              refine hK.out _ _ hS0 (fun _ => ?_)
              clear hK K hb7 hsp7
              (try simp only [zl1, zl2, zl3, Act.put, zl4, zl5, zl6])
              refine wpAnyH_ready (rs := [8]) (by kernel_rfl) (by simp) (AllReadyH.cons rfl (fun K hK => ?_) AllReadyH.nil)
              refine oper_of_list (ops := #[]) rfl ?_
              refine wpList_put_F rfl _ _ _ _ rfl 9 56 lawStr Tryz.underlying113 w.heap.size n2 f (by rfl) (HM5.out.below HB7.out) (by unfold maxLen; omega) _ _ (.string q.1.data.toList) rfl rfl HKY.out ?_
              intro W9 hm9 hg9
              have HJ9 : Hid (MrgJ w w.heap.size (insM out q) (n2 + 1) W9) := Lib.hid (MrgJ.put (HW5.out.trans (HB7.out.mono HW5.out.size)) (Nat.le_refl _) HINC.out HGD.out (HM5.out.below HB7.out) HSF.out (fun x hx => (HSP5.out x hx).on HB7.out) HQG.out (by rw [HBM.out]; exact HSP7.out) hm9 hg9)
              have hSB9 : HeldM gq q.1 (.slice qa q.2.length qc) W9 := by
                have h := HSB.out _ HB7.out
                have hl : gq < w7.heap.size := Nat.lt_of_lt_of_le hgq5 HB7.out.size
                have hne : (some gq : Option Nat) ≠ some w.heap.size := fun e => by injection e with e; omega
                exact ⟨(hg9.cell_far ⟨gq, 0, none⟩ hl hne).trans h.1, (hg9.cell_far ⟨gq, 1, none⟩ hl hne).trans h.2⟩
              clear hm9 hg9
              refine wpList_nil ?_
              show K _ _
              refine hK.out _ _ hSB9 (fun _ => ?_)
              clear hK K hS0 hSB9
              (try simp only [zl1, zl2, zl3, Act.put, zl4, zl5, zl6])
              refine wpAnyH_done (by kernel_rfl) ?_ _
              refine NoPanic.normal ?_
              have HJF : Hid (MrgJ w w.heap.size (mrgK ls i m (j + 1)) (n2 + 1) W9) := Lib.hid (by rw [HSC.out]; exact HJ9.out)
              have hn4 : n2 + 1 ≤ 16 * i + (j + 1) := by omega
              clear HSB HSV HIN HST HBD HB7 HSP7 HJ9
              go_wp2_with fail
              go_roundw
              case rel => exact Lib.hid ⟨j + 1, n2 + 1, hlj, by go_num, hn4, HJF.out⟩
              case measure => simp [intOf]; omega
            | some s =>
              have HBM : Hid (baseM out q = s) := Lib.hid (by unfold baseM; rw [hlm]; rfl)
              have hsv := HSP5.out (q.1, s) ((lookM_mem HINC.out).2 hlm)
              simp only at hsv
              rw [hlm] at HLK
              clear hlm
              obtain ⟨sv, hsve⟩ : ∃ sv, rv q.1 = sv := ⟨_, rfl⟩
              rw [hsve] at hsv HLK
              clear hsve
              obtain ⟨sa, sc, e⟩ : ∃ a c, sv = .slice a s.length c := by obtain ⟨a, c, e, _⟩ := hsv; exact ⟨a, c, e⟩
              subst e
              have HSV := Lib.hid hsv
              clear hsv
              go_upto_region 13 with (at_lookup; refine wpList_look_ok_F rfl _ _ 113 rfl 9 56 lawStr Tryz.underlying113 (HZ.out _) w.heap.size n2 f (by rfl) HM5.out _ (.string q.1.data.toList) rfl HKY.out ?_; rw [HLK.out])
              have hbl : s.length ≤ 1 := by have := base_len HINC.out HGD.out HQG.out; rwa [HBM.out] at this
              have hql : q.2.length ≤ 1 := good_len HQG.out
              have HSB : Hid (∀ W', Below W5.heap.size W5 W' → HeldM gq q.1 (.slice qa q.2.length qc) W') := Lib.hid (fun W' hb => HeldM.below ⟨b0, b1⟩ hgq5 hb)
              clear b0 b1
              refine wp_region_noPanic ?_
              refine wp_region_held_drew (S := HeldM gq q.1 (.slice qa q.2.length qc)) (by kernel_rfl) (HSB.out _ (Below.refl _ _).drew) (fun hS0 => ?_)
              (refine wpAnyH_take (i := 0) (v := ?_) rfl (by kernel_rfl) (by kernel_rfl) (by kernel_rfl) (fun _ _ _ h => h) (Or.inl ⟨by rfl, ?_⟩) (by assumption) ?_; rotate_left; (· (intro w hSw; obtain ⟨b0, b1⟩ := hSw; go_simp; try with_reducible rfl)); (try simp only [zl1, zl2, zl3, Act.put, zl4, zl5, zl6]))
              (refine wpAnyH_take (i := 1) (v := ?_) rfl (by kernel_rfl) (by kernel_rfl) (by kernel_rfl) (fun _ _ _ h => h) (Or.inl ⟨by rfl, ?_⟩) (by assumption) ?_; rotate_left; (· (intro w hSw; obtain ⟨b0, b1⟩ := hSw; go_simp; try with_reducible rfl)); (try simp only [zl1, zl2, zl3, Act.put, zl4, zl5, zl6]))
              (refine wpAnyH_take (i := 2) (v := ?_) rfl (by kernel_rfl) (by kernel_rfl) (by kernel_rfl) (fun _ _ _ h => h) (Or.inl ⟨by rfl, ?_⟩) (by assumption) ?_; rotate_left; (· (intro w hSw; obtain ⟨b0, b1⟩ := hSw; go_simp; try with_reducible rfl)); (try simp only [zl1, zl2, zl3, Act.put, zl4, zl5, zl6]))
              (refine wpAnyH_take (i := 3) (v := ?_) rfl (by kernel_rfl) (by kernel_rfl) (by kernel_rfl) (fun _ _ _ h => h) (Or.inl ⟨by rfl, ?_⟩) (by assumption) ?_; rotate_left; (· (intro w hSw; obtain ⟨b0, b1⟩ := hSw; go_simp; try with_reducible rfl)); (try simp only [zl1, zl2, zl3, Act.put, zl4, zl5, zl6]))
              (refine wpAnyH_take (i := 4) (v := ?_) rfl (by kernel_rfl) (by kernel_rfl) (by kernel_rfl) (fun _ _ _ h => h) (Or.inl ⟨by rfl, ?_⟩) (by assumption) ?_; rotate_left; (· (intro w hSw; obtain ⟨b0, b1⟩ := hSw; go_simp; try with_reducible rfl)); (try simp only [zl1, zl2, zl3, Act.put, zl4, zl5, zl6]))
              (refine wpAnyH_take (i := 5) (v := ?_) rfl (by kernel_rfl) (by kernel_rfl) (by kernel_rfl) (fun _ _ _ h => h) (Or.inl ⟨by rfl, ?_⟩) (by assumption) ?_; rotate_left; (· (intro w hSw; obtain ⟨b0, b1⟩ := hSw; go_simp; try with_reducible rfl)); (try simp only [zl1, zl2, zl3, Act.put, zl4, zl5, zl6]))
              have HBD : Hid (Below W5.heap.size W5 (W5.drew.alloc (.cells #[.slice sa s.length sc, .slice qa q.2.length qc] 56))) := Lib.hid ((Below.refl W5.heap.size W5).drew.trans (belQ W5.drew _))
              have HST : Hid (SetsOf (W5.drew.alloc (.cells #[.slice sa s.length sc, .slice qa q.2.length qc] 56)).heap.size (.slice (some ⟨W5.heap.size, 0, none⟩) 2 2) [s, q.2] (W5.drew.alloc (.cells #[.slice sa s.length sc, .slice qa q.2.length qc] 56))) := Lib.hid (sets_pair (W := W5.drew) (HSV.out.on (Below.refl W5.heap.size W5).drew) (HSQ5.out.on (Below.refl W5.heap.size W5).drew))
              refine wpAnyH_ready (rs := [6]) (by kernel_rfl) (by simp) (AllReadyH.cons rfl (fun K hK => ?_) AllReadyH.nil)
              go_simp
              clear hS0
              have hS0 := HSB.out _ HBD.out
              refine hK.out _ _ hS0 (fun _ => ?_)
              clear hK K
              (try simp only [zl1, zl2, zl3, Act.put, zl4, zl5, zl6])
              have HIN := Lib.hid (Intersect_any _ [s, q.2] _ (by simp) (fun s' hs' => by
                rcases List.mem_cons.1 hs' with h | h
                · rw [h]; omega
                · rw [List.mem_singleton.1 h]; omega) HST.out)
              refine wpAnyH_ready (rs := [7]) (by kernel_rfl) (by simp) (AllReadyH.cons rfl (fun K hK => ?_) AllReadyH.nil)
              go_simp
              refine (HIN.out).mono ?_
              rintro e w7 ⟨v', rfl, hsp7, hb7⟩
              have HB7 := Lib.hid (HBD.out.trans (hb7.mono HBD.out.size))
              have HSP7 := Lib.hid hsp7
              clear hS0
              have hS0 := HSB.out _ HB7.out
              refine hK.out _ _ hS0 (fun _ => ?_)
              clear hK K hb7 hsp7
              (try simp only [zl1, zl2, zl3, Act.put, zl4, zl5, zl6])
              refine wpAnyH_ready (rs := [8]) (by kernel_rfl) (by simp) (AllReadyH.cons rfl (fun K hK => ?_) AllReadyH.nil)
              refine oper_of_list (ops := #[]) rfl ?_
              refine wpList_put_F rfl _ _ _ _ rfl 9 56 lawStr Tryz.underlying113 w.heap.size n2 f (by rfl) (HM5.out.below HB7.out) (by unfold maxLen; omega) _ _ (.string q.1.data.toList) rfl rfl HKY.out ?_
              intro W9 hm9 hg9
              have HJ9 : Hid (MrgJ w w.heap.size (insM out q) (n2 + 1) W9) := Lib.hid (MrgJ.put (HW5.out.trans (HB7.out.mono HW5.out.size)) (Nat.le_refl _) HINC.out HGD.out (HM5.out.below HB7.out) HSF.out (fun x hx => (HSP5.out x hx).on HB7.out) HQG.out (by rw [HBM.out]; exact HSP7.out) hm9 hg9)
              have hSB9 : HeldM gq q.1 (.slice qa q.2.length qc) W9 := by
                have h := HSB.out _ HB7.out
                have hl : gq < w7.heap.size := Nat.lt_of_lt_of_le hgq5 HB7.out.size
                have hne : (some gq : Option Nat) ≠ some w.heap.size := fun e => by injection e with e; omega
                exact ⟨(hg9.cell_far ⟨gq, 0, none⟩ hl hne).trans h.1, (hg9.cell_far ⟨gq, 1, none⟩ hl hne).trans h.2⟩
              clear hm9 hg9
              refine wpList_nil ?_
              show K _ _
              refine hK.out _ _ hSB9 (fun _ => ?_)
              clear hK K hS0 hSB9
              (try simp only [zl1, zl2, zl3, Act.put, zl4, zl5, zl6])
              refine wpAnyH_done (by kernel_rfl) ?_ _
              refine NoPanic.normal ?_
              have HJF : Hid (MrgJ w w.heap.size (mrgK ls i m (j + 1)) (n2 + 1) W9) := Lib.hid (by rw [HSC.out]; exact HJ9.out)
              have hn4 : n2 + 1 ≤ 16 * i + (j + 1) := by omega
              clear HSB HSV HIN HST HBD HB7 HSP7 HJ9
              go_wp2_with fail
              go_roundw
              case rel => exact Lib.hid ⟨j + 1, n2 + 1, hlj, by go_num, hn4, HJF.out⟩
              case measure => simp [intOf]; omega
end Go.Proofs.YtenfkejbndifdaaGreatDoor
