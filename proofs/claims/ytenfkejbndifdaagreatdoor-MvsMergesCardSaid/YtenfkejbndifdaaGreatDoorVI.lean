/- Contract of the reference 34's reach. Contracts of the reference 34: choose, Select, Newest. Contracts of the reference 34: Select, Newest. -/
import Derived.Test.YtenfkejbndifdaaGreatDoorVH
import Derived.Test.YtenfkejbndifdaaGreatDoorUL
import Derived.Test.YtenfkejbndifdaaGreatDoorVG
namespace Go.Proofs.YtenfkejbndifdaaGreatDoor
set_option linter.unusedVariables false
set_option linter.unusedSimpArgs false
open Go Go.RowKit Go.Maps

def FlagsM (W : World) (g : Nat) (l : List Bool) : Prop := W.heap[g]? = some (.cells (l.map Value.bool).toArray 4 (0, 0))
theorem FlagsM.cell {W : World} {g : Nat} {l : List Bool} (h : FlagsM W g l) (i : Nat) (b : Bool) (hb : l[i]? = some b) : W.cell? ⟨g, i, none⟩ = some (.bool b) := by
  rw [cell_of_row _ _ _ _ _ _ h]
  simp [hb]
theorem FlagsM.set {W : World} {g : Nat} {l : List Bool} (h : FlagsM W g l) (i : Nat) (b : Bool) : FlagsM (W.setCell ⟨g, i, none⟩ (.bool b)) g (l.set i b) := by
  have := heap_setCell_same W g i _ _ (.bool b) h
  unfold FlagsM
  rw [this]
  simp [List.map_set]
abbrev bM (d : List Bool) (a : Nat) : Bool := d.getD a false
theorem reqs_src2 {B : Nat} {l : List ReqL} {W : World} {v : Value} (h : ReqsOf B v l W) : ∃ news, Src Tryz.prog 2 26 v l.length news W ∧ ReqXs B l news W := by
  have h2 := h
  obtain ⟨ao, cap, rfl, hh⟩ := h
  by_cases h0 : l = []
  · subst h0
    cases ao with
    | none => exact ⟨[], Src.ofNil _ Tryz.underlying26 cap, fun i q hq => by simp at hq⟩
    | some a => exact ⟨[], Src.ofSlice _ Tryz.underlying26 a 0 cap [] rfl (fun j u hu => by simp at hu) (fun _ h => by cases h), fun i q hq => by simp at hq⟩
  · have hp : 0 < l.length := List.length_pos_iff.2 h0
    obtain ⟨b, off, _, rfl, _⟩ := hh 0 l[0] (by simp [hp])
    obtain ⟨xs, hx1, hx2, hx3, hx4⟩ := reqs_cells2 h2
    exact ⟨xs, Src.ofSlice _ Tryz.underlying26 ⟨b, off, none⟩ l.length cap xs hx1 (fun j u hu => by rw [Addr.add_lit]; exact hx2 j u hu) hx4, hx3⟩
theorem seg_req {W : World} {B : Nat} {v : Value} {l : List ReqL} {xs : List Value} (h : SegC W B 2 v l.length xs) {B0 : Nat} {W0 : World} (hx : ReqXs B0 l xs W0) {i : Nat} (hi : i < l.length) :
    ∃ g off cap r, v = .slice (some ⟨g, off, none⟩) l.length cap ∧ g < W.heap.size ∧ W.cell? ⟨g, off + i * 2, none⟩ = some (.string (l.getD i default).1) ∧ W.cell? ⟨g, off + i * 2 + 1, none⟩ = some r ∧ SpansOf B0 r (l.getD i default).2 W0 := by
  rcases h.val with ⟨ao, _, h0⟩ | ⟨g, off, cap, rfl, _, _, _, hg, h5, _⟩
  · omega
  · obtain ⟨r, a, b, c⟩ := hx i (l.getD i default) (by rw [List.getD_eq_getElem?_getD, List.getElem?_eq_getElem hi]; rfl)
    refine ⟨g, off, cap + 1, r, rfl, hg, (h5 (i * 2) (by omega)).trans a, ?_, c⟩
    rw [Nat.add_assoc]
    exact (h5 (i * 2 + 1) (by omega)).trans b
def RRchR (nw : Bool) (X : List RelL) (roots : List ReqL) (w : World) (e : Ending) (w' : World) : Prop := Below w.heap.size w w' ∧
  ((AllM nw X roots ∧ ∃ g l, e = .returned (.tuple #[.slice (some ⟨g, 0, none⟩) X.length X.length, .bool true]) ∧ w.heap.size ≤ g ∧ FlagsM w' g l ∧ l.length = X.length ∧ ∀ k, bM l k = true ↔ RchM nw X roots k) ∨
    (¬ AllM nw X roots ∧ e = .returned (.tuple #[.slice none 0 0, .bool false])))
structure RrJ (nw : Bool) (X : List RelL) (roots : List ReqL) (w : World) (v iv : Value) (todo : List ReqL) (i : Nat) (s : List Nat) (l : List Bool) (xs : List Value) (tv : Value) (W : World) : Prop where
  law : LawB w v iv W
  rch : RchT nw X roots todo i s
  flg : FlagsM W (w.heap.size + 1) l
  len : l.length = X.length
  mrk : ∀ k, bM l k = true ↔ k ∈ s
  seg : SegC W (w.heap.size + 1 + 1) 2 tv todo.length xs
  els : ReqXs w.heap.size todo xs W
theorem RrJ.below {nw : Bool} {X : List RelL} {roots : List ReqL} {w : World} {v iv : Value} {todo : List ReqL} {i : Nat} {s : List Nat} {l : List Bool} {xs : List Value} {tv : Value} {W W' : World} (h : RrJ nw X roots w v iv todo i s l xs tv W) (hb : Below W.heap.size W W') : RrJ nw X roots w v iv todo i s l xs tv W' :=
  ⟨h.law.below hb, h.rch, (hb.block _ (Array.getElem?_eq_some_iff.1 h.flg).1).trans h.flg, h.len, h.mrk, h.seg.far hb.size (fun k hk => hb.block k (h.seg.lt k hk).2), h.els.below hb h.law.bel.size⟩
theorem bM_set2 {l : List Bool} {s : List Nat} {k : Nat} (hk : k < l.length) (h : ∀ j, bM l j = true ↔ j ∈ s) : ∀ j, bM (l.set k true) j = true ↔ j ∈ k :: s := fun j => by
  unfold bM at h ⊢
  rw [List.getD_eq_getElem?_getD, List.getElem?_set, List.mem_cons, ← h j, List.getD_eq_getElem?_getD]
  by_cases e : k = j
  · subst e
    rw [if_pos rfl, if_pos hk]
    simp
  · rw [if_neg e]
    constructor
    · exact .inr
    · rintro (h1 | h1)
      · exact absurd h1.symm e
      · exact h1
def HeldT (g gq o : Nat) (v iv : Value) (q : ReqL) (rq : Value) (W : World) : Prop := W.cell? ⟨g, 0, none⟩ = some v ∧ W.cell? ⟨g, 1, none⟩ = some iv ∧ W.cell? ⟨gq, o, none⟩ = some (.string q.1) ∧ W.cell? ⟨gq, o + 1, none⟩ = some rq
set_option maxRecDepth 100000 in
set_option maxHeartbeats 16000000 in
theorem rreach34_any (nw : Bool) (v iv rov : Value) (X : List RelL) (roots : List ReqL) (w : World) (hp : PlainP X roots) (hX : X.length ≤ 1000000) (hq : ∀ x ∈ X, RelBd x) (hR : RelsOf w.heap.size v X w)
    (hro : roots.length ≤ 1000000) (hrq : ReqsBd roots) (hRo : ReqsOf w.heap.size rov roots w) :
    Calls Tryz.prog 113 #[.agg #[v, iv], rov, .bool nw] w (RRchR nw X roots w) := by
  have hIX := idx_ok hp.idx
  have HNM := Lib.hid (fun W (q : ReqL) rq (hb : Below w.heap.size w W) (hl : q.2.length ≤ 1000000) (hQ : SpansOf w.heap.size rq q.2 W) => rnamed_any nw v iv X q rq W hX (fun x hx => by
    obtain ⟨i, hi, rfl⟩ := List.mem_iff_getElem.1 hx
    have := (hIX.rel i hi).val
    rwa [List.getD_eq_getElem?_getD, List.getElem?_eq_getElem hi] at this) (hR.on hb) hl (hQ.mono hb.size))
  have HP := Lib.hid hp
  have hX256 := hIX.len
  have HBD := Lib.hid hq
  obtain ⟨ao, cap, rv, rfl, hrv⟩ := hR.rv
  have HRV := Lib.hid hrv
  have HRQ := Lib.hid hrq
  have HRO := Lib.hid hRo
  have h16 : roots.length ≤ 16 := (reqs_ok hp.roots.1).len
  obtain ⟨ra, rc, rfl⟩ : ∃ ra rc, rov = .slice ra roots.length rc := by obtain ⟨a, c, e, _⟩ := hRo; exact ⟨a, c, e⟩
  clear hR hRo hrq hq hrv hp hIX
  obtain ⟨i0, hi0', hz0, hz1, hz2⟩ := info_parts info_reqs
  have hmk := make_bools X.length (by omega)
  have HL0 : Hid (LawB w (.slice ao X.length cap) iv ((w.alloc (.cells #[.slice ao X.length cap, iv] 25)).alloc (.cells (Array.replicate X.length (.bool false)) 4))) := Lib.hid ((LawB.start w _ iv).below (belQ _ _))
  have HF0 : Hid (FlagsM ((w.alloc (.cells #[.slice ao X.length cap, iv] 25)).alloc (.cells (Array.replicate X.length (.bool false)) 4)) (w.heap.size + 1) (List.replicate X.length false)) := Lib.hid (by
    have := World.alloc_heap_new (w.alloc (.cells #[.slice ao X.length cap, iv] 25)) (.cells (Array.replicate X.length (.bool false)) 4)
    rw [World.size_alloc] at this
    unfold FlagsM
    rw [this]
    simp)
  have hsz : ((w.alloc (.cells #[.slice ao X.length cap, iv] 25)).alloc (.cells (Array.replicate X.length (.bool false)) 4)).heap.size = w.heap.size + 1 + 1 := by simp
  go_enter Tryz.func113, Tryz.ntmps113
  go_upto_region 2 with fail
  generalize (w.alloc (.cells #[.slice ao X.length cap, iv] 25)).alloc (.cells (Array.replicate X.length (.bool false)) 4) = W at *
  have HSZ := Lib.hid hsz
  clear hmk hsz
  have HSZA : Hid ((W.alloc (.cells #[] 58)).heap.size = w.heap.size + 1 + 1 + 1) := Lib.hid (by simp [HSZ.out])
  have HLA := Lib.hid (HL0.out.below (belQ W (.cells #[] 58)))
  have HFA : Hid (FlagsM (W.alloc (.cells #[] 58)) (w.heap.size + 1) (List.replicate X.length false)) := Lib.hid (((belQ W (.cells #[] 58)).block _ (Array.getElem?_eq_some_iff.1 HF0.out).1).trans HF0.out)
  obtain ⟨news, hsrc, hels⟩ := reqs_src2 (HRO.out.below HLA.out.bel (Nat.le_refl _))
  have HSRC := Lib.hid hsrc
  have HELS := Lib.hid hels
  clear hsrc hels
  go_wp2_with (at_builtin; refine wpList_append_segC _ rfl _ _ 26 26 rfl 58 i0 _ 40 2 Tryz.underlying26 hi0' hz0 hz1 hz2 rfl (w.heap.size + 1 + 1) (.slice (some ⟨W.heap.size, 0, none⟩) 0 0) 0 [] (by rfl) (SegC.nil _ _ _ _) (by have := HSZA.out; omega) roots.length news HSRC.out (by unfold maxLen; omega) (by omega) ?_; intro v12 W12 h12 g12 hb12; have H12 := Lib.hid h12; have G12 := Lib.hid g12; obtain ⟨va12, vc12, rfl⟩ := h12.shape; clear h12 g12 hb12)
  have HBG : Hid (Below (W.alloc (.cells #[] 58)).heap.size (W.alloc (.cells #[] 58)) W12) := Lib.hid ((Below.refl _ _).grown G12.out (Nat.le_refl _) (fun b hb => by cases hb))
  have HJ0 : Hid (RrJ nw X roots w (.slice ao X.length cap) iv roots 0 [] (List.replicate X.length false) news (.slice va12 (0 + roots.length) vc12) W12) := Lib.hid ⟨HLA.out.below HBG.out, RchT.start, (HBG.out.block _ (Array.getElem?_eq_some_iff.1 HFA.out).1).trans HFA.out, by simp, fun k => by
      unfold bM
      rw [List.getD_eq_getElem?_getD, List.getElem?_replicate]
      split <;> simp, by simpa using H12.out, HELS.out.below HBG.out HLA.out.bel.size⟩
  rw [Nat.zero_add] at HJ0
  clear HSRC HELS H12 G12 HBG HLA HFA HL0 HF0 HSZA
  go_wp2_with fail
  go_loopw [9, 10] (fun tv p wr => Hid (∃ (todo : List ReqL) (i : Nat) (s : List Nat) (l : List Bool) (xs : List Value), p = .int .i64 ((i : Nat) : Int) ∧ RrJ nw X roots w (.slice ao X.length cap) iv todo i s l xs tv wr)) (fun _ p _ => roots.length + 16 * X.length - (intOf p).toNat)
  case atStart => exact Lib.hid ⟨roots, 0, [], _, _, rfl, by simpa using HJ0.out⟩
  case round =>
    obtain ⟨todo, i, s, l, xs, rfl, hj⟩ := hrel.out
    have HJ := Lib.hid hj
    have hle := hj.rch.le
    have hlen := hj.rch.len
    have hsl := hj.rch.slen
    obtain ⟨ta, tc, rfl⟩ := hj.seg.shape
    have hll := hj.len
    clear hrel hj HJ0
    by_cases hlt : i < todo.length
    case neg =>
      have hii : i = todo.length := Nat.le_antisymm hle (Nat.le_of_not_lt hlt)
      subst hii
      have HE := Lib.hid HJ.out.rch.end
      go_wp2_with fail
      go_ret2
      exact ⟨HJ.out.law.bel, .inl ⟨HE.out.1, _, l, rfl, Nat.le_succ _, HJ.out.flg, HJ.out.len, fun k => (HJ.out.mrk k).trans (HE.out.2 k).symm⟩⟩
    case pos =>
      obtain ⟨gq, oq, cq, r, e1, hgq, q0, q1, hsp⟩ := seg_req HJ.out.seg HJ.out.els hlt
      injection e1 with e1 e2 e3
      subst e1 e3
      have hqb : (todo.getD i default).2.length ≤ 1000000 := by
        rcases HJ.out.rch.src _ (getD_memQ hlt) with hq | ⟨k, hk, hq⟩
        · exact (HRQ.out _ hq).2
        · have hkl := (HJ.out.rch.rch k hk).lt.1
          rw [List.getD_eq_getElem?_getD (l := X), List.getElem?_eq_getElem hkl] at hq
          exact ((HBD.out _ (List.getElem_mem hkl)).reqs _ hq).2
      have HQI := Lib.hid (show todo.getD i default = todo.getD i default from rfl)
      obtain ⟨q, hq⟩ : ∃ q, todo.getD i default = q := ⟨_, rfl⟩
      rw [hq] at q0 hsp hqb
      have HQ := Lib.hid hq
      clear hq HQI
      have HSP := Lib.hid hsp
      obtain ⟨sa, sc, rfl⟩ : ∃ a c, r = .slice a q.2.length c := by obtain ⟨a, c, e, _⟩ := hsp; exact ⟨a, c, e⟩
      clear hsp
      have hi0 : (0 : Int) ≤ (i : Int) := Int.natCast_nonneg i
      have hi1 : (i : Int) < (todo.length : Int) := Int.ofNat_lt.2 hlt
      have HSB : Hid (∀ W', Below wr.heap.size wr W' → HeldT w.heap.size gq (oq + i * 2) (.slice ao X.length cap) iv q (.slice sa q.2.length sc) W') := Lib.hid (fun W' hb => ⟨(HJ.out.law.below hb).c0, (HJ.out.law.below hb).c1, (hb.cell (p := ⟨gq, oq + i * 2, none⟩) hgq).trans q0, (hb.cell (p := ⟨gq, oq + i * 2 + 1, none⟩) hgq).trans q1⟩)
      have HNQ := Lib.hid (fun W' (hb : Below wr.heap.size wr W') => HNM.out W' q (.slice sa q.2.length sc) (HJ.out.law.bel.trans (hb.mono HJ.out.law.bel.size)) hqb (HSP.out.below hb HJ.out.law.bel.size))
      clear q0 q1
      go_upto_region 6 with fail
      refine wp_region_noPanic ?_
      refine wp_region_held_drew (S := HeldT w.heap.size gq (oq + i * 2) (.slice ao X.length cap) iv q (.slice sa q.2.length sc)) (by kernel_rfl) (HSB.out _ (Below.refl _ _).drew) (fun hS0 => ?_)
      (refine zl3 0 ?_ rfl ?_ ?_; rotate_left; (· (rintro w ⟨c0, c1, q0, q1⟩; go_simp; try with_reducible rfl)); (try simp only [zl1]))
      (refine zl3 1 ?_ rfl ?_ ?_; rotate_left; (· (rintro w ⟨c0, c1, q0, q1⟩; go_simp; try with_reducible rfl)); (try simp only [zl1]))
      (refine zl3 2 ?_ rfl ?_ ?_; rotate_left; (· (rintro w ⟨c0, c1, q0, q1⟩; go_simp; try with_reducible rfl)); (try simp only [zl1]))
      (refine zl3 3 ?_ rfl ?_ ?_; rotate_left; (· (rintro w ⟨c0, c1, q0, q1⟩; go_simp; try with_reducible rfl)); (try simp only [zl1]))
      (refine zl3 4 ?_ rfl ?_ ?_; rotate_left; (· (rintro w ⟨c0, c1, q0, q1⟩; go_simp; try with_reducible rfl)); (try simp only [zl1]))
      (refine zl3 5 ?_ rfl ?_ ?_; rotate_left; (· (rintro w ⟨c0, c1, q0, q1⟩; go_simp; try with_reducible rfl)); (try simp only [zl1]))
      refine wpAnyH_ready (rs := [6]) (by kernel_rfl) (by simp) (AllReadyH.cons rfl (fun K hK => ?_) AllReadyH.nil)
      go_simp
      refine (HNQ.out _ (Below.refl wr.heap.size wr).drew).mono ?_
      rintro e w1 ⟨rfl, hb1⟩
      have HB1 := Lib.hid ((Below.refl wr.heap.size wr).drew.trans hb1)
      clear hS0
      have hS0 := HSB.out _ HB1.out
      refine hK.out _ _ hS0 (fun _ => ?_)
      clear hK K hb1
      (try simp only [zl1])
      (refine zl3 7 ?_ rfl ?_ ?_; rotate_left; (· (rintro w ⟨c0, c1, q0, q1⟩; go_simp; try with_reducible rfl)); (try simp only [zl1]))
      refine wpAnyH_done (by kernel_rfl) ?_ _
      refine NoPanic.normal ?_
      have HJ1 := Lib.hid (HJ.out.below HB1.out)
      clear HSB HNQ HB1 hS0 HJ
      cases hn : namedI nw X q with
      | none =>
        have HF := Lib.hid (HJ1.out.rch.fail hlt (by rw [HQ.out]; exact hn))
        clear hn
        go_wp2_with fail
        go_ret2
        exact ⟨HJ1.out.law.bel, .inr ⟨HF.out, rfl⟩⟩
      | some k =>
        have HN := Lib.hid (show namedI nw X (todo.getD i default) = some k by rw [HQ.out]; exact hn)
        have hkX := (candI_mem.1 (named_mem hn)).1
        clear hn
        have hkl : k < l.length := by rw [hll]; exact hkX
        obtain ⟨fb, hfb⟩ : ∃ fb, l[k] = fb := ⟨_, rfl⟩
        have hfc := HJ1.out.flg.cell k fb (by rw [List.getElem?_eq_getElem hkl, hfb])
        have HFK : Hid (fb = true ↔ k ∈ s) := Lib.hid (by rw [← HJ1.out.mrk k, ← hfb]; unfold bM; rw [List.getD_eq_getElem?_getD, List.getElem?_eq_getElem hkl]; rfl)
        have hk0 : (0 : Int) ≤ (k : Int) := Int.natCast_nonneg k
        have hk1 : (k : Int) < (X.length : Int) := Int.ofNat_lt.2 hkX
        have hkneg : ¬ (k : Int) < 0 := by omega
        have hkdec : decide ((k : Int) < 0) = false := decide_eq_false hkneg
        simp only [optI]
        clear hfb
        cases fb with
        | true =>
          have HRS := Lib.hid (HJ1.out.rch.skip hlt HN.out (HFK.out.1 rfl))
          have HJ2 : Hid (RrJ nw X roots w (.slice ao X.length cap) iv todo (i + 1) s l xs (.slice (some ⟨gq, oq, none⟩) todo.length tc) w1) := Lib.hid { HJ1.out with rch := HRS.out }
          go_wp2_with fail
          go_roundw
          case rel => exact Lib.hid ⟨todo, i + 1, s, l, xs, by go_num, HJ2.out⟩
          case measure => simp [intOf]; omega
        | false =>
          have HNS := Lib.hid (show k ∉ s from fun h => by have := HFK.out.2 h; cases this)
          have hff : w1.frozen? ⟨w.heap.size + 1, k, none⟩ = false := frozen_of_row _ _ k _ _ HJ1.out.flg
          obtain ⟨b, off, e1, hb, hcs, hrq⟩ := HRV.out k _ (List.getElem?_eq_getElem hkX)
          subst e1
          have HGD : Hid (X.getD k default = X[k]) := Lib.hid (by rw [List.getD_eq_getElem?_getD, List.getElem?_eq_getElem hkX]; rfl)
          have h16k : X[k].reqs.length ≤ 16 := by have := (reqs_ok (HP.out.up hkX).1).len; rwa [HGD.out] at this
          have HMK := Lib.hid (HJ1.out.rch.mark hlt HN.out HNS.out (by rw [HGD.out]; exact h16k))
          rw [HGD.out] at HMK
          have hsl2 := HMK.out.slen
          have hlen2 := HMK.out.len
          have hbs : Below w.heap.size w (w1.setCell ⟨w.heap.size + 1, k, none⟩ (.bool true)) := HJ1.out.law.bel.setCell (by exact Nat.le_succ _) _
          have hrq := hrq.below hbs (Nat.le_refl _)
          have hd4 := hcs.below hbs hb
          generalize X[k] = x at *
          generalize rv k = r at *
          obtain ⟨news, hsrc, hels⟩ := reqs_src2 hrq
          have HSRC := Lib.hid hsrc
          have HELS := Lib.hid hels
          obtain ⟨xa, xc, rfl⟩ : ∃ a c, r = .slice a x.reqs.length c := by obtain ⟨a, c, e, _⟩ := hrq; exact ⟨a, c, e⟩
          have d4 := hd4.2.2.2.2.1
          have HLS : Hid (LawB w (.slice (some ⟨b, off, none⟩) X.length cap) iv (w1.setCell ⟨w.heap.size + 1, k, none⟩ (.bool true))) := Lib.hid ⟨hbs, (heap_setCell_other _ _ _ _ (fun e => by have e : w.heap.size = w.heap.size + 1 := e; omega)).trans HJ1.out.law.idx⟩
          have HFS := Lib.hid (HJ1.out.flg.set k true)
          have HSG : Hid (SegC (w1.setCell ⟨w.heap.size + 1, k, none⟩ (.bool true)) (w.heap.size + 1 + 1) 2 (.slice (some ⟨gq, oq, none⟩) todo.length tc) todo.length xs) := Lib.hid (HJ1.out.seg.far (by simp) (fun b hb => heap_setCell_other w1 ⟨w.heap.size + 1, k, none⟩ b (.bool true) (fun e => by have h1 := (HJ1.out.seg.lt b hb).1; have e : b = w.heap.size + 1 := e; omega)))
          have HEL2 := Lib.hid (HJ1.out.els.below (B' := w.heap.size) ((Below.refl _ _).setCell (by exact Nat.le_succ _) (Value.bool true) : Below w.heap.size w1 (w1.setCell ⟨w.heap.size + 1, k, none⟩ (.bool true))) (Nat.le_refl _))
          have c0 := HLS.out.c0
          have hsz9 : w.heap.size + 1 + 1 ≤ (w1.setCell ⟨w.heap.size + 1, k, none⟩ (.bool true)).heap.size := by rw [World.size_setCell]; exact (Array.getElem?_eq_some_iff.1 HJ1.out.flg).1
          clear hsrc hels hcs hd4 hrq HRV
          go_wp2_with (at_builtin; refine wpList_append_segC _ rfl _ _ 26 26 rfl 58 i0 _ 40 2 Tryz.underlying26 hi0' hz0 hz1 hz2 rfl (w.heap.size + 1 + 1) (.slice (some ⟨gq, oq, none⟩) todo.length tc) todo.length xs (by rfl) HSG.out hsz9 x.reqs.length news HSRC.out (by unfold maxLen; omega) (by omega) ?_; intro v12 W12 h12 g12 hb12; have H12 := Lib.hid h12; have G12 := Lib.hid g12; obtain ⟨va12, vc12, rfl⟩ := h12.shape; clear h12 g12 hb12)
          have HBG : Hid (Below (w.heap.size + 1 + 1) (w1.setCell ⟨w.heap.size + 1, k, none⟩ (.bool true)) W12) := Lib.hid ((Below.refl _ _).grown G12.out hsz9 (fun b hb => (HSG.out.lt b hb).1))
          have hfl : ∀ g, g < w.heap.size + 1 + 1 → W12.heap[g]? = (w1.setCell ⟨w.heap.size + 1, k, none⟩ (.bool true)).heap[g]? := fun g hg => HBG.out.block g hg
          have HJ2 : Hid (RrJ nw X roots w (.slice (some ⟨b, off, none⟩) X.length cap) iv (todo ++ x.reqs) (i + 1) (k :: s) (l.set k true) (xs ++ news) (.slice va12 (todo.length + x.reqs.length) vc12) W12) := Lib.hid
            { law := ⟨HLS.out.bel.trans (HBG.out.mono (by omega)), (hfl _ (by omega)).trans HLS.out.idx⟩
              rch := HMK.out
              flg := (hfl _ (by omega)).trans HFS.out
              len := by rw [List.length_set]; exact hll
              mrk := bM_set2 hkl HJ1.out.mrk
              seg := by rw [List.length_append]; exact H12.out
              els := ReqXs.join (HEL2.out.below (HBG.out.mono (by omega) : Below w.heap.size _ _) (Nat.le_refl _)) HSG.out.len (HELS.out.below (HBG.out.mono (by omega) : Below w.heap.size _ _) (Nat.le_refl _)) }
          clear hfl HBG H12 G12 HSG HFS HLS HEL2 HSRC HELS
          go_wp2_with fail
          go_roundw
          case rel => exact Lib.hid ⟨todo ++ x.reqs, i + 1, k :: s, l.set k true, xs ++ news, by go_num, HJ2.out⟩
          case measure => simp [intOf]; omega
end Go.Proofs.YtenfkejbndifdaaGreatDoor

namespace Go.Proofs.YtenfkejbndifdaaGreatDoor
set_option linter.unusedVariables false
set_option linter.unusedSimpArgs false
open Go Go.RowKit Go.Maps

noncomputable def topS (nw : Bool) (X : List RelL) (roots : List ReqL) (k : Nat) : List SelL := (topK nw X roots k).map fun i => keyL (X.getD i default)
theorem topS_zero {nw : Bool} {X : List RelL} {roots : List ReqL} : topS nw X roots 0 = [] := by unfold topS; rw [topK_zero]; rfl
theorem topS_all {nw : Bool} {X : List RelL} {roots : List ReqL} : topS nw X roots X.length = selL nw X roots := by unfold topS selL; rw [topK_all]
theorem topS_len {nw : Bool} {X : List RelL} {roots : List ReqL} {k : Nat} : (topS nw X roots k).length ≤ k := by
  unfold topS topK
  rw [List.length_map]
  exact Nat.le_trans (List.length_filter_le _ _) (by simp)
theorem topS_no {nw : Bool} {X : List RelL} {roots : List ReqL} {k : Nat} (h : ¬ RchM nw X roots k) : topS nw X roots (k + 1) = topS nw X roots k := by unfold topS; rw [topK_no h]
theorem topS_new {nw : Bool} {X : List RelL} {roots : List ReqL} {k : Nat} (hX : IdxOk X) (hk : k < X.length) (h : RchM nw X roots k) (hn : ∀ y, (topS nw X roots k).getLast? = some y → y.1 ≠ (X.getD k default).path) : topS nw X roots (k + 1) = topS nw X roots k ++ [keyL (X.getD k default)] := by
  unfold topS at hn ⊢
  rw [topK_new hX hk h (fun m hm e => hn (keyL (X.getD m default)) (by rw [List.getLast?_map, hm]; rfl) e), List.map_append]
  rfl
theorem topS_same {nw : Bool} {X : List RelL} {roots : List ReqL} {k : Nat} (h : RchM nw X roots k) {y : SelL} (hl : (topS nw X roots k).getLast? = some y) (hp : y.1 = (X.getD k default).path) : topS nw X roots (k + 1) = (topS nw X roots k).dropLast ++ [keyL (X.getD k default)] := by
  unfold topS at hl ⊢
  rw [List.getLast?_map] at hl
  obtain ⟨m, hm, e⟩ := Option.map_eq_some_iff.1 hl
  subst e
  rw [topK_same h hm hp, List.map_append, List.map_dropLast]
  rfl
def setSel (W : World) (g o : Nat) (y : SelL) : World := (((W.setCell ⟨g, o, none⟩ (.string y.1)).setCell ⟨g, o + 1, none⟩ (.int .i64 y.2.1)).setCell ⟨g, o + 2, none⟩ (.int .i64 y.2.2.1)).setCell ⟨g, o + 3, none⟩ (.int .i64 y.2.2.2)
theorem setSel_last {W : World} {B g cap : Nat} {l : List SelL} {y z : SelL} (h : W.ownsRow B 43 4 (.slice (some ⟨g, 0, none⟩) (l.length + 1) cap) (l.length + 1) (selCells (l ++ [y]))) :
    (setSel W g (l.length * 4) z).ownsRow B 43 4 (.slice (some ⟨g, 0, none⟩) (l.length + 1) cap) (l.length + 1) (selCells (l ++ [z])) ∧ W.grownBy (setSel W g (l.length * 4) z) (some g) := by
  unfold setSel
  obtain ⟨h1, g1⟩ := h.stored (l.length * 4) (.string z.1)
  obtain ⟨h2, g2⟩ := h1.stored (l.length * 4 + 1) (.int .i64 z.2.1)
  obtain ⟨h3, g3⟩ := h2.stored (l.length * 4 + 2) (.int .i64 z.2.2.1)
  obtain ⟨h4, g4⟩ := h3.stored (l.length * 4 + 3) (.int .i64 z.2.2.2)
  refine ⟨?_, grownBy_tr (grownBy_tr (grownBy_tr g1 g2) g3) g4⟩
  have hl := selCells_len l
  have e : ((((selCells (l ++ [y])).set (l.length * 4) (.string z.1)).set (l.length * 4 + 1) (.int .i64 z.2.1)).set (l.length * 4 + 2) (.int .i64 z.2.2.1)).set (l.length * 4 + 3) (.int .i64 z.2.2.2) = selCells (l ++ [z]) := by
    rw [selCells_snoc, selCells_snoc, ← hl]
    rw [List.set_append_right _ _ (Nat.le_refl _), Nat.sub_self]
    rw [List.set_append_right _ _ (by omega), List.set_append_right _ _ (by omega), List.set_append_right _ _ (by omega)]
    congr 1
    rw [show (selCells l).length + 1 - (selCells l).length = 1 by omega, show (selCells l).length + 2 - (selCells l).length = 2 by omega, show (selCells l).length + 3 - (selCells l).length = 3 by omega]
    rfl
  rw [e] at h4
  exact h4
structure RcJ (w : World) (v iv : Value) (gf : Nat) (fl : List Bool) (L : List SelL) (ov : Value) (W : World) : Prop where
  law : LawB w v iv W
  flg : FlagsM W gf fl
  out : W.ownsRow (gf + 1) 43 4 ov L.length (selCells L)
theorem RcJ.below {w : World} {v iv : Value} {gf : Nat} {fl : List Bool} {L : List SelL} {ov : Value} {W W' : World} (h : RcJ w v iv gf fl L ov W) (hb : Below W.heap.size W W') : RcJ w v iv gf fl L ov W' :=
  ⟨h.law.below hb, (hb.block _ (Array.getElem?_eq_some_iff.1 h.flg).1).trans h.flg, own_on h.out hb⟩
set_option maxRecDepth 100000 in
set_option maxHeartbeats 16000000 in
theorem rchoose34_any (nw : Bool) (v iv rov : Value) (X : List RelL) (roots : List ReqL) (w : World) (hX : X.length ≤ 1000000) (hq : ∀ x ∈ X, RelBd x) (hR : RelsOf w.heap.size v X w)
    (hro : roots.length ≤ 1000000) (hrq : ReqsBd roots) (hRo : ReqsOf w.heap.size rov roots w) :
    Calls Tryz.prog 69 #[.agg #[v, iv], rov, .bool nw] w (SelR nw X roots w) := by
  have HPL := Lib.hid (fun W (hb : Below w.heap.size w W) => rPlain34_any v iv rov X roots W hX hq (hR.on hb) hro hrq (hRo.on hb))
  have HRC := Lib.hid (fun W (hp : PlainP X roots) (hb : Below w.heap.size w W) => rreach34_any nw v iv rov X roots W hp hX hq (hR.on hb) hro hrq (hRo.on hb))
  obtain ⟨ao, cap, rv, rfl, hrv⟩ := hR.rv
  have HRV := Lib.hid hrv
  obtain ⟨ra, rc, rfl⟩ : ∃ ra rc, rov = .slice ra roots.length rc := by obtain ⟨a, c, e, _⟩ := hRo; exact ⟨a, c, e⟩
  clear hR hRo hrq hq hrv
  have HB0 := Lib.hid (LawB.start w (.slice ao X.length cap) iv)
  go_enter Tryz.func69, Tryz.ntmps69
  go_upto_region 1 with fail
  generalize w.alloc (.cells #[.slice ao X.length cap, iv] 25) = W at *
  have c0 := HB0.out.c0
  have c1 := HB0.out.c1
  go_wp2_with fail
  refine (HPL.out _ HB0.out.bel).mono ?_
  rintro e w1 ⟨hb1, bp, rfl, hbp⟩
  have HB1 := Lib.hid (HB0.out.below hb1)
  have HBP := Lib.hid hbp
  clear hb1 hbp c0 c1 HPL HB0
  cases bp with
  | false =>
    have HSM := Lib.hid (selM_arg (nw := nw) (fun h => by have := HBP.out.2 h; cases this))
    go_wp2_with fail
    go_ret2
    unfold SelR
    rw [HSM.out]
    exact ⟨HB1.out.bel, _, rfl, ⟨_, _, rfl, fun i q hq => by simp at hq⟩⟩
  | true =>
    have HPP := Lib.hid (HBP.out.1 rfl)
    have hX256 := (idx_ok HPP.out.idx).len
    have HRX := Lib.hid (HRC.out w1 HPP.out HB1.out.bel)
    have c0 := HB1.out.c0
    have c1 := HB1.out.c1
    clear HBP HRC
    go_wp2_with fail
    refine HRX.out.mono ?_
    rintro e w2 ⟨hb2, h2⟩
    have HB2 := Lib.hid (HB1.out.below hb2)
    clear hb2 c0 c1 HRX
    rcases h2 with ⟨hall, gf, fl, rfl, hgf1, hfl, hfn, hfm⟩ | ⟨hno, rfl⟩
    case inr =>
      have HSM := Lib.hid (selM_not HPP.out hno)
      clear hno
      go_wp2_with fail
      go_ret2
      unfold SelR
      rw [HSM.out]
      exact ⟨HB2.out.bel, _, rfl, ⟨_, _, rfl, fun i q hq => by simp at hq⟩⟩
    have HSM := Lib.hid (selM_ok HPP.out hall)
    have HGF := Lib.hid (Nat.lt_of_lt_of_le HB1.out.lt hgf1)
    have HFM := Lib.hid hfm
    have HFN := Lib.hid hfn
    have HIX := Lib.hid (idx_ok HPP.out.idx)
    have HJ0 : Hid (RcJ w (.slice ao X.length cap) iv gf fl (topS nw X roots 0) (.slice (some ⟨w2.heap.size, 0, none⟩) 0 0) (w2.alloc (.cells #[] 43))) := Lib.hid (by
      have hlt := (Array.getElem?_eq_some_iff.1 hfl).1
      refine ⟨HB2.out.below (belQ _ _), ((belQ w2 (.cells #[] 43)).block _ hlt).trans hfl, ?_⟩
      rw [topS_zero]
      exact World.ownsRow_made w2 #[] 0 hlt (by decide) rfl)
    obtain ⟨i0, hi0', hz0, hz1, hz2⟩ := info_parts info_sel
    clear hall hfl hfm HB2 hgf1
    go_upto_region 7 with fail
    generalize hg2 : w2.heap.size = g2 at *
    generalize w2.alloc (.cells #[] 43) = W2 at *
    clear hg2
    go_wp2_with fail
    go_loopw [10, 11] (fun ov p wr => Hid (∃ k : Nat, k ≤ X.length ∧ p = .int .i64 (k : Int) ∧ RcJ w (.slice ao X.length cap) iv gf fl (topS nw X roots k) ov wr)) (fun _ p _ => X.length - (intOf p).toNat)
    case atStart => exact Lib.hid ⟨0, Nat.zero_le _, rfl, HJ0.out⟩
    case round =>
      obtain ⟨k, hk, rfl, hj⟩ := hrel.out
      have HJ := Lib.hid hj
      clear hrel hj
      obtain ⟨og, oc, rfl⟩ := own_any HJ.out.out
      by_cases hlk : k < X.length
      case neg =>
        have hkk : k = X.length := Nat.le_antisymm hk (Nat.le_of_not_lt hlk)
        subst hkk
        go_wp2_with fail
        go_ret2
        unfold SelR
        rw [HSM.out]
        exact ⟨HJ.out.law.bel, _, rfl, by rw [← topS_all]; exact own_sels HJ.out.out⟩
      case pos =>
        have hkf : k < fl.length := by rw [HFN.out]; exact hlk
        obtain ⟨fb, hfb⟩ : ∃ fb, fl[k] = fb := ⟨_, rfl⟩
        have hfc := HJ.out.flg.cell k fb (by rw [List.getElem?_eq_getElem hkf, hfb])
        have HFK : Hid (fb = true ↔ RchM nw X roots k) := Lib.hid (by rw [← HFM.out k, ← hfb]; unfold bM; rw [List.getD_eq_getElem?_getD, List.getElem?_eq_getElem hkf]; rfl)
        have hk1 : (0 : Int) ≤ (k : Int) := Int.natCast_nonneg k
        have hk2 : (k : Int) < (X.length : Int) := Int.ofNat_lt.2 hlk
        have hk3 : (k : Int) < (fl.length : Int) := Int.ofNat_lt.2 hkf
        clear hfb
        cases fb with
        | false =>
          have HTN := Lib.hid (topS_no (nw := nw) (X := X) (roots := roots) (k := k) (fun h => by have := HFK.out.2 h; cases this))
          go_wp2_with fail
          go_roundw
          case rel => exact Lib.hid ⟨k + 1, hlk, by go_num, by rw [HTN.out]; exact HJ.out⟩
          case measure => simp [intOf]; omega
        | true =>
          have HRK := Lib.hid (HFK.out.1 rfl)
          obtain ⟨b, off, e1, hb, hcs, _⟩ := HRV.out k _ (List.getElem?_eq_getElem hlk)
          subst e1
          have HGD : Hid (X.getD k default = X[k]) := Lib.hid (by rw [List.getD_eq_getElem?_getD, List.getElem?_eq_getElem hlk]; rfl)
          have hcs := hcs.below HJ.out.law.bel hb
          have HNEW : Hid ((∀ y, (topS nw X roots k).getLast? = some y → y.1 ≠ X[k].path) → topS nw X roots (k + 1) = topS nw X roots k ++ [keyL X[k]]) := Lib.hid (fun h => by
            have := topS_new HIX.out hlk HRK.out (by rw [HGD.out]; exact h)
            rwa [HGD.out] at this)
          have HSAME : Hid (∀ y, (topS nw X roots k).getLast? = some y → y.1 = X[k].path → topS nw X roots (k + 1) = (topS nw X roots k).dropLast ++ [keyL X[k]]) := Lib.hid (fun y hy e => by
            have := topS_same HRK.out hy (by rw [HGD.out]; exact e)
            rwa [HGD.out] at this)
          have hlen : (topS nw X roots k).length ≤ k := topS_len
          generalize X[k] = x at *
          generalize rv k = r at *
          generalize topS nw X roots k = L at *
          obtain ⟨d0, d1, d2, d3, _⟩ := hcs
          have c0 := HJ.out.law.c0
          clear HFK HGD
          have hwl := HJ.out.law.lt
          have hbw : b < wr.heap.size := Nat.lt_of_lt_of_le hb HJ.out.law.bel.size
          go_upto_region 11 with fail
          go_cut [12] from 39 to 51 (fun s12 wx => ∃ gx : Nat, s12 = .pointer (some ⟨gx, 0, none⟩) ∧ Hid (SelBox wx gx (keyL x) ∧ Below wr.heap.size wr wx))
          case first =>
            go_region
            all_goals
              go_wp2_with fail
              go_meet
              exact ⟨_, rfl, Lib.hid ⟨World.alloc_heap_new _ _, (belQ _ _).drew⟩⟩
          case rest =>
            obtain ⟨gx, rfl, HX⟩ := hcut
            generalize wc = w5 at *
            have HJ5 := Lib.hid (HJ.out.below HX.out.2)
            have HX5 := Lib.hid HX.out.1
            clear d0 d1 d2 d3 c0 HJ HX
            generalize hkx : keyL x = z at *
            have hzp : z.1 = x.path := by rw [← hkx]; rfl
            rw [← hzp] at HNEW HSAME
            have hgx : gx < w5.heap.size := (Array.getElem?_eq_some_iff.1 HX5.out).1
            clear hkx hzp
            go_upto_region 13 with fail
            cases hgl : L.getLast? with
            | none =>
              have hL0 := List.getLast?_eq_none_iff.1 hgl
              subst hL0
              have HNX := Lib.hid (HNEW.out (fun y hy => by cases hy))
              clear hgl
              have x0 : w5.cell? ⟨gx, 0, none⟩ = some (.string z.1) := cell_of_row _ _ 0 _ _ _ HX5.out
              simp only [List.length_nil]
              go_quiet (fail)
              have hbq : Below w5.heap.size w5 (w5.drewN nq) := below_drewNV (Below.refl _ _) nq
              have HJ6 := Lib.hid (HJ5.out.below hbq)
              have HX6 := Lib.hid ((hbq.block gx hgx).trans HX5.out)
              clear hbq x0 HJ5 HX5 hgx
              generalize w5.drewN nq = w6 at *
              have x0 : w6.cell? ⟨gx, 0, none⟩ = some (.string z.1) := cell_of_row _ _ 0 _ _ _ HX6.out
              have x1 : w6.cell? ⟨gx, 1, none⟩ = some (.int .i64 z.2.1) := cell_of_row _ _ 1 _ _ _ HX6.out
              have x2 : w6.cell? ⟨gx, 2, none⟩ = some (.int .i64 z.2.2.1) := cell_of_row _ _ 2 _ _ _ HX6.out
              have x3 : w6.cell? ⟨gx, 3, none⟩ = some (.int .i64 z.2.2.2) := cell_of_row _ _ 3 _ _ _ HX6.out
              have HN9 : Hid ((w6.alloc (.cells #[.string z.1, .int .i64 z.2.1, .int .i64 z.2.2.1, .int .i64 z.2.2.2] 43)).heap[w6.heap.size]? = some (.cells #[.string z.1, .int .i64 z.2.1, .int .i64 z.2.2.1, .int .i64 z.2.2.2] 43)) := Lib.hid (heap_alloc_new w6 _)
              have HJ7 := Lib.hid (HJ6.out.below (belQ w6 (.cells #[.string z.1, .int .i64 z.2.1, .int .i64 z.2.2.1, .int .i64 z.2.2.2] 43)))
              have HO7 : Hid ((w6.alloc (.cells #[.string z.1, .int .i64 z.2.1, .int .i64 z.2.2.1, .int .i64 z.2.2.2] 43)).ownsRow (gf + 1) 43 4 (Value.slice og 0 oc) (0) (selCells (([] : List SelL)))) := Lib.hid (by have := HJ7.out.out; exact this)
              have hgs : gf + 1 ≤ (w6.alloc (.cells #[.string z.1, .int .i64 z.2.1, .int .i64 z.2.2.1, .int .i64 z.2.2.2] 43)).heap.size := (Array.getElem?_eq_some_iff.1 HJ7.out.flg).1
              go_wp2_with (at_builtin; refine wpList_append_own _ rfl _ _ 27 rfl (gf + 1) 43 i0 _ 4 40 Tryz.underlying27 hi0' hz0 hz1 hz2 rfl (by decide) (Value.slice og 0 oc) _ _ (by rfl) HO7.out ⟨w6.heap.size, 0, none⟩ 1 1 [.string z.1, .int .i64 z.2.1, .int .i64 z.2.2.1, .int .i64 z.2.2.2] (by rfl) (by rfl) (World.news_of_block HN9.out) (by simp [Value.oneCell']) (by unfold maxLen; omega) (by omega) hgs ?_; intro v' wB hown' hgrow _; have HOW := Lib.hid hown'; have HGR := Lib.hid hgrow; clear hown' hgrow; obtain ⟨g3, gc3, rfl⟩ := ownsRow_succ HOW.out)
              have HJ8 : Hid (∀ v', wB.ownsRow (gf + 1) 43 4 v' (0 + 1) (selCells (([] : List SelL)) ++ [.string z.1, .int .i64 z.2.1, .int .i64 z.2.2.1, .int .i64 z.2.2.2]) → RcJ w (.slice (some ⟨b, off, none⟩) X.length cap) iv gf fl (topS nw X roots (k + 1)) v' wB) := Lib.hid (fun v' ho => by
                have hlo := HJ7.out.out.lt
                have hgf := (Array.getElem?_eq_some_iff.1 HJ7.out.flg).1
                have hwl := HJ7.out.law.lt
                refine ⟨⟨HJ7.out.law.bel.grown HGR.out HJ7.out.law.bel.size (fun b hb => by have := (hlo b hb).1; have := HGF.out; omega), (HGR.out.block _ hwl (fun e => by have := (hlo _ e.symm).1; have := HGF.out; omega)).trans HJ7.out.law.idx⟩, (HGR.out.block _ hgf (fun e => by have := (hlo _ e.symm).1; omega)).trans HJ7.out.flg, ?_⟩
                rw [HNX.out, List.length_append, selCells_snoc]
                exact ho)
              go_roundw
              case rel => exact Lib.hid ⟨k + 1, hlk, by go_num, HJ8.out _ HOW.out⟩
              case measure => simp [intOf]; omega
            | some y =>
              obtain ⟨M, hM⟩ := List.getLast?_eq_some_iff.1 hgl
              have hdl : L.dropLast = M := by rw [hM, List.dropLast_concat]
              rw [hdl] at HSAME
              subst hM
              obtain ⟨g, e⟩ : ∃ g, og = some ⟨g, 0, none⟩ := by
                rcases HJ5.out.out.2 with ⟨_, h0⟩ | ⟨g, c, cur, e, _⟩
                · simp at h0
                · injection e with e1 e2 e3
                  exact ⟨g, e1⟩
              subst e
              have hml : (M ++ [y]).length = M.length + 1 := by simp
              have hcy : w5.cell? ⟨g, M.length * 4, none⟩ = some (.string y.1) := by
                rw [HJ5.out.out.cellAt (M.length * 4) (by rw [hml]; omega)]
                have := selCells_at (l := M ++ [y]) (i := M.length) (j := 0) (by rw [hml]; omega) (by omega)
                rw [Nat.add_zero] at this
                rw [this]
                simp [selC]
              have x0 : w5.cell? ⟨gx, 0, none⟩ = some (.string z.1) := cell_of_row _ _ 0 _ _ _ HX5.out
              have HGL := Lib.hid hgl
              have hsub : wrap64 (((M.length + 1 : Nat) : Int) - 1) = (M.length : Int) := wrap_pred (by omega)
              have hsub2 : IntKind.i64.wrap (((M.length + 1 : Nat) : Int) - 1) = (M.length : Int) := by rw [IntWalk.i64_in _ (by omega)]; omega
              have hm0 : (0 : Int) ≤ (M.length : Int) := Int.natCast_nonneg _
              have hm1 : (M.length : Int) < ((M.length + 1 : Nat) : Int) := by omega
              have hm2 : decide ((0 : Int) < ((M.length + 1 : Nat) : Int)) = true := decide_eq_true (by omega)
              have hm3 : (0 : Int) < ((M.length + 1 : Nat) : Int) := by omega
              clear hgl hdl
              rw [hml] at hlen ⊢
              have HML := Lib.hid hml
              clear hml
              by_cases hp : y.1 = z.1
              case pos =>
                have hpb : (y.1.toList == z.1.toList) = true := by rw [eqs_dec]; exact decide_eq_true hp
                have HSM2 := Lib.hid (HSAME.out y HGL.out hp)
                clear hp HSAME HNEW
                go_quiet (fail)
                have hbq : Below w5.heap.size w5 (w5.drewN nq) := below_drewNV (Below.refl _ _) nq
                have HJ6 := Lib.hid (HJ5.out.below hbq)
                have HX6 := Lib.hid ((hbq.block gx hgx).trans HX5.out)
                clear hbq x0 hcy HJ5 HX5 hgx
                generalize w5.drewN nq = w6 at *
                have hy6 := HJ6.out.out
                rw [HML.out] at hy6
                obtain ⟨hset, hgr⟩ := setSel_last (z := z) hy6
                have HSET := Lib.hid hset
                have HGR := Lib.hid hgr
                have x0 : w6.cell? ⟨gx, 0, none⟩ = some (.string z.1) := cell_of_row _ _ 0 _ _ _ HX6.out
                have x1 : w6.cell? ⟨gx, 1, none⟩ = some (.int .i64 z.2.1) := cell_of_row _ _ 1 _ _ _ HX6.out
                have x2 : w6.cell? ⟨gx, 2, none⟩ = some (.int .i64 z.2.2.1) := cell_of_row _ _ 2 _ _ _ HX6.out
                have x3 : w6.cell? ⟨gx, 3, none⟩ = some (.int .i64 z.2.2.2) := cell_of_row _ _ 3 _ _ _ HX6.out
                have cat : ∀ j, j < 4 → w6.cell? ⟨g, M.length * 4 + j, none⟩ = (selC y)[j]? := fun j hj => by
                  rw [hy6.cellAt (M.length * 4 + j) (by omega)]
                  have := selCells_at (l := M ++ [y]) (i := M.length) (j := j) (by rw [HML.out]; omega) hj
                  rw [this]
                  simp
                have y0 : w6.cell? ⟨g, M.length * 4, none⟩ = some (.string y.1) := cat 0 (by omega)
                have y1 : w6.cell? ⟨g, M.length * 4 + 1, none⟩ = some (.int .i64 y.2.1) := cat 1 (by omega)
                have y2 : w6.cell? ⟨g, M.length * 4 + 2, none⟩ = some (.int .i64 y.2.2.1) := cat 2 (by omega)
                have y3 : w6.cell? ⟨g, M.length * 4 + 3, none⟩ = some (.int .i64 y.2.2.2) := cat 3 (by omega)
                have f0 := hy6.frozenAt (M.length * 4)
                have f1 := hy6.frozenAt (M.length * 4 + 1)
                have f2 := hy6.frozenAt (M.length * 4 + 2)
                have f3 := hy6.frozenAt (M.length * 4 + 3)
                have HJ8 : Hid (RcJ w (.slice (some ⟨b, off, none⟩) X.length cap) iv gf fl (topS nw X roots (k + 1)) (.slice (some ⟨g, 0, none⟩) (M.length + 1) oc) (setSel w6 g (M.length * 4) z)) := Lib.hid (by
                  have hlo := HJ6.out.out.lt g rfl
                  have hgf := (Array.getElem?_eq_some_iff.1 HJ6.out.flg).1
                  have hwl := HJ6.out.law.lt
                  refine ⟨⟨HJ6.out.law.bel.grown HGR.out HJ6.out.law.bel.size (fun b hb => by cases hb; have := HGF.out; omega), (HGR.out.block _ hwl (fun e => by injection e with e; have := HGF.out; omega)).trans HJ6.out.law.idx⟩, (HGR.out.block _ hgf (fun e => by injection e with e; omega)).trans HJ6.out.flg, ?_⟩
                  rw [HSM2.out, List.length_append]
                  exact HSET.out)
                clear cat hy6 hset hgr HSET HGR HJ6 HX6
                unfold setSel at HJ8
                go_wp2_with fail
                go_roundw
                case rel => exact Lib.hid ⟨k + 1, hlk, by go_num, HJ8.out⟩
                case measure => simp [intOf]; omega
              case neg =>
                have hpb : (y.1.toList == z.1.toList) = false := by rw [eqs_dec]; exact decide_eq_false hp
                have HNX := Lib.hid (HNEW.out (fun y' hy e => by rw [HGL.out] at hy; injection hy with hy; subst hy; exact hp e))
                clear hp HSAME HNEW
                go_quiet (fail)
                have hbq : Below w5.heap.size w5 (w5.drewN nq) := below_drewNV (Below.refl _ _) nq
                have HJ6 := Lib.hid (HJ5.out.below hbq)
                have HX6 := Lib.hid ((hbq.block gx hgx).trans HX5.out)
                clear hbq x0 hcy HJ5 HX5 hgx
                generalize w5.drewN nq = w6 at *
                have x0 : w6.cell? ⟨gx, 0, none⟩ = some (.string z.1) := cell_of_row _ _ 0 _ _ _ HX6.out
                have x1 : w6.cell? ⟨gx, 1, none⟩ = some (.int .i64 z.2.1) := cell_of_row _ _ 1 _ _ _ HX6.out
                have x2 : w6.cell? ⟨gx, 2, none⟩ = some (.int .i64 z.2.2.1) := cell_of_row _ _ 2 _ _ _ HX6.out
                have x3 : w6.cell? ⟨gx, 3, none⟩ = some (.int .i64 z.2.2.2) := cell_of_row _ _ 3 _ _ _ HX6.out
                have HN9 : Hid ((w6.alloc (.cells #[.string z.1, .int .i64 z.2.1, .int .i64 z.2.2.1, .int .i64 z.2.2.2] 43)).heap[w6.heap.size]? = some (.cells #[.string z.1, .int .i64 z.2.1, .int .i64 z.2.2.1, .int .i64 z.2.2.2] 43)) := Lib.hid (heap_alloc_new w6 _)
                have HJ7 := Lib.hid (HJ6.out.below (belQ w6 (.cells #[.string z.1, .int .i64 z.2.1, .int .i64 z.2.2.1, .int .i64 z.2.2.2] 43)))
                have HO7 : Hid ((w6.alloc (.cells #[.string z.1, .int .i64 z.2.1, .int .i64 z.2.2.1, .int .i64 z.2.2.2] 43)).ownsRow (gf + 1) 43 4 (Value.slice (some ⟨g, 0, none⟩) (M.length + 1) oc) (M.length + 1) (selCells (M ++ [y]))) := Lib.hid (by have := HJ7.out.out; rw [HML.out] at this; exact this)
                have hgs : gf + 1 ≤ (w6.alloc (.cells #[.string z.1, .int .i64 z.2.1, .int .i64 z.2.2.1, .int .i64 z.2.2.2] 43)).heap.size := (Array.getElem?_eq_some_iff.1 HJ7.out.flg).1
                go_wp2_with (at_builtin; refine wpList_append_own _ rfl _ _ 27 rfl (gf + 1) 43 i0 _ 4 40 Tryz.underlying27 hi0' hz0 hz1 hz2 rfl (by decide) (Value.slice (some ⟨g, 0, none⟩) (M.length + 1) oc) _ _ (by rfl) HO7.out ⟨w6.heap.size, 0, none⟩ 1 1 [.string z.1, .int .i64 z.2.1, .int .i64 z.2.2.1, .int .i64 z.2.2.2] (by rfl) (by rfl) (World.news_of_block HN9.out) (by simp [Value.oneCell']) (by unfold maxLen; omega) (by omega) hgs ?_; intro v' wB hown' hgrow _; have HOW := Lib.hid hown'; have HGR := Lib.hid hgrow; clear hown' hgrow; obtain ⟨g3, gc3, rfl⟩ := ownsRow_succ HOW.out)
                have HJ8 : Hid (∀ v', wB.ownsRow (gf + 1) 43 4 v' (M.length + 1 + 1) (selCells (M ++ [y]) ++ [.string z.1, .int .i64 z.2.1, .int .i64 z.2.2.1, .int .i64 z.2.2.2]) → RcJ w (.slice (some ⟨b, off, none⟩) X.length cap) iv gf fl (topS nw X roots (k + 1)) v' wB) := Lib.hid (fun v' ho => by
                  have hlo := HJ7.out.out.lt
                  have hgf := (Array.getElem?_eq_some_iff.1 HJ7.out.flg).1
                  have hwl := HJ7.out.law.lt
                  refine ⟨⟨HJ7.out.law.bel.grown HGR.out HJ7.out.law.bel.size (fun b hb => by have := (hlo b hb).1; have := HGF.out; omega), (HGR.out.block _ hwl (fun e => by have := (hlo _ e.symm).1; have := HGF.out; omega)).trans HJ7.out.law.idx⟩, (HGR.out.block _ hgf (fun e => by have := (hlo _ e.symm).1; omega)).trans HJ7.out.flg, ?_⟩
                  rw [HNX.out, List.length_append, selCells_snoc]
                  rw [HML.out]; exact ho)
                go_roundw
                case rel => exact Lib.hid ⟨k + 1, hlk, by go_num, HJ8.out _ HOW.out⟩
                case measure => simp [intOf]; omega
end Go.Proofs.YtenfkejbndifdaaGreatDoor

namespace Go.Proofs.YtenfkejbndifdaaGreatDoor
set_option linter.unusedVariables false
set_option linter.unusedSimpArgs false
open Go Go.RowKit Go.Maps

set_option maxRecDepth 100000 in
theorem rSelect34_any (v iv rov : Value) (X : List RelL) (roots : List ReqL) (w : World) (hX : X.length ≤ 1000000) (hq : ∀ x ∈ X, RelBd x) (hR : RelsOf w.heap.size v X w)
    (hro : roots.length ≤ 1000000) (hrq : ReqsBd roots) (hRo : ReqsOf w.heap.size rov roots w) :
    Calls Tryz.prog 19 #[.agg #[v, iv], rov] w (SelR false X roots w) := by
  have HC := Lib.hid (fun W (hb : Below w.heap.size w W) => rchoose34_any false v iv rov X roots W hX hq (hR.on hb) hro hrq (hRo.on hb))
  obtain ⟨va, vn, vc, rfl⟩ : ∃ a n c, v = .slice a n c := by obtain ⟨a, c, _, e, _⟩ := hR.rv; exact ⟨_, _, _, e⟩
  obtain ⟨ra, rc, rfl⟩ : ∃ ra rc, rov = .slice ra roots.length rc := by obtain ⟨a, c, e, _⟩ := hRo; exact ⟨a, c, e⟩
  clear hq hR hrq hRo
  unfold SelR at HC ⊢
  generalize selM false X roots = SM at *
  have HB0 := Lib.hid (LawB.start w (.slice va vn vc) iv)
  go_enter Tryz.func19, Tryz.ntmps19
  go_upto_region 1 with fail
  generalize w.alloc (.cells #[.slice va vn vc, iv] 25) = W at *
  have c0 := HB0.out.c0
  have c1 := HB0.out.c1
  go_wp2_with fail
  refine (HC.out _ HB0.out.bel).mono ?_
  rintro e w1 ⟨hb1, v', rfl, hs1⟩
  have HB1 := Lib.hid (HB0.out.below hb1)
  have HS1 := Lib.hid hs1
  clear hb1 hs1 c0 c1 HC
  go_wp2_with fail
  go_ret2
  exact ⟨HB1.out.bel, _, rfl, HS1.out⟩
end Go.Proofs.YtenfkejbndifdaaGreatDoor

namespace Go.Proofs.YtenfkejbndifdaaGreatDoor
set_option linter.unusedVariables false
set_option linter.unusedSimpArgs false
open Go Go.RowKit

set_option maxRecDepth 100000 in
set_option maxHeartbeats 4000000 in
theorem rIncr_any (sv : Value) (s : List SelL) (w : World) (hs : s.length ≤ 1000000) (hS : SelsOf w.heap.size sv s w) :
    Calls Tryz.prog 87 #[sv] w fun e w' => ∃ b : Bool, e = .returned (.bool b) ∧ (b = true ↔ incrS s) ∧ Below w.heap.size w w' := by
  obtain ⟨so, sc, rfl⟩ : ∃ so sc, sv = .slice so s.length sc := by obtain ⟨a, c, e, _⟩ := hS; exact ⟨a, c, e⟩
  have HS := Lib.hid hS
  clear hS
  go_enter Tryz.func87, Tryz.ntmps87
  go_wp2_with fail
  go_loopw [3] (fun p wr => Hid (∃ k : Nat, 1 ≤ k ∧ p = .int .i64 k ∧ ((k ≤ s.length ∨ k = 1) ∧ incrK s k) ∧ Below w.heap.size w wr)) (fun p _ => s.length + 1 - (intOf p).toNat)
  case atStart => exact Lib.hid ⟨1, by omega, rfl, ⟨.inr rfl, fun j hj => by omega⟩, Below.refl _ _⟩
  case round =>
    obtain ⟨k, hk1, rfl, hkk, hb⟩ := hrel.out
    have HK := Lib.hid hkk
    have HB := Lib.hid hb
    have hsl := hb.size
    clear hrel hkk hb
    by_cases hlt : k < s.length
    case neg =>
      have HIN := Lib.hid (show incrS s from incrK_all.1 (fun j hj => HK.out.2 j (by rcases HK.out.1 with h | h <;> omega)))
      go_wp2_with fail
      go_ret
      exact ⟨true, rfl, ⟨fun _ => HIN.out, fun _ => rfl⟩, HB.out⟩
    case pos =>
      obtain ⟨b, off, rfl, hbl, d0, _⟩ := HS.out.at hlt
      obtain ⟨b2, off2, e2, _, f0, _⟩ := HS.out.at (i := k - 1) (by omega)
      cases e2
      have d0 := (HB.out.cell (p := ⟨b, off + k * 4, none⟩) hbl).trans d0
      have f0 := (HB.out.cell (p := ⟨b, off + (k - 1) * 4, none⟩) hbl).trans f0
      have hsub : wrap64 ((k : Int) - 1) = ((k - 1 : Nat) : Int) := by rw [show ((k : Int) - 1) = ((k - 1 : Nat) : Int) by omega]; unfold wrap64; omega
      have hl0 : (0 : Int) ≤ ((k - 1 : Nat) : Int) := by omega
      have hl1 : ((k - 1 : Nat) : Int) < (s.length : Int) := by omega
      generalize hpa : (s.getD (k - 1) default).1 = pa at *
      generalize hpb : (s.getD k default).1 = pb at *
      have HPA := Lib.hid hpa
      have HPB := Lib.hid hpb
      clear hpa hpb
      go_wp2_with fail
      go_quiet (fail)
      have HBQ := Lib.hid (below_drewNV HB.out nq)
      generalize wr.drewN nq = wx at *
      clear d0 f0
      cases hc : ltB pa pb with
      | false =>
        have hc2 : Op.bytesLess pa.toList pb.toList = false := hc
        have hc3 := leq_lt pb pa
        rw [hc] at hc3
        have HN := Lib.hid (show ¬ incrS s from fun h => by
          have := incrK_all.2 h (k - 1) (by omega)
          rw [show k - 1 + 1 = k by omega, HPA.out, HPB.out, hc] at this
          cases this)
        first | rw [hc3] | rw [hc2]
        try simp only [Bool.not_false, Bool.not_true]
        clear hc hc2 hc3
        go_wp2_with fail
        go_ret
        exact ⟨false, rfl, ⟨fun h => (by cases h), fun h => absurd h HN.out⟩, HBQ.out⟩
      | true =>
        have hc2 : Op.bytesLess pa.toList pb.toList = true := hc
        have hc3 := leq_lt pb pa
        rw [hc] at hc3
        have HK2 := Lib.hid (show (k + 1 ≤ s.length ∨ k + 1 = 1) ∧ incrK s (k + 1) from ⟨.inl (by omega), incrK_step HK.out.2 (fun _ => by rw [HPA.out, HPB.out]; exact hc)⟩)
        first | rw [hc3] | rw [hc2]
        try simp only [Bool.not_false, Bool.not_true]
        clear hc hc2 hc3
        go_wp2_with fail
        all_goals
          refine ⟨Lib.hid ⟨k + 1, by omega, by go_num, HK2.out, HBQ.out⟩, ?_⟩
          simp [intOf]; omega
theorem ver_eql (a b c x y z : Int) (w : World) : (binOp .eql 41 (.agg #[.int .i64 a, .int .i64 b, .int .i64 c]) (.agg #[.int .i64 x, .int .i64 y, .int .i64 z])).run Tryz.prog w = .ok (.bool (a == x && (b == y && c == z))) w := by
  rw [run_eql_struct, show (10000 : Nat) = 9995 + 5 from rfl, ver_equal]
  rfl
def FindR2 (B0 : Nat) (w : World) (o : Option RelL) (e : Ending) (w' : World) : Prop := ∃ r', e = .returned (.tuple #[.agg (relC (o.getD default) r'), .bool o.isSome]) ∧ ReqsOf B0 r' (o.getD default).reqs w' ∧ Below w.heap.size w w'
end Go.Proofs.YtenfkejbndifdaaGreatDoor
