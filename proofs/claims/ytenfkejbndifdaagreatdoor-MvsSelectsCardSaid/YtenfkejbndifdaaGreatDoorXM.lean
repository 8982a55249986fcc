/- Contract of the reference 34's reach. -/
import Derived.Test.YtenfkejbndifdaaGreatDoorXL
import Derived.Test.YtenfkejbndifdaaGreatDoorWO
namespace Go.Proofs.YtenfkejbndifdaaGreatDoor
set_option linter.unusedVariables false
set_option linter.unusedSimpArgs false
open Go Go.RowKit Go.Maps

def FlagsM (W : World) (g : Nat) (l : List Bool) : Prop := W.heap[g]? = some (.cells (l.map Value.bool).toArray 4 (0, 0))
theorem FlagsM.cell {W : World} {g : Nat} {l : List Bool} (h : FlagsM W g l) (i : Nat) (b : Bool) (hb : l[i]? = some b) : W.cell? ⟨g, i, none⟩ = some (.bool b) := by
  rw [cell_of_row _ _ _ _ _ _ h]
  simp [hb]
theorem FlagsM.set {W : World} {g : Nat} {l : List Bool} (h : FlagsM W g l) (i : Nat) (b : Bool) : FlagsM (W.setCell ⟨g, i, none⟩ (.bool b)) g (l.set i b) := by
  have := heap_setCell_same W g i _ _ (.bool b) h
  unfold FlagsM
  rw [this]
  simp [List.map_set]
abbrev bM (d : List Bool) (a : Nat) : Bool := d.getD a false
theorem reqs_src2 {B : Nat} {l : List ReqL} {W : World} {v : Value} (h : ReqsOf B v l W) : ∃ news, Src Tryz.prog 2 26 v l.length news W ∧ ReqXs B l news W := by
  have h2 := h
  obtain ⟨ao, cap, rfl, hh⟩ := h
  by_cases h0 : l = []
  · subst h0
    cases ao with
    | none => exact ⟨[], Src.ofNil _ Tryz.underlying26 cap, fun i q hq => by simp at hq⟩
    | some a => exact ⟨[], Src.ofSlice _ Tryz.underlying26 a 0 cap [] rfl (fun j u hu => by simp at hu) (fun _ h => by cases h), fun i q hq => by simp at hq⟩
  · have hp : 0 < l.length := List.length_pos_iff.2 h0
    obtain ⟨b, off, _, rfl, _⟩ := hh 0 l[0] (by simp [hp])
    obtain ⟨xs, hx1, hx2, hx3, hx4⟩ := reqs_cells2 h2
    exact ⟨xs, Src.ofSlice _ Tryz.underlying26 ⟨b, off, none⟩ l.length cap xs hx1 (fun j u hu => by rw [Addr.add_lit]; exact hx2 j u hu) hx4, hx3⟩
theorem seg_req {W : World} {B : Nat} {v : Value} {l : List ReqL} {xs : List Value} (h : SegC W B 2 v l.length xs) {B0 : Nat} {W0 : World} (hx : ReqXs B0 l xs W0) {i : Nat} (hi : i < l.length) :
    ∃ g off cap r, v = .slice (some ⟨g, off, none⟩) l.length cap ∧ g < W.heap.size ∧ W.cell? ⟨g, off + i * 2, none⟩ = some (.string (l.getD i default).1) ∧ W.cell? ⟨g, off + i * 2 + 1, none⟩ = some r ∧ SpansOf B0 r (l.getD i default).2 W0 := by
  rcases h.val with ⟨ao, _, h0⟩ | ⟨g, off, cap, rfl, _, _, _, hg, h5, _⟩
  · omega
  · obtain ⟨r, a, b, c⟩ := hx i (l.getD i default) (by rw [List.getD_eq_getElem?_getD, List.getElem?_eq_getElem hi]; rfl)
    refine ⟨g, off, cap + 1, r, rfl, hg, (h5 (i * 2) (by omega)).trans a, ?_, c⟩
    rw [Nat.add_assoc]
    exact (h5 (i * 2 + 1) (by omega)).trans b
def RRchR (nw : Bool) (X : List RelL) (roots : List ReqL) (w : World) (e : Ending) (w' : World) : Prop := Below w.heap.size w w' ∧
  ((AllM nw X roots ∧ ∃ g l, e = .returned (.tuple #[.slice (some ⟨g, 0, none⟩) X.length X.length, .bool true]) ∧ w.heap.size ≤ g ∧ FlagsM w' g l ∧ l.length = X.length ∧ ∀ k, bM l k = true ↔ RchM nw X roots k) ∨
    (¬ AllM nw X roots ∧ e = .returned (.tuple #[.slice none 0 0, .bool false])))
structure RrJ (nw : Bool) (X : List RelL) (roots : List ReqL) (w : World) (v iv : Value) (todo : List ReqL) (i : Nat) (s : List Nat) (l : List Bool) (xs : List Value) (tv : Value) (W : World) : Prop where
  law : LawB w v iv W
  rch : RchT nw X roots todo i s
  flg : FlagsM W (w.heap.size + 1) l
  len : l.length = X.length
  mrk : ∀ k, bM l k = true ↔ k ∈ s
  seg : SegC W (w.heap.size + 1 + 1) 2 tv todo.length xs
  els : ReqXs w.heap.size todo xs W
theorem RrJ.below {nw : Bool} {X : List RelL} {roots : List ReqL} {w : World} {v iv : Value} {todo : List ReqL} {i : Nat} {s : List Nat} {l : List Bool} {xs : List Value} {tv : Value} {W W' : World} (h : RrJ nw X roots w v iv todo i s l xs tv W) (hb : Below W.heap.size W W') : RrJ nw X roots w v iv todo i s l xs tv W' :=
  ⟨h.law.below hb, h.rch, (hb.block _ (Array.getElem?_eq_some_iff.1 h.flg).1).trans h.flg, h.len, h.mrk, h.seg.far hb.size (fun k hk => hb.block k (h.seg.lt k hk).2), h.els.below hb h.law.bel.size⟩
theorem bM_set2 {l : List Bool} {s : List Nat} {k : Nat} (hk : k < l.length) (h : ∀ j, bM l j = true ↔ j ∈ s) : ∀ j, bM (l.set k true) j = true ↔ j ∈ k :: s := fun j => by
  unfold bM at h ⊢
  rw [List.getD_eq_getElem?_getD, List.getElem?_set, List.mem_cons, ← h j, List.getD_eq_getElem?_getD]
  by_cases e : k = j
  · subst e
    rw [if_pos rfl, if_pos hk]
    simp
  · rw [if_neg e]
    constructor
    · exact .inr
    · rintro (h1 | h1)
      · exact absurd h1.symm e
      · exact h1
def HeldT (g gq o : Nat) (v iv : Value) (q : ReqL) (rq : Value) (W : World) : Prop := W.cell? ⟨g, 0, none⟩ = some v ∧ W.cell? ⟨g, 1, none⟩ = some iv ∧ W.cell? ⟨gq, o, none⟩ = some (.string q.1) ∧ W.cell? ⟨gq, o + 1, none⟩ = some rq
set_option maxRecDepth 100000 in
set_option maxHeartbeats 16000000 in
theorem rreach34_any (nw : Bool) (v iv rov : Value) (X : List RelL) (roots : List ReqL) (w : World) (hp : PlainP X roots) (hX : X.length ≤ 1000000) (hq : ∀ x ∈ X, RelBd x) (hR : RelsOf w.heap.size v X w)
    (hro : roots.length ≤ 1000000) (hrq : ReqsBd roots) (hRo : ReqsOf w.heap.size rov roots w) :
    Calls Tryz.prog 113 #[.agg #[v, iv], rov, .bool nw] w (RRchR nw X roots w) := by
  have hIX := idx_ok hp.idx
  have HNM := Lib.hid (fun W (q : ReqL) rq (hb : Below w.heap.size w W) (hl : q.2.length ≤ 1000000) (hQ : SpansOf w.heap.size rq q.2 W) => rnamed_any nw v iv X q rq W hX (fun x hx => by
    obtain ⟨i, hi, rfl⟩ := List.mem_iff_getElem.1 hx
    have := (hIX.rel i hi).val
    rwa [List.getD_eq_getElem?_getD, List.getElem?_eq_getElem hi] at this) (hR.on hb) hl (hQ.mono hb.size))
  have HP := Lib.hid hp
  have hX256 := hIX.len
  have HBD := Lib.hid hq
  obtain ⟨ao, cap, rv, rfl, hrv⟩ := hR.rv
  have HRV := Lib.hid hrv
  have HRQ := Lib.hid hrq
  have HRO := Lib.hid hRo
  have h16 : roots.length ≤ 16 := (reqs_ok hp.roots.1).len
  obtain ⟨ra, rc, rfl⟩ : ∃ ra rc, rov = .slice ra roots.length rc := by obtain ⟨a, c, e, _⟩ := hRo; exact ⟨a, c, e⟩
  clear hR hRo hrq hq hrv hp hIX
  obtain ⟨i0, hi0', hz0, hz1, hz2⟩ := info_parts info_reqs
  have hmk := make_bools X.length (by omega)
  have HL0 : Hid (LawB w (.slice ao X.length cap) iv ((w.alloc (.cells #[.slice ao X.length cap, iv] 25)).alloc (.cells (Array.replicate X.length (.bool false)) 4))) := Lib.hid ((LawB.start w _ iv).below (belQ _ _))
  have HF0 : Hid (FlagsM ((w.alloc (.cells #[.slice ao X.length cap, iv] 25)).alloc (.cells (Array.replicate X.length (.bool false)) 4)) (w.heap.size + 1) (List.replicate X.length false)) := Lib.hid (by
    have := World.alloc_heap_new (w.alloc (.cells #[.slice ao X.length cap, iv] 25)) (.cells (Array.replicate X.length (.bool false)) 4)
    rw [World.size_alloc] at this
    unfold FlagsM
    rw [this]
    simp)
  have hsz : ((w.alloc (.cells #[.slice ao X.length cap, iv] 25)).alloc (.cells (Array.replicate X.length (.bool false)) 4)).heap.size = w.heap.size + 1 + 1 := by simp
  go_enter Tryz.func113, Tryz.ntmps113
  go_upto_region 2 with fail
  generalize (w.alloc (.cells #[.slice ao X.length cap, iv] 25)).alloc (.cells (Array.replicate X.length (.bool false)) 4) = W at *
  have HSZ := Lib.hid hsz
  clear hmk hsz
  have HSZA : Hid ((W.alloc (.cells #[] 58)).heap.size = w.heap.size + 1 + 1 + 1) := Lib.hid (by simp [HSZ.out])
  have HLA := Lib.hid (HL0.out.below (belQ W (.cells #[] 58)))
  have HFA : Hid (FlagsM (W.alloc (.cells #[] 58)) (w.heap.size + 1) (List.replicate X.length false)) := Lib.hid (((belQ W (.cells #[] 58)).block _ (Array.getElem?_eq_some_iff.1 HF0.out).1).trans HF0.out)
  obtain ⟨news, hsrc, hels⟩ := reqs_src2 (HRO.out.below HLA.out.bel (Nat.le_refl _))
  have HSRC := Lib.hid hsrc
  have HELS := Lib.hid hels
  clear hsrc hels
  go_wp2_with (at_builtin; refine wpList_append_segC _ rfl _ _ 26 26 rfl 58 i0 _ 40 2 Tryz.underlying26 hi0' hz0 hz1 hz2 rfl (w.heap.size + 1 + 1) (.slice (some ⟨W.heap.size, 0, none⟩) 0 0) 0 [] (by rfl) (SegC.nil _ _ _ _) (by have := HSZA.out; omega) roots.length news HSRC.out (by unfold maxLen; omega) (by omega) ?_; intro v12 W12 h12 g12 hb12; have H12 := Lib.hid h12; have G12 := Lib.hid g12; obtain ⟨va12, vc12, rfl⟩ := h12.shape; clear h12 g12 hb12)
  have HBG : Hid (Below (W.alloc (.cells #[] 58)).heap.size (W.alloc (.cells #[] 58)) W12) := Lib.hid ((Below.refl _ _).grown G12.out (Nat.le_refl _) (fun b hb => by cases hb))
  have HJ0 : Hid (RrJ nw X roots w (.slice ao X.length cap) iv roots 0 [] (List.replicate X.length false) news (.slice va12 (0 + roots.length) vc12) W12) := Lib.hid ⟨HLA.out.below HBG.out, RchT.start, (HBG.out.block _ (Array.getElem?_eq_some_iff.1 HFA.out).1).trans HFA.out, by simp, fun k => by
      unfold bM
      rw [List.getD_eq_getElem?_getD, List.getElem?_replicate]
      split <;> simp, by simpa using H12.out, HELS.out.below HBG.out HLA.out.bel.size⟩
  rw [Nat.zero_add] at HJ0
  clear HSRC HELS H12 G12 HBG HLA HFA HL0 HF0 HSZA
  go_wp2_with fail
  go_loopw [9, 10] (fun tv p wr => Hid (∃ (todo : List ReqL) (i : Nat) (s : List Nat) (l : List Bool) (xs : List Value), p = .int .i64 ((i : Nat) : Int) ∧ RrJ nw X roots w (.slice ao X.length cap) iv todo i s l xs tv wr)) (fun _ p _ => roots.length + 16 * X.length - (intOf p).toNat)
  case atStart => exact Lib.hid ⟨roots, 0, [], _, _, rfl, by simpa using HJ0.out⟩
  case round =>
    obtain ⟨todo, i, s, l, xs, rfl, hj⟩ := hrel.out
    have HJ := Lib.hid hj
    have hle := hj.rch.le
    have hlen := hj.rch.len
    have hsl := hj.rch.slen
    obtain ⟨ta, tc, rfl⟩ := hj.seg.shape
    have hll := hj.len
    clear hrel hj HJ0
    by_cases hlt : i < todo.length
    case neg =>
      have hii : i = todo.length := Nat.le_antisymm hle (Nat.le_of_not_lt hlt)
      subst hii
      have HE := Lib.hid HJ.out.rch.end
      go_wp2_with fail
      go_ret2
      exact ⟨HJ.out.law.bel, .inl ⟨HE.out.1, _, l, rfl, Nat.le_succ _, HJ.out.flg, HJ.out.len, fun k => (HJ.out.mrk k).trans (HE.out.2 k).symm⟩⟩
    case pos =>
      obtain ⟨gq, oq, cq, r, e1, hgq, q0, q1, hsp⟩ := seg_req HJ.out.seg HJ.out.els hlt
      injection e1 with e1 e2 e3
      subst e1 e3
      have hqb : (todo.getD i default).2.length ≤ 1000000 := by
        rcases HJ.out.rch.src _ (getD_memQ hlt) with hq | ⟨k, hk, hq⟩
        · exact (HRQ.out _ hq).2
        · have hkl := (HJ.out.rch.rch k hk).lt.1
          rw [List.getD_eq_getElem?_getD (l := X), List.getElem?_eq_getElem hkl] at hq
          exact ((HBD.out _ (List.getElem_mem hkl)).reqs _ hq).2
      have HQI := Lib.hid (show todo.getD i default = todo.getD i default from rfl)
      obtain ⟨q, hq⟩ : ∃ q, todo.getD i default = q := ⟨_, rfl⟩
      rw [hq] at q0 hsp hqb
      have HQ := Lib.hid hq
      clear hq HQI
      have HSP := Lib.hid hsp
      obtain ⟨sa, sc, rfl⟩ : ∃ a c, r = .slice a q.2.length c := by obtain ⟨a, c, e, _⟩ := hsp; exact ⟨a, c, e⟩
      clear hsp
      have hi0 : (0 : Int) ≤ (i : Int) := Int.natCast_nonneg i
      have hi1 : (i : Int) < (todo.length : Int) := Int.ofNat_lt.2 hlt
      have HSB : Hid (∀ W', Below wr.heap.size wr W' → HeldT w.heap.size gq (oq + i * 2) (.slice ao X.length cap) iv q (.slice sa q.2.length sc) W') := Lib.hid (fun W' hb => ⟨(HJ.out.law.below hb).c0, (HJ.out.law.below hb).c1, (hb.cell (p := ⟨gq, oq + i * 2, none⟩) hgq).trans q0, (hb.cell (p := ⟨gq, oq + i * 2 + 1, none⟩) hgq).trans q1⟩)
      have HNQ := Lib.hid (fun W' (hb : Below wr.heap.size wr W') => HNM.out W' q (.slice sa q.2.length sc) (HJ.out.law.bel.trans (hb.mono HJ.out.law.bel.size)) hqb (HSP.out.below hb HJ.out.law.bel.size))
      clear q0 q1
      go_upto_region 6 with fail
      refine wp_region_noPanic ?_
      refine wp_region_held_drew (S := HeldT w.heap.size gq (oq + i * 2) (.slice ao X.length cap) iv q (.slice sa q.2.length sc)) (by kernel_rfl) (HSB.out _ (Below.refl _ _).drew) (fun hS0 => ?_)
      (refine wpAnyH_take (i := 0) (v := ?_) rfl (by kernel_rfl) (by kernel_rfl) (by kernel_rfl) (fun _ _ _ h => h) (Or.inl ⟨by rfl, ?_⟩) (by assumption) ?_; rotate_left; (· (intro w hSw; obtain ⟨c0, c1, q0, q1⟩ := hSw; go_simp; try with_reducible rfl)); (try simp only [zl1, zl2, zl3, Act.put, zl4, zl5, zl6]))
      (refine wpAnyH_take (i := 1) (v := ?_) rfl (by kernel_rfl) (by kernel_rfl) (by kernel_rfl) (fun _ _ _ h => h) (Or.inl ⟨by rfl, ?_⟩) (by assumption) ?_; rotate_left; (· (intro w hSw; obtain ⟨c0, c1, q0, q1⟩ := hSw; go_simp; try with_reducible rfl)); (try simp only [zl1, zl2, zl3, Act.put, zl4, zl5, zl6]))
      (refine wpAnyH_take (i := 2) (v := ?_) rfl (by kernel_rfl) (by kernel_rfl) (by kernel_rfl) (fun _ _ _ h => h) (Or.inl ⟨by rfl, ?_⟩) (by assumption) ?_; rotate_left; (· (intro w hSw; obtain ⟨c0, c1, q0, q1⟩ := hSw; go_simp; try with_reducible rfl)); (try simp only [zl1, zl2, zl3, Act.put, zl4, zl5, zl6]))
      (refine wpAnyH_take (i := 3) (v := ?_) rfl (by kernel_rfl) (by kernel_rfl) (by kernel_rfl) (fun _ _ _ h => h) (Or.inl ⟨by rfl, ?_⟩) (by assumption) ?_; rotate_left; (· (intro w hSw; obtain ⟨c0, c1, q0, q1⟩ := hSw; go_simp; try with_reducible rfl)); (try simp only [zl1, zl2, zl3, Act.put, zl4, zl5, zl6]))
      (refine wpAnyH_take (i := 4) (v := ?_) rfl (by kernel_rfl) (by kernel_rfl) (by kernel_rfl) (fun _ _ _ h => h) (Or.inl ⟨by rfl, ?_⟩) (by assumption) ?_; rotate_left; (· (intro w hSw; obtain ⟨c0, c1, q0, q1⟩ := hSw; go_simp; try with_reducible rfl)); (try simp only [zl1, zl2, zl3, Act.put, zl4, zl5, zl6]))
      (refine wpAnyH_take (i := 5) (v := ?_) rfl (by kernel_rfl) (by kernel_rfl) (by kernel_rfl) (fun _ _ _ h => h) (Or.inl ⟨by rfl, ?_⟩) (by assumption) ?_; rotate_left; (· (intro w hSw; obtain ⟨c0, c1, q0, q1⟩ := hSw; go_simp; try with_reducible rfl)); (try simp only [zl1, zl2, zl3, Act.put, zl4, zl5, zl6]))
      refine wpAnyH_ready (rs := [6]) (by kernel_rfl) (by simp) (AllReadyH.cons rfl (fun K hK => ?_) AllReadyH.nil)
      go_simp
      refine (HNQ.out _ (Below.refl wr.heap.size wr).drew).mono ?_
      rintro e w1 ⟨rfl, hb1⟩
      have HB1 := Lib.hid ((Below.refl wr.heap.size wr).drew.trans hb1)
      clear hS0
      have hS0 := HSB.out _ HB1.out
      refine hK.out _ _ hS0 (fun _ => ?_)
      clear hK K hb1
      (try simp only [zl1, zl2, zl3, Act.put, zl4, zl5, zl6])
      (refine wpAnyH_take (i := 7) (v := ?_) rfl (by kernel_rfl) (by kernel_rfl) (by kernel_rfl) (fun _ _ _ h => h) (Or.inl ⟨by rfl, ?_⟩) (by assumption) ?_; rotate_left; (· (intro w hSw; obtain ⟨c0, c1, q0, q1⟩ := hSw; go_simp; try with_reducible rfl)); (try simp only [zl1, zl2, zl3, Act.put, zl4, zl5, zl6]))
      refine wpAnyH_done (by kernel_rfl) ?_ _
      refine NoPanic.normal ?_
      have HJ1 := Lib.hid (HJ.out.below HB1.out)
      clear HSB HNQ HB1 hS0 HJ
      cases hn : namedI nw X q with
      | none =>
        have HF := Lib.hid (HJ1.out.rch.fail hlt (by rw [HQ.out]; exact hn))
        clear hn
        go_wp2_with fail
        go_ret2
        exact ⟨HJ1.out.law.bel, .inr ⟨HF.out, rfl⟩⟩
      | some k =>
        have HN := Lib.hid (show namedI nw X (todo.getD i default) = some k by rw [HQ.out]; exact hn)
        have hkX := (candI_mem.1 (named_mem hn)).1
        clear hn
        have hkl : k < l.length := by rw [hll]; exact hkX
        obtain ⟨fb, hfb⟩ : ∃ fb, l[k] = fb := ⟨_, rfl⟩
        have hfc := HJ1.out.flg.cell k fb (by rw [List.getElem?_eq_getElem hkl, hfb])
        have HFK : Hid (fb = true ↔ k ∈ s) := Lib.hid (by rw [← HJ1.out.mrk k, ← hfb]; unfold bM; rw [List.getD_eq_getElem?_getD, List.getElem?_eq_getElem hkl]; rfl)
        have hk0 : (0 : Int) ≤ (k : Int) := Int.natCast_nonneg k
        have hk1 : (k : Int) < (X.length : Int) := Int.ofNat_lt.2 hkX
        have hkneg : ¬ (k : Int) < 0 := by omega
        have hkdec : decide ((k : Int) < 0) = false := decide_eq_false hkneg
        simp only [optI]
        clear hfb
        cases fb with
        | true =>
          have HRS := Lib.hid (HJ1.out.rch.skip hlt HN.out (HFK.out.1 rfl))
          have HJ2 : Hid (RrJ nw X roots w (.slice ao X.length cap) iv todo (i + 1) s l xs (.slice (some ⟨gq, oq, none⟩) todo.length tc) w1) := Lib.hid { HJ1.out with rch := HRS.out }
          go_wp2_with fail
          go_roundw
          case rel => exact Lib.hid ⟨todo, i + 1, s, l, xs, by go_num, HJ2.out⟩
          case measure => simp [intOf]; omega
        | false =>
          have HNS := Lib.hid (show k ∉ s from fun h => by have := HFK.out.2 h; cases this)
          have hff : w1.frozen? ⟨w.heap.size + 1, k, none⟩ = false := frozen_of_row _ _ k _ _ HJ1.out.flg
          obtain ⟨b, off, e1, hb, hcs, hrq⟩ := HRV.out k _ (List.getElem?_eq_getElem hkX)
          subst e1
          have HGD : Hid (X.getD k default = X[k]) := Lib.hid (by rw [List.getD_eq_getElem?_getD, List.getElem?_eq_getElem hkX]; rfl)
          have h16k : X[k].reqs.length ≤ 16 := by have := (reqs_ok (HP.out.up hkX).1).len; rwa [HGD.out] at this
          have HMK := Lib.hid (HJ1.out.rch.mark hlt HN.out HNS.out (by rw [HGD.out]; exact h16k))
          rw [HGD.out] at HMK
          have hsl2 := HMK.out.slen
          have hlen2 := HMK.out.len
          have hbs : Below w.heap.size w (w1.setCell ⟨w.heap.size + 1, k, none⟩ (.bool true)) := HJ1.out.law.bel.setCell (by exact Nat.le_succ _) _
          have hrq := hrq.below hbs (Nat.le_refl _)
          have hd4 := hcs.below hbs hb
          generalize X[k] = x at *
          generalize rv k = r at *
          obtain ⟨news, hsrc, hels⟩ := reqs_src2 hrq
          have HSRC := Lib.hid hsrc
          have HELS := Lib.hid hels
          obtain ⟨xa, xc, rfl⟩ : ∃ a c, r = .slice a x.reqs.length c := by obtain ⟨a, c, e, _⟩ := hrq; exact ⟨a, c, e⟩
          have d4 := hd4.2.2.2.2.1
          have HLS : Hid (LawB w (.slice (some ⟨b, off, none⟩) X.length cap) iv (w1.setCell ⟨w.heap.size + 1, k, none⟩ (.bool true))) := Lib.hid ⟨hbs, (heap_setCell_other _ _ _ _ (fun e => by have e : w.heap.size = w.heap.size + 1 := e; omega)).trans HJ1.out.law.idx⟩
          have HFS := Lib.hid (HJ1.out.flg.set k true)
          have HSG : Hid (SegC (w1.setCell ⟨w.heap.size + 1, k, none⟩ (.bool true)) (w.heap.size + 1 + 1) 2 (.slice (some ⟨gq, oq, none⟩) todo.length tc) todo.length xs) := Lib.hid (HJ1.out.seg.far (by simp) (fun b hb => heap_setCell_other w1 ⟨w.heap.size + 1, k, none⟩ b (.bool true) (fun e => by have h1 := (HJ1.out.seg.lt b hb).1; have e : b = w.heap.size + 1 := e; omega)))
          have HEL2 := Lib.hid (HJ1.out.els.below (B' := w.heap.size) ((Below.refl _ _).setCell (by exact Nat.le_succ _) (Value.bool true) : Below w.heap.size w1 (w1.setCell ⟨w.heap.size + 1, k, none⟩ (.bool true))) (Nat.le_refl _))
          have c0 := HLS.out.c0
          have hsz9 : w.heap.size + 1 + 1 ≤ (w1.setCell ⟨w.heap.size + 1, k, none⟩ (.bool true)).heap.size := by rw [World.size_setCell]; exact (Array.getElem?_eq_some_iff.1 HJ1.out.flg).1
          clear hsrc hels hcs hd4 hrq HRV
          go_wp2_with (at_builtin; refine wpList_append_segC _ rfl _ _ 26 26 rfl 58 i0 _ 40 2 Tryz.underlying26 hi0' hz0 hz1 hz2 rfl (w.heap.size + 1 + 1) (.slice (some ⟨gq, oq, none⟩) todo.length tc) todo.length xs (by rfl) HSG.out hsz9 x.reqs.length news HSRC.out (by unfold maxLen; omega) (by omega) ?_; intro v12 W12 h12 g12 hb12; have H12 := Lib.hid h12; have G12 := Lib.hid g12; obtain ⟨va12, vc12, rfl⟩ := h12.shape; clear h12 g12 hb12)
          have HBG : Hid (Below (w.heap.size + 1 + 1) (w1.setCell ⟨w.heap.size + 1, k, none⟩ (.bool true)) W12) := Lib.hid ((Below.refl _ _).grown G12.out hsz9 (fun b hb => (HSG.out.lt b hb).1))
          have hfl : ∀ g, g < w.heap.size + 1 + 1 → W12.heap[g]? = (w1.setCell ⟨w.heap.size + 1, k, none⟩ (.bool true)).heap[g]? := fun g hg => HBG.out.block g hg
          have HJ2 : Hid (RrJ nw X roots w (.slice (some ⟨b, off, none⟩) X.length cap) iv (todo ++ x.reqs) (i + 1) (k :: s) (l.set k true) (xs ++ news) (.slice va12 (todo.length + x.reqs.length) vc12) W12) := Lib.hid
            { law := ⟨HLS.out.bel.trans (HBG.out.mono (by omega)), (hfl _ (by omega)).trans HLS.out.idx⟩
              rch := HMK.out
              flg := (hfl _ (by omega)).trans HFS.out
              len := by rw [List.length_set]; exact hll
              mrk := bM_set2 hkl HJ1.out.mrk
              seg := by rw [List.length_append]; exact H12.out
              els := ReqXs.join (HEL2.out.below (HBG.out.mono (by omega) : Below w.heap.size _ _) (Nat.le_refl _)) HSG.out.len (HELS.out.below (HBG.out.mono (by omega) : Below w.heap.size _ _) (Nat.le_refl _)) }
          clear hfl HBG H12 G12 HSG HFS HLS HEL2 HSRC HELS
          go_wp2_with fail
          go_roundw
          case rel => exact Lib.hid ⟨todo ++ x.reqs, i + 1, k :: s, l.set k true, xs ++ news, by go_num, HJ2.out⟩
          case measure => simp [intOf]; omega
end Go.Proofs.YtenfkejbndifdaaGreatDoor
