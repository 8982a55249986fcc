/- The law MvsMonotone returns true. Minimal version selection, plain: what the reference builds, step by step. Contract of the reference's decimal. -/
import Derived.Test.YtenfkejbndifdaaGreatDoorVK
import Derived.Test.YtenfkejbndifdaaGreatDoorVL
import Derived.Test.YtenfkejbndifdaaGreatDoorVN
import Derived.Test.YtenfkejbndifdaaGreatDoorUK
import Derived.Test.YtenfkejbndifdaaGreatDoorUP
import Derived.Test.YtenfkejbndifdaaGreatDoorUB
import Derived.Test.YtenfkejbndifdaaGreatDoorUC
namespace Go.Proofs.YtenfkejbndifdaaGreatDoor
set_option linter.unusedVariables false
set_option linter.unusedSimpArgs false
open Go Go.RowKit

theorem fold_names (P : ByteArray → Prop) : ∀ (l out : List ReqL), (∀ q ∈ l, P q.1) → (∀ q ∈ out, P q.1) → ∀ x ∈ l.foldl insM out, P x.1
  | [], out, _, h, x, hx => h x hx
  | q :: l, out, h1, h2, x, hx => fold_names P l (insM out q) (fun y hy => h1 y (by simp [hy])) (fun y hy => by
    rcases insM_head hy with e | hy
    · rw [e]; exact h1 q (by simp)
    · exact h2 y hy) x hx
theorem merge_bd {ls : List (List ReqL)} {out : List ReqL} (h : mergeV ls = (out, 0)) (hb : ∀ l ∈ ls, ReqsBd l) : ReqsBd out ∧ out.length ≤ 16 := by
  obtain ⟨hu, _, rfl⟩ := merge_up h
  refine ⟨fun q hq => ⟨fold_names (fun p => p.size ≤ 1000000) ls.flatten [] (fun q hq => ?_) (fun q hq => by cases hq) q hq, ?_⟩, (reqs_ok hu.1).len⟩
  · obtain ⟨l, hl, hq⟩ := List.mem_flatten.1 hq
    exact (hb l hl q hq).1
  · have := good_len (hu.q hq).good
    omega
def bothB (roots more : List ReqL) : Bool := more.any fun q => roots.any fun p => decide (p.1 = q.1)
theorem bothB_not {roots more : List ReqL} (h : bothB roots more = false) : ∀ q ∈ more, ∀ p ∈ roots, p.1 ≠ q.1 := fun q hq p hp e => by
  unfold bothB at h
  have h1 := (List.any_eq_false.1 h) q hq
  exact h1 (List.any_eq_true.2 ⟨p, hp, decide_eq_true e⟩)
theorem mono_law {X : List RelL} {roots more all : List ReqL} (h0 : (selM false X roots).2 = 0) (hm : mergeV [roots, more] = (all, 0)) (hb : bothB roots more = false) :
    ((selM false X all).2 ≠ 0 → (selM false X all).2 = 6 ∧ (selM false X all).1 = []) ∧ ((selM false X all).2 = 0 → ((selM false X roots).1.any fun y => decide (leastS (selM false X all).1 y.1 < leastS (selM false X roots).1 y.1)) = false) := by
  obtain ⟨hp, ha⟩ := selM_zero h0
  obtain ⟨hu, _, he⟩ := merge_up hm
  have hp2 : PlainP X all := ⟨hp.idx, hu, hp.own⟩
  by_cases ha2 : AllM false X all
  · rw [selM_ok hp2 ha2, selM_ok hp ha]
    refine ⟨fun h => absurd rfl h, fun _ => ?_⟩
    rw [List.any_eq_false]
    intro y hy h
    have h2 : leastS (selL false X all) y.1 < leastS (selL false X roots) y.1 := of_decide_eq_true h
    have h1 := more_least (nw := false) (r1 := roots) (r2 := all) (idx_ok hp.idx) (fun q hq => by rw [he]; exact merge_sub hp.roots.incr (bothB_not hb) q hq) (show y ∈ selL false X roots from hy)
    omega
  · rw [selM_not hp2 ha2]
    exact ⟨fun _ => ⟨rfl, rfl⟩, fun h => by cases h⟩
structure MonB (w : World) (v iv rov : Value) (W : World) : Prop where
  bel : Below w.heap.size w W
  idx : W.heap[w.heap.size]? = some (.cells #[v, iv] 25 (0, 0))
  rts : W.heap[w.heap.size + 1]? = some (.cells #[rov] 26 (0, 0))
theorem MonB.lt {w : World} {v iv rov : Value} {W : World} (h : MonB w v iv rov W) : w.heap.size + 1 < W.heap.size := (Array.getElem?_eq_some_iff.1 h.rts).1
theorem MonB.below {w : World} {v iv rov : Value} {W W' : World} (h : MonB w v iv rov W) (hb : Below W.heap.size W W') : MonB w v iv rov W' := by
  have hl := h.lt
  exact ⟨h.bel.trans (hb.mono h.bel.size), (hb.block _ (by omega)).trans h.idx, (hb.block _ hl).trans h.rts⟩
theorem MonB.start (w : World) (v iv rov : Value) : MonB w v iv rov ((w.alloc (.cells #[v, iv] 25)).alloc (.cells #[rov] 26)) := by
  have hget : ∀ (w : World) (o : Obj) (k : Nat), (w.alloc o).heap[k]? = if k = w.heap.size then some o else w.heap[k]? := fun w o k => by
    show (w.heap.push o)[k]? = _
    rw [Array.getElem?_push]
  refine ⟨(by repeat (first | exact Below.refl _ _ | refine Below.drew ?_ | refine Below.alloc ?_ (by simp <;> omega) _ | refine Below.setCell ?_ (by simp <;> omega) _)), ?_, ?_⟩
  · simp only [hget, World.size_alloc]; repeat (first | rw [if_pos trivial] | rw [if_neg (by omega)] | rw [if_pos (by omega)])
  · simp only [hget, World.size_alloc]; repeat (first | rw [if_pos trivial] | rw [if_neg (by omega)] | rw [if_pos (by omega)])
theorem MonB.c0 {w : World} {v iv rov : Value} {W : World} (h : MonB w v iv rov W) : W.cell? ⟨w.heap.size, 0, none⟩ = some v := cell_of_row _ _ 0 _ _ _ h.idx
theorem MonB.c1 {w : World} {v iv rov : Value} {W : World} (h : MonB w v iv rov W) : W.cell? ⟨w.heap.size, 1, none⟩ = some iv := cell_of_row _ _ 1 _ _ _ h.idx
theorem MonB.r0 {w : World} {v iv rov : Value} {W : World} (h : MonB w v iv rov W) : W.cell? ⟨w.heap.size + 1, 0, none⟩ = some rov := cell_of_row _ _ 0 _ _ _ h.rts
set_option maxRecDepth 100000 in
theorem mono11_any (q p : ReqL) (g : Nat) (rq rp : Value) (W : World) (hr : ∃ a n c, rp = .slice a n c) (hg : W.heap[g]? = some (.cells #[.string q.1, rq] 58 (0, 0))) :
    Calls Tryz.prog 35 (#[.agg #[.string p.1, rp]] ++ #[.pointer (some ⟨g, 0, none⟩)]) W fun e w' => e = .returned (.bool (decide (p.1 = q.1))) ∧ Below W.heap.size W w' := by
  show Calls _ _ #[.agg #[.string p.1, rp], .pointer (some ⟨g, 0, none⟩)] _ _
  obtain ⟨a, n, c, rfl⟩ := hr
  have HG := Lib.hid hg
  have hgl := (Array.getElem?_eq_some_iff.1 hg).1
  clear hg
  have HB0 := Lib.hid (belQ W (.cells #[.string p.1, .slice a n c] 58))
  have HN := Lib.hid (World.alloc_heap_new W (.cells #[.string p.1, .slice a n c] 58))
  have hd : (p.1.toList == q.1.toList) = decide (p.1 = q.1) := eqs_dec _ _
  generalize decide (p.1 = q.1) = b at *
  go_enter Tryz.func35, Tryz.ntmps35
  go_upto_region 1 with fail
  generalize W.alloc (.cells #[.string p.1, .slice a n c] 58) = W1 at *
  have p0 : W1.cell? ⟨W.heap.size, 0, none⟩ = some (.string p.1) := cell_of_row _ _ 0 _ _ _ HN.out
  have q0 : W1.cell? ⟨g, 0, none⟩ = some (.string q.1) := cell_of_row _ _ 0 _ _ _ ((HB0.out.block g hgl).trans HG.out)
  go_wp2_with fail
  go_ret
  refine ⟨?_, HB0.out⟩
  first
  | rfl
  | (rw [← hd]; rfl)
set_option maxRecDepth 100000 in
theorem mono1_any (q : ReqL) (roots : List ReqL) (gr : Nat) (rov rq : Value) (W : World) (hro : roots.length ≤ 1000000) (hr : ∃ a n c, rq = .slice a n c) (hg : W.heap[gr]? = some (.cells #[rov] 26 (0, 0))) (hR : ReqsOf W.heap.size rov roots W) :
    Calls Tryz.prog 34 (#[.agg #[.string q.1, rq]] ++ #[.pointer (some ⟨gr, 0, none⟩)]) W fun e w' => e = .returned (.bool (roots.any fun p => decide (p.1 = q.1))) ∧ Below W.heap.size W w' := by
  show Calls _ _ #[.agg #[.string q.1, rq], .pointer (some ⟨gr, 0, none⟩)] _ _
  obtain ⟨a, n, c, rfl⟩ := hr
  obtain ⟨ra, rc, rfl⟩ : ∃ ra rc, rov = .slice ra roots.length rc := by obtain ⟨a, c, e, _⟩ := hR; exact ⟨a, c, e⟩
  have HG := Lib.hid hg
  have hgl := (Array.getElem?_eq_some_iff.1 hg).1
  have HB0 := Lib.hid (belQ W (.cells #[.string q.1, .slice a n c] 58))
  have HN := Lib.hid (World.alloc_heap_new W (.cells #[.string q.1, .slice a n c] 58))
  have HR0 := Lib.hid (hR.on HB0.out)
  clear hg hR
  obtain ⟨b, hb⟩ : ∃ b, (roots.any fun p => decide (p.1 = q.1)) = b := ⟨_, rfl⟩
  rw [hb]
  have HBV := Lib.hid hb
  clear hb
  go_enter Tryz.func34, Tryz.ntmps34
  go_upto_region 1 with fail
  generalize W.alloc (.cells #[.string q.1, .slice a n c] 58) = W1 at *
  have r0 : W1.cell? ⟨gr, 0, none⟩ = some (.slice ra roots.length rc) := cell_of_row _ _ 0 _ _ _ ((HB0.out.block gr hgl).trans HG.out)
  have HP : Hid (PredQ 35 #[.pointer (some ⟨W.heap.size, 0, none⟩)] roots (fun p => decide (p.1 = q.1)) W1) := Lib.hid (fun W2 p r hp hb hS =>
    (mono11_any q p W.heap.size _ r W2 (by obtain ⟨x, y, e, _⟩ := hS; exact ⟨_, _, _, e⟩) ((hb.block W.heap.size (Array.getElem?_eq_some_iff.1 HN.out).1).trans HN.out)).mono fun e w' h => ⟨h.1, hb.trans (h.2.mono hb.size)⟩)
  have HC := Lib.hid (has_req 35 _ (enters_of Tryz.func35 (by kernel_rfl) rfl) _ (.slice ra roots.length rc) roots W1 (by omega) HR0.out HP.out)
  rw [HBV.out] at HC
  clear HP
  go_wp2_with fail
  refine HC.out.mono ?_
  rintro e w2 ⟨rfl, hb2⟩
  have HB2 := Lib.hid (HB0.out.trans (hb2.mono HB0.out.size))
  clear hb2 HC r0
  go_wp2_with fail
  go_ret
  exact ⟨rfl, HB2.out⟩
theorem lists_two {W : World} {a b : Value} {s t : List ReqL} (ha : ReqsOf W.heap.size a s W) (hb : ReqsOf W.heap.size b t W) : ListsOf (W.alloc (.cells #[a, b] 26)).heap.size (.slice (some ⟨W.heap.size, 0, none⟩) 2 2) [s, t] (W.alloc (.cells #[a, b] 26)) := by
  have hn := World.alloc_heap_new W (.cells #[a, b] 26)
  have h1 := ha.on (belQ W (.cells #[a, b] 26))
  have h2 := hb.on (belQ W (.cells #[a, b] 26))
  refine ⟨_, _, rfl, fun i x hx => ?_⟩
  match i, hx with
  | 0, hx => cases hx; exact ⟨W.heap.size, 0, a, rfl, by simp, cell_of_row _ _ 0 _ _ _ hn, h1⟩
  | 1, hx => cases hx; exact ⟨W.heap.size, 0, b, rfl, by simp, cell_of_row _ _ 1 _ _ _ hn, h2⟩
  | i + 2, hx => simp at hx
set_option maxRecDepth 100000 in
set_option maxHeartbeats 16000000 in
theorem MvsMonotone_any (a : Option Addr) (c : Nat) (iv : Value) (X : List RelL) (rov : Value) (roots : List ReqL) (mov : Value) (more : List ReqL) (w : World) (hm : MaxOk w) (h0 : RelsOf w.heap.size (.slice a X.length c) X w ∧ X.length ≤ maxLen ∧ ∀ x ∈ X, x.reqs.length ≤ maxLen)
    (h1 : ReqsOf w.heap.size rov roots w ∧ roots.length ≤ maxLen) (h2 : ReqsOf w.heap.size mov more w ∧ more.length ≤ maxLen) : Calls Tryz.prog 7 #[.agg #[.slice a X.length c, iv], rov, mov] w fun e w' => e = .returned (.bool true) ∧ Below w.heap.size w w' := by
  obtain ⟨hR, hX, hXr⟩ := h0
  obtain ⟨hRo, hro⟩ := h1
  obtain ⟨hMo, hmo⟩ := h2
  have HM := Lib.hid hm
  have HR := Lib.hid hR
  have HRo := Lib.hid hRo
  have HMo := Lib.hid hMo
  obtain ⟨ra, rc, rfl⟩ : ∃ ra rc, rov = .slice ra roots.length rc := by obtain ⟨a, c, e, _⟩ := hRo; exact ⟨a, c, e⟩
  obtain ⟨ma, mc, rfl⟩ : ∃ ra rc, mov = .slice ra more.length rc := by obtain ⟨a, c, e, _⟩ := hMo; exact ⟨a, c, e⟩
  have HAW := Lib.hid (fun W (hb : RowKit.Below w.heap.size w W) => awake34_any W (hm.below hb hm.pos))
  have HFEW := Lib.hid (fun W (hb : RowKit.Below w.heap.size w W) => few34_any a c iv (.slice ra roots.length rc) X roots W hX hXr (hR.on hb) hro (hRo.on hb))
  have HFEM := Lib.hid (fun W (hb : RowKit.Below w.heap.size w W) => few34_any a c iv (.slice ma more.length mc) X more W hX hXr (hR.on hb) hmo (hMo.on hb))
  clear hm hR hRo hMo
  have HB0 := Lib.hid (MonB.start w (.slice a X.length c) iv (.slice ra roots.length rc))
  go_enter Tryz.func7, Tryz.ntmps7
  go_upto_region 1 with fail
  generalize (w.alloc (.cells #[.slice a X.length c, iv] 25)).alloc (.cells #[.slice ra roots.length rc] 26) = W at *
  go_wp2_with fail
  refine (HAW.out _ HB0.out.bel).mono ?_
  rintro e w1 ⟨rfl, hb1⟩
  have HB1 := Lib.hid (HB0.out.below hb1)
  clear hb1 HAW HB0
  have c0 := HB1.out.c0
  have c1 := HB1.out.c1
  have r0 := HB1.out.r0
  go_wp2_with fail
  refine (HFEW.out _ HB1.out.bel).mono ?_
  rintro e w2 ⟨fb, rfl, hfb, hb2⟩
  have HB2 := Lib.hid (HB1.out.below hb2)
  have HFB := Lib.hid hfb
  clear hb2 hfb HFEW c0 c1 r0 HB1
  cases fb with
  | false =>
    go_wp2_with fail
    go_ret
    exact ⟨rfl, HB2.out.bel⟩
  | true =>
  have HF1 := Lib.hid (HFB.out rfl)
  clear HFB
  have c0 := HB2.out.c0
  have c1 := HB2.out.c1
  go_wp2_with fail
  refine (HFEM.out _ HB2.out.bel).mono ?_
  rintro e w3 ⟨fm, rfl, hfm, hb3⟩
  have HB3 := Lib.hid (HB2.out.below hb3)
  have HFM := Lib.hid hfm
  clear hb3 hfm HFEM c0 c1 HB2
  cases fm with
  | false =>
    go_wp2_with fail
    go_ret
    exact ⟨rfl, HB3.out.bel⟩
  | true =>
  have HRB := Lib.hid HF1.out.1.bd
  have HQB := Lib.hid HF1.out.2.bd
  have HMB := Lib.hid (HFM.out rfl).2.bd
  have hX2 : X.length ≤ 20 := HF1.out.1.len
  have hro2 : roots.length ≤ 1000000 := by have := HF1.out.2.len; omega
  have hmo2 : more.length ≤ 1000000 := by have := (HFM.out rfl).2.len; omega
  have HSE := Lib.hid (fun W v l (hb : RowKit.Below w.heap.size w W) (hl : List.length l ≤ 1000000) (hbd : ReqsBd l) (hL : ReqsOf W.heap.size v l W) => MSelect_any (.slice a X.length c) iv v X l W (HM.out.below hb HM.out.pos) (by omega) HRB.out (HR.out.on hb) hl hbd hL)
  have HLAW : Hid (∀ all, (selM false X roots).2 = 0 → mergeV [roots, more] = (all, 0) → bothB roots more = false → ((selM false X all).2 ≠ 0 → (selM false X all).2 = 6 ∧ (selM false X all).1 = []) ∧ ((selM false X all).2 = 0 → ((selM false X roots).1.any fun y => decide (leastS (selM false X all).1 y.1 < leastS (selM false X roots).1 y.1)) = false)) := Lib.hid (fun all h1 h2 h3 => mono_law h1 h2 h3)
  have HLS : Hid ((selM false X roots).1.length ≤ X.length) := Lib.hid selM_len
  have HVS : Hid (∀ y ∈ (selM false X roots).1, validB y.2.1 y.2.2.1 y.2.2.2 = true) := Lib.hid (fun y hy => selM_valid hy)
  have HSX := Lib.hid (HSE.out w3 (.slice ra roots.length rc) roots HB3.out.bel hro2 HQB.out (HRo.out.on HB3.out.bel))
  unfold SelR at HSE HSX
  obtain ⟨s, hs⟩ : ∃ s, (selM false X roots).1 = s := ⟨_, rfl⟩
  obtain ⟨E, hE⟩ : ∃ E, (selM false X roots).2 = E := ⟨_, rfl⟩
  rw [hs, hE] at HSX HLAW
  rw [hs] at HLS HVS
  clear hs hE
  have hls := HLS.out
  have c0 := HB3.out.c0
  have c1 := HB3.out.c1
  have r0 := HB3.out.r0
  go_wp2_with fail
  refine HSX.out.mono ?_
  rintro e w4 ⟨hb4, sv, rfl, hs4⟩
  have HB4 := Lib.hid (HB3.out.below hb4)
  have HS4 := Lib.hid hs4
  obtain ⟨sa, sc, rfl⟩ : ∃ sa sc, sv = .slice sa s.length sc := by obtain ⟨a, c, e, _⟩ := hs4; exact ⟨a, c, e⟩
  clear hb4 hs4 c0 c1 r0 HSX HB3
  have HBQ := Lib.hid (belQ w4 (.cells #[.slice sa s.length sc] 27))
  have HNS := Lib.hid (World.alloc_heap_new w4 (.cells #[.slice sa s.length sc] 27))
  go_upto_region 6 with fail
  generalize w4.alloc (.cells #[.slice sa s.length sc] 27) = w5 at *
  have HB5 := Lib.hid (HB4.out.below HBQ.out)
  have HS5 := Lib.hid (HS4.out.on HBQ.out)
  generalize w4.heap.size = gs at *
  have hgs5 : gs < w5.heap.size := (Array.getElem?_eq_some_iff.1 HNS.out).1
  clear HBQ HS4 HB4
  have r0 := HB5.out.r0
  have HBL : Hid (Below w5.heap.size w5 (w5.alloc (.cells #[.slice ra roots.length rc, .slice ma more.length mc] 26))) := Lib.hid (belQ w5 _)
  have HMG := Lib.hid (Merge_any (.slice (some ⟨w5.heap.size, 0, none⟩) 2 2) [roots, more] (w5.alloc (.cells #[.slice ra roots.length rc, .slice ma more.length mc] 26)) (HM.out.below (HB5.out.below HBL.out).bel HM.out.pos) (by simp) (fun l hl => by
    rcases List.mem_cons.1 hl with h | h
    · rw [h]; exact ⟨hro2, HQB.out⟩
    · rw [List.mem_singleton.1 h]; exact ⟨hmo2, HMB.out⟩) (lists_two (HRo.out.on HB5.out.bel) (HMo.out.on HB5.out.bel)))
  have HMD : Hid (∀ all, mergeV [roots, more] = (all, 0) → ReqsBd all ∧ all.length ≤ 16) := Lib.hid (fun all h => merge_bd h (fun l hl => by
    rcases List.mem_cons.1 hl with h | h
    · rw [h]; exact HQB.out
    · rw [List.mem_singleton.1 h]; exact HMB.out))
  unfold MergeR at HMG
  obtain ⟨MV, hMV⟩ : ∃ MV, mergeV [roots, more] = MV := ⟨_, rfl⟩
  rw [hMV] at HMG HMD HLAW
  clear hMV
  obtain ⟨all, F⟩ := MV
  simp only at HMG
  go_wp2_with fail
  refine HMG.out.mono ?_
  rintro e w6 ⟨hb6, av, rfl, ha6, _⟩
  have hb56 := HBL.out.trans (hb6.mono HBL.out.size)
  have HB6 := Lib.hid (HB5.out.below hb56)
  have HS6 := Lib.hid (HS5.out.on hb56)
  have HNS6 := Lib.hid ((hb56.block gs hgs5).trans HNS.out)
  have HA6 := Lib.hid ha6
  have hgs6 : gs < w6.heap.size := (Array.getElem?_eq_some_iff.1 HNS6.out).1
  obtain ⟨aa, ac, rfl⟩ : ∃ x y, av = .slice x all.length y := by obtain ⟨x, y, e, _⟩ := ha6; exact ⟨x, y, e⟩
  clear hb6 hb56 ha6 r0 HMG HBL HB5 HS5 HNS
  have HP : Hid (PredQ 34 #[.pointer (some ⟨w.heap.size + 1, 0, none⟩)] more (fun q => roots.any fun p => decide (p.1 = q.1)) w6) := Lib.hid (fun W2 q r hq hb hS =>
    (mono1_any q roots (w.heap.size + 1) (.slice ra roots.length rc) r W2 hro2 (by obtain ⟨x, y, e, _⟩ := hS; exact ⟨_, _, _, e⟩) (HB6.out.below hb).rts (HRo.out.on (HB6.out.below hb).bel)).mono fun e w' h => ⟨h.1, hb.trans (h.2.mono hb.size)⟩)
  have HC := Lib.hid (has_req 34 _ (enters_of Tryz.func34 (by kernel_rfl) rfl) _ (.slice ma more.length mc) more w6 (by omega) (HMo.out.on HB6.out.bel) HP.out)
  rw [show (more.any fun q => roots.any fun p => decide (p.1 = q.1)) = bothB roots more from rfl] at HC
  generalize bothB roots more = bb at *
  clear HP
  go_wp2_with fail
  refine HC.out.mono ?_
  rintro e w7 ⟨rfl, hb7⟩
  have HB7 := Lib.hid (HB6.out.below hb7)
  have HS7 := Lib.hid (HS6.out.on hb7)
  have HA7 := Lib.hid (HA6.out.on hb7)
  have HNS7 := Lib.hid ((hb7.block gs hgs6).trans HNS6.out)
  clear hb7 HC HB6 HS6 HA6 HNS6
  by_cases hE : E = 0
  case neg =>
    have hE2 : (E != 0) = true := by simpa using hE
    go_wp2_with fail
    go_ret
    exact ⟨rfl, HB7.out.bel⟩
  subst hE
  by_cases hF : F = 0
  case neg =>
    have hF2 : (F != 0) = true := by simpa using hF
    go_wp2_with fail
    go_ret
    exact ⟨rfl, HB7.out.bel⟩
  subst hF
  cases bb with
  | true =>
    go_wp2_with fail
    go_ret
    exact ⟨rfl, HB7.out.bel⟩
  | false =>
  obtain ⟨habd, hal⟩ := HMD.out all rfl
  obtain ⟨hl1, hl2⟩ := HLAW.out all rfl rfl rfl
  have HL1 := Lib.hid hl1
  have HL2 := Lib.hid hl2
  have HLT : Hid ((selM false X all).1.length ≤ X.length) := Lib.hid selM_len
  have HVT : Hid (∀ y ∈ (selM false X all).1, validB y.2.1 y.2.2.1 y.2.2.2 = true) := Lib.hid (fun y hy => selM_valid hy)
  have HSX := Lib.hid (HSE.out w7 (.slice aa all.length ac) all HB7.out.bel (by omega) habd HA7.out)
  obtain ⟨t, ht⟩ : ∃ t, (selM false X all).1 = t := ⟨_, rfl⟩
  obtain ⟨G, hG⟩ : ∃ G, (selM false X all).2 = G := ⟨_, rfl⟩
  rw [ht, hG] at HSX HL1 HL2
  rw [ht] at HLT HVT
  clear ht hG hl1 hl2 habd HLAW HMD HSE
  have hlt := HLT.out
  have c0 := HB7.out.c0
  have c1 := HB7.out.c1
  go_wp2_with fail
  refine HSX.out.mono ?_
  rintro e w8 ⟨hb8, tv, rfl, ht8⟩
  have HB8 := Lib.hid (HB7.out.below hb8)
  have HS8 := Lib.hid (HS7.out.on hb8)
  have HT8 := Lib.hid ht8
  have hgs7 : gs < w7.heap.size := (Array.getElem?_eq_some_iff.1 HNS7.out).1
  have HNS8 := Lib.hid ((hb8.block gs hgs7).trans HNS7.out)
  obtain ⟨ta, tc, rfl⟩ : ∃ x y, tv = .slice x t.length y := by obtain ⟨x, y, e, _⟩ := ht8; exact ⟨x, y, e⟩
  clear hb8 ht8 c0 c1 HSX HB7 HS7 HNS7
  have HBQ := Lib.hid (belQ w8 (.cells #[.slice ta t.length tc] 27))
  have HNT := Lib.hid (World.alloc_heap_new w8 (.cells #[.slice ta t.length tc] 27))
  have hgs8 : gs < w8.heap.size := (Array.getElem?_eq_some_iff.1 HNS8.out).1
  go_upto_region 11 with fail
  generalize w8.alloc (.cells #[.slice ta t.length tc] 27) = w9 at *
  have HB9 := Lib.hid (HB8.out.below HBQ.out)
  have HS9 := Lib.hid (HS8.out.on HBQ.out)
  have HT9 := Lib.hid (HT8.out.on HBQ.out)
  have HNS9 := Lib.hid ((HBQ.out.block gs hgs8).trans HNS8.out)
  generalize w8.heap.size = gt at *
  clear HBQ HB8 HS8 HT8 HNS8
  have t0 : w9.cell? ⟨gt, 0, none⟩ = some (.slice ta t.length tc) := cell_of_row _ _ 0 _ _ _ HNT.out
  have s0 : w9.cell? ⟨gs, 0, none⟩ = some (.slice sa s.length sc) := cell_of_row _ _ 0 _ _ _ HNS9.out
  by_cases hG : G = 0
  case neg =>
    have hG2 : (G != 0) = true := by simpa using hG
    obtain ⟨e6, et⟩ := HL1.out hG
    subst e6
    subst et
    simp only [List.length_nil] at t0 ⊢
    go_wp2_with fail
    go_ret
    exact ⟨rfl, HB9.out.bel⟩
  subst hG
  have HANY := Lib.hid (HL2.out rfl)
  have HP : Hid (PredS4 37 #[.pointer (some ⟨gt, 0, none⟩), .pointer (some ⟨gs, 0, none⟩)] s (fun y => decide (leastS t y.1 < leastS s y.1)) w9) := Lib.hid (fun W y hy hb =>
    (monoLt_any gt gs (.slice ta t.length tc) (.slice sa s.length sc) t s y W (by omega) (by omega) HVT.out HVS.out (HT9.out.on hb) (HS9.out.on hb) ((hb.block gt (Array.getElem?_eq_some_iff.1 HNT.out).1).trans HNT.out) ((hb.block gs (Array.getElem?_eq_some_iff.1 HNS9.out).1).trans HNS9.out)).mono fun e w' h => ⟨h.1, hb.trans (h.2.mono hb.size)⟩)
  have HC := Lib.hid (has_sel 37 _ (enters_of Tryz.func37 (by kernel_rfl) rfl) _ (.slice sa s.length sc) s w9 (by omega) HS9.out HP.out)
  rw [HANY.out] at HC
  clear HP HVS HVT HANY HL1 HL2
  go_wp2_with fail
  refine HC.out.mono ?_
  rintro e w10 ⟨rfl, hb10⟩
  have HB10 := Lib.hid (HB9.out.below hb10)
  clear hb10 HC t0 s0
  go_wp2_with fail
  go_ret
  exact ⟨rfl, HB10.out.bel⟩
end Go.Proofs.YtenfkejbndifdaaGreatDoor

namespace Go.Proofs.YtenfkejbndifdaaGreatDoor
set_option linter.unusedVariables false
set_option linter.unusedSimpArgs false
open Go

def candB (X : List RelL) (q : ReqL) (i : Nat) : Bool := reachB q (X.getD i default) && !(X.getD i default).yk
def candK (X : List RelL) (q : ReqL) (k : Nat) : List Nat := (List.range k).filter (candB X q)
def namedK (nw : Bool) (X : List RelL) (q : ReqL) (k : Nat) : Option Nat := if nw = true then (candK X q k).getLast? else (candK X q k).head?
def optI : Option Nat → Int
  | some i => (i : Int)
  | none => -1
structure RchT (nw : Bool) (X : List RelL) (roots todo : List ReqL) (i : Nat) (s : List Nat) : Prop where
  le : i ≤ todo.length
  nod : s.Nodup
  rch : ∀ k ∈ s, RchM nw X roots k
  root : ∀ q ∈ roots, q ∈ todo
  own : ∀ k ∈ s, ∀ q ∈ (X.getD k default).reqs, q ∈ todo
  src : ∀ q ∈ todo, q ∈ roots ∨ ∃ k ∈ s, q ∈ (X.getD k default).reqs
  done : ∀ j, j < i → ∃ k ∈ s, namedI nw X (todo.getD j default) = some k
  len : todo.length ≤ roots.length + 16 * s.length
variable {nw : Bool} {X : List RelL} {roots todo : List ReqL} {i : Nat} {s : List Nat}
open Classical in
noncomputable def topK (nw : Bool) (X : List RelL) (roots : List ReqL) (k : Nat) : List Nat :=
  (List.range k).filter fun i => decide (RchM nw X roots i ∧ ∀ j, j < k → RchM nw X roots j → (X.getD j default).path = (X.getD i default).path → j ≤ i)
end Go.Proofs.YtenfkejbndifdaaGreatDoor

namespace Go.Proofs.YtenfkejbndifdaaGreatDoor
open Go Go.RowKit

end Go.Proofs.YtenfkejbndifdaaGreatDoor
