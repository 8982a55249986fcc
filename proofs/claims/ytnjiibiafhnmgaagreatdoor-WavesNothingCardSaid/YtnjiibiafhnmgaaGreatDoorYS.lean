/- Contracts of package waves: satisfies, consistent, Consistent. Waves, plain: right plans. -/
import Derived.Test.YtnjiibiafhnmgaaGreatDoorYR
import Derived.Test.YtnjiibiafhnmgaaGreatDoorYO
import Derived.Test.YtnjiibiafhnmgaaGreatDoorYM
namespace Go.Proofs.YtnjiibiafhnmgaaGreatDoor
open Go Go.RowKit Go.Maps

theorem found_valid {X : List RelL} (hX : checkX X = 0) {y : SelL} (h : (findR X y).isSome = true) : validB y.2.1 y.2.2.1 y.2.2.2 = true := by
  obtain ⟨x, hx⟩ := Option.isSome_iff_exists.1 h
  unfold findR at hx
  have h1 := valid_of_check hX (List.mem_of_find?_eq_some hx)
  have h2 : keyL x = y := by have := List.find?_some hx; simpa using this
  rw [← h2]
  exact h1
theorem reqsOf_at {X : List RelL} (hX : checkX X = 0) {x : RelL} (hx : x ∈ X) : reqsOf X (keyL x) = x.reqs := by
  obtain ⟨i, hi, rfl⟩ := List.mem_iff_getElem.1 hx
  have := findR_at (idx_ok hX) hi
  rw [List.getD_eq_getElem?_getD, List.getElem?_eq_getElem hi] at this
  simp only [Option.getD_some] at this
  unfold reqsOf
  rw [this]
set_option maxRecDepth 100000 in
set_option maxHeartbeats 8000000 in
theorem satisfies_any (X : List RelL) (s : List SelL) (hX : checkX X = 0) (hi : incrS s) (hfd : ∀ y ∈ s, (findR X y).isSome = true) (q : ReqL) (r : Value) (m : Nat) (W : World) (hq : q.1.size ≤ 1000000) (hl : q.2.length ≤ 1000000000) (hS : SpansOf W.heap.size r q.2 W) (hm : SideAt X s m W) :
    Calls Tryz.prog 87 #[.map (some m), .agg #[.string q.1, r]] W fun e w' => e = .returned (.bool (metB s q)) ∧ Below W.heap.size W w' := by
  obtain ⟨f, hmf, hF⟩ := hm
  have hn := incrS_nodup hi
  have HKY := Lib.hid (keyStr (p := q.1) (by unfold maxLen; omega))
  have HMF := Lib.hid (hmf.alloc (.cells #[.string q.1, r] 100))
  have HZR := Lib.hid (show ∀ W, (zeroValue 69).run Tryz.prog W = .ok zeroR W from Tryz.zeroValue69)
  have HSS := Lib.hid hS
  obtain ⟨ra, rc, rfl⟩ : ∃ a c, r = .slice a q.2.length c := by obtain ⟨a, c, e, _⟩ := hS; exact ⟨a, c, e⟩
  rcases hF q.1 with ⟨x, rx, h1, h2, h3, h4⟩ | ⟨h1, h2⟩
  · have hvx := found_valid hX (hfd _ h1)
    obtain ⟨xa, xc, rfl⟩ : ∃ a c, rx = .slice a x.reqs.length c := by obtain ⟨_, a, c, e, _⟩ := h3; exact ⟨a, c, e⟩
    obtain ⟨pq, sq⟩ := q
    simp only at hq hl hS HKY HMF HSS h2 h4 ⊢
    subst h2
    have HME := Lib.hid (metB_one (q := (x.path, sq)) hn h1 rfl)
    have HVB := Lib.hid (show placeV x.ver.1 x.ver.2.1 x.ver.2.2 = (1000 * x.ver.2.1 + x.ver.2.2, 0) by unfold placeV; rw [if_pos (show validB x.ver.1 x.ver.2.1 x.ver.2.2 = true from hvx)])
    obtain ⟨mb, hmb⟩ : ∃ mb, metB s (x.path, sq) = mb := ⟨_, rfl⟩
    rw [hmb]
    have HHB := Lib.hid (show hasB sq (1000 * x.ver.2.1 + x.ver.2.2) = mb from HME.out.symm.trans hmb)
    have HPL := Lib.hid (fun W => Place_any x.ver.1 x.ver.2.1 x.ver.2.2 W)
    rw [HVB.out] at HPL
    have HHA := Lib.hid (fun W' (hb : Below W.heap.size W W') => Has_any (.slice ra sq.length rc) sq (1000 * x.ver.2.1 + x.ver.2.2) W' hl ((HSS.out.below hb (Nat.le_refl _)).mono hb.size))
    rw [HHB.out] at HHA
    obtain ⟨p, ⟨v1, v2, v3⟩, rq, sa, si, sc, yk⟩ := x
    have HFE := Lib.hid (show (f (.string p.data.toList)).getD zeroR = .agg (relC ⟨p, (v1, v2, v3), rq, sa, si, sc, yk⟩ (.slice xa rq.length xc)) by rw [h4]; rfl)
    have HFS := Lib.hid (show (f (.string p.data.toList)).isSome = true by rw [h4]; rfl)
    simp only [relC] at HFE HPL HHA HKY HMF
    generalize 1000 * v2 + v3 = pl at *
    clear h1 h3 h4 hmb HME HVB HHB hS hmf hF hvx
    have HB1 : Hid (Below W.heap.size W ((W.alloc (.cells #[.string p, .slice ra sq.length rc] 100)).alloc (.cells (relC ⟨p, (v1, v2, v3), rq, sa, si, sc, yk⟩ (.slice xa rq.length xc)) 69))) := Lib.hid (by repeat (first | exact Below.refl _ _ | refine Below.drew ?_ | refine Below.alloc ?_ (by simp <;> omega) _ | refine Below.setCell ?_ (by simp <;> omega) _))
    have HX1 : Hid (BoxR ((W.alloc (.cells #[.string p, .slice ra sq.length rc] 100)).alloc (.cells (relC ⟨p, (v1, v2, v3), rq, sa, si, sc, yk⟩ (.slice xa rq.length xc)) 69)) (W.heap.size + 1) ⟨p, (v1, v2, v3), rq, sa, si, sc, yk⟩ (.slice xa rq.length xc)) := Lib.hid (by
      have := BoxR.made (W.alloc (.cells #[.string p, .slice ra sq.length rc] 100)) ⟨p, (v1, v2, v3), rq, sa, si, sc, yk⟩ (.slice xa rq.length xc)
      rw [World.size_alloc] at this
      exact this)
    simp only [relC] at HB1 HX1
    have HC1 : Hid (((W.alloc (.cells #[.string p, .slice ra sq.length rc] 100)).alloc (.cells #[.string p, intC v1, intC v2, intC v3, .slice xa rq.length xc, .string sa, .string si, .string sc, .bool yk] 69)).cell? ⟨W.heap.size, 1, none⟩ = some (.slice ra sq.length rc)) := Lib.hid (by
      rw [(belQ (W.alloc (.cells #[.string p, .slice ra sq.length rc] 100)) (.cells #[.string p, intC v1, intC v2, intC v3, .slice xa rq.length xc, .string sa, .string si, .string sc, .bool yk] 69)).cell (p := ⟨W.heap.size, 1, none⟩) (by simp)]
      exact cell_of_row _ _ 1 _ _ _ (World.alloc_heap_new W _))
    go_enter Tryz.func87, Tryz.ntmps87
    go_upto_region 2 with (at_lookup; refine wpList_look_ok_F rfl _ _ 89 rfl 9 69 lawStr Tryz.underlying89 (HZR.out _) m s.length f (by rfl) HMF.out _ (.string p.data.toList) rfl HKY.out ?_; rw [HFE.out, HFS.out])
    generalize hW1 : (W.alloc (.cells #[.string p, .slice ra sq.length rc] 100)).alloc (.cells #[.string p, intC v1, intC v2, intC v3, .slice xa rq.length xc, .string sa, .string si, .string sc, .bool yk] 69) = W1 at *
    clear hW1
    obtain ⟨x0, x1, x2, x3, _⟩ := HX1.out.cells
    have hz : W.heap.size < W1.heap.size := by have := HX1.out.lt; omega
    simp only at x1 x2 x3
    go_wp2_with fail
    refine (HPL.out W1).mono ?_
    rintro e w2 ⟨rfl, hb2⟩
    have HB2 := Lib.hid (HB1.out.trans (hb2.mono HB1.out.size))
    have q1 : w2.cell? ⟨W.heap.size, 1, none⟩ = some (.slice ra sq.length rc) := (hb2.cell (p := ⟨W.heap.size, 1, none⟩) hz).trans HC1.out
    clear hb2 x0 x1 x2 x3
    go_wp2_with fail
    refine (HHA.out _ HB2.out).mono ?_
    rintro e w3 ⟨rfl, hb3⟩
    have HB3 := Lib.hid (HB2.out.trans (hb3.mono HB2.out.size))
    clear hb3
    go_wp2_with fail
    go_ret
    exact ⟨rfl, HB3.out⟩
  · have HME := Lib.hid (metB_none h2)
    rw [HME.out]
    have HFE := Lib.hid (show (f (.string q.1.data.toList)).getD zeroR = zeroR by rw [h1]; rfl)
    have HFS := Lib.hid (show (f (.string q.1.data.toList)).isSome = false by rw [h1]; rfl)
    have HPL := Lib.hid (fun W => Place_any 0 0 0 W)
    have HB1 : Hid (Below W.heap.size W ((W.alloc (.cells #[.string q.1, .slice ra q.2.length rc] 100)).alloc (.cells #[.string ⟨#[]⟩, .int .i64 0, .int .i64 0, .int .i64 0, .slice none 0 0, .string ⟨#[]⟩, .string ⟨#[]⟩, .string ⟨#[]⟩, .bool false] 69))) := Lib.hid (by repeat (first | exact Below.refl _ _ | refine Below.drew ?_ | refine Below.alloc ?_ (by simp <;> omega) _ | refine Below.setCell ?_ (by simp <;> omega) _))
    have HX1 := Lib.hid (World.alloc_heap_new (W.alloc (.cells #[.string q.1, .slice ra q.2.length rc] 100)) (.cells #[.string ⟨#[]⟩, .int .i64 0, .int .i64 0, .int .i64 0, .slice none 0 0, .string ⟨#[]⟩, .string ⟨#[]⟩, .string ⟨#[]⟩, .bool false] 69))
    rw [World.size_alloc] at HX1
    unfold zeroR at HFE
    obtain ⟨pv, hpv⟩ : ∃ pv, placeV 0 0 0 = pv := ⟨_, rfl⟩
    rw [hpv] at HPL
    obtain ⟨pl, pe⟩ := pv
    clear hmf h1 h2 hF hpv hS
    go_enter Tryz.func87, Tryz.ntmps87
    go_upto_region 2 with (at_lookup; refine wpList_look_ok_F rfl _ _ 89 rfl 9 69 lawStr Tryz.underlying89 (HZR.out _) m s.length f (by rfl) HMF.out _ (.string q.1.data.toList) rfl HKY.out ?_; unfold zeroR; rw [HFE.out, HFS.out])
    generalize hW1 : (W.alloc (.cells #[.string q.1, .slice ra q.2.length rc] 100)).alloc (.cells #[.string ⟨#[]⟩, .int .i64 0, .int .i64 0, .int .i64 0, .slice none 0 0, .string ⟨#[]⟩, .string ⟨#[]⟩, .string ⟨#[]⟩, .bool false] 69) = W1 at *
    clear hW1
    have x1 : W1.cell? ⟨W.heap.size + 1, 1, none⟩ = some (.int .i64 0) := cell_of_row _ _ 1 _ _ _ HX1.out
    have x2 : W1.cell? ⟨W.heap.size + 1, 2, none⟩ = some (.int .i64 0) := cell_of_row _ _ 2 _ _ _ HX1.out
    have x3 : W1.cell? ⟨W.heap.size + 1, 3, none⟩ = some (.int .i64 0) := cell_of_row _ _ 3 _ _ _ HX1.out
    go_wp2_with fail
    refine (HPL.out W1).mono ?_
    rintro e w2 ⟨rfl, hb2⟩
    have HB2 := Lib.hid (HB1.out.trans (hb2.mono HB1.out.size))
    clear hb2 x1 x2 x3
    go_wp2_with fail
    go_ret
    exact ⟨rfl, HB2.out⟩
set_option maxRecDepth 100000 in
theorem cons1_any (X : List RelL) (s : List SelL) (hX : checkX X = 0) (hi : incrS s) (hfd : ∀ y ∈ s, (findR X y).isSome = true) (q : ReqL) (r : Value) (m c : Nat) (W : World) (hq : q.1.size ≤ 1000000) (hl : q.2.length ≤ 1000000000) (hS : SpansOf W.heap.size r q.2 W) (hm : SideAt X s m W) (hc : W.cell? ⟨c, 0, none⟩ = some (.map (some m))) :
    Calls Tryz.prog 86 #[.agg #[.string q.1, r], .pointer (some ⟨c, 0, none⟩)] W fun e w' => e = .returned (.bool (!metB s q)) ∧ Below W.heap.size W w' := by
  have hlt := World.block_lt_of_cell? _ _ hc
  simp only at hlt
  have hbq := belQ W (.cells #[.string q.1, r] 100)
  have HSA := Lib.hid (satisfies_any X s hX hi hfd q r m (W.alloc (.cells #[.string q.1, r] 100)) hq hl ((hS.below hbq (Nat.le_refl _)).mono hbq.size) (hm.below hbq))
  have HN := Lib.hid (World.alloc_heap_new W (.cells #[.string q.1, r] 100))
  have HB := Lib.hid hbq
  obtain ⟨ra, rc, rfl⟩ : ∃ a c, r = .slice a q.2.length c := by obtain ⟨a, c, e, _⟩ := hS; exact ⟨a, c, e⟩
  have hc1 : (W.alloc (.cells #[.string q.1, .slice ra q.2.length rc] 100)).cell? ⟨c, 0, none⟩ = some (.map (some m)) := (HB.out.cell (p := ⟨c, 0, none⟩) hlt).trans hc
  obtain ⟨mb, hmb⟩ : ∃ mb, metB s q = mb := ⟨_, rfl⟩
  rw [hmb] at HSA ⊢
  clear hm hS hc hbq hmb
  go_enter Tryz.func86, Tryz.ntmps86
  go_upto_region 1 with fail
  generalize W.alloc (.cells #[.string q.1, .slice ra q.2.length rc] 100) = W1 at *
  have q0 : W1.cell? ⟨W.heap.size, 0, none⟩ = some (.string q.1) := cell_of_row _ _ 0 _ _ _ HN.out
  have q1 : W1.cell? ⟨W.heap.size, 1, none⟩ = some (.slice ra q.2.length rc) := cell_of_row _ _ 1 _ _ _ HN.out
  go_wp2_with fail
  refine HSA.out.mono ?_
  rintro e w2 ⟨rfl, hb2⟩
  have HB2 := Lib.hid (HB.out.trans (hb2.mono HB.out.size))
  clear hb2
  go_wp2_with fail
  go_ret
  exact ⟨rfl, HB2.out⟩
theorem cons1_pred (X : List RelL) (s : List SelL) (hX : checkX X = 0) (hi : incrS s) (hfd : ∀ y ∈ s, (findR X y).isSome = true) (es : List ReqL) (m c : Nat) (w : World) (hq : ∀ q ∈ es, q.1.size ≤ 1000000 ∧ q.2.length ≤ 1000000) (hm : SideAt X s m w) (hc : w.cell? ⟨c, 0, none⟩ = some (.map (some m))) :
    PredQ 86 #[.pointer (some ⟨c, 0, none⟩)] es (fun q => !metB s q) w := by
  intro W x r hx hb hS
  have hlt := World.block_lt_of_cell? _ _ hc
  simp only at hlt
  refine (cons1_any X s hX hi hfd x r m c W (hq x hx).1 (by have := (hq x hx).2; omega) hS (hm.below hb) ((hb.cell (p := ⟨c, 0, none⟩) hlt).trans hc)).mono ?_
  rintro e w' ⟨rfl, h⟩
  exact ⟨rfl, hb.trans (h.mono hb.size)⟩
theorem consV_new {X : List RelL} {s : List SelL} (h : newV X s ≠ 0) : consV X s = newV X s := by
  unfold newV at h ⊢
  unfold consV
  by_cases h1 : checkX X ≠ 0 ∨ ¬ incrS s
  · rw [if_pos h1, if_pos h1]
  · rw [if_neg h1] at h
    rw [if_neg h1, if_neg h1]
    by_cases h2 : ∃ y ∈ s, findR X y = none
    · rw [if_pos h2, if_pos h2]
    · rw [if_neg h2] at h
      exact absurd rfl h
theorem consV_bad {X : List RelL} {s : List SelL} (h0 : checkX X = 0) (h1 : incrS s) (h2 : ∀ y ∈ s, (findR X y).isSome = true) {y : SelL} (hy : y ∈ s) (h : (reqsOf X y).any (fun q => !metB s q) = true) : consV X s = 17 := by
  unfold consV
  rw [if_neg (fun g => g.elim (fun a => a h0) (fun a => a h1)), if_neg (fun ⟨y, hy, e⟩ => by have := h2 y hy; rw [e] at this; cases this)]
  obtain ⟨q, hq, e⟩ := List.any_eq_true.1 h
  rw [if_pos ⟨y, hy, q, hq, by simpa using e⟩]
def ConsR (X : List RelL) (s : List SelL) (w : World) (e : Ending) (w' : World) : Prop := Below w.heap.size w w' ∧ ∃ m : Option Nat, e = .returned (.tuple #[.map m, .int .i64 (consV X s)]) ∧ (consV X s = 0 → ∃ b, m = some b ∧ SideAt X s b w')
theorem ConsR.no {X : List RelL} {s : List SelL} {w w' : World} {E : Int} (hb : Below w.heap.size w w') (h : consV X s = E) (h0 : E ≠ 0) : ConsR X s w (.returned (.tuple #[.map none, .int .i64 E])) w' := ⟨hb, none, by rw [h], fun e => absurd (h.symm.trans e) h0⟩
set_option maxRecDepth 100000 in
set_option maxHeartbeats 8000000 in
theorem consistent_any (v iv sv : Value) (X : List RelL) (s : List SelL) (w : World) (hm : MaxOk w) (hX : X.length ≤ 1000000) (hq : ∀ x ∈ X, RelBd x) (hR : RelsOf w.heap.size v X w)
    (hs : s.length ≤ 1000000) (hy : ∀ y ∈ s, SelBd y) (hS : SelsOf w.heap.size sv s w) :
    Calls Tryz.prog 52 #[.agg #[v, iv], sv] w (ConsR X s w) := by
  have HNW := Lib.hid (fun W (hb : RowKit.Below w.heap.size w W) => newSide_any v iv sv X s W (hm.below hb hm.pos) hX hq (hR.on hb) hs hy (hS.on hb))
  have HQB := Lib.hid hq
  obtain ⟨va, vn, vc, rfl⟩ : ∃ a n c, v = .slice a n c := by obtain ⟨a, c, _, e, _⟩ := hR.rv; exact ⟨_, _, _, e⟩
  obtain ⟨sa, sc, rfl⟩ : ∃ sa sc, sv = .slice sa s.length sc := by obtain ⟨a, c, e, _⟩ := hS; exact ⟨a, c, e⟩
  clear hm hq hR hS hy
  have HB0 := Lib.hid (IdxBx.start w (.slice va vn vc) iv)
  go_enter Tryz.func52, Tryz.ntmps52
  go_upto_region 1 with fail
  generalize w.alloc (.cells #[.slice va vn vc, iv] 25) = W at *
  have c0 := HB0.out.c0
  have c1 := HB0.out.c1
  unfold NewR at HNW
  obtain ⟨E, hE⟩ : ∃ E, newV X s = E := ⟨_, rfl⟩
  rw [hE] at HNW
  have HEE := Lib.hid hE
  clear hE
  go_wp2_with fail
  refine (HNW.out _ HB0.out.bel).mono ?_
  rintro e w1 ⟨hb1, m, rfl, hm1⟩
  have hbq := belQ w1 (.cells #[.map m] 89)
  have HB2 := Lib.hid ((HB0.out.below hb1).below hbq)
  have HN2 := Lib.hid (World.alloc_heap_new w1 (.cells #[.map m] 89))
  have HSD : Hid (E = 0 → ∃ b, m = some b ∧ SideAt X s b (w1.alloc (.cells #[.map m] 89)) ∧ checkX X = 0 ∧ incrS s ∧ ∀ y ∈ s, (findR X y).isSome = true) := Lib.hid (fun h => by
    obtain ⟨b, e, _, h1, h2, h3, h4⟩ := hm1 h
    exact ⟨b, e, h1.below hbq, h2, h3, h4⟩)
  clear hb1 hm1 hbq c0 c1 HNW HB0
  by_cases hE0 : E = 0
  case neg =>
    have hE1 : (E != 0) = true := by simpa using hE0
    have HV : Hid (consV X s = E) := Lib.hid (by rw [consV_new (by rw [HEE.out]; exact hE0), HEE.out])
    go_wp2_with fail
    go_ret2
    exact ConsR.no HB2.out.bel HV.out hE0
  subst hE0
  obtain ⟨b, e, hsd, h0, h1, h2⟩ := HSD.out rfl
  subst e
  have HCX := Lib.hid h0
  have HIN := Lib.hid h1
  have HFD := Lib.hid h2
  have HSA := Lib.hid hsd
  clear HSD hsd h0 h1 h2
  go_upto_region 4 with fail
  generalize w1.alloc (.cells #[.map (some b)] 89) = W2 at *
  obtain ⟨gm, hgm⟩ : ∃ gm, w1.heap.size = gm := ⟨_, rfl⟩
  rw [hgm] at HN2
  simp only [hgm]
  clear hgm
  have hgl : gm < W2.heap.size := (Array.getElem?_eq_some_iff.1 HN2.out).1
  have m0 : W2.cell? ⟨gm, 0, none⟩ = some (.map (some b)) := cell_of_row _ _ 0 _ _ _ HN2.out
  obtain ⟨f, hmf, hsf⟩ := HSA.out
  have HMF := Lib.hid hmf
  have HSF := Lib.hid hsf
  have hbl : b < W2.heap.size := hmf.lt
  clear hmf hsf
  go_wp2_with (at_range; refine wpList_range_F rfl _ 89 rfl 69 lawStr Tryz.underlying89 (by rfl) HMF.out ?_; intro w3 cnt0 hrg0 hg0 hs0; have HG0 := Lib.hid hg0; have HR0 := Lib.hid hrg0; have HS0 := Lib.hid hs0; clear hg0 hrg0 hs0)
  generalize hri : W2.heap.size = ri at HR0 HS0 hbl hgl
  have HRI := Lib.hid hri
  have HB0 : Hid (Below ri W2 w3) := Lib.hid (by rw [← hri]; exact (Below.refl _ _).grown HG0.out (Nat.le_refl _) (fun b hb => by cases hb))
  have HSG : Hid (SelF (fun x r => x ∈ X ∧ ReqsOf ri r x.reqs W2) s f) := Lib.hid (HSF.out.imp (fun x r h => ⟨h.1, by rw [← hri]; exact h.2⟩))
  have HWI : Hid (w.heap.size ≤ ri) := Lib.hid (by rw [← hri]; exact HB2.out.bel.size)
  clear hri
  (try simp only [zl1])
  go_loopw [] (fun wx => Hid (∃ (left : Lit → Bool) (cnt : Nat), RangesF Tryz.prog 9 wx b ri s.length f left cnt ∧ Below ri W2 wx ∧ ∀ y ∈ s, left (.string y.1.data.toList) = false → (reqsOf X y).any (fun q => !metB s q) = false)) (fun wx => wx.rangeLeft b ri)
  case atStart =>
    exact Lib.hid ⟨_, cnt0, HR0.out, HB0.out, fun y hy hl => by
      rcases HSG.out y.1 with ⟨x, r, _, _, _, h4⟩ | ⟨_, h2⟩
      · have hl : (f (.string y.1.data.toList)).isSome = false := hl
        rw [h4] at hl; cases hl
      · exact absurd rfl (h2 y hy)⟩
  case round =>
    obtain ⟨left, cnt, hrg, hbb, hlf⟩ := hrel.out
    have HRG := Lib.hid hrg
    have HBB := Lib.hid hbb
    have HLF := Lib.hid hlf
    have m1 : wr.cell? ⟨gm, 0, none⟩ = some (.map (some b)) := (hbb.cell (p := ⟨gm, 0, none⟩) hgl).trans m0
    have HM0 := Lib.hid m0
    clear hrel hrg hbb hlf HR0 HG0 HS0 HB0 m0
    go_wp2_with (at_next; refine wpList_next_F rfl _ rfl lawStr (fun x : List UInt8 => Value.string ⟨x.toArray⟩) (fun key kl hk => by obtain ⟨x, e, _⟩ := Maps.keyOf_str Tryz.underlying9 hk; exact ⟨x, e⟩) (by rfl) HRG.out ?_ ?_)
    rotate_left
    · intro x v kl w5 cnt1 hkey hlk hf hrg1 hlt1 hg1 hs1 hen
      obtain ⟨x2, ex, rfl, _⟩ := Maps.keyOf_str Tryz.underlying9 hkey
      obtain rfl : x = x2 := by
        have ex : Value.string ⟨x.toArray⟩ = Value.string ⟨x2.toArray⟩ := ex
        injection ex with ex
        injection ex with ex
        simpa using ex
      obtain ⟨y, r, hys, hyp, hG, hfy⟩ : ∃ y r, keyL y ∈ s ∧ y.path = ⟨x.toArray⟩ ∧ (y ∈ X ∧ ReqsOf ri r y.reqs W2) ∧ f (.string x) = some (.agg (relC y r)) := by
        rcases HSG.out ⟨x.toArray⟩ with ⟨y, r, a, b, c, d⟩ | ⟨h, _⟩
        · exact ⟨y, r, a, b, c, by simpa using d⟩
        · have h9 : f (.string x) = none := by simpa using h
          rw [h9] at hf; cases hf
      obtain rfl : v = .agg (relC y r) := Option.some.inj (hf.symm.trans hfy)
      have HYX := Lib.hid hG.1
      have HRQ := Lib.hid hG.2
      obtain ⟨ya, yc, rfl⟩ : ∃ a c, r = .slice a y.reqs.length c := by obtain ⟨a, c, e, _⟩ := hG.2; exact ⟨a, c, e⟩
      have HYS := Lib.hid hys
      have HYP := Lib.hid hyp
      have HR5 := Lib.hid hrg1
      have HLT := Lib.hid hlt1
      have HLW := Lib.hid HRG.out.left_eq
      have hr5 : ri < w5.heap.size := HR5.out.lt
      have HB5 : Hid (Below ri W2 w5) := Lib.hid (HBB.out.grown hg1 (Nat.le_of_lt HRG.out.lt) (fun b hb => by cases hb; exact Nat.le_refl _))
      have hyb := HQB.out y hG.1
      have HYB := Lib.hid hyb
      have hyl : y.reqs.length ≤ 1000000000 := by have := hyb.len; omega
      clear hkey hlk hf hfy hG hys hyp hrg1 hlt1 hg1 hs1 hyb m1
      simp only [relC] at hen ⊢
      have HB6 : Hid (Below ri W2 (w5.alloc (.cells #[.string y.path, intC y.ver.1, intC y.ver.2.1, intC y.ver.2.2, .slice ya y.reqs.length yc, .string y.ar, .string y.ifc, .string y.cert, .bool y.yk] 69))) := Lib.hid (HB5.out.alloc (Nat.le_of_lt hr5) _)
      have HR6 := Lib.hid (HR5.out.alloc (.cells #[.string y.path, intC y.ver.1, intC y.ver.2.1, intC y.ver.2.2, .slice ya y.reqs.length yc, .string y.ar, .string y.ifc, .string y.cert, .bool y.yk] 69))
      have HX6 := Lib.hid (BoxR.made w5 y (.slice ya y.reqs.length yc))
      simp only [relC] at HX6
      go_upto_region 7 with fail
      clear hen
      generalize w5.alloc (.cells #[.string y.path, intC y.ver.1, intC y.ver.2.1, intC y.ver.2.2, .slice ya y.reqs.length yc, .string y.ar, .string y.ifc, .string y.cert, .bool y.yk] 69) = W6 at *
      obtain ⟨gx, hgx⟩ : ∃ gx, w5.heap.size = gx := ⟨_, rfl⟩
      rw [hgx] at HX6
      simp only [hgx]
      obtain ⟨_, _, _, _, x4, _⟩ := HX6.out.cells
      have hsz6 : ri ≤ W6.heap.size := by have h := HB6.out.size; rwa [HRI.out] at h
      have HW26 : Hid (Below W2.heap.size W2 W6) := Lib.hid (by rw [HRI.out]; exact HB6.out)
      have m6 : W6.cell? ⟨gm, 0, none⟩ = some (.map (some b)) := (HB6.out.cell (p := ⟨gm, 0, none⟩) hgl).trans HM0.out
      have HRQ6 : Hid (ReqsOf W6.heap.size (.slice ya y.reqs.length yc) y.reqs W6) := Lib.hid ((HRQ.out.below HB6.out (Nat.le_refl _)).mono hsz6)
      have HHC := Lib.hid (has_req 86 #[.pointer (some ⟨gm, 0, none⟩)] (enters_of Tryz.func86 (by kernel_rfl) rfl) _ (.slice ya y.reqs.length yc) y.reqs W6 hyl HRQ6.out (cons1_pred X s HCX.out HIN.out HFD.out y.reqs b gm W6 HYB.out.reqs (HSA.out.below HW26.out) m6))
      have HRR : Hid (reqsOf X (keyL y) = y.reqs) := Lib.hid (reqsOf_at HCX.out HYX.out)
      obtain ⟨bb, hbb⟩ : ∃ bb, (y.reqs.any fun q => !metB s q) = bb := ⟨_, rfl⟩
      rw [hbb] at HHC
      have HBBB := Lib.hid hbb
      clear hbb hgx m6
      go_wp2_with fail
      refine HHC.out.mono ?_
      rintro e w7 ⟨rfl, hb7⟩
      have HB7 := Lib.hid (HB6.out.trans (hb7.mono hsz6))
      have HR7 := Lib.hid (HR6.out.kept (row := none) ⟨hb7.os, hb7.tape, hb7.output, hb7.size, fun i hi _ => hb7.block i hi⟩ (by simp) (by simp))
      clear hb7 HHC x4
      cases bb with
      | true =>
        have HV := Lib.hid (consV_bad HCX.out HIN.out HFD.out HYS.out (by rw [HRR.out]; exact HBBB.out))
        have HBW : Hid (Below w.heap.size w w7) := Lib.hid (HB2.out.bel.trans (HB7.out.mono HWI.out))
        go_wp2_with fail
        go_ret2
        exact ConsR.no HBW.out HV.out (by decide)
      | false =>
        have HL2 : Hid (∀ z ∈ s, (fun z => left z && !z.sameKey (.string x)) (.string z.1.data.toList) = false → (reqsOf X z).any (fun q => !metB s q) = false) := Lib.hid (fun z hz hl => by
          have hl : (left (.string z.1.data.toList) && !(Lit.string z.1.data.toList).sameKey (.string x)) = false := hl
          rw [Bool.and_eq_false_iff] at hl
          rcases hl with hl | hl
          · exact HLF.out z hz hl
          · have hk : (Lit.string z.1.data.toList).sameKey (.string x) = true := by simpa using hl
            have hzx : z.1.data.toList = x := by simpa [Lit.sameKey] using hk
            have hzp : z.1 = y.path := by rw [HYP.out, ← hzx]
            have hze : z = keyL y := incrS_one HIN.out hz HYS.out hzp
            rw [hze, HRR.out]; exact HBBB.out)
        go_wp2_with fail
        go_roundw
        case rel => exact Lib.hid ⟨_, cnt1, HR7.out, HB7.out, HL2.out⟩
        case measure => rw [HR7.out.left_eq, HLW.out]; exact HLT.out
    · intro hl0
      have HV : Hid (consV X s = 0) := Lib.hid (consV_zero.2 ⟨HCX.out, HIN.out, HFD.out, fun y hy => all_met (HLF.out y hy (hl0 _)), fun q hq => by cases hq⟩)
      have HBW : Hid (Below w.heap.size w wr) := Lib.hid (HB2.out.bel.trans (HBB.out.mono HWI.out))
      have HSE : Hid (SideAt X s b wr) := Lib.hid (HSA.out.below (by rw [HRI.out]; exact HBB.out))
      clear hl0
      go_wp2_with fail
      go_ret2
      exact ⟨HBW.out, some b, by rw [HV.out]; rfl, fun _ => ⟨b, rfl, HSE.out⟩⟩
set_option maxRecDepth 100000 in
theorem Consistent_any (v iv sv : Value) (X : List RelL) (s : List SelL) (w : World) (hm : MaxOk w) (hX : X.length ≤ 1000000) (hq : ∀ x ∈ X, RelBd x) (hR : RelsOf w.heap.size v X w)
    (hs : s.length ≤ 1000000) (hy : ∀ y ∈ s, SelBd y) (hS : SelsOf w.heap.size sv s w) :
    Calls Tryz.prog 18 #[.agg #[v, iv], sv] w fun e w' => e = .returned (.int .i64 (consV X s)) ∧ Below w.heap.size w w' := by
  have HC := Lib.hid (fun W (hb : RowKit.Below w.heap.size w W) => consistent_any v iv sv X s W (hm.below hb hm.pos) hX hq (hR.on hb) hs hy (hS.on hb))
  obtain ⟨va, vn, vc, rfl⟩ : ∃ a n c, v = .slice a n c := by obtain ⟨a, c, _, e, _⟩ := hR.rv; exact ⟨_, _, _, e⟩
  obtain ⟨sa, sc, rfl⟩ : ∃ sa sc, sv = .slice sa s.length sc := by obtain ⟨a, c, e, _⟩ := hS; exact ⟨a, c, e⟩
  clear hm hq hR hS hy
  unfold ConsR at HC
  generalize consV X s = E at *
  have HB0 := Lib.hid (IdxBx.start w (.slice va vn vc) iv)
  go_enter Tryz.func18, Tryz.ntmps18
  go_upto_region 1 with fail
  generalize w.alloc (.cells #[.slice va vn vc, iv] 25) = W at *
  have c0 := HB0.out.c0
  have c1 := HB0.out.c1
  go_wp2_with fail
  refine (HC.out _ HB0.out.bel).mono ?_
  rintro e w1 ⟨hb1, m, rfl, _⟩
  have HB1 := Lib.hid (HB0.out.below hb1)
  clear hb1 c0 c1 HC
  go_wp2_with fail
  go_ret
  exact ⟨rfl, HB1.out.bel⟩
end Go.Proofs.YtnjiibiafhnmgaaGreatDoor

namespace Go.Proofs.YtnjiibiafhnmgaaGreatDoor
open Go

structure PartP (N : Nat) (es : List (Int × Int)) (L : List (List Nat)) (pos : Nat → Nat) : Prop where
  mem : ∀ (i : Nat) (row : List Nat), L[i]? = some row → ∀ n, n ∈ row ↔ n < N ∧ pos n = i
  srt : ∀ (i : Nat) (row : List Nat), L[i]? = some row → row.Pairwise (· < ·) ∧ 0 < row.length
  lt : ∀ n, n < N → pos n < L.length
  down : ∀ a b : Nat, a < N → b < N → ((a : Int), (b : Int)) ∈ es → pos b ≤ pos a
def nameL (P : List ByteArray) (L : List (List Nat)) : List (List ByteArray) := L.map fun row => row.map fun n => P.getD n default
structure PlanP (X : List RelL) (f t : List SelL) (plan : List (List ByteArray)) : Prop where
  ne : ∀ l ∈ plan, l ≠ [] ∧ IncB l
  nod : plan.flatten.Nodup
  mem : ∀ p, p ∈ plan.flatten ↔ p ∈ movesP f t
  cons : ∀ i, i < plan.length → ConsP X (betV f t (plan.take (i + 1)).flatten)
theorem IncB.at {P : List ByteArray} (h : IncB P) {i j : Nat} (hij : i < j) (hj : j < P.length) : ltB (P.getD i default) (P.getD j default) = true := by
  rw [List.getD_eq_getElem?_getD, List.getD_eq_getElem?_getD, List.getElem?_eq_getElem hj, List.getElem?_eq_getElem (Nat.lt_trans hij hj)]
  exact List.pairwise_iff_getElem.1 h i j (Nat.lt_trans hij hj) hj hij
theorem IncB.inj {P : List ByteArray} (h : IncB P) {i j : Nat} (hi : i < P.length) (hj : j < P.length) (e : P.getD i default = P.getD j default) : i = j := by
  rcases Nat.lt_trichotomy i j with g | g | g
  · have := h.at g hj; rw [e, ltB_irrefl] at this; cases this
  · exact g
  · have := h.at g hi; rw [e, ltB_irrefl] at this; cases this
theorem getD_mem {P : List ByteArray} {i : Nat} (hi : i < P.length) : P.getD i default ∈ P := by
  rw [List.getD_eq_getElem?_getD, List.getElem?_eq_getElem hi]; exact List.getElem_mem hi
theorem mem_getD {P : List ByteArray} {p : ByteArray} (h : p ∈ P) : ∃ i, i < P.length ∧ P.getD i default = p := by
  obtain ⟨i, hi, rfl⟩ := List.mem_iff_getElem.1 h
  exact ⟨i, hi, by rw [List.getD_eq_getElem?_getD, List.getElem?_eq_getElem hi]; rfl⟩
theorem mem_named {P : List ByteArray} (hP : IncB P) {es : List (Int × Int)} {L : List (List Nat)} {pos : Nat → Nat} (h : PartP P.length es L pos) {x : Nat} (hx : x < P.length) (k : Nat) : P.getD x default ∈ ((nameL P L).take k).flatten ↔ pos x < k := by
  unfold nameL
  rw [← List.map_take, List.mem_flatten]
  constructor
  · rintro ⟨l, hl, hm⟩
    obtain ⟨row, hr, rfl⟩ := List.mem_map.1 hl
    obtain ⟨n, hn, e⟩ := List.mem_map.1 hm
    obtain ⟨i, hi⟩ := List.mem_iff_getElem?.1 hr
    rw [List.getElem?_take] at hi
    split at hi
    · rename_i hik
      obtain ⟨h1, h2⟩ := (h.mem i row hi n).1 hn
      have := hP.inj h1 hx e
      subst this
      omega
    · cases hi
  · intro hk
    have hl := h.lt x hx
    refine ⟨L[pos x].map fun n => P.getD n default, List.mem_map.2 ⟨L[pos x], ?_, rfl⟩, List.mem_map.2 ⟨x, (h.mem (pos x) _ (List.getElem?_eq_getElem hl) x).2 ⟨hx, rfl⟩, rfl⟩⟩
    exact List.mem_iff_getElem?.2 ⟨pos x, by rw [List.getElem?_take, if_pos hk, List.getElem?_eq_getElem hl]⟩
theorem part_plan {X : List RelL} {f t : List SelL} (hf : ConsP X f) (ht : ConsP X t) {L : List (List Nat)} {pos : Nat → Nat} (h : PartP (movesP f t).length (wavE X f t) L pos) : PlanP X f t (nameL (movesP f t) L) := by
  have hP := movesP_inc hf.incr ht.incr
  have hall : ∀ p, p ∈ (nameL (movesP f t) L).flatten ↔ p ∈ movesP f t := fun p => by
    constructor
    · intro hp
      obtain ⟨l, hl, hm⟩ := List.mem_flatten.1 hp
      unfold nameL at hl
      obtain ⟨row, hr, rfl⟩ := List.mem_map.1 hl
      obtain ⟨n, hn, rfl⟩ := List.mem_map.1 hm
      obtain ⟨i, hi⟩ := List.mem_iff_getElem?.1 hr
      exact getD_mem ((h.mem i row hi n).1 hn).1
    · intro hp
      obtain ⟨x, hx, rfl⟩ := mem_getD hp
      have h1 := (mem_named hP h hx (nameL (movesP f t) L).length).2 (by unfold nameL; rw [List.length_map]; exact h.lt x hx)
      rwa [List.take_length] at h1
  refine ⟨fun l hl => ?_, ?_, hall, fun i hi => ?_⟩
  · unfold nameL at hl
    obtain ⟨row, hr, rfl⟩ := List.mem_map.1 hl
    obtain ⟨i, hi⟩ := List.mem_iff_getElem?.1 hr
    obtain ⟨h1, h2⟩ := h.srt i row hi
    refine ⟨fun e => by rw [List.map_eq_nil_iff] at e; rw [e] at h2; simp at h2, ?_⟩
    unfold IncB
    rw [List.pairwise_map]
    exact h1.imp_of_mem fun {a b} _ hb hab => hP.at hab ((h.mem i row hi b).1 hb).1
  · unfold List.Nodup
    rw [List.pairwise_flatten]
    unfold nameL
    refine ⟨fun l hl => ?_, ?_⟩
    · obtain ⟨row, hr, rfl⟩ := List.mem_map.1 hl
      obtain ⟨i, hi⟩ := List.mem_iff_getElem?.1 hr
      rw [List.pairwise_map]
      exact (h.srt i row hi).1.imp_of_mem fun {a b} ha hb hab e => by
        have := hP.inj ((h.mem i row hi a).1 ha).1 ((h.mem i row hi b).1 hb).1 e
        omega
    · rw [List.pairwise_map, List.pairwise_iff_getElem]
      intro i j hi hj hij x hx y hy e
      obtain ⟨a, ha, rfl⟩ := List.mem_map.1 hx
      obtain ⟨b, hb, rfl⟩ := List.mem_map.1 hy
      obtain ⟨h1, h2⟩ := (h.mem i _ (List.getElem?_eq_getElem hi) a).1 ha
      obtain ⟨h3, h4⟩ := (h.mem j _ (List.getElem?_eq_getElem hj) b).1 hb
      have := hP.inj h1 h3 e
      subst this
      omega
  · rw [bet_cons hf ht]
    intro a ha b hb ham hbm
    obtain ⟨x, hx, rfl⟩ := mem_getD ha
    obtain ⟨y, hy, rfl⟩ := mem_getD hb
    cases hn : needB X f t ((movesP f t).getD x default) ((movesP f t).getD y default) with
    | false => rfl
    | true =>
      have he : ((x : Int), (y : Int)) ∈ wavE X f t := mem_wavE.2 ⟨x, y, hx, hy, hn, rfl⟩
      have h1 := h.down x y hx hy he
      have h2 := (mem_named hP h hx (i + 1)).1 ham
      exact absurd ((mem_named hP h hy (i + 1)).2 (by omega)) hbm
theorem PlanP.spot {X : List RelL} {f t : List SelL} {plan : List (List ByteArray)} (h : PlanP X f t plan) {p : ByteArray} (hp : p ∈ movesP f t) : ∃ i, ∃ hi : i < plan.length, p ∈ plan[i] := by
  obtain ⟨l, hl, hm⟩ := List.mem_flatten.1 ((h.mem p).2 hp)
  obtain ⟨i, hi, rfl⟩ := List.mem_iff_getElem.1 hl
  exact ⟨i, hi, hm⟩
theorem PlanP.one {X : List RelL} {f t : List SelL} {plan : List (List ByteArray)} (h : PlanP X f t plan) {p : ByteArray} {i j : Nat} (hi : i < plan.length) (hj : j < plan.length) (h1 : p ∈ plan[i]) (h2 : p ∈ plan[j]) : i = j := by
  have hn := h.nod
  unfold List.Nodup at hn
  rw [List.pairwise_flatten] at hn
  rcases Nat.lt_trichotomy i j with g | g | g
  · exact absurd rfl (List.pairwise_iff_getElem.1 hn.2 i j hi hj g p h1 p h2)
  · exact g
  · exact absurd rfl (List.pairwise_iff_getElem.1 hn.2 j i hj hi g p h2 p h1)
theorem mem_before {plan : List (List ByteArray)} {k : Nat} {p : ByteArray} : p ∈ (plan.take k).flatten ↔ ∃ i, i < k ∧ ∃ hi : i < plan.length, p ∈ plan[i] := by
  rw [List.mem_flatten]
  constructor
  · rintro ⟨l, hl, hm⟩
    obtain ⟨i, hi⟩ := List.mem_iff_getElem?.1 hl
    rw [List.getElem?_take] at hi
    split at hi
    · obtain ⟨h1, rfl⟩ := List.getElem?_eq_some_iff.1 hi
      exact ⟨i, by assumption, h1, hm⟩
    · cases hi
  · rintro ⟨i, hk, hi, hm⟩
    exact ⟨plan[i], List.mem_iff_getElem?.2 ⟨i, by rw [List.getElem?_take, if_pos hk, List.getElem?_eq_getElem hi]⟩, hm⟩
theorem PlanP.down {X : List RelL} {f t : List SelL} (hf : ConsP X f) (ht : ConsP X t) {plan : List (List ByteArray)} (h : PlanP X f t plan) {a b : ByteArray} (ha : a ∈ movesP f t) (hb : b ∈ movesP f t) (hn : needB X f t a b = true) {i j : Nat} (hi : i < plan.length) (hj : j < plan.length) (h1 : a ∈ plan[i]) (h2 : b ∈ plan[j]) : j ≤ i := by
  refine Nat.le_of_not_lt fun hlt => ?_
  have hc := (bet_cons hf ht).1 (h.cons i hi) a ha b hb (mem_before.2 ⟨i, by omega, hi, h1⟩) (fun hm => by
    obtain ⟨k, hk, hkl, hbk⟩ := mem_before.1 hm
    have := h.one hj hkl h2 hbk
    omega)
  rw [hn] at hc
  cases hc
theorem bet_all {f t : List SelL} (hf : incrS f) (ht : incrS t) {m : List ByteArray} {X : List RelL} (cf : ConsP X f) (ct : ConsP X t) (h : ∀ p ∈ movesP f t, p ∈ m) : betV f t m = t := by
  have key : ∀ {a b : List SelL}, incrS a → incrS b → (∀ y, y ∈ a ↔ y ∈ b) → a = b := by
    intro a
    induction a with
    | nil =>
      intro b _ _ h
      cases b with
      | nil => rfl
      | cons y b => have := (h y).2 (by simp); cases this
    | cons x a ih =>
      intro b ha hb h
      cases b with
      | nil => have := (h x).1 (by simp); cases this
      | cons y b =>
        obtain ⟨h1, h2⟩ := List.pairwise_cons.1 ha
        obtain ⟨h3, h4⟩ := List.pairwise_cons.1 hb
        have e : x = y := by
          rcases List.mem_cons.1 ((h x).1 (by simp)) with e | hx
          · exact e
          · rcases List.mem_cons.1 ((h y).2 (by simp)) with e | hy
            · exact e.symm
            · have g1 := h1 y hy
              have g2 := h3 x hx
              rw [ltB_asymm g1] at g2; cases g2
        subst e
        rw [ih h2 h4 fun z => ?_]
        have hz := h z
        simp only [List.mem_cons] at hz
        constructor
        · intro hm
          rcases hz.1 (.inr hm) with e | hm'
          · subst e; have := h1 z hm; rw [ltB_irrefl] at this; cases this
          · exact hm'
        · intro hm
          rcases hz.2 (.inr hm) with e | hm'
          · subst e; have := h3 z hm; rw [ltB_irrefl] at this; cases this
          · exact hm'
  refine key (bet_incr hf ht) ht fun y => ?_
  rw [mem_bet]
  have hat : (if y.1 ∈ m then atS t y.1 else atS f y.1) = atS t y.1 := by
    split
    · rfl
    · exact at_eq cf ct fun hp => by rename_i hm; exact hm (h _ hp)
  rw [hat]
  exact ⟨fun h => (atS_some h).1, fun h => atS_mem ht h⟩
theorem mergeU_self : ∀ (l : List ByteArray), mergeU l l = l
  | [] => mergeU_nil []
  | a :: l => by rw [mergeU_cons, if_pos rfl, mergeU_self l]
theorem moves_self (f : List SelL) : movesP f f = [] := by
  rw [List.eq_nil_iff_forall_not_mem]
  intro p hp
  exact mem_movesP.1 hp rfl
theorem moves_back {f t : List SelL} (hf : incrS f) (ht : incrS t) : movesP t f = movesP f t := IncB.unique (movesP_inc ht hf) (movesP_inc hf ht) fun p => by rw [mem_movesP, mem_movesP]; exact ⟨fun h e => h e.symm, fun h e => h e.symm⟩
theorem wavE_back {X : List RelL} {f t : List SelL} (hf : incrS f) (ht : incrS t) {i k : Nat} : ((i : Int), (k : Int)) ∈ wavE X t f ↔ ((k : Int), (i : Int)) ∈ wavE X f t := by
  rw [mem_wavE, mem_wavE, moves_back hf ht]
  constructor
  · rintro ⟨a, b, ha, hb, hn, e⟩
    have e1 := (Prod.mk.inj e).1
    have e2 := (Prod.mk.inj e).2
    obtain rfl : i = a := by omega
    obtain rfl : k = b := by omega
    exact ⟨k, i, hb, ha, by rw [← need_back]; exact hn, rfl⟩
  · rintro ⟨a, b, ha, hb, hn, e⟩
    have e1 := (Prod.mk.inj e).1
    have e2 := (Prod.mk.inj e).2
    obtain rfl : k = a := by omega
    obtain rfl : i = b := by omega
    exact ⟨i, k, hb, ha, by rw [need_back]; exact hn, rfl⟩
end Go.Proofs.YtnjiibiafhnmgaaGreatDoor
