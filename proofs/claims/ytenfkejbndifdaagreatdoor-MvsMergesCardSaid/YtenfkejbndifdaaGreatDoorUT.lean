/- Contracts of mvs: Check and its closure. The chapter's example of minimal version selection, plain. -/
import Derived.Test.YtenfkejbndifdaaGreatDoorUR
import Derived.Test.YtenfkejbndifdaaGreatDoorUS
import Derived.Test.YtenfkejbndifdaaGreatDoorUJ
import Derived.Test.YtenfkejbndifdaaGreatDoorUI
import Derived.Test.YtenfkejbndifdaaGreatDoorUQ
namespace Go.Proofs.YtenfkejbndifdaaGreatDoor
set_option linter.unusedVariables false
set_option linter.unusedSimpArgs false
open Go Go.RowKit Go.Maps

def HeldK (gw g b o gs : Nat) (xv : Value) (x : RelL) (r : Value) (s : SelL) (W : World) : Prop := W.cell? ⟨gw, 0, none⟩ = some (.pointer (some ⟨g, 0, none⟩)) ∧ W.cell? ⟨g, 0, none⟩ = some xv ∧ W.cell? ⟨gs, 0, none⟩ = some (.string s.1) ∧ W.cell? ⟨gs, 1, none⟩ = some (.int .i64 s.2.1) ∧ W.cell? ⟨gs, 2, none⟩ = some (.int .i64 s.2.2.1) ∧ W.cell? ⟨gs, 3, none⟩ = some (.int .i64 s.2.2.2) ∧ CellsAt W b o x r
theorem HeldK.below {gw g b o gs : Nat} {xv : Value} {x : RelL} {r : Value} {s : SelL} {W W' : World} (h : HeldK gw g b o gs xv x r s W) (h1 : gw < W.heap.size) (h2 : g < W.heap.size) (h3 : gs < W.heap.size) (h4 : b < W.heap.size) (hb : Below W.heap.size W W') : HeldK gw g b o gs xv x r s W' :=
  ⟨(hb.cell (p := ⟨gw, 0, none⟩) h1).trans h.1, (hb.cell (p := ⟨g, 0, none⟩) h2).trans h.2.1, (hb.cell (p := ⟨gs, 0, none⟩) h3).trans h.2.2.1, (hb.cell (p := ⟨gs, 1, none⟩) h3).trans h.2.2.2.1, (hb.cell (p := ⟨gs, 2, none⟩) h3).trans h.2.2.2.2.1, (hb.cell (p := ⟨gs, 3, none⟩) h3).trans h.2.2.2.2.2.1, h.2.2.2.2.2.2.below hb h4⟩
set_option maxRecDepth 100000 in
set_option maxHeartbeats 4000000 in
theorem check1_any (g gw gs : Nat) (X : List RelL) (a : Option Addr) (c m n : Nat) (f : Lit → Option Value) (i : Nat) (s : SelL) (W : World) (hw : WorldOf W g X a c m n f) (hi : i < X.length) (hXl : X.length ≤ 1000000) (h1 : W.cell? ⟨gw, 0, none⟩ = some (.pointer (some ⟨g, 0, none⟩))) (h2 : W.heap[gs]? = some (.cells (selC s).toArray 43 (0, 0))) (hgw : gw < W.heap.size) :
    Calls Tryz.prog 66 #[.int .i64 (i : Int), .pointer (some ⟨gw, 0, none⟩), .pointer (some ⟨gs, 0, none⟩)] W fun e w' => e = .returned (.bool (decide (keyL (X.getD i default) = s))) ∧ Below W.heap.size W w' := by
  obtain ⟨b, off, ra, rc, rfl, hbl, hcs, _⟩ := hw.rel hi
  have hgs : gs < W.heap.size := (Array.getElem?_eq_some_iff.1 h2).1
  have hgg : g < W.heap.size := hw.lt
  have HS0 : Hid (HeldK gw g b (off + i * 9) gs (.slice (some ⟨b, off, none⟩) X.length c) (X.getD i default) (.slice ra (X.getD i default).reqs.length rc) s W) := Lib.hid ⟨h1, hw.c0, cell_of_row _ _ 0 _ _ _ h2, cell_of_row _ _ 1 _ _ _ h2, cell_of_row _ _ 2 _ _ _ h2, cell_of_row _ _ 3 _ _ _ h2, hcs⟩
  have HSL := Lib.hid (fun W => mselected_any (X.getD i default) (.slice ra (X.getD i default).reqs.length rc) W)
  generalize X.getD i default = x at *
  obtain ⟨kb, hkb⟩ : ∃ kb, decide (keyL x = s) = kb := ⟨_, rfl⟩
  have hq1 : ∀ W, (binOp .eql 43 (.agg #[.string x.path, intC x.ver.1, intC x.ver.2.1, intC x.ver.2.2]) (.agg #[.string s.1, .int .i64 s.2.1, .int .i64 s.2.2.1, .int .i64 s.2.2.2])).run Tryz.prog W = .ok (.bool kb) W := fun W => by rw [← hkb]; exact sel_eql.1 (keyL x) s W
  rw [hkb]
  have hi1 : (0 : Int) ≤ (i : Int) := by omega
  have hi2 : (i : Int) < (X.length : Int) := by omega
  have HSB : Hid (∀ W', Below W.heap.size W W' → HeldK gw g b (off + i * 9) gs (.slice (some ⟨b, off, none⟩) X.length c) x (.slice ra x.reqs.length rc) s W') := Lib.hid (fun W' hb => HS0.out.below hgw hgg hgs hbl hb)
  simp only [relC] at HSL
  clear hw hcs h1 h2 hkb
  go_enter Tryz.func66, Tryz.ntmps66
  go_upto_region 1 with fail
  refine wp_region_noPanic ?_
  refine wp_region_held_drew (S := HeldK gw g b (off + i * 9) gs (.slice (some ⟨b, off, none⟩) X.length c) x (.slice ra x.reqs.length rc) s) (by kernel_rfl) (HSB.out _ (Below.refl _ _).drew) (fun hS0 => ?_)
  (refine zl3 0 ?_ rfl ?_ ?_; rotate_left; (· (rintro w ⟨c0, c1, s0, s1, s2, s3, d0, d1, d2, d3, d4, d5, d6, d7, d8⟩; go_simp; try with_reducible rfl)); (try simp only [zl1]))
  (refine zl3 1 ?_ rfl ?_ ?_; rotate_left; (· (rintro w ⟨c0, c1, s0, s1, s2, s3, d0, d1, d2, d3, d4, d5, d6, d7, d8⟩; go_simp; try with_reducible rfl)); (try simp only [zl1]))
  (refine zl3 2 ?_ rfl ?_ ?_; rotate_left; (· (rintro w ⟨c0, c1, s0, s1, s2, s3, d0, d1, d2, d3, d4, d5, d6, d7, d8⟩; go_simp; try with_reducible rfl)); (try simp only [zl1]))
  (refine zl3 3 ?_ rfl ?_ ?_; rotate_left; (· (rintro w ⟨c0, c1, s0, s1, s2, s3, d0, d1, d2, d3, d4, d5, d6, d7, d8⟩; go_simp; try with_reducible rfl)); (try simp only [zl1]))
  (refine zl3 4 ?_ rfl ?_ ?_; rotate_left; (· (rintro w ⟨c0, c1, s0, s1, s2, s3, d0, d1, d2, d3, d4, d5, d6, d7, d8⟩; go_simp; try with_reducible rfl)); (try simp only [zl1]))
  (refine zl3 5 ?_ rfl ?_ ?_; rotate_left; (· (rintro w ⟨c0, c1, s0, s1, s2, s3, d0, d1, d2, d3, d4, d5, d6, d7, d8⟩; go_simp; try with_reducible rfl)); (try simp only [zl1]))
  (refine zl3 6 ?_ rfl ?_ ?_; rotate_left; (· (rintro w ⟨c0, c1, s0, s1, s2, s3, d0, d1, d2, d3, d4, d5, d6, d7, d8⟩; go_simp; try with_reducible rfl)); (try simp only [zl1]))
  (refine zl3 8 ?_ rfl ?_ ?_; rotate_left; (· (rintro w ⟨c0, c1, s0, s1, s2, s3, d0, d1, d2, d3, d4, d5, d6, d7, d8⟩; go_simp; try with_reducible rfl)); (try simp only [zl1]))
  refine wpAnyH_ready (rs := [7]) (by kernel_rfl) (by simp) (AllReadyH.cons rfl (fun K hK => ?_) AllReadyH.nil)
  go_simp
  refine (HSL.out _).mono ?_
  rintro e w4 ⟨rfl, hb4⟩
  have HB4 := Lib.hid ((Below.refl W.heap.size W).drew.trans hb4)
  clear hS0
  have hS0 := HSB.out _ HB4.out
  refine hK.out _ _ hS0 (fun _ => ?_)
  clear hK K hb4
  (try simp only [zl1])
  (refine zl3 9 ?_ rfl ?_ ?_; rotate_left; (· (rintro w ⟨c0, c1, s0, s1, s2, s3, d0, d1, d2, d3, d4, d5, d6, d7, d8⟩; go_simp; try with_reducible rfl)); (try simp only [zl1]))
  (refine zl3 10 ?_ rfl ?_ ?_; rotate_left; (· (rintro w ⟨c0, c1, s0, s1, s2, s3, d0, d1, d2, d3, d4, d5, d6, d7, d8⟩; go_simp; try with_reducible rfl)); (try simp only [zl1]))
  refine wpAnyH_done (by kernel_rfl) ?_ _
  refine NoPanic.normal ?_
  go_wp2_with fail
  go_ret
  exact ⟨rfl, HB4.out⟩
theorem checkV_err {X : List RelL} {roots : List ReqL} {c : CauL} (h : (selM false X roots).2 ≠ 0) : checkV X roots c = false := by unfold checkV; rw [decide_eq_false h]; rfl
theorem checkV_root {X : List RelL} {roots : List ReqL} {c : CauL} (h : ¬ (0 ≤ c.2.1 ∧ c.2.1 < roots.length)) : checkV X roots c = false := by unfold checkV; rw [decide_eq_false h]; simp
theorem checkV_nil {X : List RelL} {roots : List ReqL} {c : CauL} (h : c.2.2 = []) : checkV X roots c = false := by unfold checkV; rw [h]; simp
open Classical in
theorem checkV_last {X : List RelL} {roots : List ReqL} {c : CauL} {y : SelL} {r : Nat} (h0 : (selM false X roots).2 = 0) (hr : c.2.1 = (r : Int)) (hrl : r < roots.length) (hy : c.2.2.getLast? = some y) : checkV X roots c = (decide (y.1 = c.1) && (decide (y ∈ (selM false X roots).1) && chainB X [roots.getD r default] c.2.2)) := by
  unfold checkV
  rw [decide_eq_true h0, hr, decide_eq_true (show (0 : Int) ≤ (r : Int) ∧ (r : Int) < (roots.length : Int) from by omega), hy]
  rfl
theorem chain_step {X : List RelL} {l : List ReqL} {s : SelL} {t : List SelL} : chainB X l (s :: t) = match (namesL false X l).find? (fun k => decide (keyL (X.getD k default) = s)) with
    | some k => chainB X (X.getD k default).reqs t
    | none => false := rfl
structure ChkB (w : World) (p : ByteArray) (r : Int) (cv v iv : Value) (W : World) : Prop where
  bel : Below w.heap.size w W
  idx : W.heap[w.heap.size]? = some (.cells #[v, iv] 25 (0, 0))
  cau : W.heap[w.heap.size + 1]? = some (.cells #[.string p, .int .i64 r, cv] 29 (0, 0))
theorem ChkB.lt {w : World} {p : ByteArray} {r : Int} {cv v iv : Value} {W : World} (h : ChkB w p r cv v iv W) : w.heap.size + 1 < W.heap.size := (Array.getElem?_eq_some_iff.1 h.cau).1
theorem ChkB.below {w : World} {p : ByteArray} {r : Int} {cv v iv : Value} {W W' : World} (h : ChkB w p r cv v iv W) (hb : Below W.heap.size W W') : ChkB w p r cv v iv W' := by
  have hl := h.lt
  exact ⟨h.bel.trans (hb.mono h.bel.size), (hb.block _ (by omega)).trans h.idx, (hb.block _ hl).trans h.cau⟩
theorem ChkB.start (w : World) (p : ByteArray) (r : Int) (cv v iv : Value) : ChkB w p r cv v iv ((w.alloc (.cells #[v, iv] 25)).alloc (.cells #[.string p, .int .i64 r, cv] 29)) := by
  have hget : ∀ (w : World) (o : Obj) (k : Nat), (w.alloc o).heap[k]? = if k = w.heap.size then some o else w.heap[k]? := fun w o k => by
    show (w.heap.push o)[k]? = _
    rw [Array.getElem?_push]
  refine ⟨(by repeat (first | exact Below.refl _ _ | refine Below.drew ?_ | refine Below.alloc ?_ (by simp <;> omega) _ | refine Below.setCell ?_ (by simp <;> omega) _)), ?_, ?_⟩
  · simp only [hget, World.size_alloc]; repeat (first | rw [if_pos trivial] | rw [if_neg (by omega)] | rw [if_pos (by omega)])
  · simp only [hget, World.size_alloc]; repeat (first | rw [if_pos trivial] | rw [if_neg (by omega)] | rw [if_pos (by omega)])
theorem ReqsOf.get {B : Nat} {ao : Option Addr} {n cap : Nat} {l : List ReqL} {W : World} (h : ReqsOf B (.slice ao n cap) l W) {i : Nat} (hi : i < l.length) : ∃ b off r, ao = some ⟨b, off, none⟩ ∧ b < B ∧ W.cell? ⟨b, off + i * 2, none⟩ = some (.string l[i].1) ∧ W.cell? ⟨b, off + i * 2 + 1, none⟩ = some r ∧ SpansOf B r l[i].2 W := by
  obtain ⟨a, c, e, h⟩ := h
  cases e
  obtain ⟨b, off, r, e, h⟩ := h i l[i] (List.getElem?_eq_getElem hi)
  exact ⟨b, off, r, e, h⟩
theorem selM_len {nw : Bool} {X : List RelL} {roots : List ReqL} : (selM nw X roots).1.length ≤ X.length := by
  by_cases hp : PlainP X roots
  · by_cases ha : AllM nw X roots
    · rw [selM_ok hp ha]
      show (selL nw X roots).length ≤ _
      unfold selL topM
      rw [List.length_map]
      exact Nat.le_trans (List.length_filter_le _ _) (by simp)
    · rw [selM_not hp ha]; simp
  · rw [selM_arg hp]; simp
theorem SelsOf.get {B : Nat} {ao : Option Addr} {n cap : Nat} {s : List SelL} {W : World} (h : SelsOf B (.slice ao n cap) s W) {i : Nat} {y : SelL} (hi : s[i]? = some y) : ∃ b off, ao = some ⟨b, off, none⟩ ∧ b < B ∧ W.cell? ⟨b, off + i * 4, none⟩ = some (.string y.1) ∧ W.cell? ⟨b, off + i * 4 + 1, none⟩ = some (.int .i64 y.2.1) ∧ W.cell? ⟨b, off + i * 4 + 2, none⟩ = some (.int .i64 y.2.2.1) ∧ W.cell? ⟨b, off + i * 4 + 3, none⟩ = some (.int .i64 y.2.2.2) := by
  obtain ⟨a, c, e, h⟩ := h
  cases e
  obtain ⟨b, off, e, h⟩ := h i y hi
  exact ⟨b, off, e, h⟩
set_option maxRecDepth 100000 in
set_option maxHeartbeats 8000000 in
theorem Check_any (v iv rov cv : Value) (X : List RelL) (roots : List ReqL) (p : ByteArray) (r : Int) (ch : List SelL) (w : World) (hm : MaxOk w) (hX : X.length ≤ 1000000) (hq : ∀ x ∈ X, RelBd x) (hR : RelsOf w.heap.size v X w)
    (hro : roots.length ≤ 1000000) (hrq : ReqsBd roots) (hRo : ReqsOf w.heap.size rov roots w) (hcap : CapOk rov) (hch : ch.length ≤ 1000000) (hC : SelsOf w.heap.size cv ch w) :
    Calls Tryz.prog 16 #[.agg #[v, iv], rov, .agg #[.string p, .int .i64 r, cv]] w fun e w' => e = .returned (.bool (checkV X roots (p, r, ch))) ∧ Below w.heap.size w w' := by
  have HSE := Lib.hid (fun W (hb : RowKit.Below w.heap.size w W) => MSelect_any v iv rov X roots W (hm.below hb hm.pos) hX hq (hR.on hb) hro hrq (hRo.on hb))
  have HNW := Lib.hid (fun W (hb : RowKit.Below w.heap.size w W) => newWorld_any v iv X W hX hq (hR.on hb))
  have HNA := Lib.hid (fun (hp : PlainP X roots) (l : List ReqL) (lv : Value) W g a c m n f (hw : WorldOf W g X a c m n f) (hu : ∀ q ∈ l, UpQ q) (hll : l.length ≤ 1000000) (hlq : ReqsBd l) (hL : ReqsOf W.heap.size lv l W) => names_any false 51 (enters_of Tryz.func51 (by kernel_rfl) rfl) g X a c m n f (by_old (validX (idx_ok hp.idx)) hX) (idx_ok hp.idx) hX l lv W hw hu hll hlq hL)
  have HC := Lib.hid hC
  have HRo := Lib.hid hRo
  have HQB := Lib.hid hq
  have HRB := Lib.hid hrq
  obtain ⟨va, vn, vc, rfl⟩ : ∃ a n c, v = .slice a n c := by obtain ⟨a, c, _, e, _⟩ := hR.rv; exact ⟨_, _, _, e⟩
  obtain ⟨ra, rc, rfl⟩ : ∃ ra rc, rov = .slice ra roots.length rc := by obtain ⟨a, c, e, _⟩ := hRo; exact ⟨a, c, e⟩
  obtain ⟨ca, cc, rfl⟩ : ∃ ca cc, cv = .slice ca ch.length cc := by obtain ⟨a, c, e, _⟩ := hC; exact ⟨a, c, e⟩
  clear hm hq hR hrq hRo hC
  have HB0 := Lib.hid (ChkB.start w p r (.slice ca ch.length cc) (.slice va vn vc) iv)
  go_enter Tryz.func16, Tryz.ntmps16
  go_upto_region 1 with fail
  generalize (w.alloc (.cells #[.slice va vn vc, iv] 25)).alloc (.cells #[.string p, .int .i64 r, .slice ca ch.length cc] 29) = W at *
  have c0 : W.cell? ⟨w.heap.size, 0, none⟩ = some (.slice va vn vc) := cell_of_row _ _ 0 _ _ _ HB0.out.idx
  have c1 : W.cell? ⟨w.heap.size, 1, none⟩ = some iv := cell_of_row _ _ 1 _ _ _ HB0.out.idx
  go_wp2_with fail
  refine (HSE.out _ HB0.out.bel).mono ?_
  rintro e w1 ⟨hb1, sv, rfl, hs1⟩
  have HB1 := Lib.hid (HB0.out.below hb1)
  have HS1 := Lib.hid hs1
  obtain ⟨sa, sc, rfl⟩ : ∃ sa sc, sv = .slice sa (selM false X roots).1.length sc := by obtain ⟨a, c, e, _⟩ := hs1; exact ⟨a, c, e⟩
  obtain ⟨E, hE⟩ : ∃ E, (selM false X roots).2 = E := ⟨_, rfl⟩
  have HEE := Lib.hid hE
  rw [hE]
  clear hb1 hs1 HSE c0 c1 hE
  have k0 : w1.cell? ⟨w.heap.size + 1, 0, none⟩ = some (.string p) := cell_of_row _ _ 0 _ _ _ HB1.out.cau
  have k1 : w1.cell? ⟨w.heap.size + 1, 1, none⟩ = some (.int .i64 r) := cell_of_row _ _ 1 _ _ _ HB1.out.cau
  have k2 : w1.cell? ⟨w.heap.size + 1, 2, none⟩ = some (.slice ca ch.length cc) := cell_of_row _ _ 2 _ _ _ HB1.out.cau
  by_cases hE0 : E = 0
  case neg =>
    have hE1 : (E != 0) = true := by simpa using hE0
    have HCV := Lib.hid (checkV_err (c := (p, r, ch)) (show (selM false X roots).2 ≠ 0 from fun e => hE0 (HEE.out.symm.trans e)))
    go_wp2_with fail
    go_ret
    exact ⟨by rw [HCV.out]; rfl, HB1.out.bel⟩
  subst hE0
  have hpa : PlainP X roots ∧ AllM false X roots := by
    have h := HEE.out
    by_cases hp : PlainP X roots
    · by_cases ha : AllM false X roots
      · exact ⟨hp, ha⟩
      · rw [selM_not hp ha] at h; cases h
    · rw [selM_arg hp] at h; cases h
  have HP := Lib.hid hpa.1
  have HA := Lib.hid hpa.2
  clear hpa
  by_cases hr0 : r < 0
  case pos =>
    have hr1 : decide (r < 0) = true := decide_eq_true hr0
    have HCV := Lib.hid (checkV_root (X := X) (roots := roots) (c := (p, r, ch)) (fun h => by have h1 := h.1; simp only at h1; omega))
    go_wp2_with fail
    go_ret
    exact ⟨by rw [HCV.out]; rfl, HB1.out.bel⟩
  have hr1 : decide (r < 0) = false := decide_eq_false hr0
  by_cases hrl : (roots.length : Int) ≤ r
  case pos =>
    have hrl1 : decide ((roots.length : Int) ≤ r) = true := decide_eq_true hrl
    have HCV := Lib.hid (checkV_root (X := X) (roots := roots) (c := (p, r, ch)) (fun h => by have h1 := h.2; simp only at h1; omega))
    go_wp2_with fail
    go_ret
    exact ⟨by rw [HCV.out]; rfl, HB1.out.bel⟩
  have hrl1 : decide ((roots.length : Int) ≤ r) = false := decide_eq_false hrl
  obtain ⟨k, rfl⟩ : ∃ k : Nat, r = (k : Int) := ⟨r.toNat, by omega⟩
  by_cases hcn : ch = []
  case pos =>
    subst hcn
    have HCV := Lib.hid (checkV_nil (X := X) (roots := roots) (c := (p, (k : Int), [])) rfl)
    go_wp2_with fail
    go_ret
    exact ⟨by rw [HCV.out]; rfl, HB1.out.bel⟩
  have hkl : k < roots.length := by omega
  obtain ⟨t, y, hty⟩ : ∃ t y, ch = t ++ [y] := ⟨_, _, (List.dropLast_concat_getLast hcn).symm⟩
  have hgl : ch.getLast? = some y := by rw [hty]; simp
  have HCV := Lib.hid (checkV_last (c := (p, (k : Int), ch)) HEE.out rfl hkl hgl)
  have hcl : ch.length = t.length + 1 := by rw [hty]; simp
  have hct : ch[t.length]? = some y := by rw [hty]; simp
  have hlz : ((ch.length : Int) == 0) = false := by simp; exact hcn
  have hlz2 : ¬ ch.length = 0 := by simp; exact hcn
  obtain ⟨cb, co, rfl, hcbl, y0, y1, y2, y3⟩ := (HC.out.below HB1.out.bel (Nat.le_refl _)).get hct
  have hwr : wrap64 ((ch.length : Int) - 1) = (t.length : Int) := by rw [hcl]; unfold wrap64; omega
  have hwr2 : IntKind.i64.wrap ((ch.length : Int) - 1) = (t.length : Int) := by rw [hcl, IntWalk.i64_in _ (by omega)]; omega
  have hi1 : (0 : Int) ≤ (t.length : Int) := by omega
  have hi2 : (t.length : Int) < (ch.length : Int) := by omega
  have hcb1 : cb < w1.heap.size := Nat.lt_of_lt_of_le hcbl HB1.out.bel.size
  have HCL := Lib.hid hcl
  have HTY := Lib.hid hty
  clear hcl hty hct hgl HEE
  go_upto_region 5 with fail
  have HB2 := Lib.hid (HB1.out.below (belQ w1 (.cells #[.string y.1, .int .i64 y.2.1, .int .i64 y.2.2.1, .int .i64 y.2.2.2] 43)))
  have HY2 := Lib.hid (World.alloc_heap_new w1 (.cells #[.string y.1, .int .i64 y.2.1, .int .i64 y.2.2.1, .int .i64 y.2.2.2] 43))
  have HS2 := Lib.hid (HS1.out.on (belQ w1 (.cells #[.string y.1, .int .i64 y.2.1, .int .i64 y.2.2.1, .int .i64 y.2.2.2] 43)))
  generalize w1.alloc (.cells #[.string y.1, .int .i64 y.2.1, .int .i64 y.2.2.1, .int .i64 y.2.2.2] 43) = w2 at *
  generalize w1.heap.size = gy at *
  clear HB1 HS1 k0 k1 k2 y0 y1 y2 y3 hcb1 hlz hlz2 hwr hwr2
  have k0 : w2.cell? ⟨w.heap.size + 1, 0, none⟩ = some (.string p) := cell_of_row _ _ 0 _ _ _ HB2.out.cau
  have y0 : w2.cell? ⟨gy, 0, none⟩ = some (.string y.1) := cell_of_row _ _ 0 _ _ _ HY2.out
  have y1 : w2.cell? ⟨gy, 1, none⟩ = some (.int .i64 y.2.1) := cell_of_row _ _ 1 _ _ _ HY2.out
  have y2 : w2.cell? ⟨gy, 2, none⟩ = some (.int .i64 y.2.2.1) := cell_of_row _ _ 2 _ _ _ HY2.out
  have y3 : w2.cell? ⟨gy, 3, none⟩ = some (.int .i64 y.2.2.2) := cell_of_row _ _ 3 _ _ _ HY2.out
  obtain ⟨yp, yv1, yv2, yv3⟩ := y
  simp only at y0 y1 y2 y3
  by_cases hyp : yp = p
  case neg =>
    have hne : (yp.toList == p.toList) = false := by rw [eqs_dec]; exact decide_eq_false hyp
    have hne2 : ¬ yp.toList = p.toList := fun e => hyp (bytes_inj e)
    have HV2 : Hid (checkV X roots (p, (k : Int), ch) = false) := Lib.hid (by rw [HCV.out, decide_eq_false hyp]; rfl)
    go_wp2_with fail
    go_ret
    exact ⟨by rw [HV2.out]; rfl, HB2.out.bel⟩
  subst hyp
  have hlen : (selM false X roots).1.length ≤ 1000000 := by
    have := @selM_len false X roots
    omega
  have HCO := Lib.hid (con_sel (.slice sa (selM false X roots).1.length sc) (selM false X roots).1 (yp, yv1, yv2, yv3) w2 (by omega) HS2.out)
  rw [decide_eq_true rfl, Bool.true_and] at HCV
  clear hlen
  go_wp2_with fail
  refine HCO.out.mono ?_
  rintro e w3 ⟨rfl, hb3⟩
  have HB3 := Lib.hid (HB2.out.below hb3)
  clear hb3 HCO k0 y0 y1 y2 y3
  obtain ⟨mb, hmb⟩ : ∃ mb, @decide ((yp, yv1, yv2, yv3) ∈ (selM false X roots).1) (Classical.propDecidable _) = mb := ⟨_, rfl⟩
  rw [hmb] at HCV ⊢
  clear hmb
  cases mb with
  | false =>
    go_wp2_with fail
    go_ret
    exact ⟨by rw [HCV.out]; rfl, HB3.out.bel⟩
  | true =>
    rw [Bool.true_and] at HCV
    have c0 : w3.cell? ⟨w.heap.size, 0, none⟩ = some (.slice va vn vc) := cell_of_row _ _ 0 _ _ _ HB3.out.idx
    have c1 : w3.cell? ⟨w.heap.size, 1, none⟩ = some iv := cell_of_row _ _ 1 _ _ _ HB3.out.idx
    go_wp2_with fail
    refine (HNW.out _ HB3.out.bel).mono ?_
    rintro e w4 ⟨g, a, c, m, n, f, rfl, hw, hb4⟩
    have HB4 := Lib.hid (HB3.out.below hb4)
    have HW4 := Lib.hid hw
    clear hb4 hw c0 c1 HNW
    have HB5 := Lib.hid (HB4.out.below (belQ w4 (.cells #[.pointer (some ⟨g, 0, none⟩)] 77)))
    have HW5 := Lib.hid (HW4.out.below (belQ w4 (.cells #[.pointer (some ⟨g, 0, none⟩)] 77)))
    have HX5 : Hid ((w4.alloc (.cells #[.pointer (some ⟨g, 0, none⟩)] 77)).heap[w4.heap.size]? = some (.cells #[.pointer (some ⟨g, 0, none⟩)] 77 (0, 0))) := Lib.hid (World.alloc_heap_new w4 _)
    go_upto_region 8 with fail
    generalize hW5 : w4.alloc (.cells #[.pointer (some ⟨g, 0, none⟩)] 77) = W5 at *
    generalize w4.heap.size = gw at *
    clear hW5 HW4 HB4 HB2 HY2 HS2 HB3
    have hgw5 : gw < W5.heap.size := (Array.getElem?_eq_some_iff.1 HX5.out).1
    have hgc5 := HB5.out.lt
    have HSB : Hid (∀ W', Below W5.heap.size W5 W' → W'.cell? ⟨gw, 0, none⟩ = some (.pointer (some ⟨g, 0, none⟩)) ∧ W'.cell? ⟨w.heap.size + 1, 1, none⟩ = some (.int .i64 (k : Int))) := Lib.hid (fun W' hb => ⟨(hb.cell (p := ⟨gw, 0, none⟩) hgw5).trans (cell_of_row _ _ 0 _ _ _ HX5.out), (hb.cell (p := ⟨w.heap.size + 1, 1, none⟩) hgc5).trans (cell_of_row _ _ 1 _ _ _ HB5.out.cau)⟩)
    obtain ⟨rb, ro, rs, rfl, hrb, hr0, hr1, hrs⟩ := HRo.out.get hkl
    have hkw : wrap64 ((k : Int) + 1) = (k : Int) + 1 := wrap_succ (kk3 hkl hro)
    have hkw2 : IntKind.i64.wrap ((k : Int) + 1) = (k : Int) + 1 := i64_succ (kk3 hkl hro)
    have hrcl := hcap.le
    have hrc0 : (0 : Int) ≤ (k : Int) + 1 := kk0 k
    have hrc1 : (k : Int) + 1 ≤ (rc : Int) := kk1 hkl hrcl
    have hrc2 : ¬ rc = k := kk2 hkl hrcl
    have hk1 : (0 : Int) ≤ (k : Int) := Int.natCast_nonneg k
    refine wp_region_noPanic ?_
    refine wp_region_held_drew (S := fun W' => W'.cell? ⟨gw, 0, none⟩ = some (.pointer (some ⟨g, 0, none⟩)) ∧ W'.cell? ⟨w.heap.size + 1, 1, none⟩ = some (.int .i64 (k : Int))) (by kernel_rfl) (HSB.out _ (Below.refl _ _).drew) (fun hS0 => ?_)
    (refine zl3 0 ?_ rfl ?_ ?_; rotate_left; (· (rintro w ⟨c0, c1⟩; go_simp; try with_reducible rfl)); (try simp only [zl1]))
    (refine zl3 1 ?_ rfl ?_ ?_; rotate_left; (· (rintro w ⟨c0, c1⟩; go_simp; try with_reducible rfl)); (try simp only [zl1]))
    (refine zl3 2 ?_ rfl ?_ ?_; rotate_left; (· (rintro w ⟨c0, c1⟩; go_simp; try with_reducible rfl)); (try simp only [zl1]))
    (refine zl3 3 ?_ rfl ?_ ?_; rotate_left; (· (rintro w ⟨c0, c1⟩; go_simp; try with_reducible rfl)); (try simp only [zl1]))
    (refine zl3 4 ?_ rfl ?_ ?_; rotate_left; (· (rintro w ⟨c0, c1⟩; go_simp; try with_reducible rfl)); (try simp only [zl1]))
    (refine zl3 5 ?_ rfl ?_ ?_; rotate_left; (· (rintro w ⟨c0, c1⟩; go_simp; try with_reducible rfl)); (try simp only [zl1]))
    (refine zl3 6 ?_ rfl ?_ ?_; rotate_left; (· (rintro w ⟨c0, c1⟩; go_simp; try with_reducible rfl)); (try simp only [zl1]))
    (refine zl3 7 ?_ rfl ?_ ?_; rotate_left; (· (rintro w ⟨c0, c1⟩; go_simp; try with_reducible rfl)); (try simp only [zl1]))
    have hk5 : roots[k] ∈ roots := List.getElem_mem hkl
    have hgd : roots.getD k default = roots[k] := by rw [List.getD_eq_getElem?_getD, List.getElem?_eq_getElem hkl]; rfl
    rw [hgd] at HCV
    clear hgd
    have HR0 : Hid (ReqsOf w.heap.size (.slice (some ⟨rb, ro + k * 2, none⟩) 1 (rc - k)) [roots[k]] w) := Lib.hid ⟨_, _, rfl, fun i q hq => by
      match i, hq with
      | 0, hq => cases hq; exact ⟨rb, ro + k * 2, rs, rfl, hrb, hr0, hr1, hrs⟩
      | i + 1, hq => simp at hq⟩
    have HUP : Hid (∀ q ∈ [roots[k]], UpQ q) := Lib.hid (fun q hq => by rw [List.mem_singleton.1 hq]; exact HP.out.roots.q hk5)
    have HQ0 : Hid (ReqsBd [roots[k]]) := Lib.hid (fun q hq => by rw [List.mem_singleton.1 hq]; exact HRB.out _ hk5)
    have HL0 : Hid (∀ q ∈ [roots[k]], ∃ i, namedI false X q = some i ∧ RchM false X roots i) := Lib.hid (fun q hq => by
      rw [List.mem_singleton.1 hq]
      obtain ⟨i, hi⟩ := HA.out.1 _ hk5
      exact ⟨i, hi, .root hk5 hi⟩)
    generalize roots[k] = q0 at *
    have HDR := Lib.hid ((Below.refl W5.heap.size W5).drew)
    have HNM := Lib.hid (HNA.out HP.out [q0] (.slice (some ⟨rb, ro + k * 2, none⟩) 1 (rc - k)) W5.drew g a c m n f (HW5.out.below HDR.out) HUP.out (by simp) HQ0.out ((HR0.out.below (HB5.out.bel.trans (HDR.out.mono HB5.out.bel.size)) (Nat.le_refl _)).mono (HB5.out.bel.trans (HDR.out.mono HB5.out.bel.size)).size))
    refine wpAnyH_ready (rs := [8]) (by kernel_rfl) (by simp) (AllReadyH.cons rfl (fun K hK => ?_) AllReadyH.nil)
    go_simp
    refine HNM.out.mono ?_
    rintro e w6 ⟨hb6, h6⟩
    have HB6 := Lib.hid (HDR.out.trans hb6)
    rcases h6 with ⟨_, v6, rfl, how⟩ | ⟨hno, rfl⟩
    case inr => exact absurd (fun q hq => by obtain ⟨i, hi, _⟩ := HL0.out q hq; rw [hi]; rfl) hno
    obtain ⟨na, nc, rfl⟩ := own_any how
    have HRO := Lib.hid (own_row how).2
    clear how hS0
    have hS0 := HSB.out _ HB6.out
    refine hK.out _ _ hS0 (fun _ => ?_)
    clear hK K hb6
    (try simp only [zl1])
    (refine zl3 9 ?_ rfl ?_ ?_; rotate_left; (· (rintro w ⟨c0, c1⟩; go_simp; try with_reducible rfl)); (try simp only [zl1]))
    (refine zl3 10 ?_ rfl ?_ ?_; rotate_left; (· (rintro w ⟨c0, c1⟩; go_simp; try with_reducible rfl)); (try simp only [zl1]))
    (refine zl3 11 ?_ rfl ?_ ?_; rotate_left; (· (rintro w ⟨c0, c1⟩; go_simp; try with_reducible rfl)); (try simp only [zl1]))
    (refine zl3 12 ?_ rfl ?_ ?_; rotate_left; (· (rintro w ⟨c0, c1⟩; go_simp; try with_reducible rfl)); (try simp only [zl1]))
    (refine zl3 13 ?_ rfl ?_ ?_; rotate_left; (· (rintro w ⟨c0, c1⟩; go_simp; try with_reducible rfl)); (try simp only [zl1]))
    refine wpAnyH_done (by kernel_rfl) ?_ _
    refine NoPanic.normal ?_
    have HB7 := Lib.hid (HB5.out.below HB6.out)
    have HW7 := Lib.hid (HW5.out.below HB6.out)
    have HX7 := Lib.hid ((HB6.out.block gw hgw5).trans HX5.out)
    have hgw7 : gw < w6.heap.size := Nat.lt_of_lt_of_le hgw5 HB6.out.size
    clear hS0 HNM HDR HSB HB6 HB5 HW5 HX5 HR0 HUP HQ0 hkw hkw2 hrc0 hrc1 hrc2 hrcl hrb hr0 hr1 hrs
    have k2 : w6.cell? ⟨w.heap.size + 1, 2, none⟩ = some (.slice (some ⟨cb, co, none⟩) ch.length cc) := cell_of_row _ _ 2 _ _ _ HB7.out.cau
    have HCC := Lib.hid (HC.out.below HB7.out.bel (Nat.le_refl _))
    have hs7 := HB7.out.bel.size
    go_wp2_with fail
    clear k2
    go_loopw [11, 78] (fun nv p wr => ∃ (j : Nat) (l : List ReqL), j ≤ ch.length ∧ p = .int .i64 (j : Int) ∧ Hid (l.length ≤ 1000000) ∧ Hid (RowOf natC wr.heap.size nv (namesL false X l) wr) ∧ Hid (∀ q ∈ l, ∃ i, namedI false X q = some i ∧ RchM false X roots i) ∧ Hid (chainB X [q0] ch = chainB X l (ch.drop j)) ∧ Hid (Below w6.heap.size w6 wr)) (fun _ p _ => ch.length - (intOf p).toNat)
    case atStart => exact ⟨0, [q0], Nat.zero_le _, rfl, Lib.hid (by simp), HRO, HL0, Lib.hid rfl, Lib.hid (Below.refl _ _)⟩
    case round =>
      obtain ⟨j, l, hj, rfl, HLL, HN, HL, HCH, HB⟩ := hrel
      clear HRO HL0
      obtain ⟨na, nc, rfl, hnat⟩ := rowOf_open HN.out
      have HNT := Lib.hid hnat
      clear hnat
      have HBx := Lib.hid (HB7.out.below HB.out)
      by_cases hlt : j < ch.length
      case neg =>
        have hjj : j = ch.length := Nat.le_antisymm hj (Nat.le_of_not_lt hlt)
        subst hjj
        rw [List.drop_length] at HCH
        have HT : Hid (chainB X [q0] ch = true) := Lib.hid (by rw [HCH.out]; rfl)
        go_wp2_with fail
        go_ret
        exact ⟨by rw [HCV.out, HT.out]; rfl, HBx.out.bel⟩
      case pos =>
        obtain ⟨cb2, co2, e2, _, s0, s1, s2, s3⟩ := HCC.out.get (List.getElem?_eq_getElem hlt)
        cases e2
        have hcbw : cb < w6.heap.size := Nat.lt_of_lt_of_le hcbl hs7
        have s0 := (HB.out.cell (p := ⟨cb, co + j * 4, none⟩) hcbw).trans s0
        have s1 := (HB.out.cell (p := ⟨cb, co + j * 4 + 1, none⟩) hcbw).trans s1
        have s2 := (HB.out.cell (p := ⟨cb, co + j * 4 + 2, none⟩) hcbw).trans s2
        have s3 := (HB.out.cell (p := ⟨cb, co + j * 4 + 3, none⟩) hcbw).trans s3
        have hlt2 : (j : Int) < (ch.length : Int) := Int.ofNat_lt.2 hlt
        have hj0 : (0 : Int) ≤ (j : Int) := Int.natCast_nonneg j
        have HDP : Hid (ch.drop j = ch[j] :: ch.drop (j + 1)) := Lib.hid (List.drop_eq_getElem_cons hlt)
        generalize ch[j] = s at *
        have HGS : Hid ((wr.alloc (.cells #[.string s.1, .int .i64 s.2.1, .int .i64 s.2.2.1, .int .i64 s.2.2.2] 43)).heap[wr.heap.size]? = some (.cells (selC s).toArray 43 (0, 0))) := Lib.hid (World.alloc_heap_new wr _)
        have HBA := Lib.hid (belQ wr (.cells #[.string s.1, .int .i64 s.2.1, .int .i64 s.2.2.1, .int .i64 s.2.2.2] 43))
        go_upto_region 12 with fail
        generalize wr.alloc (.cells #[.string s.1, .int .i64 s.2.1, .int .i64 s.2.2.1, .int .i64 s.2.2.2] 43) = W8 at *
        have HB8 := Lib.hid (HB.out.trans (HBA.out.mono HB.out.size))
        have HN8 := Lib.hid ((HN.out.below HBA.out (Nat.le_refl _)).mono HBA.out.size)
        have HW8 := Lib.hid (HW7.out.below HB8.out)
        have HX8 := Lib.hid ((HB8.out.block gw hgw7).trans HX7.out)
        have hgw8 : gw < W8.heap.size := Nat.lt_of_lt_of_le hgw7 HB8.out.size
        have hnl : (namesL false X l).length ≤ 1000000000 := Nat.le_trans (Nat.le_trans namesL_len HLL.out) (by decide)
        have HID := Lib.hid (idx_nat 66 #[.pointer (some ⟨gw, 0, none⟩), .pointer (some ⟨wr.heap.size, 0, none⟩)] (enters_of Tryz.func66 (by kernel_rfl) rfl) (fun i => decide (keyL (X.getD i default) = s)) (.slice na (namesL false X l).length nc) (namesL false X l) W8 hnl HN8.out
          (fun W2 x hx hb => (check1_any g gw wr.heap.size X a c m n f x s W2 (HW8.out.below hb) (by obtain ⟨q, hq, hn⟩ := namesL_mem.1 hx; exact (candI_mem.1 (named_mem hn)).1) hX (cell_of_row _ _ 0 _ _ _ ((hb.block gw hgw8).trans HX8.out)) ((hb.block wr.heap.size (Array.getElem?_eq_some_iff.1 HGS.out).1).trans HGS.out) (Nat.lt_of_lt_of_le hgw8 hb.size)).mono fun e w' h => ⟨h.1, hb.trans (h.2.mono hb.size)⟩))
        clear s0 s1 s2 s3
        go_wp2_with fail
        refine HID.out.mono ?_
        rintro e w9 ⟨rfl, hb9⟩
        have HB9 := Lib.hid (HB8.out.trans (hb9.mono HB8.out.size))
        have HN9 := Lib.hid ((HN8.out.below hb9 (Nat.le_refl _)).mono hb9.size)
        clear hb9 HID
        rcases first_find (P := fun i => decide (keyL (X.getD i default) = s)) (l := namesL false X l) with ⟨hk, hf⟩ | ⟨n8, hn8, he, hf⟩
        · have hk2 : decide (firstI (fun i => decide (keyL (X.getD i default) = s)) (namesL false X l) < 0) = true := decide_eq_true hk
          have HT : Hid (chainB X [q0] ch = false) := Lib.hid (by rw [HCH.out, HDP.out, chain_step, hf])
          generalize firstI (fun i => decide (keyL (X.getD i default) = s)) (namesL false X l) = kk at *
          clear hf
          go_wp2_with fail
          go_ret
          exact ⟨by rw [HCV.out, HT.out]; rfl, HB7.out.bel.trans (HB9.out.mono HB7.out.bel.size)⟩
        · rw [he]
          have hnk1 : ¬ ((n8 : Int) < 0) := by omega
          have hnk2 : decide ((n8 : Int) < 0) = false := decide_eq_false hnk1
          have hnk0 : (0 : Int) ≤ (n8 : Int) := Int.natCast_nonneg n8
          have hnk3 : (n8 : Int) < ((namesL false X l).length : Int) := Int.ofNat_lt.2 hn8
          have hmm := List.getElem_mem hn8
          obtain ⟨na2, nc2, ene, hnat⟩ := rowOf_open HN9.out
          injection ene with e1 e3 e4
          subst e1
          subst e4
          obtain ⟨eb, eo, rfl, heb, hec⟩ := hnat n8 (namesL false X l)[n8] (by simp [hn8])
          have HST : Hid (chainB X [q0] ch = chainB X (X.getD (namesL false X l)[n8] default).reqs (ch.drop (j + 1))) := Lib.hid (by rw [HCH.out, HDP.out, chain_step, hf])
          generalize (namesL false X l)[n8] = i8 at *
          have HRE : Hid (RchM false X roots i8) := Lib.hid (by
            obtain ⟨q, hq, hn⟩ := namesL_mem.1 hmm
            obtain ⟨i, hi, hr⟩ := HL.out q hq
            rw [hn] at hi
            cases hi
            exact hr)
          have hi8 := HRE.out.lt.1
          clear he hf e3 hnat hmm HNT HN HN8
          have HW9 := Lib.hid (HW7.out.below HB9.out)
          have HX9 := Lib.hid ((HB9.out.block gw hgw7).trans HX7.out)
          obtain ⟨xb, xo, xra, xrc, rfl, hxb, hcs, hrq⟩ := HW9.out.rel hi8
          have hgw9 : gw < w9.heap.size := Nat.lt_of_lt_of_le hgw7 HB9.out.size
          have hg9 : g < w9.heap.size := HW9.out.lt
          have HSB : Hid (∀ W', Below w9.heap.size w9 W' → W'.cell? ⟨gw, 0, none⟩ = some (.pointer (some ⟨g, 0, none⟩)) ∧ W'.cell? ⟨g, 0, none⟩ = some (.slice (some ⟨xb, xo, none⟩) X.length c) ∧ W'.cell? ⟨eb, eo + n8, none⟩ = some (.int .i64 (i8 : Int)) ∧ W'.cell? ⟨xb, xo + i8 * 9 + 4, none⟩ = some (.slice xra (X.getD i8 default).reqs.length xrc)) := Lib.hid (fun W' hb =>
            ⟨(hb.cell (p := ⟨gw, 0, none⟩) hgw9).trans (cell_of_row _ _ 0 _ _ _ HX9.out), (hb.cell (p := ⟨g, 0, none⟩) hg9).trans HW9.out.c0, (hb.cell (p := ⟨eb, eo + n8, none⟩) heb).trans hec, (hb.cell (p := ⟨xb, xo + i8 * 9 + 4, none⟩) hxb).trans hcs.2.2.2.2.1⟩)
          have HRQ := Lib.hid hrq
          have hpl := HP.out.up hi8
          have HUX : Hid (∀ q ∈ (X.getD i8 default).reqs, UpQ q) := Lib.hid (fun q hq => hpl.q hq)
          have HL8 : Hid (∀ q ∈ (X.getD i8 default).reqs, ∃ i, namedI false X q = some i ∧ RchM false X roots i) := Lib.hid (fun q hq => by
            obtain ⟨i, hi⟩ := HA.out.2 i8 HRE.out q hq
            exact ⟨i, hi, .step HRE.out hq hi⟩)
          have hxm : X.getD i8 default ∈ X := by rw [List.getD_eq_getElem?_getD, List.getElem?_eq_getElem hi8]; exact List.getElem_mem hi8
          have HXB := Lib.hid (HQB.out _ hxm)
          have HXB2 : Hid ((X.getD i8 default).reqs.length ≤ 1000000) := Lib.hid HXB.out.len
          have HXB3 : Hid (ReqsBd (X.getD i8 default).reqs) := Lib.hid (fun q hq => HXB.out.reqs q hq)
          clear hcs hrq hpl hxm hec
          generalize (X.getD i8 default).reqs = ql at *
          have hi81 : (0 : Int) ≤ (i8 : Int) := Int.natCast_nonneg i8
          have hi82 : (i8 : Int) < (X.length : Int) := Int.ofNat_lt.2 hi8
          have HNM := Lib.hid (HNA.out HP.out ql (.slice xra ql.length xrc) w9.drew g (some ⟨xb, xo, none⟩) c m n f (HW9.out.below (Below.refl _ _).drew) HUX.out HXB2.out HXB3.out (HRQ.out.on (Below.refl w9.heap.size w9).drew))
          go_upto_region 15 with fail
          refine wp_region_noPanic ?_
          refine wp_region_held_drew (S := fun W' => W'.cell? ⟨gw, 0, none⟩ = some (.pointer (some ⟨g, 0, none⟩)) ∧ W'.cell? ⟨g, 0, none⟩ = some (.slice (some ⟨xb, xo, none⟩) X.length c) ∧ W'.cell? ⟨eb, eo + n8, none⟩ = some (.int .i64 (i8 : Int)) ∧ W'.cell? ⟨xb, xo + i8 * 9 + 4, none⟩ = some (.slice xra ql.length xrc)) (by kernel_rfl) (HSB.out _ (Below.refl _ _).drew) (fun hS0 => ?_)
          (refine zl3 0 ?_ rfl ?_ ?_; rotate_left; (· (rintro w ⟨c0, c1, c2, c3⟩; go_simp; try with_reducible rfl)); (try simp only [zl1]))
          (refine zl3 1 ?_ rfl ?_ ?_; rotate_left; (· (rintro w ⟨c0, c1, c2, c3⟩; go_simp; try with_reducible rfl)); (try simp only [zl1]))
          (refine zl3 2 ?_ rfl ?_ ?_; rotate_left; (· (rintro w ⟨c0, c1, c2, c3⟩; go_simp; try with_reducible rfl)); (try simp only [zl1]))
          (refine zl3 3 ?_ rfl ?_ ?_; rotate_left; (· (rintro w ⟨c0, c1, c2, c3⟩; go_simp; try with_reducible rfl)); (try simp only [zl1]))
          (refine zl3 4 ?_ rfl ?_ ?_; rotate_left; (· (rintro w ⟨c0, c1, c2, c3⟩; go_simp; try with_reducible rfl)); (try simp only [zl1]))
          (refine zl3 5 ?_ rfl ?_ ?_; rotate_left; (· (rintro w ⟨c0, c1, c2, c3⟩; go_simp; try with_reducible rfl)); (try simp only [zl1]))
          (refine zl3 6 ?_ rfl ?_ ?_; rotate_left; (· (rintro w ⟨c0, c1, c2, c3⟩; go_simp; try with_reducible rfl)); (try simp only [zl1]))
          (refine zl3 7 ?_ rfl ?_ ?_; rotate_left; (· (rintro w ⟨c0, c1, c2, c3⟩; go_simp; try with_reducible rfl)); (try simp only [zl1]))
          (refine zl3 8 ?_ rfl ?_ ?_; rotate_left; (· (rintro w ⟨c0, c1, c2, c3⟩; go_simp; try with_reducible rfl)); (try simp only [zl1]))
          (refine zl3 9 ?_ rfl ?_ ?_; rotate_left; (· (rintro w ⟨c0, c1, c2, c3⟩; go_simp; try with_reducible rfl)); (try simp only [zl1]))
          (refine zl3 10 ?_ rfl ?_ ?_; rotate_left; (· (rintro w ⟨c0, c1, c2, c3⟩; go_simp; try with_reducible rfl)); (try simp only [zl1]))
          (refine zl3 11 ?_ rfl ?_ ?_; rotate_left; (· (rintro w ⟨c0, c1, c2, c3⟩; go_simp; try with_reducible rfl)); (try simp only [zl1]))
          refine wpAnyH_ready (rs := [12]) (by kernel_rfl) (by simp) (AllReadyH.cons rfl (fun K hK => ?_) AllReadyH.nil)
          go_simp
          refine HNM.out.mono ?_
          rintro e wA ⟨hbA, hA⟩
          have HBA := Lib.hid ((Below.refl w9.heap.size w9).drew.trans hbA)
          rcases hA with ⟨_, vA, rfl, how⟩ | ⟨hno, rfl⟩
          case inr => exact absurd (fun q hq => by obtain ⟨i, hi, _⟩ := HL8.out q hq; rw [hi]; rfl) hno
          obtain ⟨ma, mc, rfl⟩ := own_any how
          have HRA := Lib.hid (own_row how).2
          clear how hS0
          have hS0 := HSB.out _ HBA.out
          refine hK.out _ _ hS0 (fun _ => ?_)
          clear hK K hbA
          (try simp only [zl1])
          (refine zl3 13 ?_ rfl ?_ ?_; rotate_left; (· (rintro w ⟨c0, c1, c2, c3⟩; go_simp; try with_reducible rfl)); (try simp only [zl1]))
          (refine zl3 14 ?_ rfl ?_ ?_; rotate_left; (· (rintro w ⟨c0, c1, c2, c3⟩; go_simp; try with_reducible rfl)); (try simp only [zl1]))
          (refine zl3 15 ?_ rfl ?_ ?_; rotate_left; (· (rintro w ⟨c0, c1, c2, c3⟩; go_simp; try with_reducible rfl)); (try simp only [zl1]))
          (refine zl3 16 ?_ rfl ?_ ?_; rotate_left; (· (rintro w ⟨c0, c1, c2, c3⟩; go_simp; try with_reducible rfl)); (try simp only [zl1]))
          refine wpAnyH_done (by kernel_rfl) ?_ _
          refine NoPanic.normal ?_
          have HBZ := Lib.hid (HB9.out.trans (HBA.out.mono HB9.out.size))
          clear hS0 HSB
          go_wp2_with fail
          go_roundw
          case rel => exact ⟨j + 1, ql, hlt, by go_num, HXB2, HRA, HL8, HST, HBZ⟩
          case measure => simp [intOf]; omega
end Go.Proofs.YtenfkejbndifdaaGreatDoor

namespace Go.Proofs.YtenfkejbndifdaaGreatDoor
set_option linter.unusedVariables false
set_option linter.unusedSimpArgs false
open Go

def bA : ByteArray := ⟨#[97, 47, 118, 49]⟩
def bB : ByteArray := ⟨#[98, 47, 118, 49]⟩
def bC : ByteArray := ⟨#[99, 47, 118, 49]⟩
def needQ (p : ByteArray) (m : Int) : ReqL := (p, [(m, 1000000)])
def exR (p : ByteArray) (m : Int) (l : List ReqL) : RelL := ⟨p, (1, m, 0), l, ⟨#[]⟩, ⟨#[]⟩, ⟨#[]⟩, false⟩
def exX : List RelL := [exR bA 0 [needQ bB 1000, needQ bC 0], exR bB 0 [], exR bB 1 [], exR bB 2 [], exR bB 3 [], exR bC 0 [needQ bB 2000]]
def exT : List ReqL := [needQ bA 0]
theorem ex_plain : PlainP exX exT := by
  refine ⟨by decide +kernel, ⟨by decide +kernel, ?_⟩, ?_⟩
  · have h : (exT.all fun q => upB (canon q.2)) = true := by decide +kernel
    exact List.all_eq_true.1 h
  · intro i hi
    have h : ((List.range exX.length).all fun i => (exX.getD i default).reqs.all fun q => upB (canon q.2)) = true := by decide +kernel
    exact List.all_eq_true.1 (List.all_eq_true.1 h i (List.mem_range.2 hi))
theorem ex_seen : RchI false exX exT [0, 2, 5, 3] [] := by
  have n0 : namedI false exX (needQ bA 0) = some 0 := by decide +kernel
  have n1 : namedI false exX (needQ bB 1000) = some 2 := by decide +kernel
  have n2 : namedI false exX (needQ bC 0) = some 5 := by decide +kernel
  have n3 : namedI false exX (needQ bB 2000) = some 3 := by decide +kernel
  have r0 : (exX.getD 0 default).reqs = [needQ bB 1000, needQ bC 0] := rfl
  have r2 : (exX.getD 2 default).reqs = [] := rfl
  have r3 : (exX.getD 3 default).reqs = [] := rfl
  have r5 : (exX.getD 5 default).reqs = [needQ bB 2000] := rfl
  have h0 : RchM false exX exT 0 := .root (q := needQ bA 0) (by simp [exT]) n0
  have h2 : RchM false exX exT 2 := .step h0 (q := needQ bB 1000) (by rw [r0]; simp) n1
  have h5 : RchM false exX exT 5 := .step h0 (q := needQ bC 0) (by rw [r0]; simp) n2
  have h3 : RchM false exX exT 3 := .step h5 (q := needQ bB 2000) (by rw [r5]; simp) n3
  refine ⟨by decide, fun i hi => ?_, (fun i hi => by cases hi), fun q hq => ?_, fun k hk q hq => ?_⟩
  · simp only [List.mem_cons, List.not_mem_nil, or_false] at hi
    rcases hi with rfl | rfl | rfl | rfl
    · exact h0
    · exact h2
    · exact h5
    · exact h3
  · rw [show exT = [needQ bA 0] from rfl, List.mem_singleton] at hq
    subst hq
    exact ⟨0, n0, .inl (by simp)⟩
  · simp only [List.mem_cons, List.not_mem_nil, or_false] at hk
    rcases hk with rfl | rfl | rfl | rfl
    · rw [r0] at hq
      simp only [List.mem_cons, List.not_mem_nil, or_false] at hq
      rcases hq with rfl | rfl
      · exact ⟨2, n1, .inl (by simp)⟩
      · exact ⟨5, n2, .inl (by simp)⟩
    · rw [r2] at hq; cases hq
    · rw [r5] at hq
      rw [List.mem_singleton] at hq
      subst hq
      exact ⟨3, n3, .inl (by simp)⟩
    · rw [r3] at hq; cases hq
theorem ex_all : AllM false exX exT := ex_seen.done.1
theorem ex_top : topM false exX exT = [0, 3, 5] := by
  refine (top_unique (by decide) fun i => ?_).symm
  rw [topM_mem]
  have hs := ex_seen.done.2
  have p0 : (exX.getD 0 default).path = bA := rfl
  have p2 : (exX.getD 2 default).path = bB := rfl
  have p3 : (exX.getD 3 default).path = bB := rfl
  have p5 : (exX.getD 5 default).path = bC := rfl
  have nab : bA ≠ bB := by decide
  have nac : bA ≠ bC := by decide
  have nbc : bB ≠ bC := by decide
  constructor
  · intro hi
    simp only [List.mem_cons, List.not_mem_nil, or_false] at hi
    refine ⟨(hs i).2 (by rcases hi with rfl | rfl | rfl <;> simp), fun j hj hp => ?_⟩
    have hj := (hs j).1 hj
    simp only [List.mem_cons, List.not_mem_nil, or_false] at hj
    rcases hi with rfl | rfl | rfl <;> rcases hj with rfl | rfl | rfl | rfl <;> first | omega | (rw [p0, p2] at hp; exact absurd hp (by decide)) | (rw [p0, p3] at hp; exact absurd hp (by decide)) | (rw [p0, p5] at hp; exact absurd hp (by decide)) | (rw [p5, p0] at hp; exact absurd hp (by decide)) | (rw [p2, p3] at hp; omega) | (rw [p5, p3] at hp; exact absurd hp (by decide)) | (rw [p5, p2] at hp; exact absurd hp (by decide)) | (rw [p3, p5] at hp; exact absurd hp (by decide))
  · rintro ⟨hi, hg⟩
    have hi := (hs i).1 hi
    simp only [List.mem_cons, List.not_mem_nil, or_false] at hi
    rcases hi with rfl | rfl | rfl | rfl
    · simp
    · have := hg 3 ((hs 3).2 (by simp)) rfl
      omega
    · simp
    · simp
def selA : SelL := (bA, (1, 0, 0))
def selB : SelL := (bB, (1, 2, 0))
def selCC : SelL := (bC, (1, 0, 0))
theorem ex_sel : selM false exX exT = ([selA, selB, selCC], 0) := by
  rw [selM_ok ex_plain ex_all]
  unfold selL
  rw [ex_top]
  rfl
theorem ex_why : whyV exX exT bB = ((bB, 0, [selA, selCC, selB]), 0) := by
  have h0 : (selM false exX exT).2 = 0 := by rw [ex_sel]
  have ht : tgtM exX exT bB = some 3 := by
    unfold tgtM
    rw [ex_top]
    decide +kernel
  unfold whyV
  rw [if_neg (by rw [h0]; simp), ht]
  have hb : bestK (rootD exX exT 3) exT.length = some 0 := by decide +kernel
  simp only
  rw [hb]
  simp only
  have hp : ((pathF exX.length (relEs exX) ((namedI false exX (exT.getD 0 default)).getD 0) 3).map fun i => keyL (exX.getD i default)) = [selA, selCC, selB] := by decide +kernel
  rw [hp]
  rfl
theorem ex_check : checkV exX exT (bB, 0, [selA, selCC, selB]) = true := by
  have h : chainB exX [needQ bA 0] [selA, selCC, selB] = true := by decide +kernel
  unfold checkV
  rw [ex_sel]
  show (_ && (_ && (_ && (_ && _)))) = true
  simp only [Bool.and_eq_true, decide_eq_true_eq]
  refine ⟨trivial, ⟨by decide, by decide⟩, ?_⟩
  refine ⟨rfl, ?_, h⟩
  simp
theorem ex_own : selL false exX exT = [selA, selB, selCC] := by
  have := ex_sel
  rw [selM_ok ex_plain ex_all] at this
  injection this
theorem ex_gives : redStep (givesB exX [selA, selB, selCC]) 3 (ownL [selA, selB, selCC]) = exT := by
  have hlen : (selL false exX exT).length ≤ 16 := by rw [ex_own]; simp
  have hO : ownL [selA, selB, selCC] = [ownQ selA, ownQ selB, ownQ selCC] := rfl
  have hT : ([ownQ selA] : List ReqL) = exT := by decide +kernel
  have h1 : givesB exX [selA, selB, selCC] [ownQ selA] = true := by rw [hT, gives_iff]; exact ex_sel
  have hm := gives_mono ex_plain ex_all hlen
  rw [ex_own] at hm
  have h2 : givesB exX [selA, selB, selCC] [ownQ selA, ownQ selB] = true := hm [ownQ selA] [ownQ selA, ownQ selB] (by simp) (by rw [hO]; simp) h1
  have h0 : givesB exX [selA, selB, selCC] [] = false := by
    cases hg : givesB exX [selA, selB, selCC] [] with
    | false => rfl
    | true =>
      have h := gives_iff.1 hg
      obtain ⟨_, _, hs⟩ := selM_inv h
      have hn : topM false exX [] = [] := by
        rw [List.eq_nil_iff_forall_not_mem]
        intro i hi
        have hr := (topM_mem.1 hi).1
        clear hi
        induction hr with
        | root hq _ => cases hq
        | step _ _ _ ih => exact ih
      unfold selL at hs
      rw [hn] at hs
      cases hs
  rw [hO]
  unfold redStep
  rw [show ([ownQ selA, ownQ selB, ownQ selCC] : List ReqL).eraseIdx 2 = [ownQ selA, ownQ selB] from rfl, if_pos h2]
  unfold redStep
  rw [show ([ownQ selA, ownQ selB] : List ReqL).eraseIdx 1 = [ownQ selA] from rfl, if_pos h1]
  unfold redStep
  rw [show ([ownQ selA] : List ReqL).eraseIdx 0 = [] from rfl, h0, if_neg (by decide)]
  unfold redStep
  exact hT
end Go.Proofs.YtenfkejbndifdaaGreatDoor
