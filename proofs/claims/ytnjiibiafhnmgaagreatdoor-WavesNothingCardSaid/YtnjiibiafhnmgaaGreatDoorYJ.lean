/- Contract of the index's CheckRequirements. Contracts of the index's key and compare. Contract of cmp.Or at two numbers. -/
import Derived.Test.YtnjiibiafhnmgaaGreatDoorYI
import Derived.Laws.Rows
import Derived.Test.YtnjiibiafhnmgaaGreatDoorYB
import Derived.Test.YtnjiibiafhnmgaaGreatDoorYE
import Derived.Test.YtnjiibiafhnmgaaGreatDoorYH
import Derived.Shelf.SlicesQ.Equal
import Derived.Laws.StructEq
namespace Go.Proofs.YtnjiibiafhnmgaaGreatDoor
set_option linter.unusedVariables false
set_option linter.unusedSimpArgs false
open Go Go.RowKit

theorem beforeQ_succ (l : List ReqL) (k : Nat) : beforeQ l (k + 1) = some (l.getD k default).1 := by simp [beforeQ]
set_option maxRecDepth 100000 in
set_option maxHeartbeats 4000000 in
theorem CheckReqs_any (v : Value) (l : List ReqL) (w : World) (hm : MaxOk w) (hl : l.length ≤ 1000000000) (hq : ∀ q ∈ l, q.1.size ≤ 1000000 ∧ q.2.length ≤ 1000000000) (hR : ReqsOf w.heap.size v l w) :
    Calls Tryz.prog 183 #[v] w fun e w' => e = .returned (.int .i64 (checkReqs l)) ∧ Below w.heap.size w w' := by
  obtain ⟨ao, cap, rfl, hR⟩ := hR
  have HR := Lib.hid hR
  have HQ := Lib.hid hq
  have HM := Lib.hid hm
  clear hR hq hm
  obtain ⟨E, hE⟩ : ∃ E, checkReqs l = E := ⟨_, rfl⟩
  have HE := Lib.hid hE
  rw [hE]
  clear hE
  by_cases h16 : 16 < l.length
  · have h16a : (16 : Int) < (l.length : Int) := by omega
    have h16b : decide ((16 : Int) < (l.length : Int)) = true := decide_eq_true h16a
    have HX := Lib.hid (show E = 7 by rw [← HE.out]; unfold checkReqs; rw [if_pos h16])
    go_enter Tryz.func183, Tryz.ntmps183
    go_wp2_with fail
    go_ret
    exact ⟨by rw [HX.out]; rfl, Below.refl _ _⟩
  · have h16a : ¬ ((16 : Int) < (l.length : Int)) := by omega
    have h16b : decide ((16 : Int) < (l.length : Int)) = false := decide_eq_false h16a
    have HF := Lib.hid (show E = firstE l.length fun k => reqE (l.getD k default) (beforeQ l k) by rw [← HE.out]; unfold checkReqs; rw [if_neg h16])
    go_enter Tryz.func183, Tryz.ntmps183
    go_wp2_with fail
    go_loopw [3, 12] (fun bp p wr => ∃ k : Nat, k ≤ l.length ∧ p = .int .i64 k ∧ Hid (BeforeAt wr bp (beforeQ l k)) ∧ Hid (∀ j, j < k → reqE (l.getD j default) (beforeQ l j) = 0) ∧ Hid (Below w.heap.size w wr)) (fun _ p _ => l.length - (intOf p).toNat)
    case atStart => exact ⟨0, Nat.zero_le _, rfl, Lib.hid (.inl ⟨rfl, rfl⟩), Lib.hid (fun j hj => absurd hj (Nat.not_lt_zero _)), Lib.hid (Below.refl _ _)⟩
    case round =>
      obtain ⟨k, hk, rfl, HBA, HZ, HB⟩ := hrel
      by_cases hlt : k < l.length
      case neg =>
        have hk2 : k = l.length := by omega
        subst hk2
        have HX := Lib.hid (show E = 0 by rw [HF.out]; exact firstE_none fun j hj => HZ.out j hj)
        go_wp2_with fail
        go_ret
        exact ⟨by rw [HX.out]; rfl, HB.out⟩
      case pos =>
        obtain ⟨b, off, r, rfl, hbl, hc0, hc1, hsp⟩ := HR.out k l[k] (by simp [hlt])
        have hd0 := (HB.out.cell (p := ⟨b, off + k * 2, none⟩) hbl).trans hc0
        have hd1 := (HB.out.cell (p := ⟨b, off + k * 2 + 1, none⟩) hbl).trans hc1
        have hbw : b < wr.heap.size := Nat.lt_of_lt_of_le hbl HB.out.size
        have hgd : l.getD k default = l[k] := by rw [List.getD_eq_getElem?_getD, List.getElem?_eq_getElem hlt]; rfl
        obtain ⟨q1, q2⟩ := HQ.out l[k] (List.getElem_mem hlt)
        have HB2 : Hid (Below w.heap.size w (wr.alloc (.cells #[.string l[k].1, r] 100))) := Lib.hid (HB.out.trans ((belQ wr _).mono HB.out.size))
        have hBA : BeforeAt (wr.alloc (.cells #[.string l[k].1, r] 100)) u3 (beforeQ l k) := by
          rcases HBA.out with h | ⟨q, b2, o2, h1, h2, h3, h4⟩
          · exact .inl h
          · exact .inr ⟨q, b2, o2, h1, h2, by simp; omega, ((belQ wr _).cell (p := ⟨b2, o2, none⟩) h3).trans h4⟩
        have HC := Lib.hid (checkReq_any l[k].1 l[k].2 r u3 (beforeQ l k) (wr.alloc (.cells #[.string l[k].1, r] 100)) (HM.out.below HB2.out HM.out.pos) q1 q2 (Nat.le_trans (canon_len _) q2) ((hsp.below HB2.out (Nat.le_refl _)).mono HB2.out.size) hBA)
        have HS := Lib.hid hsp
        obtain ⟨ra, rc, rfl, _⟩ := hsp
        clear hBA q1 q2
        have e0 : (l[k].1, l[k].2) = l[k] := rfl
        rw [e0] at HC
        have HD0 := Lib.hid hd0
        go_wp2_with fail
        refine HC.out.mono ?_
        rintro e w3 ⟨rfl, hb3⟩
        have HB3 := Lib.hid (HB2.out.trans (hb3.mono HB2.out.size))
        have HD3 : Hid (w3.cell? ⟨b, off + k * 2, none⟩ = some (.string l[k].1)) := Lib.hid ((HB3.out.cell (p := ⟨b, off + k * 2, none⟩) hbl).trans hc0)
        have hs3 := HB3.out.size
        clear hb3
        by_cases hz : reqE l[k] (beforeQ l k) = 0
        case neg =>
          have HX := Lib.hid (show E = reqE l[k] (beforeQ l k) by rw [HF.out, firstE_at hlt (fun j hj => HZ.out j hj) (by rw [hgd]; exact hz), hgd])
          generalize reqE l[k] (beforeQ l k) = er at *
          have hz2 : (er != 0) = true := by simpa using hz
          go_wp2_with fail
          go_ret
          exact ⟨by rw [HX.out]; rfl, HB3.out⟩
        case pos =>
          have HZ2 := Lib.hid (show ∀ j, j < k + 1 → reqE (l.getD j default) (beforeQ l j) = 0 from fun j hj => by
            by_cases e : j = k
            · rw [e, hgd]; exact hz
            · exact HZ.out j (by omega))
          rw [hz]
          go_wp2_with fail
          go_roundw
          case rel => exact ⟨k + 1, by omega, by simp, Lib.hid (.inr ⟨l[k].1, b, off + k * 2, by rw [beforeQ_succ, hgd], rfl, by omega, HD3.out⟩), HZ2, HB3⟩
          case measure => simp [intOf]; omega
end Go.Proofs.YtnjiibiafhnmgaaGreatDoor

namespace Go.Proofs.YtnjiibiafhnmgaaGreatDoor
set_option linter.unusedVariables false
set_option linter.unusedSimpArgs false
open Go Go.RowKit

def relC (x : RelL) (r : Value) : Array Value := #[.string x.path, intC x.ver.1, intC x.ver.2.1, intC x.ver.2.2, r, .string x.ar, .string x.ifc, .string x.cert, .bool x.yk]
set_option maxRecDepth 100000 in
theorem key_any (x : RelL) (r : Value) (w : World) : Calls Tryz.prog 153 #[.agg (relC x r)] w fun e w' => e = .returned (.agg #[.string x.path, intC x.ver.1, intC x.ver.2.1, intC x.ver.2.2]) ∧ Below w.heap.size w w' := by
  unfold relC
  go_enter Tryz.func153, Tryz.ntmps153
  go_wp2_with fail
  refine bodyPost_ret (results_cell_row rfl _ _ (w.heap.size + 1) _ _ _ _ rfl (by have := World.alloc_heap_new (w.alloc (.cells #[.string x.path, intC x.ver.1, intC x.ver.2.1, intC x.ver.2.2, r, .string x.ar, .string x.ifc, .string x.cert, .bool x.yk] 69)) (.cells #[.string x.path, intC x.ver.1, intC x.ver.2.1, intC x.ver.2.2] 53); rw [World.size_alloc] at this; exact this) Tryz.underlying53 rfl (by kernel_rfl)) rfl ?_
  exact ⟨rfl, (by repeat (first | exact Below.refl _ _ | refine Below.drew ?_ | refine Below.alloc ?_ (by simp <;> omega) _ | refine Below.setCell ?_ (by simp <;> omega) _))⟩
end Go.Proofs.YtnjiibiafhnmgaaGreatDoor

namespace Go.Proofs.YtnjiibiafhnmgaaGreatDoor
set_option linter.unusedVariables false
set_option linter.unusedSimpArgs false
open Go Go.RowKit

set_option maxRecDepth 100000 in
theorem or2_any (g : Nat) (x y : Int) (w : World) (h0 : w.cell? ⟨g, 0, none⟩ = some (.int .i64 x)) (h1 : w.cell? ⟨g, 1, none⟩ = some (.int .i64 y)) :
    Calls Tryz.prog 184 #[.slice (some ⟨g, 0, none⟩) 2 2] w fun e w' => e = .returned (.int .i64 (if x ≠ 0 then x else y)) ∧ w = w' := by
  obtain ⟨R, hR⟩ : ∃ R, (if x ≠ 0 then x else y) = R := ⟨_, rfl⟩
  rw [hR]
  have HR := Lib.hid hR
  clear hR
  obtain ⟨P1, hP1⟩ : ∃ P1 : Prop, P1 = (x = 0) := ⟨_, rfl⟩
  obtain ⟨P2, hP2⟩ : ∃ P2 : Prop, P2 = (y = 0) := ⟨_, rfl⟩
  have HP := Lib.hid (And.intro hP1 hP2)
  clear hP1 hP2
  go_enter Tryz.func184, Tryz.ntmps184
  go_wp2_with fail
  go_loopw [8] (fun i wr => ((i = .int .i64 0) ∨ (i = .int .i64 1 ∧ Hid P1) ∨ (i = .int .i64 2 ∧ Hid (P1 ∧ P2))) ∧ wr = w) (fun i _ => 3 - (intOf i).toNat)
  case atStart => exact ⟨.inl rfl, rfl⟩
  case round =>
    obtain ⟨hrel, rfl⟩ := hrel
    rcases hrel with rfl | ⟨rfl, H1⟩ | ⟨rfl, H2⟩
    · by_cases hx : x = 0
      · have HX : Hid P1 := Lib.hid (by rw [HP.out.1]; exact hx)
        subst hx
        go_wp2_with fail
        go_roundw
        case rel => exact ⟨.inr (.inl ⟨rfl, HX⟩), trivial⟩
        case measure => simp [intOf]
      · have hb : (x != 0) = true := by simpa using hx
        go_wp2_with fail
        go_ret
        exact ⟨by rw [← HR.out, if_pos hx]; rfl, rfl⟩
    · by_cases hy : y = 0
      · have HX : Hid (P1 ∧ P2) := Lib.hid ⟨H1.out, by rw [HP.out.2]; exact hy⟩
        subst hy
        go_wp2_with fail
        go_roundw
        case rel => exact ⟨.inr (.inr ⟨rfl, HX⟩), trivial⟩
        case measure => simp [intOf]
      · have hb : (y != 0) = true := by simpa using hy
        have HE := Lib.hid (show R = y by rw [← HR.out, if_neg (fun h => h (HP.out.1 ▸ H1.out))])
        go_wp2_with fail
        go_ret
        exact ⟨by rw [HE.out]; rfl, rfl⟩
    · have HE := Lib.hid (show R = 0 by rw [← HR.out, if_neg (fun h => h (HP.out.1 ▸ H2.out.1))]; exact HP.out.2 ▸ H2.out.2)
      go_wp2_with fail
      go_ret
      exact ⟨by rw [HE.out]; rfl, rfl⟩
end Go.Proofs.YtnjiibiafhnmgaaGreatDoor

namespace Go.Proofs.YtnjiibiafhnmgaaGreatDoor
set_option linter.unusedVariables false
set_option linter.unusedSimpArgs false
open Go Go.RowKit

theorem keep4x {W w' : World} {g k : Nat} {a0 a1 a2 a3 b0 b1 b2 b3 : Value} (hg : g < W.heap.size) (hk : k < W.heap.size)
    (h : (W.cell? ⟨g, 0, none⟩ = some a0 ∧ W.cell? ⟨g, 1, none⟩ = some a1 ∧ W.cell? ⟨g, 2, none⟩ = some a2 ∧ W.cell? ⟨g, 3, none⟩ = some a3) ∧ W.cell? ⟨k, 0, none⟩ = some b0 ∧ W.cell? ⟨k, 1, none⟩ = some b1 ∧ W.cell? ⟨k, 2, none⟩ = some b2 ∧ W.cell? ⟨k, 3, none⟩ = some b3) (hb : Below W.heap.size W w') :
    (w'.cell? ⟨g, 0, none⟩ = some a0 ∧ w'.cell? ⟨g, 1, none⟩ = some a1 ∧ w'.cell? ⟨g, 2, none⟩ = some a2 ∧ w'.cell? ⟨g, 3, none⟩ = some a3) ∧ w'.cell? ⟨k, 0, none⟩ = some b0 ∧ w'.cell? ⟨k, 1, none⟩ = some b1 ∧ w'.cell? ⟨k, 2, none⟩ = some b2 ∧ w'.cell? ⟨k, 3, none⟩ = some b3 := by
  obtain ⟨⟨h0, h1, h2, h3⟩, i0, i1, i2, i3⟩ := h
  exact ⟨⟨(hb.cell hg).trans h0, (hb.cell hg).trans h1, (hb.cell hg).trans h2, (hb.cell hg).trans h3⟩, (hb.cell hk).trans i0, (hb.cell hk).trans i1, (hb.cell hk).trans i2, (hb.cell hk).trans i3⟩
theorem cmpR_or (a b : RelL) : cmpR a b = (if cmpS a.path b.path ≠ 0 then cmpS a.path b.path else cmpV a.ver.1 a.ver.2.1 a.ver.2.2 b.ver.1 b.ver.2.1 b.ver.2.2) := rfl
set_option maxRecDepth 100000 in
set_option maxHeartbeats 8000000 in
theorem compareR_any (a b : RelL) (ra rb : Value) (w : World) : Calls Tryz.prog 154 #[.agg (relC a ra), .agg (relC b rb)] w fun e w' => e = .returned (.int .i64 (cmpR a b)) ∧ Below w.heap.size w w' := by
  obtain ⟨ap, ⟨a1, a2, a3⟩, aq, aa, ai, ac, ay⟩ := a
  obtain ⟨bp, ⟨b1, b2, b3⟩, bq, ba, bi, bc, byk⟩ := b
  rw [cmpR_or]
  simp only [relC]
  have HC1 := Lib.hid (fun W => cmpS_any ap bp W)
  have HC2 := Lib.hid (fun W => Compare_any a1 a2 a3 b1 b2 b3 W)
  generalize cmpS ap bp = c1 at *
  generalize cmpV a1 a2 a3 b1 b2 b3 = c2 at *
  have HO := Lib.hid (fun g W => or2_any g c1 c2 W)
  generalize (if c1 ≠ 0 then c1 else c2) = cr at *
  go_enter Tryz.func154, Tryz.ntmps154
  go_upto_region 1 with fail
  obtain ⟨W, hW⟩ : ∃ W, (w.alloc (.cells #[.string ap, intC a1, intC a2, intC a3, ra, .string aa, .string ai, .string ac, .bool ay] 69)).alloc (.cells #[.string bp, intC b1, intC b2, intC b3, rb, .string ba, .string bi, .string bc, .bool byk] 69) = W := ⟨_, rfl⟩
  rw [hW]
  have HB0 : Hid (Below w.heap.size w W) := Lib.hid (by rw [← hW]; exact ((Below.refl _ _).alloc (Nat.le_refl _) _).alloc (by simp) _)
  have hz : w.heap.size < W.heap.size := by rw [← hW]; simp only [World.size_alloc]; omega
  have hz1 : w.heap.size + 1 < W.heap.size := by rw [← hW]; simp only [World.size_alloc]; omega
  have HS : Hid ((W.cell? ⟨w.heap.size, 0, none⟩ = some (.string ap) ∧ W.cell? ⟨w.heap.size, 1, none⟩ = some (.int .i64 a1) ∧ W.cell? ⟨w.heap.size, 2, none⟩ = some (.int .i64 a2) ∧ W.cell? ⟨w.heap.size, 3, none⟩ = some (.int .i64 a3)) ∧
      W.cell? ⟨w.heap.size + 1, 0, none⟩ = some (.string bp) ∧ W.cell? ⟨w.heap.size + 1, 1, none⟩ = some (.int .i64 b1) ∧ W.cell? ⟨w.heap.size + 1, 2, none⟩ = some (.int .i64 b2) ∧ W.cell? ⟨w.heap.size + 1, 3, none⟩ = some (.int .i64 b3)) :=
    Lib.hid (by rw [← hW]; exact ⟨⟨by simp [go_sem], by simp [go_sem], by simp [go_sem], by simp [go_sem]⟩, by simp [go_sem], by simp [go_sem], by simp [go_sem], by simp [go_sem]⟩)
  clear hW
  have HBC : Hid (Below W.heap.size W W) := Lib.hid (Below.refl _ _)
  go_region_held3 (fun w' => (w'.cell? ⟨w.heap.size, 0, none⟩ = some (.string ap) ∧ w'.cell? ⟨w.heap.size, 1, none⟩ = some (.int .i64 a1) ∧ w'.cell? ⟨w.heap.size, 2, none⟩ = some (.int .i64 a2) ∧ w'.cell? ⟨w.heap.size, 3, none⟩ = some (.int .i64 a3)) ∧
      w'.cell? ⟨w.heap.size + 1, 0, none⟩ = some (.string bp) ∧ w'.cell? ⟨w.heap.size + 1, 1, none⟩ = some (.int .i64 b1) ∧ w'.cell? ⟨w.heap.size + 1, 2, none⟩ = some (.int .i64 b2) ∧ w'.cell? ⟨w.heap.size + 1, 3, none⟩ = some (.int .i64 b3))
    ((first | (exact keep4x hz hz1 HS.out HBC.out) | (exact keep4x hz hz1 HS.out HBC.out.drew) | (exact keep4x hz hz1 HS.out (HBC.out.alloc HBC.out.size _))))
    (first | (go_at_call 185; refine (HC1.out _).mono ?_; rintro e wq ⟨rfl, rfl⟩)
             | (go_at_call 186; refine (HC2.out _).mono ?_; rintro e wq ⟨rfl, hbc⟩; (first | (replace HBC := Lib.hid (HBC.out.trans (hbc.mono HBC.out.size))) | (replace HBC := Lib.hid (HBC.out.drew.trans (hbc.mono HBC.out.size)))); clear hbc)
             | (go_at_call 184; refine (HO.out _ _ (by simp [go_sem]) (by simp [go_sem])).mono ?_; rintro e wq ⟨rfl, rfl⟩))
  all_goals
    go_wp2_with fail
    go_ret
    exact ⟨rfl, HB0.out.trans (((HBC.out.alloc HBC.out.size _)).mono HB0.out.size)⟩
end Go.Proofs.YtnjiibiafhnmgaaGreatDoor

namespace Go.Proofs.YtnjiibiafhnmgaaGreatDoor
set_option linter.unusedVariables false
set_option linter.unusedSimpArgs false
open Go Go.RowKit

def BoxR (W : World) (g : Nat) (x : RelL) (r : Value) : Prop := W.heap[g]? = some (.cells (relC x r) 69 (0, 0))
theorem BoxR.lt {W : World} {g : Nat} {x : RelL} {r : Value} (h : BoxR W g x r) : g < W.heap.size := by
  unfold BoxR at h
  exact (Array.getElem?_eq_some_iff.1 h).1
theorem BoxR.made (W : World) (x : RelL) (r : Value) : BoxR (W.alloc (.cells (relC x r) 69)) W.heap.size x r := World.alloc_heap_new W _
theorem BoxR.below {W W' : World} {g B : Nat} {x : RelL} {r : Value} (h : BoxR W g x r) (hb : Below B W W') (hg : g < B) : BoxR W' g x r := (hb.block g hg).trans h
theorem BoxR.on {W W' : World} {g : Nat} {x : RelL} {r : Value} (h : BoxR W g x r) (hb : Below W.heap.size W W') : BoxR W' g x r := h.below hb h.lt
theorem BoxR.cells {W : World} {g : Nat} {x : RelL} {r : Value} (h : BoxR W g x r) :
    W.cell? ⟨g, 0, none⟩ = some (.string x.path) ∧ W.cell? ⟨g, 1, none⟩ = some (.int .i64 x.ver.1) ∧ W.cell? ⟨g, 2, none⟩ = some (.int .i64 x.ver.2.1) ∧ W.cell? ⟨g, 3, none⟩ = some (.int .i64 x.ver.2.2) ∧ W.cell? ⟨g, 4, none⟩ = some r ∧
      W.cell? ⟨g, 5, none⟩ = some (.string x.ar) ∧ W.cell? ⟨g, 6, none⟩ = some (.string x.ifc) ∧ W.cell? ⟨g, 7, none⟩ = some (.string x.cert) ∧ W.cell? ⟨g, 8, none⟩ = some (.bool x.yk) :=
  ⟨cell_of_row _ _ 0 _ _ _ h, cell_of_row _ _ 1 _ _ _ h, cell_of_row _ _ 2 _ _ _ h, cell_of_row _ _ 3 _ _ _ h, cell_of_row _ _ 4 _ _ _ h, cell_of_row _ _ 5 _ _ _ h, cell_of_row _ _ 6 _ _ _ h, cell_of_row _ _ 7 _ _ _ h, cell_of_row _ _ 8 _ _ _ h⟩
theorem digB_yes {s : ByteArray} (h : digB s = true) : ((s.size : Int) != 0) = false ∨ (((s.size : Int) != 0) = true ∧ ((s.size : Int) != 32) = false) := by
  unfold digB at h
  by_cases h0 : s.size = 0
  · left; simp [h0]
  · right
    have : s.size = 32 := by simpa [h0] using h
    simp [this]
theorem digB_no {s : ByteArray} (h : digB s = false) : ((s.size : Int) != 0) = true ∧ ((s.size : Int) != 32) = true := by
  unfold digB at h
  rw [Bool.or_eq_false_iff, decide_eq_false_iff_not, decide_eq_false_iff_not] at h
  exact ⟨bne_iff_ne.2 (by omega), bne_iff_ne.2 (by omega)⟩
set_option maxRecDepth 100000 in
set_option maxHeartbeats 8000000 in
theorem checkRel_any (x : RelL) (r : Value) (w : World) (hm : MaxOk w) (hp : x.path.size ≤ 1000000) (hl : x.reqs.length ≤ 1000000000) (hq : ∀ q ∈ x.reqs, q.1.size ≤ 1000000 ∧ q.2.length ≤ 1000000000) (hR : ReqsOf w.heap.size r x.reqs w) :
    Calls Tryz.prog 152 #[.agg (relC x r)] w fun e w' => e = .returned (.int .i64 (relE x)) ∧ Below w.heap.size w w' := by
  obtain ⟨E, hE⟩ : ∃ E, relE x = E := ⟨_, rfl⟩
  have HE := Lib.hid hE
  rw [hE]
  clear hE
  have HB0 : Hid (Below w.heap.size w (w.alloc (.cells (relC x r) 69))) := Lib.hid (belQ _ _)
  have HG0 : Hid (BoxR (w.alloc (.cells (relC x r) 69)) w.heap.size x r) := Lib.hid (BoxR.made w x r)
  have HM := Lib.hid hm
  have HL := Lib.hid (Line_any x.path (w.alloc (.cells (relC x r) 69)) hp (hm.alloc _))
  have HCR := Lib.hid (fun W (hb : Below w.heap.size w W) => CheckReqs_any r x.reqs W (hm.below hb hm.pos) hl hq ((hR.below hb (Nat.le_refl _)).mono hb.size))
  obtain ⟨ra, rc, hr⟩ : ∃ ra rc, r = .slice ra x.reqs.length rc := by obtain ⟨a, c, e, _⟩ := hR; exact ⟨a, c, e⟩
  clear hm hp hl hq hR
  obtain ⟨p, ⟨v1, v2, v3⟩, rq, sa, si, sc, yk⟩ := x
  simp only [relC] at HL HCR hr HB0 HG0 ⊢
  obtain ⟨⟨ln, lm, le⟩, hln⟩ : ∃ z, lineV p = z := ⟨_, rfl⟩
  rw [hln] at HL
  obtain ⟨cr, hcr⟩ : ∃ z, checkReqs rq = z := ⟨_, rfl⟩
  rw [hcr] at HCR
  have HV := Lib.hid (fun W => Valid_any v1 v2 v3 W)
  obtain ⟨vb, hvb⟩ : ∃ z, validB v1 v2 v3 = z := ⟨_, rfl⟩
  rw [hvb] at HV
  obtain ⟨da, hda⟩ : ∃ z, digB sa = z := ⟨_, rfl⟩
  obtain ⟨di, hdi⟩ : ∃ z, digB si = z := ⟨_, rfl⟩
  obtain ⟨dc, hdc⟩ : ∃ z, digB sc = z := ⟨_, rfl⟩
  have hX : E = (if le ≠ 0 then 4 else if (vb && decide (v1 = lm)) = false then 2 else if cr ≠ 0 then cr else if (da && (di && dc)) = true then 0 else 1) := by
    rw [← HE.out, ← hvb, ← hcr, ← hda, ← hdi, ← hdc]; unfold relE; simp only [hln]
  have F1 := Lib.hid (show le ≠ 0 → E = 4 from fun h => by rw [hX, if_pos h])
  have F2 := Lib.hid (show le = 0 → vb = false ∨ v1 ≠ lm → E = 2 from fun h h2 => by rw [hX, if_neg (by simp [h]), if_pos (by rcases h2 with h2 | h2 <;> simp [h2])])
  have F3 := Lib.hid (show le = 0 → vb = true → v1 = lm → cr ≠ 0 → E = cr from fun h h2 h3 h4 => by rw [hX, if_neg (by simp [h]), if_neg (by simp [h2, h3]), if_pos h4])
  have F4 := Lib.hid (show le = 0 → vb = true → v1 = lm → cr = 0 → E = (if (da && (di && dc)) = true then 0 else 1) from fun h h2 h3 h4 => by rw [hX, if_neg (by simp [h]), if_neg (by simp [h2, h3]), if_neg (by simp [h4])])
  have F5 := Lib.hid (show le = 0 → vb = true → v1 = lm → cr = 0 → (da = false ∨ di = false ∨ dc = false) → E = 1 from fun h h2 h3 h4 h5 => by rw [F4.out h h2 h3 h4, if_neg (by rcases h5 with h5 | h5 | h5 <;> simp [h5])])
  have F6 := Lib.hid (show le = 0 → vb = true → v1 = lm → cr = 0 → da = true → di = true → dc = true → E = 0 from fun h h2 h3 h4 h5 h6 h7 => by rw [F4.out h h2 h3 h4, if_pos (by simp [h5, h6, h7])])
  clear hX F4
  have HD := Lib.hid (And.intro hda (And.intro hdi hdc))
  clear hln hcr hvb hda hdi hdc HE
  subst hr
  simp only at HL
  go_enter Tryz.func152, Tryz.ntmps152
  go_wp2_with fail
  refine HL.out.mono ?_
  rintro e w1 ⟨rfl, hb1⟩
  have HB1 := Lib.hid (HB0.out.trans (hb1.mono HB0.out.size))
  have HG1 := Lib.hid (HG0.out.on hb1)
  obtain ⟨g0, g1, g2, g3, g4, g5, g6, g7, _⟩ := HG1.out.cells
  simp only at g0 g1 g2 g3 g4 g5 g6 g7
  clear hb1 HL HB0 HG0
  by_cases h1 : le = 0
  case neg =>
    have h1b : (le != 0) = true := by simpa using h1
    have HY := Lib.hid (F1.out h1)
    go_wp2_with fail
    go_ret
    exact ⟨by rw [HY.out]; rfl, HB1.out⟩
  subst h1
  go_wp2_with fail
  refine (HV.out _).mono ?_
  rintro e w2 ⟨rfl, hw2⟩
  have hb2 : Below w1.heap.size w1 w2 := by rw [hw2]; exact (by repeat (first | exact Below.refl _ _ | refine Below.drew ?_ | refine Below.alloc ?_ (by simp <;> omega) _ | refine Below.setCell ?_ (by simp <;> omega) _))
  have HB2 := Lib.hid (HB1.out.trans (hb2.mono HB1.out.size))
  have HG2 := Lib.hid (HG1.out.on hb2)
  clear hw2 hb2 g0 g1 g2 g3 g4 g5 g6 g7 HV HB1 HG1
  obtain ⟨g0, g1, g2, g3, g4, g5, g6, g7, _⟩ := HG2.out.cells
  simp only at g0 g1 g2 g3 g4 g5 g6 g7
  cases vb with
  | false =>
    have HY := Lib.hid (F2.out (by trivial) (.inl (by trivial)))
    go_wp2_with fail
    go_ret
    exact ⟨by rw [HY.out]; rfl, HB2.out⟩
  | true =>
  by_cases h2 : v1 = lm
  case neg =>
    have h2b : (v1 != lm) = true := by simpa using h2
    have h2c : (v1 == lm) = false := by simpa using h2
    have HY := Lib.hid (F2.out (by trivial) (.inr h2))
    go_wp2_with fail
    go_ret
    exact ⟨by rw [HY.out]; rfl, HB2.out⟩
  subst h2
  go_wp2_with fail
  refine (HCR.out _ HB2.out).mono ?_
  rintro e w3 ⟨rfl, hb3⟩
  have HB3 := Lib.hid (HB2.out.trans (hb3.mono HB2.out.size))
  have HG3 := Lib.hid (HG2.out.on hb3)
  clear hb3 g0 g1 g2 g3 g4 g5 g6 g7 HB2 HG2
  obtain ⟨g0, g1, g2, g3, g4, g5, g6, g7, _⟩ := HG3.out.cells
  simp only at g0 g1 g2 g3 g4 g5 g6 g7
  by_cases h3 : cr = 0
  case neg =>
    have h3b : (cr != 0) = true := by simpa using h3
    have HY := Lib.hid (F3.out (by trivial) (by trivial) (by trivial) h3)
    go_wp2_with fail
    go_ret
    exact ⟨by rw [HY.out]; rfl, HB3.out⟩
  subst h3
  have HZ := Lib.hid (show Below w.heap.size w (w3.alloc (.cells #[.string sa, .string si, .string sc] 9)) from HB3.out.alloc HB3.out.size _)
  go_wp2_with fail
  go_loopw [43] (fun i wr => ((i = .int .i64 0) ∨ (i = .int .i64 1 ∧ Hid (da = true)) ∨ (i = .int .i64 2 ∧ Hid (da = true ∧ di = true)) ∨ (i = .int .i64 3 ∧ Hid (da = true ∧ di = true ∧ dc = true))) ∧ wr = w3.alloc (.cells #[.string sa, .string si, .string sc] 9)) (fun i _ => 3 - (intOf i).toNat)
  case atStart => exact ⟨.inl rfl, rfl⟩
  case round =>
    obtain ⟨hrel, rfl⟩ := hrel
    rcases hrel with rfl | ⟨rfl, H1⟩ | ⟨rfl, H2⟩ | ⟨rfl, H3⟩
    · cases da with
      | true =>
        rcases digB_yes HD.out.1 with k0 | ⟨k0, k1⟩
        · go_wp2_with fail
          go_roundw
          case rel => exact ⟨(.inr (.inl ⟨rfl, Lib.hid (by trivial)⟩)), by trivial⟩
          case measure => simp [intOf]
        · go_wp2_with fail
          go_roundw
          case rel => exact ⟨(.inr (.inl ⟨rfl, Lib.hid (by trivial)⟩)), by trivial⟩
          case measure => simp [intOf]
      | false =>
        obtain ⟨k0, k1⟩ := digB_no HD.out.1
        have HY := Lib.hid (F5.out (by trivial) (by trivial) (by trivial) (by trivial) (by simp))
        go_wp2_with fail
        go_ret
        exact ⟨by rw [HY.out]; rfl, HZ.out⟩
    · cases di with
      | true =>
        rcases digB_yes HD.out.2.1 with k0 | ⟨k0, k1⟩
        · go_wp2_with fail
          go_roundw
          case rel => exact ⟨(.inr (.inr (.inl ⟨rfl, Lib.hid ⟨H1.out, by trivial⟩⟩))), by trivial⟩
          case measure => simp [intOf]
        · go_wp2_with fail
          go_roundw
          case rel => exact ⟨(.inr (.inr (.inl ⟨rfl, Lib.hid ⟨H1.out, by trivial⟩⟩))), by trivial⟩
          case measure => simp [intOf]
      | false =>
        obtain ⟨k0, k1⟩ := digB_no HD.out.2.1
        have HY := Lib.hid (F5.out (by trivial) (by trivial) (by trivial) (by trivial) (by simp))
        go_wp2_with fail
        go_ret
        exact ⟨by rw [HY.out]; rfl, HZ.out⟩
    · cases dc with
      | true =>
        rcases digB_yes HD.out.2.2 with k0 | ⟨k0, k1⟩
        · go_wp2_with fail
          go_roundw
          case rel => exact ⟨(.inr (.inr (.inr ⟨rfl, Lib.hid ⟨H2.out.1, H2.out.2, by trivial⟩⟩))), by trivial⟩
          case measure => simp [intOf]
        · go_wp2_with fail
          go_roundw
          case rel => exact ⟨(.inr (.inr (.inr ⟨rfl, Lib.hid ⟨H2.out.1, H2.out.2, by trivial⟩⟩))), by trivial⟩
          case measure => simp [intOf]
      | false =>
        obtain ⟨k0, k1⟩ := digB_no HD.out.2.2
        have HY := Lib.hid (F5.out (by trivial) (by trivial) (by trivial) (by trivial) (by simp))
        go_wp2_with fail
        go_ret
        exact ⟨by rw [HY.out]; rfl, HZ.out⟩
    · have HY := Lib.hid (F6.out (by trivial) (by trivial) (by trivial) (by trivial) H3.out.1 H3.out.2.1 H3.out.2.2)
      go_wp2_with fail
      go_ret
      exact ⟨by rw [HY.out]; rfl, HZ.out⟩
end Go.Proofs.YtnjiibiafhnmgaaGreatDoor

namespace Go.Proofs.YtnjiibiafhnmgaaGreatDoor
set_option linter.unusedVariables false
set_option linter.unusedSimpArgs false
open Go Go.RowKit Go.Shelf Go.Lib

def selC (y : SelL) : List Value := [.string y.1, .int .i64 y.2.1, .int .i64 y.2.2.1, .int .i64 y.2.2.2]
set_option maxRecDepth 100000 in
theorem ver_equal (d : Nat) (a b c x y z : Int) (w : World) : (Op.equalIn (d + 5) 51 (.agg #[.int .i64 a, .int .i64 b, .int .i64 c]) (.agg #[.int .i64 x, .int .i64 y, .int .i64 z])).run Tryz.prog w = .ok (a == x && (b == y && c == z)) w := by
  have hS2 : Tryz.prog.underlying 51 = some (.struct (Tryz.prog.fieldsOf 51)) := by kernel_rfl
  have hp2 : Tryz.prog.stoodInHeld 51 = false := by kernel_rfl
  rw [run_equalIn_agg w (d + 4) 51 _ _ hS2 hp2]
  clear hS2 hp2
  have u3 := Tryz.underlying3
  have a3 := Tryz.isAgg3
  have z3 := Tryz.sizeOf3
  simp only [Program.fieldsOf, Tryz.underlying51]
  go_simp
  by_cases h1 : a = x <;> by_cases h2 : b = y <;> by_cases h3 : c = z <;> simp [h1, h2, h3]
set_option maxRecDepth 100000 in
theorem sel_eql : EqlAt Tryz.prog 53 (fun x => .agg (selC x).toArray) (fun x y => decide (x = y)) := by
  refine ⟨fun x y w => ?_, GuardAt.agg _ (by kernel_rfl)⟩
  have hS : Tryz.prog.underlying 53 = some (.struct (Tryz.prog.fieldsOf 53)) := by kernel_rfl
  have hp : Tryz.prog.stoodInHeld 53 = false := by kernel_rfl
  simp only [selC]
  rw [run_eql_struct, show (10000 : Nat) = 9999 + 1 from rfl, run_equalIn_agg w 9999 53 _ _ hS hp]
  clear hS hp
  obtain ⟨d, hd⟩ : ∃ d, (9999 : Nat) = d + 9 := ⟨9990, rfl⟩
  rw [hd]
  clear hd
  have u9 := Tryz.underlying9
  have a9 := Tryz.isAgg9
  have z9 := Tryz.sizeOf9
  have a4 := Tryz.isAgg51
  have z4 := Tryz.sizeOf51
  have hv := ver_equal
  simp only [Program.fieldsOf, Tryz.underlying53]
  go_simp
  obtain ⟨xp, x1, x2, x3⟩ := x
  obtain ⟨yp, y1, y2, y3⟩ := y
  by_cases h0 : xp.toList = yp.toList
  · have h0' := bytes_inj h0
    subst h0'
    by_cases h1 : x1 = y1 <;> by_cases h2 : x2 = y2 <;> by_cases h3 : x3 = y3 <;> simp [h1, h2, h3]
  · have h0' : ¬ xp = yp := fun e => h0 (by rw [e])
    simp [h0, h0']
end Go.Proofs.YtnjiibiafhnmgaaGreatDoor

namespace Go.Proofs.YtnjiibiafhnmgaaGreatDoor
set_option linter.unusedVariables false
set_option linter.unusedSimpArgs false
open Go Go.RowKit

structure RelBd (x : RelL) : Prop where
  path : x.path.size ≤ 1000000
  len : x.reqs.length ≤ 1000000
  reqs : ∀ q ∈ x.reqs, q.1.size ≤ 1000000 ∧ q.2.length ≤ 1000000
theorem RelAt.box {B b o : Nat} {x : RelL} {W : World} (h : RelAt B b o x W) : ∃ r, ReqsOf B r x.reqs W ∧
    W.cell? ⟨b, o, none⟩ = some (.string x.path) ∧ W.cell? ⟨b, o + 1, none⟩ = some (intC x.ver.1) ∧ W.cell? ⟨b, o + 2, none⟩ = some (intC x.ver.2.1) ∧ W.cell? ⟨b, o + 3, none⟩ = some (intC x.ver.2.2) ∧ W.cell? ⟨b, o + 4, none⟩ = some r ∧
    W.cell? ⟨b, o + 5, none⟩ = some (.string x.ar) ∧ W.cell? ⟨b, o + 6, none⟩ = some (.string x.ifc) ∧ W.cell? ⟨b, o + 7, none⟩ = some (.string x.cert) ∧ W.cell? ⟨b, o + 8, none⟩ = some (.bool x.yk) := by
  obtain ⟨r, h0, h1, h2, h3, h4, h5, h6, h7, h8, h9⟩ := h
  exact ⟨r, h9, h0, h1, h2, h3, h4, h5, h6, h7, h8⟩
set_option maxRecDepth 100000 in
set_option maxHeartbeats 8000000 in
theorem IdxCheck_any (v iv : Value) (X : List RelL) (w : World) (hm : MaxOk w) (hX : X.length ≤ 1000000) (hq : ∀ x ∈ X, RelBd x) (hR : RelsOf w.heap.size v X w) :
    Calls Tryz.prog 115 #[.agg #[v, iv]] w fun e w' => e = .returned (.int .i64 (checkX X)) ∧ Below w.heap.size w w' := by
  obtain ⟨E, hE⟩ : ∃ E, checkX X = E := ⟨_, rfl⟩
  have HE := Lib.hid hE
  rw [hE]
  clear hE
  obtain ⟨ao, cap, rfl, hR⟩ := hR
  have HR := Lib.hid hR
  have HQ := Lib.hid hq
  have HM := Lib.hid hm
  clear hR hq hm
  have HB0 : Hid (Below w.heap.size w (w.alloc (.cells #[.slice ao X.length cap, iv] 25))) := Lib.hid (belQ _ _)
  by_cases h256 : 256 < X.length
  · have h256a : (256 : Int) < (X.length : Int) := by omega
    have h256b : decide ((256 : Int) < (X.length : Int)) = true := decide_eq_true h256a
    have HX := Lib.hid (show E = 7 by rw [← HE.out]; unfold checkX; rw [if_pos h256])
    go_enter Tryz.func115, Tryz.ntmps115
    go_wp2_with fail
    go_ret
    exact ⟨by rw [HX.out]; rfl, HB0.out⟩
  have h256a : ¬ ((256 : Int) < (X.length : Int)) := by omega
  have h256b : decide ((256 : Int) < (X.length : Int)) = false := decide_eq_false h256a
  have HF := Lib.hid (show E = firstE X.length (idxErr X) by rw [← HE.out]; unfold checkX; rw [if_neg h256])
  clear h256
  go_enter Tryz.func115, Tryz.ntmps115
  go_wp2_with fail
  go_loopw [14] (fun p wr => ∃ k : Nat, k ≤ X.length ∧ p = .int .i64 k ∧ Hid (∀ j, j < k → idxErr X j = 0) ∧ Hid (Below (w.heap.size + 1) (w.alloc (.cells #[.slice ao X.length cap, iv] 25)) wr)) (fun p _ => X.length - (intOf p).toNat)
  case atStart => exact ⟨0, Nat.zero_le _, rfl, Lib.hid (fun j hj => absurd hj (Nat.not_lt_zero _)), Lib.hid (Below.refl _ _)⟩
  case round =>
    obtain ⟨k, hk, rfl, HZ, HB⟩ := hrel
    have HW : Hid (Below w.heap.size w wr) := Lib.hid (HB0.out.trans (HB.out.mono (by omega)))
    have hws := HB.out.size
    simp only [World.size_alloc] at hws
    by_cases hlt : k < X.length
    case neg =>
      have hk2 : k = X.length := by omega
      subst hk2
      have HX := Lib.hid (show E = 0 by rw [HF.out]; exact firstE_none fun j hj => HZ.out j hj)
      go_wp2_with fail
      go_ret
      exact ⟨by rw [HX.out]; rfl, HW.out⟩
    case pos =>
      obtain ⟨b, off, rfl, hbl, hra⟩ := HR.out k X[k] (by simp [hlt])
      have hgd : X.getD k default = X[k] := by rw [List.getD_eq_getElem?_getD, List.getElem?_eq_getElem hlt]; rfl
      obtain ⟨q1, q2, q3⟩ := HQ.out X[k] (List.getElem_mem hlt)
      obtain ⟨x, hx⟩ : ∃ x, X[k] = x := ⟨_, rfl⟩
      have HXK := Lib.hid hx
      rw [hx] at hgd hra q1 q2 q3
      have HGD := Lib.hid hgd
      clear hx hgd
      obtain ⟨r, hr, d0, d1, d2, d3, d4, d5, d6, d7, d8⟩ := (hra.below HW.out (Nat.le_refl _) hbl).box
      have HRA := Lib.hid hra
      clear hra
      have hbw : b < wr.heap.size := by omega
      have HB2 : Hid (Below w.heap.size w (wr.alloc (.cells (relC x r) 69))) := Lib.hid (HW.out.trans ((belQ wr _).mono HW.out.size))
      have HC := Lib.hid (checkRel_any x r (wr.alloc (.cells (relC x r) 69)) (HM.out.below HB2.out HM.out.pos) q1 (by omega) (fun q hq => ⟨(q3 q hq).1, by have := (q3 q hq).2; omega⟩) ((hr.below (belQ wr _) (by omega)).mono (by simp; omega)))
      have HG2 : Hid (BoxR (wr.alloc (.cells (relC x r) 69)) wr.heap.size x r) := Lib.hid (BoxR.made _ _ _)
      obtain ⟨ra, rc, rfl, _⟩ := hr
      clear q1 q2 q3
      have HD0 := Lib.hid (And.intro d0 (And.intro d1 (And.intro d2 d3)))
      simp only [relC] at HC HB2
      go_wp2_with fail
      refine HC.out.mono ?_
      rintro e w3 ⟨rfl, hb3⟩
      have HB3 := Lib.hid (HB2.out.trans (hb3.mono HB2.out.size))
      have HG3 := Lib.hid (HG2.out.on hb3)
      have HT3 := Lib.hid ((HB.out.trans ((belQ wr _).mono hws)).trans (hb3.mono (by simp; omega)))
      have hs3 := HB3.out.size
      clear hb3 d0 d1 d2 d3 d4 d5 d6 d7 d8 HC HG2
      by_cases hz : relE x = 0
      case neg =>
        have HX := Lib.hid (show E = relE x by
          have e1 : idxErr X k = relE x := by unfold idxErr; rw [HGD.out, if_pos hz]
          rw [HF.out, firstE_at hlt (fun j hj => HZ.out j hj) (by rw [e1]; exact hz), e1])
        generalize relE x = er at *
        have hz2 : (er != 0) = true := by simpa using hz
        go_wp2_with fail
        go_ret
        exact ⟨by rw [HX.out]; rfl, HB3.out⟩
      have HZR := Lib.hid hz
      rw [hz]
      clear hz
      cases k with
      | zero =>
        have HZ2 := Lib.hid (show ∀ j, j < 0 + 1 → idxErr X j = 0 from fun j hj => by
          obtain rfl : j = 0 := by omega
          unfold idxErr
          rw [HGD.out, if_neg (by rw [HZR.out]; simp), if_pos rfl])
        go_wp2_with fail
        go_roundw
        case rel => exact ⟨0 + 1, by omega, by simp, HZ2, HT3⟩
        case measure => simp [intOf]; omega
      | succ k =>
        have hgk : k < X.length := by omega
        obtain ⟨b2, off2, e2, _, hra2⟩ := HR.out k X[k] (by simp [hgk])
        cases e2
        have hgd2 : X.getD k default = X[k] := by rw [List.getD_eq_getElem?_getD, List.getElem?_eq_getElem hgk]; rfl
        obtain ⟨y, hy⟩ : ∃ y, X[k] = y := ⟨_, rfl⟩
        rw [hy] at hra2 hgd2
        have HGD2 := Lib.hid hgd2
        clear hy hgd2
        obtain ⟨r2, hr2, f0, f1, f2, f3, f4, f5, f6, f7, f8⟩ := (hra2.below HB3.out (Nat.le_refl _) hbl).box
        obtain ⟨ra2, rc2, rfl, _⟩ := hr2
        have c0 : w3.cell? ⟨w.heap.size, 0, none⟩ = some (.slice (some ⟨b, off, none⟩) X.length cap) := (HT3.out.cell (p := ⟨w.heap.size, 0, none⟩) (by simp)).trans (by simp [go_sem])
        have hne : (((k + 1 : Nat) : Int) == 0) = false := by simp; omega
        have hsub : wrap64 (((k + 1 : Nat) : Int) - 1) = (k : Int) := by rw [show ((k + 1 : Nat) : Int) - 1 = (k : Int) by omega]; unfold wrap64; omega
        have ht3 := HT3.out.size
        simp only [World.size_alloc] at ht3
        obtain ⟨kb, hkb⟩ : ∃ kb, decide (keyL y = keyL x) = kb := ⟨_, rfl⟩
        have HKB := Lib.hid hkb
        have hq1 : ∀ W, (binOp .eql 53 (.agg #[.string y.path, intC y.ver.1, intC y.ver.2.1, intC y.ver.2.2]) (.agg #[.string x.path, intC x.ver.1, intC x.ver.2.1, intC x.ver.2.2])).run Tryz.prog W = .ok (.bool kb) W := fun W => by rw [← hkb]; exact sel_eql.1 (keyL y) (keyL x) W
        clear hkb
        have hbw3 : b < w3.heap.size := by omega
        clear hra2
        go_upto_region 11 with fail
        obtain ⟨W, hW⟩ : ∃ W, w3.alloc (.cells #[.string y.path, intC y.ver.1, intC y.ver.2.1, intC y.ver.2.2, .slice ra2 y.reqs.length rc2, .string y.ar, .string y.ifc, .string y.cert, .bool y.yk] 69) = W := ⟨_, rfl⟩
        rw [hW]
        have HGY : Hid (BoxR W w3.heap.size y (.slice ra2 y.reqs.length rc2)) := Lib.hid (by rw [← hW]; exact BoxR.made _ _ _)
        have HGX : Hid (BoxR W wr.heap.size x (.slice ra x.reqs.length rc)) := Lib.hid (by rw [← hW]; exact HG3.out.on (belQ _ _))
        have HBW : Hid (Below w.heap.size w W) := Lib.hid (by rw [← hW]; exact HB3.out.trans ((belQ _ _).mono HB3.out.size))
        have HTW := Lib.hid (HT3.out.trans (show Below (w.heap.size + 1) w3 W by rw [← hW]; exact (belQ _ _).mono (by omega)))
        have hw3W : w3.heap.size < W.heap.size := by rw [← hW]; simp
        clear hW f0 f1 f2 f3 f4 f5 f6 f7 f8 c0 hne hsub
        have HBC : Hid (Below W.heap.size W W) := Lib.hid (Below.refl _ _)
        have HK1 := Lib.hid (fun W => key_any x (.slice ra x.reqs.length rc) W)
        have HK2 := Lib.hid (fun W => key_any y (.slice ra2 y.reqs.length rc2) W)
        simp only [relC] at HK1 HK2
        go_region_held3 (fun w' => (w'.cell? ⟨wr.heap.size, 0, none⟩ = some (.string x.path) ∧ w'.cell? ⟨wr.heap.size, 1, none⟩ = some (.int .i64 x.ver.1) ∧ w'.cell? ⟨wr.heap.size, 2, none⟩ = some (.int .i64 x.ver.2.1) ∧ w'.cell? ⟨wr.heap.size, 3, none⟩ = some (.int .i64 x.ver.2.2) ∧ w'.cell? ⟨wr.heap.size, 4, none⟩ = some (.slice ra x.reqs.length rc) ∧ w'.cell? ⟨wr.heap.size, 5, none⟩ = some (.string x.ar) ∧ w'.cell? ⟨wr.heap.size, 6, none⟩ = some (.string x.ifc) ∧ w'.cell? ⟨wr.heap.size, 7, none⟩ = some (.string x.cert) ∧ w'.cell? ⟨wr.heap.size, 8, none⟩ = some (.bool x.yk)) ∧ w'.cell? ⟨w3.heap.size, 0, none⟩ = some (.string y.path) ∧ w'.cell? ⟨w3.heap.size, 1, none⟩ = some (.int .i64 y.ver.1) ∧ w'.cell? ⟨w3.heap.size, 2, none⟩ = some (.int .i64 y.ver.2.1) ∧ w'.cell? ⟨w3.heap.size, 3, none⟩ = some (.int .i64 y.ver.2.2) ∧ w'.cell? ⟨w3.heap.size, 4, none⟩ = some (.slice ra2 y.reqs.length rc2) ∧ w'.cell? ⟨w3.heap.size, 5, none⟩ = some (.string y.ar) ∧ w'.cell? ⟨w3.heap.size, 6, none⟩ = some (.string y.ifc) ∧ w'.cell? ⟨w3.heap.size, 7, none⟩ = some (.string y.cert) ∧ w'.cell? ⟨w3.heap.size, 8, none⟩ = some (.bool y.yk))
          ((first | (exact ⟨(HGX.out.on HBC.out).cells, (HGY.out.on HBC.out).cells⟩) | (exact ⟨(HGX.out.on HBC.out.drew).cells, (HGY.out.on HBC.out.drew).cells⟩)))
          (first | (go_at_call 153; refine (HK1.out _).mono ?_; rintro e wq ⟨rfl, hbc⟩; (first | (replace HBC := Lib.hid (HBC.out.trans (hbc.mono HBC.out.size))) | (replace HBC := Lib.hid (HBC.out.drew.trans (hbc.mono HBC.out.size)))); clear hbc)
                   | (go_at_call 153; refine (HK2.out _).mono ?_; rintro e wq ⟨rfl, hbc⟩; (first | (replace HBC := Lib.hid (HBC.out.trans (hbc.mono HBC.out.size))) | (replace HBC := Lib.hid (HBC.out.drew.trans (hbc.mono HBC.out.size)))); clear hbc))
        all_goals
          have HI := Lib.hid (show idxErr X (k + 1) = relE2 y x by unfold idxErr; rw [HGD.out, if_neg (by rw [HZR.out]; simp), if_neg (by omega), show k + 1 - 1 = k from rfl, HGD2.out])
          have HTQ := Lib.hid (HTW.out.trans (HBC.out.mono (by omega)))
          have HBQ := Lib.hid (HBW.out.trans (HBC.out.mono HBW.out.size))
          cases kb with
          | true =>
            have HX := Lib.hid (show E = 5 by
              have e1 : idxErr X (k + 1) = 5 := by rw [HI.out]; unfold relE2; rw [if_pos (of_decide_eq_true HKB.out)]
              rw [HF.out, firstE_at hlt (fun j hj => HZ.out j hj) (by rw [e1]; decide), e1])
            go_wp2_with fail
            go_ret
            exact ⟨by rw [HX.out]; rfl, HBQ.out⟩
          | false =>
            obtain ⟨f0, f1, f2, f3, f4, f5, f6, f7, f8⟩ := (HGX.out.on HBC.out).cells
            obtain ⟨e0, e1, e2, e3, e4, e5, e6, e7, e8⟩ := (HGY.out.on HBC.out).cells
            have HCM := Lib.hid (fun W => compareR_any y x (.slice ra2 y.reqs.length rc2) (.slice ra x.reqs.length rc) W)
            simp only [relC] at HCM
            obtain ⟨cm, hcm⟩ : ∃ cm, cmpR y x = cm := ⟨_, rfl⟩
            rw [hcm] at HCM
            have HI2 := Lib.hid (show idxErr X (k + 1) = if 0 < cm then 1 else 0 by rw [HI.out]; unfold relE2; rw [if_neg (of_decide_eq_false HKB.out), hcm])
            clear hcm HI HKB
            go_wp2_with fail
            refine (HCM.out _).mono ?_
            rintro e w9 ⟨rfl, hb9⟩
            have HB9 := Lib.hid (HBQ.out.trans (hb9.mono HBQ.out.size))
            have HT9 := Lib.hid (HTQ.out.trans (hb9.mono (by have := HTQ.out.size; simp only [World.size_alloc] at this; omega)))
            clear hb9 e0 e1 e2 e3 e4 e5 e6 e7 e8 f0 f1 f2 f3 f4 f5 f6 f7 f8
            by_cases hc : 0 < cm
            · have hc2 : decide (0 < cm) = true := decide_eq_true hc
              have HX := Lib.hid (show E = 1 by
                have e1 : idxErr X (k + 1) = 1 := by rw [HI2.out, if_pos hc]
                rw [HF.out, firstE_at hlt (fun j hj => HZ.out j hj) (by rw [e1]; decide), e1])
              go_wp2_with fail
              go_ret
              exact ⟨by rw [HX.out]; rfl, HB9.out⟩
            · have hc2 : decide (0 < cm) = false := decide_eq_false hc
              have HZ2 := Lib.hid (show ∀ j, j < k + 1 + 1 → idxErr X j = 0 from fun j hj => by
                by_cases e : j = k + 1
                · rw [e, HI2.out, if_neg hc]
                · exact HZ.out j (by omega))
              go_wp2_with fail
              go_roundw
              case rel => exact ⟨k + 1 + 1, by omega, by go_num, HZ2, HT9⟩
              case measure => simp [intOf]; omega
end Go.Proofs.YtnjiibiafhnmgaaGreatDoor
