/- Contracts of the references: SameSelection, SameCause, position. Contracts of the reference 34: selects. Contract of mvs.Merge. -/
import Derived.Test.YtenfkejbndifdaaGreatDoorVI
import Derived.Test.YtenfkejbndifdaaGreatDoorUS
import Derived.Test.YtenfkejbndifdaaGreatDoorUU
import Derived.Test.YtenfkejbndifdaaGreatDoorUX
namespace Go.Proofs.YtenfkejbndifdaaGreatDoor
set_option linter.unusedVariables false
set_option linter.unusedSimpArgs false
open Go Go.RowKit

theorem take_neS {a b : List SelL} {k : Nat} (ha : k < a.length) (hb : k < b.length) (h : a[k] ≠ b[k]) : a ≠ b := fun e => by subst e; exact h rfl
set_option maxRecDepth 100000 in
set_option maxHeartbeats 4000000 in
theorem sameSels_any (v u : Value) (a b : List SelL) (w : World) (ha : a.length ≤ 1000000) (hb : b.length ≤ 1000000) (hA : SelsOf w.heap.size v a w) (hB : SelsOf w.heap.size u b w) :
    Calls Tryz.prog 64 #[v, u] w fun e w' => e = .returned (.bool (decide (a = b))) ∧ Below w.heap.size w w' := by
  have HA := Lib.hid hA
  have HB := Lib.hid hB
  obtain ⟨va, vc, rfl⟩ : ∃ ra rc, v = .slice ra a.length rc := by obtain ⟨a, c, e, _⟩ := hA; exact ⟨a, c, e⟩
  obtain ⟨ua, uc, rfl⟩ : ∃ ra rc, u = .slice ra b.length rc := by obtain ⟨a, c, e, _⟩ := hB; exact ⟨a, c, e⟩
  clear hA hB
  by_cases hl : a.length = b.length
  case neg =>
    have hne : ((a.length : Int) != (b.length : Int)) = true := by simp; omega
    have HD : Hid (decide (a = b) = false) := Lib.hid (decide_eq_false fun e => hl (by rw [e]))
    go_enter Tryz.func64, Tryz.ntmps64
    go_wp2_with fail
    go_ret
    exact ⟨by rw [HD.out]; rfl, Below.refl _ _⟩
  have HLL := Lib.hid hl
  have hne : ((a.length : Int) != (b.length : Int)) = false := by simp; omega
  clear hl
  go_enter Tryz.func64, Tryz.ntmps64
  go_wp2_with fail
  clear hne
  go_loopw [5] (fun p wr => ∃ k : Nat, k ≤ a.length ∧ p = .int .i64 (k : Int) ∧ Hid (a.take k = b.take k) ∧ Hid (Below w.heap.size w wr)) (fun p _ => a.length - (intOf p).toNat)
  case atStart => exact ⟨0, Nat.zero_le _, rfl, Lib.hid rfl, Lib.hid (Below.refl _ _)⟩
  case round =>
    obtain ⟨k, hk, rfl, HT, HW⟩ := hrel
    by_cases hlt : k < a.length
    case neg =>
      have hkk : k = a.length := by omega
      have HE : Hid (decide (a = b) = true) := Lib.hid (decide_eq_true (by
        have h := HT.out
        have h2 := HLL.out
        rw [hkk, List.take_length, h2, List.take_length] at h
        exact h))
      subst hkk
      go_wp2_with fail
      go_ret
      exact ⟨by rw [HE.out]; rfl, HW.out⟩
    case pos =>
      have hltb : k < b.length := by have := HLL.out; omega
      obtain ⟨ab, ao, rfl, hab, c0, c1, c2, c3⟩ := HA.out.get (List.getElem?_eq_getElem hlt)
      obtain ⟨bb, bo, rfl, hbb, d0, d1, d2, d3⟩ := HB.out.get (List.getElem?_eq_getElem hltb)
      have c0 := (HW.out.cell (p := ⟨ab, ao + k * 4, none⟩) hab).trans c0
      have c1 := (HW.out.cell (p := ⟨ab, ao + k * 4 + 1, none⟩) hab).trans c1
      have c2 := (HW.out.cell (p := ⟨ab, ao + k * 4 + 2, none⟩) hab).trans c2
      have c3 := (HW.out.cell (p := ⟨ab, ao + k * 4 + 3, none⟩) hab).trans c3
      have d0 := (HW.out.cell (p := ⟨bb, bo + k * 4, none⟩) hbb).trans d0
      have d1 := (HW.out.cell (p := ⟨bb, bo + k * 4 + 1, none⟩) hbb).trans d1
      have d2 := (HW.out.cell (p := ⟨bb, bo + k * 4 + 2, none⟩) hbb).trans d2
      have d3 := (HW.out.cell (p := ⟨bb, bo + k * 4 + 3, none⟩) hbb).trans d3
      have HTA : Hid (a.take (k + 1) = a.take k ++ [a[k]]) := Lib.hid (List.take_succ_eq_append_getElem hlt)
      have HTB : Hid (b.take (k + 1) = b.take k ++ [b[k]]) := Lib.hid (List.take_succ_eq_append_getElem hltb)
      have HNE : Hid (a[k] ≠ b[k] → decide (a = b) = false) := Lib.hid (fun h => decide_eq_false (take_neS hlt hltb h))
      have hk1 : (0 : Int) ≤ (k : Int) := Int.natCast_nonneg k
      have hk2 : (k : Int) < (a.length : Int) := Int.ofNat_lt.2 hlt
      have hk3 : (k : Int) < (b.length : Int) := Int.ofNat_lt.2 hltb
      generalize a[k] = x at *
      generalize b[k] = y at *
      have hq1 : ∀ W, (binOp .neq 43 (.agg #[.string x.1, .int .i64 x.2.1, .int .i64 x.2.2.1, .int .i64 x.2.2.2]) (.agg #[.string y.1, .int .i64 y.2.1, .int .i64 y.2.2.1, .int .i64 y.2.2.2])).run Tryz.prog W = .ok (.bool (!decide (x = y))) W := fun W => sel_neq.1 x y W
      by_cases hxy : x = y
      case pos =>
        have HT2 : Hid (a.take (k + 1) = b.take (k + 1)) := Lib.hid (by rw [HTA.out, HTB.out, HT.out, hxy])
        rw [decide_eq_true hxy, Bool.not_true] at hq1
        clear hxy
        go_wp2_with fail
        go_quiet (fail)
        have HWQ := Lib.hid (below_drewNV HW.out nq)
        go_wp2_with fail
        all_goals
          refine ⟨⟨k + 1, hlt, by go_num, HT2, HWQ⟩, ?_⟩
          simp [intOf]; omega
      case neg =>
        have HD := Lib.hid (HNE.out hxy)
        rw [decide_eq_false hxy, Bool.not_false] at hq1
        clear hxy
        go_wp2_with fail
        go_quiet (fail)
        have HWQ := Lib.hid (below_drewNV HW.out nq)
        go_wp2_with fail
        all_goals
          go_ret
          exact ⟨by rw [HD.out]; rfl, HWQ.out⟩
structure SelBB (w : World) (v iv : Value) (y : SelL) (W : World) : Prop where
  bel : Below w.heap.size w W
  idx : W.heap[w.heap.size]? = some (.cells #[v, iv] 25 (0, 0))
  sel : W.heap[w.heap.size + 1]? = some (.cells #[.string y.1, intC y.2.1, intC y.2.2.1, intC y.2.2.2] 43 (0, 0))
theorem SelBB.lt {w : World} {v iv : Value} {y : SelL} {W : World} (h : SelBB w v iv y W) : w.heap.size + 1 < W.heap.size := (Array.getElem?_eq_some_iff.1 h.sel).1
theorem SelBB.below {w : World} {v iv : Value} {y : SelL} {W W' : World} (h : SelBB w v iv y W) (hb : Below W.heap.size W W') : SelBB w v iv y W' := by
  have hl := h.lt
  exact ⟨h.bel.trans (hb.mono h.bel.size), (hb.block _ (by omega)).trans h.idx, (hb.block _ hl).trans h.sel⟩
theorem SelBB.start (w : World) (v iv : Value) (y : SelL) : SelBB w v iv y ((w.alloc (.cells #[v, iv] 25)).alloc (.cells #[.string y.1, intC y.2.1, intC y.2.2.1, intC y.2.2.2] 43)) := by
  have hget : ∀ (w : World) (o : Obj) (k : Nat), (w.alloc o).heap[k]? = if k = w.heap.size then some o else w.heap[k]? := fun w o k => by
    show (w.heap.push o)[k]? = _
    rw [Array.getElem?_push]
  refine ⟨(by repeat (first | exact Below.refl _ _ | refine Below.drew ?_ | refine Below.alloc ?_ (by simp <;> omega) _ | refine Below.setCell ?_ (by simp <;> omega) _)), ?_, ?_⟩
  · simp only [hget, World.size_alloc]; repeat (first | rw [if_pos trivial] | rw [if_neg (by omega)] | rw [if_pos (by omega)])
  · simp only [hget, World.size_alloc]; repeat (first | rw [if_pos trivial] | rw [if_neg (by omega)] | rw [if_pos (by omega)])
theorem SelBB.c0 {w : World} {v iv : Value} {y : SelL} {W : World} (h : SelBB w v iv y W) : W.cell? ⟨w.heap.size, 0, none⟩ = some v := cell_of_row _ _ 0 _ _ _ h.idx
theorem SelBB.y0 {w : World} {v iv : Value} {y : SelL} {W : World} (h : SelBB w v iv y W) : W.cell? ⟨w.heap.size + 1, 0, none⟩ = some (.string y.1) := cell_of_row _ _ 0 _ _ _ h.sel
theorem SelBB.y1 {w : World} {v iv : Value} {y : SelL} {W : World} (h : SelBB w v iv y W) : W.cell? ⟨w.heap.size + 1, 1, none⟩ = some (intC y.2.1) := cell_of_row _ _ 1 _ _ _ h.sel
theorem SelBB.y2 {w : World} {v iv : Value} {y : SelL} {W : World} (h : SelBB w v iv y W) : W.cell? ⟨w.heap.size + 1, 2, none⟩ = some (intC y.2.2.1) := cell_of_row _ _ 2 _ _ _ h.sel
theorem SelBB.y3 {w : World} {v iv : Value} {y : SelL} {W : World} (h : SelBB w v iv y W) : W.cell? ⟨w.heap.size + 1, 3, none⟩ = some (intC y.2.2.2) := cell_of_row _ _ 3 _ _ _ h.sel
theorem look_hit {X : List RelL} {y : SelL} {k : Nat} (hk : k < X.length) (h : ∀ j, j < k → keyL (X.getD j default) ≠ y) (he : keyL (X.getD k default) = y) : lookK X X.length y = some k := by
  unfold lookK
  have hr : (List.range X.length)[k]? = some k := by simp [hk]
  have hkl : k < (List.range X.length).length := by simpa using hk
  have := find_at (p := fun i => decide (keyL (X.getD i default) = y)) (l := List.range X.length) hkl (fun x hx => ?_) (by simpa using he)
  · rw [this]; simp
  · obtain ⟨j, hj, rfl⟩ := List.mem_iff_getElem.1 hx
    rw [List.length_take] at hj
    simp only [List.getElem_take, List.getElem_range]
    exact decide_eq_false (h j (by omega))
theorem look_miss {X : List RelL} {y : SelL} (h : ∀ j, j < X.length → keyL (X.getD j default) ≠ y) : lookK X X.length y = none := by
  unfold lookK
  rw [List.find?_eq_none]
  intro j hj
  have := h j (List.mem_range.1 hj)
  simpa using this
set_option maxRecDepth 100000 in
set_option maxHeartbeats 8000000 in
theorem rposition_any (v iv : Value) (X : List RelL) (y : SelL) (w : World) (hX : X.length ≤ 1000000) (hR0 : RelsOf w.heap.size v X w) :
    Calls Tryz.prog 60 #[.agg #[v, iv], .agg #[.string y.1, intC y.2.1, intC y.2.2.1, intC y.2.2.2]] w fun e w' => e = .returned (.int .i64 (optI (lookK X X.length y))) ∧ Below w.heap.size w w' := by
  obtain ⟨ao, cap, rv, rfl, hrv⟩ := hR0.rv
  have HR := Lib.hid hrv
  clear hR0 hrv
  obtain ⟨o, ho⟩ : ∃ o, optI (lookK X X.length y) = o := ⟨_, rfl⟩
  have HO := Lib.hid ho
  rw [ho]
  clear ho
  have HB0 := Lib.hid (SelBB.start w (.slice ao X.length cap) iv y)
  go_enter Tryz.func60, Tryz.ntmps60
  go_upto_region 1 with fail
  generalize (w.alloc (.cells #[.slice ao X.length cap, iv] 25)).alloc (.cells #[.string y.1, intC y.2.1, intC y.2.2.1, intC y.2.2.2] 43) = W at *
  go_wp2_with fail
  go_loopw [5] (fun p wr => Hid (∃ k : Nat, k ≤ X.length ∧ p = .int .i64 (k : Int) ∧ SelBB w (.slice ao X.length cap) iv y wr ∧ ∀ j, j < k → keyL (X.getD j default) ≠ y)) (fun p _ => X.length - (intOf p).toNat)
  case atStart => exact Lib.hid ⟨0, Nat.zero_le _, rfl, HB0.out, fun j hj => absurd hj (Nat.not_lt_zero _)⟩
  case round =>
    obtain ⟨k, hk, rfl, hb, hn⟩ := hrel.out
    have HB := Lib.hid hb
    have HN := Lib.hid hn
    clear hrel hb hn HB0
    have c0 := HB.out.c0
    by_cases hlk : k < X.length
    case neg =>
      have hkk : k = X.length := Nat.le_antisymm hk (Nat.le_of_not_lt hlk)
      subst hkk
      have HM : Hid (o = -1) := Lib.hid (by rw [← HO.out, look_miss HN.out]; rfl)
      go_wp2_with fail
      go_ret
      exact ⟨by rw [HM.out]; rfl, HB.out.bel⟩
    case pos =>
      obtain ⟨b, off, e1, hbl, hcs, _⟩ := HR.out k _ (List.getElem?_eq_getElem hlk)
      subst e1
      have hg : X.getD k default = X[k] := by rw [List.getD_eq_getElem?_getD, List.getElem?_eq_getElem hlk]; rfl
      have HHIT : Hid (keyL X[k] = y → o = (k : Int)) := Lib.hid (fun h => by rw [← HO.out, look_hit hlk HN.out (by rw [hg]; exact h)]; rfl)
      have HMISS : Hid (keyL X[k] ≠ y → ∀ j, j < k + 1 → keyL (X.getD j default) ≠ y) := Lib.hid (fun h j hj => by
        rcases Nat.lt_or_eq_of_le (Nat.le_of_lt_succ hj) with h1 | rfl
        · exact HN.out j h1
        · rw [hg]; exact h)
      have hcs := hcs.below HB.out.bel hbl
      generalize X[k] = x at *
      generalize rv k = r at *
      obtain ⟨d0, d1, d2, d3, _⟩ := hcs
      have y0 := HB.out.y0
      have y1 := HB.out.y1
      have y2 := HB.out.y2
      have y3 := HB.out.y3
      have hk1 : (0 : Int) ≤ (k : Int) := Int.natCast_nonneg k
      have hk2 : (k : Int) < (X.length : Int) := Int.ofNat_lt.2 hlk
      have hve : ∀ W, (binOp .eql 41 (.agg #[intC x.ver.1, intC x.ver.2.1, intC x.ver.2.2]) (.agg #[intC y.2.1, intC y.2.2.1, intC y.2.2.2])).run Tryz.prog W = .ok (.bool (decide (x.ver = y.2))) W := fun W => by
        rw [ver_eql]
        congr 2
        by_cases h1 : x.ver.1 = y.2.1 <;> by_cases h2 : x.ver.2.1 = y.2.2.1 <;> by_cases h3 : x.ver.2.2 = y.2.2.2 <;> simp [h1, h2, h3, Prod.ext_iff]
      clear hg
      by_cases hp : x.path = y.1
      case neg =>
        have hpb : (x.path.toList == y.1.toList) = false := by rw [eqs_dec]; exact decide_eq_false hp
        have HN2 := Lib.hid (HMISS.out (fun e => hp (congrArg (·.1) e)))
        clear hp
        go_wp2_with fail
        go_quiet (fail)
        have HBQ := Lib.hid (HB.out.below (below_drewNV (Below.refl _ _) nq))
        go_wp2_with fail
        all_goals
          refine ⟨Lib.hid ⟨k + 1, hlk, by go_num, HBQ.out, HN2.out⟩, ?_⟩
          simp [intOf]; omega
      case pos =>
        have hpb : (x.path.toList == y.1.toList) = true := by rw [eqs_dec]; exact decide_eq_true hp
        by_cases hvv : x.ver = y.2
        case neg =>
          have HN2 := Lib.hid (HMISS.out (fun e => hvv (congrArg (·.2) e)))
          rw [decide_eq_false hvv] at hve
          clear hp hvv
          go_wp2_with fail
          go_quiet (fail)
          have HBQ := Lib.hid (HB.out.below (below_drewNV (Below.refl _ _) nq))
          go_wp2_with fail
          all_goals
            refine ⟨Lib.hid ⟨k + 1, hlk, by go_num, HBQ.out, HN2.out⟩, ?_⟩
            simp [intOf]; omega
        case pos =>
          have HOK := Lib.hid (HHIT.out (Prod.ext hp hvv))
          rw [decide_eq_true hvv] at hve
          clear hp hvv
          go_wp2_with fail
          go_quiet (fail)
          have HBQ := Lib.hid (HB.out.below (below_drewNV (Below.refl _ _) nq))
          go_wp2_with fail
          all_goals
            go_ret
            exact ⟨by rw [HOK.out]; rfl, HBQ.out.bel⟩
end Go.Proofs.YtenfkejbndifdaaGreatDoor

namespace Go.Proofs.YtenfkejbndifdaaGreatDoor
set_option linter.unusedVariables false
set_option linter.unusedSimpArgs false
open Go Go.RowKit Go.Maps

theorem gives_both {s t : List SelL} : decide (s = t) = (decide (t = s) && true) := by
  rw [Bool.and_true]
  exact decide_eq_decide.2 eq_comm
set_option maxRecDepth 100000 in
theorem rselects_any (v iv rov sv : Value) (X : List RelL) (roots : List ReqL) (s : List SelL) (w : World) (hX : X.length ≤ 1000000) (hq : ∀ x ∈ X, RelBd x) (hR : RelsOf w.heap.size v X w)
    (hro : roots.length ≤ 1000000) (hrq : ReqsBd roots) (hRo : ReqsOf w.heap.size rov roots w) (hs : s.length ≤ 1000000) (hS : SelsOf w.heap.size sv s w) :
    Calls Tryz.prog 90 #[.agg #[v, iv], rov, sv] w fun e w' => e = .returned (.bool (givesB X s roots)) ∧ Below w.heap.size w w' := by
  have HC := Lib.hid (fun W (hb : Below w.heap.size w W) => rSelect34_any v iv rov X roots W hX hq (hR.on hb) hro hrq (hRo.on hb))
  have HSQ := Lib.hid (fun (t : List SelL) tv W (hb : Below w.heap.size w W) (ht : t.length ≤ 1000000) (hT : SelsOf W.heap.size tv t W) => sameSels_any sv tv s t W hs ht (hS.on hb) hT)
  have HTL : Hid ((selM false X roots).1.length ≤ X.length) := Lib.hid selM_len
  have hgb : givesB X s roots = (decide ((selM false X roots).1 = s) && decide ((selM false X roots).2 = 0)) := rfl
  obtain ⟨va, vn, vc, rfl⟩ : ∃ a n c, v = .slice a n c := by obtain ⟨a, c, _, e, _⟩ := hR.rv; exact ⟨_, _, _, e⟩
  obtain ⟨ra, rc, rfl⟩ : ∃ ra rc, rov = .slice ra roots.length rc := by obtain ⟨a, c, e, _⟩ := hRo; exact ⟨a, c, e⟩
  obtain ⟨sa, sc, rfl⟩ : ∃ ra rc, sv = .slice ra s.length rc := by obtain ⟨a, c, e, _⟩ := hS; exact ⟨a, c, e⟩
  rw [hgb]
  clear hq hR hrq hRo hS hgb
  unfold SelR at HC
  generalize selM false X roots = SM at *
  obtain ⟨t, E⟩ := SM
  simp only at HC HTL ⊢
  have HB0 := Lib.hid (LawB.start w (.slice va vn vc) iv)
  have htl : t.length ≤ 1000000 := Nat.le_trans HTL.out hX
  go_enter Tryz.func90, Tryz.ntmps90
  go_upto_region 1 with fail
  generalize w.alloc (.cells #[.slice va vn vc, iv] 25) = W at *
  have c0 := HB0.out.c0
  have c1 := HB0.out.c1
  go_wp2_with fail
  refine (HC.out _ HB0.out.bel).mono ?_
  rintro e w1 ⟨hb1, v', rfl, hs1⟩
  have HB1 := Lib.hid (HB0.out.below hb1)
  have HS1 := Lib.hid hs1
  obtain ⟨ta, tc, rfl⟩ : ∃ ra rc, v' = .slice ra t.length rc := by obtain ⟨a, c, e, _⟩ := hs1; exact ⟨a, c, e⟩
  clear hb1 hs1 c0 c1 HC
  by_cases hE : E = 0
  case neg =>
    have hEb : (E == 0) = false := by simpa using hE
    have HE := Lib.hid (show (decide (t = s) && decide (E = 0)) = false by rw [decide_eq_false hE, Bool.and_false])
    clear hE
    go_wp2_with fail
    go_ret
    exact ⟨by rw [HE.out]; rfl, HB1.out.bel⟩
  case pos =>
    subst hE
    go_wp2_with fail
    refine (HSQ.out t _ w1 HB1.out.bel htl HS1.out).mono ?_
    rintro e w2 ⟨rfl, hb2⟩
    have HB2 := Lib.hid (HB1.out.below hb2)
    have HE := Lib.hid (@gives_both s t)
    clear hb2 HSQ HS1
    generalize decide (s = t) = bb at *
    go_wp2_with fail
    go_ret
    exact ⟨congrArg (fun b => Ending.returned (Value.bool b)) (HE.out.trans (Bool.and_true _)), HB2.out.bel⟩
end Go.Proofs.YtenfkejbndifdaaGreatDoor

namespace Go.Proofs.YtenfkejbndifdaaGreatDoor
set_option linter.unusedVariables false
set_option linter.unusedSimpArgs false
open Go Go.RowKit Go.Maps

def MergeR (ls : List (List ReqL)) (w : World) (e : Ending) (w' : World) : Prop := Below w.heap.size w w' ∧ ∃ v, e = .returned (.tuple #[v, .int .i64 (mergeV ls).2]) ∧ ReqsOf w'.heap.size v (mergeV ls).1 w' ∧ CapOk v
theorem MergeR.no {ls : List (List ReqL)} {w w' : World} {en : Int} (hb : Below w.heap.size w w') (h : mergeV ls = ([], en)) : MergeR ls w (.returned (.tuple #[.slice none 0 0, .int .i64 en])) w' := ⟨hb, _, by rw [h], by rw [h]; exact ⟨_, _, rfl, fun i q hq => by simp at hq⟩, ⟨_, _, _, rfl, Nat.le_refl _⟩⟩
theorem mergeV_bad {ls : List (List ReqL)} {l : List ReqL} (hl : l ∈ ls) (h : ¬ UpR l) : mergeV ls = ([], 1) := by unfold mergeV; rw [if_pos ⟨l, hl, h⟩]
theorem mergeV_big {ls : List (List ReqL)} (h : ∀ l ∈ ls, UpR l) (h2 : 16 < (mergeL ls).length) : mergeV ls = ([], 7) := by unfold mergeV; rw [if_neg (fun ⟨l, hl, e⟩ => e (h l hl)), if_pos h2]
theorem mergeV_ok {ls : List (List ReqL)} (h : ∀ l ∈ ls, UpR l) (h2 : ¬ 16 < (mergeL ls).length) : mergeV ls = (mergeL ls, 0) := by unfold mergeV; rw [if_neg (fun ⟨l, hl, e⟩ => e (h l hl)), if_neg h2]
theorem MapF.noCell {P : Program} {k : TypeId} {W : World} {b n : Nat} {f : Lit → Option Value} (h : MapF P k W b n f) (j : Nat) (v : Value) : W.cell? ⟨b, j, none⟩ ≠ some v := fun e => by
  obtain ⟨D, ⟨es, clock, h1, _⟩, _⟩ := h
  unfold World.cell? at e
  simp [h1] at e
theorem spans_nomap {P : Program} {k : TypeId} {W : World} {g n : Nat} {f : Lit → Option Value} (h : MapF P k W g n f) {B : Nat} {r : Value} {s : List (Int × Int)} (hs : SpansOf B r s W) (hne : s ≠ []) : ∀ b, r.ownBlock = some b → (some g : Option Nat) ≠ some b := fun b hb e => by
  injection e with e
  subst e
  obtain ⟨ao, cap, rfl, hs⟩ := hs
  obtain ⟨x, t, rfl⟩ := List.exists_cons_of_ne_nil hne
  obtain ⟨b', off, rfl, _, hc, _⟩ := hs 0 x rfl
  have : b' = g := by simpa [Value.ownBlock] using hb
  subst this
  exact h.noCell _ _ hc
structure MrgJ (w : World) (gm : Nat) (out : List ReqL) (n : Nat) (W : World) : Prop where
  bel : Below w.heap.size w W
  inc : incrR out
  good : ∀ x ∈ out, GoodQ x
  map : ∃ f rv, MapF Tryz.prog 9 W gm n f ∧ SetsF out rv f ∧ ∀ x ∈ out, SpansOf W.heap.size (rv x.1) x.2 W
theorem MrgJ.below {w : World} {gm n : Nat} {out : List ReqL} {W W' : World} (h : MrgJ w gm out n W) (hb : Below W.heap.size W W') : MrgJ w gm out n W' := by
  obtain ⟨h1, h2, h3, f, rv, h4, h5, h6⟩ := h
  exact ⟨h1.trans (hb.mono h1.size), h2, h3, f, rv, h4.below hb, h5, fun x hx => (h6 x hx).on hb⟩
theorem insM_old {out : List ReqL} (ho : incrR out) {q x : ReqL} (hx : x ∈ insM out q) (hne : x.1 ≠ q.1) : x ∈ out := by
  have h1 := (lookM_mem (insM_incr q ho)).1 hx
  rw [insM_look q x.1 ho, if_neg hne] at h1
  exact (lookM_mem ho).2 h1
theorem insM_new {out : List ReqL} (ho : incrR out) {q x : ReqL} (hx : x ∈ insM out q) (he : x.1 = q.1) : x.2 = match lookM out q.1 with | some s => interS [s, q.2] | none => q.2 := by
  have h1 := (lookM_mem (insM_incr q ho)).1 hx
  rw [insM_look q x.1 ho, if_pos he] at h1
  exact (Option.some.inj h1).symm
theorem inter_self {q : ReqL} (h : GoodQ q) : interS [q.2, q.2] = q.2 := by
  obtain ⟨m, e, h0, h1⟩ := h.set
  rw [e, inter_up ⟨h0, h1⟩ ⟨h0, h1⟩, Int.max_self]
def baseM (out : List ReqL) (q : ReqL) : List (Int × Int) := (lookM out q.1).getD q.2
theorem insM_base {out : List ReqL} (ho : incrR out) {q x : ReqL} (hg : GoodQ q) (hx : x ∈ insM out q) (he : x.1 = q.1) : x.2 = interS [baseM out q, q.2] := by
  rw [insM_new ho hx he]
  unfold baseM
  cases lookM out q.1 with
  | some s => rfl
  | none => exact (inter_self hg).symm
theorem MrgJ.put {w : World} {gm n : Nat} {out : List ReqL} {W W' : World} {f : Lit → Option Value} {rv : ByteArray → Value} {q : ReqL} {r : Value} (hb : Below w.heap.size w W) (hw : w.heap.size ≤ gm) (hi : incrR out) (hg : ∀ x ∈ out, GoodQ x) (hm : MapF Tryz.prog 9 W gm n f) (hf : SetsF out rv f) (hs : ∀ x ∈ out, SpansOf W.heap.size (rv x.1) x.2 W)
    (hq : GoodQ q) (hr : SpansOf W.heap.size r (interS [baseM out q, q.2]) W) (h1 : MapF Tryz.prog 9 W' gm (n + 1) (putF f (.string q.1.data.toList) r)) (h2 : W.grownBy W' (some gm)) : MrgJ w gm (insM out q) (n + 1) W' := by
  have hgood := insM_good hg hq
  refine ⟨hb.grown h2 hb.size (fun b hb => by cases hb; exact hw), insM_incr q hi, hgood, _, _, h1, hf.put hi q r, fun x hx => ?_⟩
  by_cases e : x.1 = q.1
  · rw [e, putV_same]
    have e2 := insM_base hi hq hx e
    rw [e2]
    refine (spans_kept hr h2 (Nat.le_refl _) (fun hne => spans_nomap hm hr hne)).mono h2.size
  · rw [putV_other _ _ e]
    have hx2 := hs x (insM_old hi hx e)
    exact (spans_kept hx2 h2 (Nat.le_refl _) (fun hne => spans_nomap hm hx2 hne)).mono h2.size
def mrgK (ls : List (List ReqL)) (i : Nat) (m : List ReqL) (j : Nat) : List ReqL := ((ls.take i).flatten ++ m.take j).foldl insM []
theorem mrgK_zero (ls : List (List ReqL)) (m : List ReqL) : mrgK ls 0 m 0 = [] := by unfold mrgK; simp
theorem mrgK_start (ls : List (List ReqL)) (i : Nat) (m m' : List ReqL) : mrgK ls i m 0 = mrgK ls i m' 0 := by unfold mrgK; simp
theorem mrgK_succ {ls : List (List ReqL)} {i : Nat} {m : List ReqL} {j : Nat} (hj : j < m.length) : mrgK ls i m (j + 1) = insM (mrgK ls i m j) m[j] := by
  unfold mrgK
  rw [List.take_succ_eq_append_getElem hj, ← List.append_assoc, List.foldl_append]
  rfl
theorem mrgK_next {ls : List (List ReqL)} {i : Nat} {m : List ReqL} (hi : i < ls.length) (hm : ls[i] = m) : mrgK ls i m m.length = mrgK ls (i + 1) [] 0 := by
  unfold mrgK
  rw [List.take_length, List.take_succ_eq_append_getElem hi, List.flatten_append, hm]
  simp
theorem mrgK_all (ls : List (List ReqL)) : mrgK ls ls.length [] 0 = mergeL ls := by
  unfold mrgK mergeL
  rw [List.take_length]
  simp
def HeldM (g : Nat) (p : ByteArray) (r : Value) (W : World) : Prop := W.cell? ⟨g, 0, none⟩ = some (.string p) ∧ W.cell? ⟨g, 1, none⟩ = some r
theorem HeldM.below {g : Nat} {p : ByteArray} {r : Value} {W W' : World} (h : HeldM g p r W) (hg : g < W.heap.size) (hb : Below W.heap.size W W') : HeldM g p r W' := ⟨(hb.cell (p := ⟨g, 0, none⟩) hg).trans h.1, (hb.cell (p := ⟨g, 1, none⟩) hg).trans h.2⟩
theorem sets_pair {W : World} {a b : Value} {s t : List (Int × Int)} (ha : SpansOf W.heap.size a s W) (hb : SpansOf W.heap.size b t W) : SetsOf (W.alloc (.cells #[a, b] 56)).heap.size (.slice (some ⟨W.heap.size, 0, none⟩) 2 2) [s, t] (W.alloc (.cells #[a, b] 56)) := by
  have hn := World.alloc_heap_new W (.cells #[a, b] 56)
  have h1 := ha.on (belQ W (.cells #[a, b] 56))
  have h2 := hb.on (belQ W (.cells #[a, b] 56))
  refine ⟨_, _, rfl, fun i x hx => ?_⟩
  match i, hx with
  | 0, hx => cases hx; exact ⟨W.heap.size, 0, a, rfl, by simp, cell_of_row _ _ 0 _ _ _ hn, h1⟩
  | 1, hx => cases hx; exact ⟨W.heap.size, 0, b, rfl, by simp, cell_of_row _ _ 1 _ _ _ hn, h2⟩
  | i + 2, hx => simp at hx
theorem good_len {q : ReqL} (h : GoodQ q) : q.2.length ≤ 1 := by obtain ⟨m, e, _⟩ := h.set; rw [e]; simp
theorem base_len {out : List ReqL} (ho : incrR out) (hg : ∀ x ∈ out, GoodQ x) {q : ReqL} (hq : GoodQ q) : (baseM out q).length ≤ 1 := by
  unfold baseM
  cases hl : lookM out q.1 with
  | none => exact good_len hq
  | some s => exact good_len (hg (q.1, s) ((lookM_mem ho).2 hl))
theorem upR_of {l : List ReqL} {E : Int} (h1 : checkReqs l = E) (h2 : E = 0) (h3 : upAll l = true) : UpR l := ⟨h1.trans h2, upAll_iff.1 h3⟩
set_option maxRecDepth 100000 in
set_option maxHeartbeats 16000000 in
theorem Merge_any (lv : Value) (ls : List (List ReqL)) (w : World) (hm : MaxOk w) (hll : ls.length ≤ 1000000) (hlb : ∀ l ∈ ls, l.length ≤ 1000000 ∧ ReqsBd l) (hL : ListsOf w.heap.size lv ls w) :
    Calls Tryz.prog 28 #[lv] w (MergeR ls w) := by
  have HL := Lib.hid hL
  have HMX := Lib.hid hm
  have HLB := Lib.hid hlb
  have hztd : ∀ W, (zeroValue 56).run Tryz.prog W = .ok (.slice none 0 0) W := Tryz.zeroValue56
  have HZ := Lib.hid hztd
  obtain ⟨la, lc, rfl⟩ : ∃ la lc, lv = .slice la ls.length lc := by obtain ⟨a, c, e, _⟩ := hL; exact ⟨a, c, e⟩
  clear hL hm hlb hztd
  have hmm := @run_makeMap Tryz.prog
  have HJ0 : Hid (MrgJ w w.heap.size (mrgK ls 0 [] 0) 0 (w.alloc (.map #[] 0))) := Lib.hid ⟨belQ w _, by rw [mrgK_zero]; exact List.Pairwise.nil, by rw [mrgK_zero]; exact fun x hx => (by cases hx), _, fun _ => .slice none 0 0, MapF.made Tryz.prog 9 w, by rw [mrgK_zero]; exact SetsF.start _, by rw [mrgK_zero]; exact fun x hx => (by cases hx)⟩
  go_enter Tryz.func28, Tryz.ntmps28
  go_upto_region 2 with fail
  generalize w.alloc (.map #[] 0) = W0 at *
  clear hmm
  go_wp2_with fail
  go_loopw [17] (fun p wr => Hid (∃ i n, i ≤ ls.length ∧ p = .int .i64 ((i : Nat) : Int) ∧ n ≤ 16 * i ∧ MrgJ w w.heap.size (mrgK ls i [] 0) n wr ∧ ∀ l ∈ ls.take i, UpR l)) (fun p _ => ls.length - (intOf p).toNat)
  case atStart => exact Lib.hid ⟨0, 0, Nat.zero_le _, rfl, Nat.zero_le _, HJ0.out, fun l hl => by simp at hl⟩
  case round =>
    obtain ⟨i, n, hi, rfl, hn, hj, hu⟩ := hrel.out
    have HJ := Lib.hid hj
    have HU := Lib.hid hu
    clear hrel hj hu
    by_cases hlt : i < ls.length
    case neg =>
      have hii : i = ls.length := Nat.le_antisymm hi (Nat.le_of_not_lt hlt)
      subst hii
      have HUA : Hid (∀ l ∈ ls, UpR l) := Lib.hid (by have := HU.out; rwa [List.take_length] at this)
      have HJL : Hid (MrgJ w w.heap.size (mergeL ls) n wr) := Lib.hid (by rw [← mrgK_all]; exact HJ.out)
      obtain ⟨f, rv, hmf, hsf, hspn⟩ := HJL.out.map
      have HMF := Lib.hid hmf
      have HSF := Lib.hid hsf
      have HSPN := Lib.hid hspn
      have HKN := Lib.hid (keysM_nodup HJL.out.inc)
      have HKI := Lib.hid (keysM_iff hsf)
      have HKL : Hid ((keysM (mergeL ls)).length = (mergeL ls).length) := Lib.hid (by unfold keysM; simp)
      have HINC := Lib.hid HJL.out.inc
      have HWB := Lib.hid HJL.out.bel
      have hgm : w.heap.size < wr.heap.size := hmf.lt
      have HBIG := Lib.hid (mergeV_big HUA.out)
      have HOKV := Lib.hid (mergeV_ok HUA.out)
      clear hmf hsf hspn HJ HJL HU
      generalize hout : mergeL ls = out at *
      clear hout
      by_cases h16 : 16 < out.length
      case pos =>
        have HNO := Lib.hid (HBIG.out h16)
        have hd : decide ((16 : Int) < (out.length : Int)) = true := decide_eq_true (by omega)
        have hd2 : (16 : Int) < (out.length : Int) := by omega
        go_wp2_with (at_len; refine wpList_len_F rfl _ 113 rfl 9 56 lawStr Tryz.underlying113 w.heap.size n f (by rfl) HMF.out (keysM out) HKN.out HKI.out ?_; rw [HKL.out])
        go_ret2
        exact MergeR.no HWB.out HNO.out
      case neg =>
        have HOK := Lib.hid (HOKV.out h16)
        have hd : decide ((16 : Int) < (out.length : Int)) = false := decide_eq_false (by omega)
        have hd2 : ¬ (16 : Int) < (out.length : Int) := by omega
        have hol : out.length ≤ 16 := Nat.le_of_not_lt h16
        clear h16 HBIG HOKV
        obtain ⟨i0, hi0', hz0, hz1, hz2⟩ := info_parts info_reqs
        go_wp2_with (first | (at_len; refine wpList_len_F rfl _ 113 rfl 9 56 lawStr Tryz.underlying113 w.heap.size n f (by rfl) HMF.out (keysM out) HKN.out HKI.out ?_; rw [HKL.out]) | (at_range; refine wpList_range_F rfl _ 113 rfl 56 lawStr Tryz.underlying113 (by rfl) HMF.out ?_; intro w3 cnt0 hrg0 hg0 hs0; have HG0 := Lib.hid hg0; have HR0 := Lib.hid hrg0; have HS0 := Lib.hid hs0; clear hg0 hrg0 hs0))
        generalize hri : wr.heap.size = ri at HR0 HS0 hgm
        have HRI2 := Lib.hid hri
        have HB0 : Hid (Below ri wr w3) := Lib.hid (by rw [← hri]; exact (Below.refl _ _).grown HG0.out (Nat.le_refl _) (fun b hb => by cases hb))
        have HSP2 : Hid (∀ x ∈ out, SpansOf ri (rv x.1) x.2 wr) := Lib.hid (by rw [← hri]; exact HSPN.out)
        clear hri HSPN HKN HKI HKL hd hd2
        obtain ⟨wo, rfl⟩ : ∃ wo : World, wo = wr := ⟨_, rfl⟩
        go_loopw [11, 12, 13] (fun ov _ _ wx => Hid (∃ (left : Lit → Bool) (cnt : Nat) (l : List RawQ), RangesF Tryz.prog 9 wx w.heap.size ri n f left cnt ∧ CollQ f left l ∧ wx.ownsRow (ri + 1) 58 2 ov l.length (rawCells l) ∧ Below ri wo wx)) (fun _ _ _ wx => wx.rangeLeft w.heap.size ri)
        case atStart => exact Lib.hid ⟨_, cnt0, [], HR0.out, CollQ.start f, World.ownsRow_nil _ _ _ _, HB0.out⟩
        case round =>
          obtain ⟨left, cnt, l, hrg, hcl, hown, hbb⟩ := hrel.out
          have HRG := Lib.hid hrg
          have HCL := Lib.hid hcl
          have HOW := Lib.hid hown
          have HBB := Lib.hid hbb
          have hs8 : ri ≤ wr.heap.size := Nat.le_of_lt hrg.lt
          have hll2 : l.length ≤ out.length := hcl.len HSF.out
          obtain ⟨oa, oc, rfl⟩ := own_any hown
          clear hrel hrg hcl hown hbb HR0 HG0 HS0 HB0
          go_wp2_with (at_next; refine wpList_next_F rfl _ rfl lawStr (fun x : List UInt8 => Value.string ⟨x.toArray⟩) (fun key kl hk => by obtain ⟨x, e, _⟩ := Maps.keyOf_str Tryz.underlying9 hk; exact ⟨x, e⟩) (by rfl) HRG.out ?_ ?_)
          rotate_left
          · intro x v kl w5 cnt1 hkey hlk hf hrg1 hlt1 hg1 hs1 hen
            obtain ⟨x2, ex, rfl, _⟩ := Maps.keyOf_str Tryz.underlying9 hkey
            obtain rfl : x = x2 := by
              have ex : Value.string ⟨x.toArray⟩ = Value.string ⟨x2.toArray⟩ := ex
              injection ex with ex
              injection ex with ex
              simpa using ex
            obtain ⟨⟨a1, n1, c1⟩, hvr⟩ : ∃ rx : Option Addr × Nat × Nat, v = slV rx := by
              rw [show Lit.string x = keyP ⟨x.toArray⟩ from rfl, HSF.out.1] at hf
              obtain ⟨s, hs, e⟩ := Option.map_eq_some_iff.1 hf
              obtain ⟨a, c, e2, _⟩ := HSP2.out (⟨x.toArray⟩, s) ((lookM_mem HINC.out).2 hs)
              exact ⟨(a, s.length, c), e.symm.trans e2⟩
            subst hvr
            have HC5 : Hid (CollQ f (fun z => left z && !z.sameKey (.string x)) (l ++ [((⟨x.toArray⟩ : ByteArray), (a1, n1, c1))])) := Lib.hid (HCL.out.step (x := (⟨x.toArray⟩, (a1, n1, c1))) hf hlk)
            simp only [slV] at hf hen ⊢
            have HR5 := Lib.hid hrg1
            have HLT := Lib.hid hlt1
            have HO5 : Hid (w5.ownsRow (ri + 1) 58 2 (.slice oa l.length oc) l.length (rawCells l)) := Lib.hid (own_far HOW.out (fun b hb => hg1.block b (HOW.out.lt b hb).2 (by intro e; injection e with e; have := (HOW.out.lt b hb).1; omega)))
            have HB5 := Lib.hid (HBB.out.grown hg1 hs8 (fun b hb => by cases hb; exact Nat.le_refl _))
            have HLW := Lib.hid HRG.out.left_eq
            have hr5 : ri + 1 ≤ w5.heap.size := HR5.out.lt
            have hs5 : ri ≤ w5.heap.size := Nat.le_of_lt hr5
            have hll3 : l.length ≤ 1000000 := by omega
            clear hkey hlk hf hrg1 hlt1 hg1 hs1
            have HN9 : Hid ((w5.alloc (.cells #[.string ⟨x.toArray⟩, .slice a1 n1 c1] 58)).heap[w5.heap.size]? = some (.cells #[.string ⟨x.toArray⟩, .slice a1 n1 c1] 58)) := Lib.hid (heap_alloc_new w5 _)
            go_wp2_with (at_builtin; refine wpList_append_own _ rfl _ _ 26 rfl (ri + 1) 58 i0 _ 2 40 Tryz.underlying26 hi0' hz0 hz1 hz2 rfl (by decide) (.slice oa l.length oc) _ _ (by rfl) (HO5.out.alloc _) ⟨w5.heap.size, 0, none⟩ 1 1 [.string ⟨x.toArray⟩, .slice a1 n1 c1] (by rfl) (by rfl) (World.news_of_block HN9.out) (by simp [Value.oneCell']) (by unfold maxLen; omega) (by omega) (by simp; omega) ?_; intro v' wB hown' hgrow _; have HOW6 := Lib.hid hown'; have HGR := Lib.hid hgrow; clear hown' hgrow; obtain ⟨g3, gc3, rfl⟩ := ownsRow_succ HOW6.out)
            have HR6 := Lib.hid ((HR5.out.alloc (.cells #[.string ⟨x.toArray⟩, .slice a1 n1 c1] 58)).kept HGR.out (fun e => by have := (HO5.out.lt _ e.symm).1; omega) (fun e => by have := (HO5.out.lt _ e.symm).1; omega))
            have HB6 : Hid (Below ri wo wB) := Lib.hid ((HB5.out.alloc hs5 _).grown HGR.out (by simp; omega) (fun b hb => by have := (HO5.out.lt b hb).1; omega))
            go_roundw
            case rel => exact Lib.hid ⟨_, cnt1, l ++ [(⟨x.toArray⟩, (a1, n1, c1))], HR6.out, HC5.out, by rw [List.length_append, rawCells_snoc]; exact HOW6.out, HB6.out⟩
            case measure => rw [HR6.out.left_eq, HLW.out]; exact HLT.out
          · intro hl0
            have HL0 := Lib.hid hl0
            have HSO := Lib.hid (sort_reqs (ri + 1) (.slice oa l.length oc) l wr HOW.out (by omega))
            clear hl0
            go_wp2_with fail
            refine HSO.out.mono ?_
            rintro e w6 ⟨rfl, l', hperm, hsorted, hg6, ho6⟩
            have hdone := HCL.out.done HSF.out HINC.out HL0.out hperm hsorted
            have hlen : l.length = out.length := by
              have := congrArg List.length hdone.1
              simp only [List.length_map] at this
              rw [← hperm.length_eq]; exact this
            have HB6 : Hid (Below ri wo w6) := Lib.hid (HBB.out.grown hg6 hs8 (fun b hb => by have := (HOW.out.lt b hb).1; omega))
            have HO6 : Hid (w6.ownsRow (ri + 1) 58 2 (.slice oa l.length oc) out.length (rawCells l')) := Lib.hid (by rw [← hlen]; exact ho6)
            have HXS : Hid (ReqXs w6.heap.size out (rawCells l') w6) := Lib.hid (CollQ.row hdone.1 hdone.2 (fun x hx => ((HSP2.out x hx).below HB6.out (Nat.le_refl _)).mono (Nat.le_trans hs8 hg6.size)))
            have hw6 : w.heap.size ≤ ri := by omega
            clear hdone hlen hperm hsorted hg6 ho6 HSO
            go_wp2_with fail
            go_ret2
            refine ⟨HWB.out.trans (HB6.out.mono hw6), _, by rw [HOK.out]; rfl, ?_, own_cap HO6.out⟩
            rw [HOK.out]
            exact rows_reqs HO6.out HXS.out
    case pos =>
      obtain ⟨b, off, r, e, hbl, hc, hRm⟩ : ∃ b off r, la = some ⟨b, off, none⟩ ∧ b < w.heap.size ∧ w.cell? ⟨b, off + i, none⟩ = some r ∧ ReqsOf w.heap.size r ls[i] w := by
        obtain ⟨a, c, e, h⟩ := HL.out
        injection e with e1 e2 e3
        subst e1
        exact h i ls[i] (List.getElem?_eq_getElem hlt)
      subst e
      have HMM : Hid (ls[i] ∈ ls) := Lib.hid (List.getElem_mem hlt)
      have HNX : Hid (mrgK ls i ls[i] ls[i].length = mrgK ls (i + 1) [] 0) := Lib.hid (mrgK_next hlt rfl)
      have HUX : Hid (UpR ls[i] → ∀ l ∈ ls.take (i + 1), UpR l) := Lib.hid (fun h l hl => by
        rw [List.take_succ_eq_append_getElem hlt] at hl
        rcases List.mem_append.1 hl with h1 | h1
        · exact HU.out l h1
        · rw [List.mem_singleton.1 h1]; exact h)
      obtain ⟨hml, hmb⟩ := HLB.out _ (List.getElem_mem hlt)
      have HMB := Lib.hid hmb
      have hi0 : (0 : Int) ≤ (i : Int) := Int.natCast_nonneg i
      have hi1 : (i : Int) < (ls.length : Int) := Int.ofNat_lt.2 hlt
      generalize ls[i] = m at *
      have hc := (HJ.out.bel.cell (p := ⟨b, off + i, none⟩) hbl).trans hc
      have HRm := Lib.hid (hRm.on HJ.out.bel)
      have HRW := Lib.hid hRm
      obtain ⟨ra, rc, rfl⟩ : ∃ ra rc, r = .slice ra m.length rc := by obtain ⟨a, c, e, _⟩ := hRm; exact ⟨a, c, e⟩
      have HCR := Lib.hid (CheckReqs_any (.slice ra m.length rc) m wr (HMX.out.below HJ.out.bel HMX.out.pos) (by omega) (fun q hq => ⟨(hmb q hq).1, by have := (hmb q hq).2; omega⟩) HRm.out)
      have HUP := Lib.hid (fun W (hb : Below wr.heap.size wr W) => mupward_any (.slice ra m.length rc) m W (by omega) HMB.out (HRm.out.on hb))
      obtain ⟨E, hE⟩ : ∃ E, checkReqs m = E := ⟨_, rfl⟩
      rw [hE] at HCR
      have HE := Lib.hid hE
      obtain ⟨ub, hub⟩ : ∃ ub, upAll m = ub := ⟨_, rfl⟩
      rw [hub] at HUP
      have HUB := Lib.hid hub
      clear hE hub hmb hRm
      go_wp2_with fail
      refine HCR.out.mono ?_
      rintro e w1 ⟨rfl, hb1⟩
      have HJ1 := Lib.hid (HJ.out.below hb1)
      have HB1 := Lib.hid hb1
      clear hb1 HCR hc
      by_cases h1 : E = 0
      case neg =>
        have h1b : (E != 0) = true := by simpa using h1
        have HNO := Lib.hid (mergeV_bad HMM.out (fun h => h1 (HE.out.symm.trans h.1)))
        clear h1
        go_wp2_with fail
        go_ret2
        exact MergeR.no HJ1.out.bel HNO.out
      subst h1
      go_wp2_with fail
      refine (HUP.out w1 HB1.out).mono ?_
      rintro e w2 ⟨rfl, hb2⟩
      have HJ2 := Lib.hid (HJ1.out.below hb2)
      have HR2 := Lib.hid (HRm.out.on (HB1.out.trans (hb2.mono HB1.out.size)))
      clear hb2 HUP HRm HB1 HJ1
      cases ub with
      | false =>
        have HNO := Lib.hid (mergeV_bad HMM.out (fun h => by have := upAll_iff.2 h.2; rw [HUB.out] at this; cases this))
        go_wp2_with fail
        go_ret2
        exact MergeR.no HJ2.out.bel HNO.out
      | true =>
        have HUM := Lib.hid (upR_of HE.out rfl HUB.out)
        have hm16 : m.length ≤ 16 := (reqs_ok HUM.out.1).len
        have HJS : Hid (MrgJ w w.heap.size (mrgK ls i m 0) n w2) := Lib.hid (by rw [mrgK_start ls i m []]; exact HJ2.out)
        clear HJ2 HE HUB HR2
        go_wp2_with fail
        go_loopw [31] (fun q wr => Hid (∃ j n, j ≤ m.length ∧ q = .int .i64 ((j : Nat) : Int) ∧ n ≤ 16 * i + j ∧ MrgJ w w.heap.size (mrgK ls i m j) n wr)) (fun q _ => m.length - (intOf q).toNat)
        case atStart => exact Lib.hid ⟨0, n, Nat.zero_le _, rfl, hn, HJS.out⟩
        case round =>
          obtain ⟨j, n2, hj, rfl, hn2, hjj⟩ := hrel.out
          have HJJ := Lib.hid hjj
          clear hrel hjj
          by_cases hlj : j < m.length
          case neg =>
            have hjm : j = m.length := Nat.le_antisymm hj (Nat.le_of_not_lt hlj)
            subst hjm
            have HJN : Hid (MrgJ w w.heap.size (mrgK ls (i + 1) [] 0) n2 wr) := Lib.hid (by rw [← HNX.out]; exact HJJ.out)
            have HU2 := Lib.hid (HUX.out HUM.out)
            have hn3 : n2 ≤ 16 * (i + 1) := by omega
            go_wp2_with fail
            go_roundw
            case rel => exact Lib.hid ⟨i + 1, n2, hlt, by go_num, hn3, HJN.out, HU2.out⟩
            case measure => simp [intOf]; omega
          case pos =>
            obtain ⟨qb, qo, rq, e1, hqb, q0, q1, hsp⟩ : ∃ qb qo rq, ra = some ⟨qb, qo, none⟩ ∧ qb < w.heap.size ∧ w.cell? ⟨qb, qo + j * 2, none⟩ = some (.string m[j].1) ∧ w.cell? ⟨qb, qo + j * 2 + 1, none⟩ = some rq ∧ SpansOf w.heap.size rq m[j].2 w := by
              obtain ⟨a, c, e, h⟩ := HRW.out
              injection e with e1 e2 e3
              subst e1
              exact h j _ (List.getElem?_eq_getElem hlj)
            subst e1
            have HQG := Lib.hid (HUM.out.q (List.getElem_mem hlj)).good
            have HSC := Lib.hid (mrgK_succ (ls := ls) (i := i) hlj)
            have hqz : m[j].1.size ≤ maxLen := by
              have := (HMB.out _ (List.getElem_mem hlj)).1
              unfold maxLen
              omega
            have hj0 : (0 : Int) ≤ (j : Int) := Int.natCast_nonneg j
            have hj1 : (j : Int) < (m.length : Int) := Int.ofNat_lt.2 hlj
            generalize m[j] = q at *
            generalize mrgK ls i m j = out at *
            have q0 := (HJJ.out.bel.cell (p := ⟨qb, qo + j * 2, none⟩) hqb).trans q0
            have q1 := (HJJ.out.bel.cell (p := ⟨qb, qo + j * 2 + 1, none⟩) hqb).trans q1
            have HSQ := Lib.hid (hsp.on HJJ.out.bel)
            obtain ⟨qa, qc, rfl⟩ : ∃ a c, rq = .slice a q.2.length c := by obtain ⟨a, c, e, _⟩ := hsp; exact ⟨a, c, e⟩
            clear hsp
            obtain ⟨f, rv, hmf, hsf, hspn⟩ := HJJ.out.map
            have HMF := Lib.hid hmf
            have HSF := Lib.hid hsf
            have HSPN := Lib.hid hspn
            have HLK := Lib.hid (show f (.string q.1.data.toList) = (lookM out q.1).map fun _ => rv q.1 from hsf.1 q.1)
            have HKY := Lib.hid (keyStr hqz)
            have HBB := Lib.hid (belQ wr (.cells #[.string q.1, .slice qa q.2.length qc] 58))
            have HNB := Lib.hid (World.alloc_heap_new wr (.cells #[.string q.1, .slice qa q.2.length qc] 58))
            have hgm : w.heap.size < wr.heap.size := hmf.lt
            clear hmf hsf hspn hqz
            go_upto_region 10 with fail
            generalize wr.alloc (.cells #[.string q.1, .slice qa q.2.length qc] 58) = W5 at *
            have HW5 := Lib.hid (HJJ.out.bel.trans (HBB.out.mono HJJ.out.bel.size))
            have HM5 := Lib.hid (HMF.out.below HBB.out)
            have HSQ5 := Lib.hid (HSQ.out.on HBB.out)
            have HSP5 := Lib.hid (fun x hx => (HSPN.out x hx).on HBB.out)
            have HINC := Lib.hid HJJ.out.inc
            have HGD := Lib.hid HJJ.out.good
            generalize hgq : wr.heap.size = gq at *
            have b0 : W5.cell? ⟨gq, 0, none⟩ = some (.string q.1) := cell_of_row _ _ 0 _ _ _ HNB.out
            have b1 : W5.cell? ⟨gq, 1, none⟩ = some (.slice qa q.2.length qc) := cell_of_row _ _ 1 _ _ _ HNB.out
            have hgq5 : gq < W5.heap.size := (Array.getElem?_eq_some_iff.1 HNB.out).1
            clear hgq HBB HMF HSQ HSPN HJJ q0 q1
            cases hlm : lookM out q.1 with
            | none =>
              have HBM : Hid (baseM out q = q.2) := Lib.hid (by unfold baseM; rw [hlm]; rfl)
              rw [hlm] at HLK
              clear hlm
              go_upto_region 13 with (at_lookup; refine wpList_look_ok_F rfl _ _ 113 rfl 9 56 lawStr Tryz.underlying113 (HZ.out _) w.heap.size n2 f (by rfl) HM5.out _ (.string q.1.data.toList) rfl HKY.out ?_; rw [HLK.out])
              have HSV := Lib.hid HSQ5.out
              have hbl : q.2.length ≤ 1 := by have := base_len HINC.out HGD.out HQG.out; rwa [HBM.out] at this
              have hql : q.2.length ≤ 1 := good_len HQG.out
              have HSB : Hid (∀ W', Below W5.heap.size W5 W' → HeldM gq q.1 (.slice qa q.2.length qc) W') := Lib.hid (fun W' hb => HeldM.below ⟨b0, b1⟩ hgq5 hb)
              clear b0 b1
              refine wp_region_noPanic ?_
              refine wp_region_held_drew (S := HeldM gq q.1 (.slice qa q.2.length qc)) (by kernel_rfl) (HSB.out _ (Below.refl _ _).drew) (fun hS0 => ?_)
              (refine zl3 0 ?_ rfl ?_ ?_; rotate_left; (· (rintro w ⟨b0, b1⟩; go_simp; try with_reducible rfl)); (try simp only [zl1]))
              (refine zl3 1 ?_ rfl ?_ ?_; rotate_left; (· (rintro w ⟨b0, b1⟩; go_simp; try with_reducible rfl)); (try simp only [zl1]))
              (refine zl3 2 ?_ rfl ?_ ?_; rotate_left; (· (rintro w ⟨b0, b1⟩; go_simp; try with_reducible rfl)); (try simp only [zl1]))
              (refine zl3 3 ?_ rfl ?_ ?_; rotate_left; (· (rintro w ⟨b0, b1⟩; go_simp; try with_reducible rfl)); (try simp only [zl1]))
              (refine zl3 4 ?_ rfl ?_ ?_; rotate_left; (· (rintro w ⟨b0, b1⟩; go_simp; try with_reducible rfl)); (try simp only [zl1]))
              (refine zl3 5 ?_ rfl ?_ ?_; rotate_left; (· (rintro w ⟨b0, b1⟩; go_simp; try with_reducible rfl)); (try simp only [zl1]))
              have HBD : Hid (Below W5.heap.size W5 (W5.drew.alloc (.cells #[.slice qa q.2.length qc, .slice qa q.2.length qc] 56))) := Lib.hid ((Below.refl W5.heap.size W5).drew.trans (belQ W5.drew _))
              have HST : Hid (SetsOf (W5.drew.alloc (.cells #[.slice qa q.2.length qc, .slice qa q.2.length qc] 56)).heap.size (.slice (some ⟨W5.heap.size, 0, none⟩) 2 2) [q.2, q.2] (W5.drew.alloc (.cells #[.slice qa q.2.length qc, .slice qa q.2.length qc] 56))) := Lib.hid (sets_pair (W := W5.drew) (HSV.out.on (Below.refl W5.heap.size W5).drew) (HSQ5.out.on (Below.refl W5.heap.size W5).drew))
              refine wpAnyH_ready (rs := [6]) (by kernel_rfl) (by simp) (AllReadyH.cons rfl (fun K hK => ?_) AllReadyH.nil)
              go_simp
              clear hS0
              have hS0 := HSB.out _ HBD.out
              refine hK.out _ _ hS0 (fun _ => ?_)
              clear hK K
              (try simp only [zl1])
              have HIN := Lib.hid (Intersect_any _ [q.2, q.2] _ (by simp) (fun s' hs' => by
                rcases List.mem_cons.1 hs' with h | h
                · rw [h]; omega
                · rw [List.mem_singleton.1 h]; omega) HST.out)
              refine wpAnyH_ready (rs := [7]) (by kernel_rfl) (by simp) (AllReadyH.cons rfl (fun K hK => ?_) AllReadyH.nil)
              go_simp
              refine (HIN.out).mono ?_
              rintro e w7 ⟨v', rfl, hsp7, hb7⟩
              have HB7 := Lib.hid (HBD.out.trans (hb7.mono HBD.out.size))
              have HSP7 := Lib.hid hsp7
              clear hS0
              have hS0 := HSB.out _ HB7.out
              refine hK.out _ _ hS0 (fun _ => ?_)
              clear hK K hb7 hsp7
              (try simp only [zl1])
              refine wpAnyH_ready (rs := [8]) (by kernel_rfl) (by simp) (AllReadyH.cons rfl (fun K hK => ?_) AllReadyH.nil)
              refine oper_of_list (ops := #[]) rfl ?_
              refine wpList_put_F rfl _ _ _ _ rfl 9 56 lawStr Tryz.underlying113 w.heap.size n2 f (by rfl) (HM5.out.below HB7.out) (by unfold maxLen; omega) _ _ (.string q.1.data.toList) rfl rfl HKY.out ?_
              intro W9 hm9 hg9
              have HJ9 : Hid (MrgJ w w.heap.size (insM out q) (n2 + 1) W9) := Lib.hid (MrgJ.put (HW5.out.trans (HB7.out.mono HW5.out.size)) (Nat.le_refl _) HINC.out HGD.out (HM5.out.below HB7.out) HSF.out (fun x hx => (HSP5.out x hx).on HB7.out) HQG.out (by rw [HBM.out]; exact HSP7.out) hm9 hg9)
              have hSB9 : HeldM gq q.1 (.slice qa q.2.length qc) W9 := by
                have h := HSB.out _ HB7.out
                have hl : gq < w7.heap.size := Nat.lt_of_lt_of_le hgq5 HB7.out.size
                have hne : (some gq : Option Nat) ≠ some w.heap.size := fun e => by injection e with e; omega
                exact ⟨(hg9.cell_far ⟨gq, 0, none⟩ hl hne).trans h.1, (hg9.cell_far ⟨gq, 1, none⟩ hl hne).trans h.2⟩
              clear hm9 hg9
              refine wpList_nil ?_
              show K _ _
              refine hK.out _ _ hSB9 (fun _ => ?_)
              clear hK K hS0 hSB9
              (try simp only [zl1])
              refine wpAnyH_done (by kernel_rfl) ?_ _
              refine NoPanic.normal ?_
              have HJF : Hid (MrgJ w w.heap.size (mrgK ls i m (j + 1)) (n2 + 1) W9) := Lib.hid (by rw [HSC.out]; exact HJ9.out)
              have hn4 : n2 + 1 ≤ 16 * i + (j + 1) := by omega
              clear HSB HSV HIN HST HBD HB7 HSP7 HJ9
              go_wp2_with fail
              go_roundw
              case rel => exact Lib.hid ⟨j + 1, n2 + 1, hlj, by go_num, hn4, HJF.out⟩
              case measure => simp [intOf]; omega
            | some s =>
              have HBM : Hid (baseM out q = s) := Lib.hid (by unfold baseM; rw [hlm]; rfl)
              have hsv := HSP5.out (q.1, s) ((lookM_mem HINC.out).2 hlm)
              simp only at hsv
              rw [hlm] at HLK
              clear hlm
              obtain ⟨sv, hsve⟩ : ∃ sv, rv q.1 = sv := ⟨_, rfl⟩
              rw [hsve] at hsv HLK
              clear hsve
              obtain ⟨sa, sc, e⟩ : ∃ a c, sv = .slice a s.length c := by obtain ⟨a, c, e, _⟩ := hsv; exact ⟨a, c, e⟩
              subst e
              have HSV := Lib.hid hsv
              clear hsv
              go_upto_region 13 with (at_lookup; refine wpList_look_ok_F rfl _ _ 113 rfl 9 56 lawStr Tryz.underlying113 (HZ.out _) w.heap.size n2 f (by rfl) HM5.out _ (.string q.1.data.toList) rfl HKY.out ?_; rw [HLK.out])
              have hbl : s.length ≤ 1 := by have := base_len HINC.out HGD.out HQG.out; rwa [HBM.out] at this
              have hql : q.2.length ≤ 1 := good_len HQG.out
              have HSB : Hid (∀ W', Below W5.heap.size W5 W' → HeldM gq q.1 (.slice qa q.2.length qc) W') := Lib.hid (fun W' hb => HeldM.below ⟨b0, b1⟩ hgq5 hb)
              clear b0 b1
              refine wp_region_noPanic ?_
              refine wp_region_held_drew (S := HeldM gq q.1 (.slice qa q.2.length qc)) (by kernel_rfl) (HSB.out _ (Below.refl _ _).drew) (fun hS0 => ?_)
              (refine zl3 0 ?_ rfl ?_ ?_; rotate_left; (· (rintro w ⟨b0, b1⟩; go_simp; try with_reducible rfl)); (try simp only [zl1]))
              (refine zl3 1 ?_ rfl ?_ ?_; rotate_left; (· (rintro w ⟨b0, b1⟩; go_simp; try with_reducible rfl)); (try simp only [zl1]))
              (refine zl3 2 ?_ rfl ?_ ?_; rotate_left; (· (rintro w ⟨b0, b1⟩; go_simp; try with_reducible rfl)); (try simp only [zl1]))
              (refine zl3 3 ?_ rfl ?_ ?_; rotate_left; (· (rintro w ⟨b0, b1⟩; go_simp; try with_reducible rfl)); (try simp only [zl1]))
              (refine zl3 4 ?_ rfl ?_ ?_; rotate_left; (· (rintro w ⟨b0, b1⟩; go_simp; try with_reducible rfl)); (try simp only [zl1]))
              (refine zl3 5 ?_ rfl ?_ ?_; rotate_left; (· (rintro w ⟨b0, b1⟩; go_simp; try with_reducible rfl)); (try simp only [zl1]))
              have HBD : Hid (Below W5.heap.size W5 (W5.drew.alloc (.cells #[.slice sa s.length sc, .slice qa q.2.length qc] 56))) := Lib.hid ((Below.refl W5.heap.size W5).drew.trans (belQ W5.drew _))
              have HST : Hid (SetsOf (W5.drew.alloc (.cells #[.slice sa s.length sc, .slice qa q.2.length qc] 56)).heap.size (.slice (some ⟨W5.heap.size, 0, none⟩) 2 2) [s, q.2] (W5.drew.alloc (.cells #[.slice sa s.length sc, .slice qa q.2.length qc] 56))) := Lib.hid (sets_pair (W := W5.drew) (HSV.out.on (Below.refl W5.heap.size W5).drew) (HSQ5.out.on (Below.refl W5.heap.size W5).drew))
              refine wpAnyH_ready (rs := [6]) (by kernel_rfl) (by simp) (AllReadyH.cons rfl (fun K hK => ?_) AllReadyH.nil)
              go_simp
              clear hS0
              have hS0 := HSB.out _ HBD.out
              refine hK.out _ _ hS0 (fun _ => ?_)
              clear hK K
              (try simp only [zl1])
              have HIN := Lib.hid (Intersect_any _ [s, q.2] _ (by simp) (fun s' hs' => by
                rcases List.mem_cons.1 hs' with h | h
                · rw [h]; omega
                · rw [List.mem_singleton.1 h]; omega) HST.out)
              refine wpAnyH_ready (rs := [7]) (by kernel_rfl) (by simp) (AllReadyH.cons rfl (fun K hK => ?_) AllReadyH.nil)
              go_simp
              refine (HIN.out).mono ?_
              rintro e w7 ⟨v', rfl, hsp7, hb7⟩
              have HB7 := Lib.hid (HBD.out.trans (hb7.mono HBD.out.size))
              have HSP7 := Lib.hid hsp7
              clear hS0
              have hS0 := HSB.out _ HB7.out
              refine hK.out _ _ hS0 (fun _ => ?_)
              clear hK K hb7 hsp7
              (try simp only [zl1])
              refine wpAnyH_ready (rs := [8]) (by kernel_rfl) (by simp) (AllReadyH.cons rfl (fun K hK => ?_) AllReadyH.nil)
              refine oper_of_list (ops := #[]) rfl ?_
              refine wpList_put_F rfl _ _ _ _ rfl 9 56 lawStr Tryz.underlying113 w.heap.size n2 f (by rfl) (HM5.out.below HB7.out) (by unfold maxLen; omega) _ _ (.string q.1.data.toList) rfl rfl HKY.out ?_
              intro W9 hm9 hg9
              have HJ9 : Hid (MrgJ w w.heap.size (insM out q) (n2 + 1) W9) := Lib.hid (MrgJ.put (HW5.out.trans (HB7.out.mono HW5.out.size)) (Nat.le_refl _) HINC.out HGD.out (HM5.out.below HB7.out) HSF.out (fun x hx => (HSP5.out x hx).on HB7.out) HQG.out (by rw [HBM.out]; exact HSP7.out) hm9 hg9)
              have hSB9 : HeldM gq q.1 (.slice qa q.2.length qc) W9 := by
                have h := HSB.out _ HB7.out
                have hl : gq < w7.heap.size := Nat.lt_of_lt_of_le hgq5 HB7.out.size
                have hne : (some gq : Option Nat) ≠ some w.heap.size := fun e => by injection e with e; omega
                exact ⟨(hg9.cell_far ⟨gq, 0, none⟩ hl hne).trans h.1, (hg9.cell_far ⟨gq, 1, none⟩ hl hne).trans h.2⟩
              clear hm9 hg9
              refine wpList_nil ?_
              show K _ _
              refine hK.out _ _ hSB9 (fun _ => ?_)
              clear hK K hS0 hSB9
              (try simp only [zl1])
              refine wpAnyH_done (by kernel_rfl) ?_ _
              refine NoPanic.normal ?_
              have HJF : Hid (MrgJ w w.heap.size (mrgK ls i m (j + 1)) (n2 + 1) W9) := Lib.hid (by rw [HSC.out]; exact HJ9.out)
              have hn4 : n2 + 1 ≤ 16 * i + (j + 1) := by omega
              clear HSB HSV HIN HST HBD HB7 HSP7 HJ9
              go_wp2_with fail
              go_roundw
              case rel => exact Lib.hid ⟨j + 1, n2 + 1, hlj, by go_num, hn4, HJF.out⟩
              case measure => simp [intOf]; omega
end Go.Proofs.YtenfkejbndifdaaGreatDoor
