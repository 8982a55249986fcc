/- Contracts of the references: SameSelection, SameCause, position. Contracts of the reference 34: names, SameCause. -/
import Derived.Test.YtenfkejbndifdaaGreatDoorZG
import Derived.Test.YtenfkejbndifdaaGreatDoorYT
namespace Go.Proofs.YtenfkejbndifdaaGreatDoor
set_option linter.unusedVariables false
set_option linter.unusedSimpArgs false
open Go Go.RowKit

theorem take_neS {a b : List SelL} {k : Nat} (ha : k < a.length) (hb : k < b.length) (h : a[k] ≠ b[k]) : a ≠ b := fun e => by subst e; exact h rfl
set_option maxRecDepth 100000 in
set_option maxHeartbeats 4000000 in
theorem sameSels_any (v u : Value) (a b : List SelL) (w : World) (ha : a.length ≤ 1000000) (hb : b.length ≤ 1000000) (hA : SelsOf w.heap.size v a w) (hB : SelsOf w.heap.size u b w) :
    Calls Tryz.prog 64 #[v, u] w fun e w' => e = .returned (.bool (decide (a = b))) ∧ Below w.heap.size w w' := by
  have HA := Lib.hid hA
  have HB := Lib.hid hB
  obtain ⟨va, vc, rfl⟩ : ∃ ra rc, v = .slice ra a.length rc := by obtain ⟨a, c, e, _⟩ := hA; exact ⟨a, c, e⟩
  obtain ⟨ua, uc, rfl⟩ : ∃ ra rc, u = .slice ra b.length rc := by obtain ⟨a, c, e, _⟩ := hB; exact ⟨a, c, e⟩
  clear hA hB
  by_cases hl : a.length = b.length
  case neg =>
    have hne : ((a.length : Int) != (b.length : Int)) = true := by simp; omega
    have HD : Hid (decide (a = b) = false) := Lib.hid (decide_eq_false fun e => hl (by rw [e]))
    go_enter Tryz.func64, Tryz.ntmps64
    go_wp2_with fail
    go_ret
    exact ⟨by rw [HD.out]; rfl, Below.refl _ _⟩
  have HLL := Lib.hid hl
  have hne : ((a.length : Int) != (b.length : Int)) = false := by simp; omega
  clear hl
  go_enter Tryz.func64, Tryz.ntmps64
  go_wp2_with fail
  clear hne
  go_loopw [5] (fun p wr => ∃ k : Nat, k ≤ a.length ∧ p = .int .i64 (k : Int) ∧ Hid (a.take k = b.take k) ∧ Hid (Below w.heap.size w wr)) (fun p _ => a.length - (intOf p).toNat)
  case atStart => exact ⟨0, Nat.zero_le _, rfl, Lib.hid rfl, Lib.hid (Below.refl _ _)⟩
  case round =>
    obtain ⟨k, hk, rfl, HT, HW⟩ := hrel
    by_cases hlt : k < a.length
    case neg =>
      have hkk : k = a.length := by omega
      have HE : Hid (decide (a = b) = true) := Lib.hid (decide_eq_true (by
        have h := HT.out
        have h2 := HLL.out
        rw [hkk, List.take_length, h2, List.take_length] at h
        exact h))
      subst hkk
      go_wp2_with fail
      go_ret
      exact ⟨by rw [HE.out]; rfl, HW.out⟩
    case pos =>
      have hltb : k < b.length := by have := HLL.out; omega
      obtain ⟨ab, ao, rfl, hab, c0, c1, c2, c3⟩ := HA.out.get (List.getElem?_eq_getElem hlt)
      obtain ⟨bb, bo, rfl, hbb, d0, d1, d2, d3⟩ := HB.out.get (List.getElem?_eq_getElem hltb)
      have c0 := (HW.out.cell (p := ⟨ab, ao + k * 4, none⟩) hab).trans c0
      have c1 := (HW.out.cell (p := ⟨ab, ao + k * 4 + 1, none⟩) hab).trans c1
      have c2 := (HW.out.cell (p := ⟨ab, ao + k * 4 + 2, none⟩) hab).trans c2
      have c3 := (HW.out.cell (p := ⟨ab, ao + k * 4 + 3, none⟩) hab).trans c3
      have d0 := (HW.out.cell (p := ⟨bb, bo + k * 4, none⟩) hbb).trans d0
      have d1 := (HW.out.cell (p := ⟨bb, bo + k * 4 + 1, none⟩) hbb).trans d1
      have d2 := (HW.out.cell (p := ⟨bb, bo + k * 4 + 2, none⟩) hbb).trans d2
      have d3 := (HW.out.cell (p := ⟨bb, bo + k * 4 + 3, none⟩) hbb).trans d3
      have HTA : Hid (a.take (k + 1) = a.take k ++ [a[k]]) := Lib.hid (List.take_succ_eq_append_getElem hlt)
      have HTB : Hid (b.take (k + 1) = b.take k ++ [b[k]]) := Lib.hid (List.take_succ_eq_append_getElem hltb)
      have HNE : Hid (a[k] ≠ b[k] → decide (a = b) = false) := Lib.hid (fun h => decide_eq_false (take_neS hlt hltb h))
      have hk1 : (0 : Int) ≤ (k : Int) := Int.natCast_nonneg k
      have hk2 : (k : Int) < (a.length : Int) := Int.ofNat_lt.2 hlt
      have hk3 : (k : Int) < (b.length : Int) := Int.ofNat_lt.2 hltb
      generalize a[k] = x at *
      generalize b[k] = y at *
      have hq1 : ∀ W, (binOp .neq 43 (.agg #[.string x.1, .int .i64 x.2.1, .int .i64 x.2.2.1, .int .i64 x.2.2.2]) (.agg #[.string y.1, .int .i64 y.2.1, .int .i64 y.2.2.1, .int .i64 y.2.2.2])).run Tryz.prog W = .ok (.bool (!decide (x = y))) W := fun W => sel_neq.1 x y W
      by_cases hxy : x = y
      case pos =>
        have HT2 : Hid (a.take (k + 1) = b.take (k + 1)) := Lib.hid (by rw [HTA.out, HTB.out, HT.out, hxy])
        rw [decide_eq_true hxy, Bool.not_true] at hq1
        clear hxy
        go_wp2_with fail
        go_quiet (fail)
        have HWQ := Lib.hid (below_drewNV HW.out nq)
        go_wp2_with fail
        all_goals
          refine ⟨⟨k + 1, hlt, by go_num, HT2, HWQ⟩, ?_⟩
          simp [intOf]; omega
      case neg =>
        have HD := Lib.hid (HNE.out hxy)
        rw [decide_eq_false hxy, Bool.not_false] at hq1
        clear hxy
        go_wp2_with fail
        go_quiet (fail)
        have HWQ := Lib.hid (below_drewNV HW.out nq)
        go_wp2_with fail
        all_goals
          go_ret
          exact ⟨by rw [HD.out]; rfl, HWQ.out⟩
structure SelBB (w : World) (v iv : Value) (y : SelL) (W : World) : Prop where
  bel : Below w.heap.size w W
  idx : W.heap[w.heap.size]? = some (.cells #[v, iv] 25 (0, 0))
  sel : W.heap[w.heap.size + 1]? = some (.cells #[.string y.1, intC y.2.1, intC y.2.2.1, intC y.2.2.2] 43 (0, 0))
theorem SelBB.lt {w : World} {v iv : Value} {y : SelL} {W : World} (h : SelBB w v iv y W) : w.heap.size + 1 < W.heap.size := (Array.getElem?_eq_some_iff.1 h.sel).1
theorem SelBB.below {w : World} {v iv : Value} {y : SelL} {W W' : World} (h : SelBB w v iv y W) (hb : Below W.heap.size W W') : SelBB w v iv y W' := by
  have hl := h.lt
  exact ⟨h.bel.trans (hb.mono h.bel.size), (hb.block _ (by omega)).trans h.idx, (hb.block _ hl).trans h.sel⟩
theorem SelBB.start (w : World) (v iv : Value) (y : SelL) : SelBB w v iv y ((w.alloc (.cells #[v, iv] 25)).alloc (.cells #[.string y.1, intC y.2.1, intC y.2.2.1, intC y.2.2.2] 43)) := by
  have hget : ∀ (w : World) (o : Obj) (k : Nat), (w.alloc o).heap[k]? = if k = w.heap.size then some o else w.heap[k]? := fun w o k => by
    show (w.heap.push o)[k]? = _
    rw [Array.getElem?_push]
  refine ⟨(by repeat (first | exact Below.refl _ _ | refine Below.drew ?_ | refine Below.alloc ?_ (by simp <;> omega) _ | refine Below.setCell ?_ (by simp <;> omega) _)), ?_, ?_⟩
  · simp only [hget, World.size_alloc]; repeat (first | rw [if_pos trivial] | rw [if_neg (by omega)] | rw [if_pos (by omega)])
  · simp only [hget, World.size_alloc]; repeat (first | rw [if_pos trivial] | rw [if_neg (by omega)] | rw [if_pos (by omega)])
theorem SelBB.c0 {w : World} {v iv : Value} {y : SelL} {W : World} (h : SelBB w v iv y W) : W.cell? ⟨w.heap.size, 0, none⟩ = some v := cell_of_row _ _ 0 _ _ _ h.idx
theorem SelBB.c1 {w : World} {v iv : Value} {y : SelL} {W : World} (h : SelBB w v iv y W) : W.cell? ⟨w.heap.size, 1, none⟩ = some iv := cell_of_row _ _ 1 _ _ _ h.idx
theorem SelBB.y0 {w : World} {v iv : Value} {y : SelL} {W : World} (h : SelBB w v iv y W) : W.cell? ⟨w.heap.size + 1, 0, none⟩ = some (.string y.1) := cell_of_row _ _ 0 _ _ _ h.sel
theorem SelBB.y1 {w : World} {v iv : Value} {y : SelL} {W : World} (h : SelBB w v iv y W) : W.cell? ⟨w.heap.size + 1, 1, none⟩ = some (intC y.2.1) := cell_of_row _ _ 1 _ _ _ h.sel
theorem SelBB.y2 {w : World} {v iv : Value} {y : SelL} {W : World} (h : SelBB w v iv y W) : W.cell? ⟨w.heap.size + 1, 2, none⟩ = some (intC y.2.2.1) := cell_of_row _ _ 2 _ _ _ h.sel
theorem SelBB.y3 {w : World} {v iv : Value} {y : SelL} {W : World} (h : SelBB w v iv y W) : W.cell? ⟨w.heap.size + 1, 3, none⟩ = some (intC y.2.2.2) := cell_of_row _ _ 3 _ _ _ h.sel
theorem look_hit {X : List RelL} {y : SelL} {k : Nat} (hk : k < X.length) (h : ∀ j, j < k → keyL (X.getD j default) ≠ y) (he : keyL (X.getD k default) = y) : lookK X X.length y = some k := by
  unfold lookK
  have hr : (List.range X.length)[k]? = some k := by simp [hk]
  have hkl : k < (List.range X.length).length := by simpa using hk
  have := find_at (p := fun i => decide (keyL (X.getD i default) = y)) (l := List.range X.length) hkl (fun x hx => ?_) (by simpa using he)
  · rw [this]; simp
  · obtain ⟨j, hj, rfl⟩ := List.mem_iff_getElem.1 hx
    rw [List.length_take] at hj
    simp only [List.getElem_take, List.getElem_range]
    exact decide_eq_false (h j (by omega))
theorem look_miss {X : List RelL} {y : SelL} (h : ∀ j, j < X.length → keyL (X.getD j default) ≠ y) : lookK X X.length y = none := by
  unfold lookK
  rw [List.find?_eq_none]
  intro j hj
  have := h j (List.mem_range.1 hj)
  simpa using this
set_option maxRecDepth 100000 in
set_option maxHeartbeats 8000000 in
theorem rposition_any (v iv : Value) (X : List RelL) (y : SelL) (w : World) (hX : X.length ≤ 1000000) (hR0 : RelsOf w.heap.size v X w) :
    Calls Tryz.prog 60 #[.agg #[v, iv], .agg #[.string y.1, intC y.2.1, intC y.2.2.1, intC y.2.2.2]] w fun e w' => e = .returned (.int .i64 (optI (lookK X X.length y))) ∧ Below w.heap.size w w' := by
  obtain ⟨ao, cap, rv, rfl, hrv⟩ := hR0.rv
  have HR := Lib.hid hrv
  clear hR0 hrv
  obtain ⟨o, ho⟩ : ∃ o, optI (lookK X X.length y) = o := ⟨_, rfl⟩
  have HO := Lib.hid ho
  rw [ho]
  clear ho
  have HB0 := Lib.hid (SelBB.start w (.slice ao X.length cap) iv y)
  go_enter Tryz.func60, Tryz.ntmps60
  go_upto_region 1 with fail
  generalize (w.alloc (.cells #[.slice ao X.length cap, iv] 25)).alloc (.cells #[.string y.1, intC y.2.1, intC y.2.2.1, intC y.2.2.2] 43) = W at *
  go_wp2_with fail
  go_loopw [5] (fun p wr => Hid (∃ k : Nat, k ≤ X.length ∧ p = .int .i64 (k : Int) ∧ SelBB w (.slice ao X.length cap) iv y wr ∧ ∀ j, j < k → keyL (X.getD j default) ≠ y)) (fun p _ => X.length - (intOf p).toNat)
  case atStart => exact Lib.hid ⟨0, Nat.zero_le _, rfl, HB0.out, fun j hj => absurd hj (Nat.not_lt_zero _)⟩
  case round =>
    obtain ⟨k, hk, rfl, hb, hn⟩ := hrel.out
    have HB := Lib.hid hb
    have HN := Lib.hid hn
    clear hrel hb hn HB0
    have c0 := HB.out.c0
    by_cases hlk : k < X.length
    case neg =>
      have hkk : k = X.length := Nat.le_antisymm hk (Nat.le_of_not_lt hlk)
      subst hkk
      have HM : Hid (o = -1) := Lib.hid (by rw [← HO.out, look_miss HN.out]; rfl)
      go_wp2_with fail
      go_ret
      exact ⟨by rw [HM.out]; rfl, HB.out.bel⟩
    case pos =>
      obtain ⟨b, off, e1, hbl, hcs, _⟩ := HR.out k _ (List.getElem?_eq_getElem hlk)
      subst e1
      have hg : X.getD k default = X[k] := by rw [List.getD_eq_getElem?_getD, List.getElem?_eq_getElem hlk]; rfl
      have HHIT : Hid (keyL X[k] = y → o = (k : Int)) := Lib.hid (fun h => by rw [← HO.out, look_hit hlk HN.out (by rw [hg]; exact h)]; rfl)
      have HMISS : Hid (keyL X[k] ≠ y → ∀ j, j < k + 1 → keyL (X.getD j default) ≠ y) := Lib.hid (fun h j hj => by
        rcases Nat.lt_or_eq_of_le (Nat.le_of_lt_succ hj) with h1 | rfl
        · exact HN.out j h1
        · rw [hg]; exact h)
      have hcs := hcs.below HB.out.bel hbl
      generalize X[k] = x at *
      generalize rv k = r at *
      obtain ⟨d0, d1, d2, d3, _⟩ := hcs
      have y0 := HB.out.y0
      have y1 := HB.out.y1
      have y2 := HB.out.y2
      have y3 := HB.out.y3
      have hk1 : (0 : Int) ≤ (k : Int) := Int.natCast_nonneg k
      have hk2 : (k : Int) < (X.length : Int) := Int.ofNat_lt.2 hlk
      have hve : ∀ W, (binOp .eql 41 (.agg #[intC x.ver.1, intC x.ver.2.1, intC x.ver.2.2]) (.agg #[intC y.2.1, intC y.2.2.1, intC y.2.2.2])).run Tryz.prog W = .ok (.bool (decide (x.ver = y.2))) W := fun W => by
        rw [ver_eql]
        congr 2
        by_cases h1 : x.ver.1 = y.2.1 <;> by_cases h2 : x.ver.2.1 = y.2.2.1 <;> by_cases h3 : x.ver.2.2 = y.2.2.2 <;> simp [h1, h2, h3, Prod.ext_iff]
      clear hg
      by_cases hp : x.path = y.1
      case neg =>
        have hpb : (x.path.toList == y.1.toList) = false := by rw [eqs_dec]; exact decide_eq_false hp
        have HN2 := Lib.hid (HMISS.out (fun e => hp (congrArg (·.1) e)))
        clear hp
        go_wp2_with fail
        go_quiet (fail)
        have HBQ := Lib.hid (HB.out.below (below_drewNV (Below.refl _ _) nq))
        go_wp2_with fail
        all_goals
          refine ⟨Lib.hid ⟨k + 1, hlk, by go_num, HBQ.out, HN2.out⟩, ?_⟩
          simp [intOf]; omega
      case pos =>
        have hpb : (x.path.toList == y.1.toList) = true := by rw [eqs_dec]; exact decide_eq_true hp
        by_cases hvv : x.ver = y.2
        case neg =>
          have HN2 := Lib.hid (HMISS.out (fun e => hvv (congrArg (·.2) e)))
          rw [decide_eq_false hvv] at hve
          clear hp hvv
          go_wp2_with fail
          go_quiet (fail)
          have HBQ := Lib.hid (HB.out.below (below_drewNV (Below.refl _ _) nq))
          go_wp2_with fail
          all_goals
            refine ⟨Lib.hid ⟨k + 1, hlk, by go_num, HBQ.out, HN2.out⟩, ?_⟩
            simp [intOf]; omega
        case pos =>
          have HOK := Lib.hid (HHIT.out (Prod.ext hp hvv))
          rw [decide_eq_true hvv] at hve
          clear hp hvv
          go_wp2_with fail
          go_quiet (fail)
          have HBQ := Lib.hid (HB.out.below (below_drewNV (Below.refl _ _) nq))
          go_wp2_with fail
          all_goals
            go_ret
            exact ⟨by rw [HOK.out]; rfl, HBQ.out.bel⟩
end Go.Proofs.YtenfkejbndifdaaGreatDoor

namespace Go.Proofs.YtenfkejbndifdaaGreatDoor
set_option linter.unusedVariables false
set_option linter.unusedSimpArgs false
open Go Go.RowKit

def namesQ (X : List RelL) (s : SelL) (q : ReqL) : Bool := match namedI false X q with
  | some k => decide (keyL (X.getD k default) = s)
  | none => false
def namesB (X : List RelL) (l : List ReqL) (s : SelL) : Bool := l.any (namesQ X s)
def HeldNs (g b o : Nat) (v iv : Value) (q : ReqL) (rq : Value) (W : World) : Prop := (W.cell? ⟨g, 0, none⟩ = some v ∧ W.cell? ⟨g, 1, none⟩ = some iv) ∧ W.cell? ⟨b, o, none⟩ = some (.string q.1) ∧ W.cell? ⟨b, o + 1, none⟩ = some rq
set_option maxRecDepth 100000 in
set_option maxHeartbeats 16000000 in
theorem rnames_any (v iv lv : Value) (X : List RelL) (l : List ReqL) (y : SelL) (w : World) (hX : X.length ≤ 1000000) (hv : ∀ x ∈ X, validB x.ver.1 x.ver.2.1 x.ver.2.2 = true) (hR : RelsOf w.heap.size v X w) (hl : l.length ≤ 1000000) (hq : ∀ q ∈ l, q.2.length ≤ 1000000) (hL : ReqsOf w.heap.size lv l w) :
    Calls Tryz.prog 67 #[.agg #[v, iv], lv, .agg #[.string y.1, intC y.2.1, intC y.2.2.1, intC y.2.2.2]] w fun e w' => e = .returned (.bool (namesB X l y)) ∧ Below w.heap.size w w' := by
  have HNM := Lib.hid (fun W (q : ReqL) rq (hb : Below w.heap.size w W) (hl : q.2.length ≤ 1000000) (hQ : SpansOf W.heap.size rq q.2 W) => rnamed_any false v iv X q rq W hX hv (hR.on hb) hl hQ)
  obtain ⟨ao, cap, rv, rfl, hrv⟩ := hR.rv
  have HRV := Lib.hid hrv
  have HL := Lib.hid hL
  have HQ := Lib.hid hq
  obtain ⟨la, lc, rfl⟩ : ∃ la lc, lv = .slice la l.length lc := by obtain ⟨a, c, e, _⟩ := hL; exact ⟨a, c, e⟩
  obtain ⟨R, hRes⟩ : ∃ R, namesB X l y = R := ⟨_, rfl⟩
  have HRES := Lib.hid hRes
  rw [hRes]
  clear hR hrv hL hq hRes hv
  have HB0 := Lib.hid (SelBB.start w (.slice ao X.length cap) iv y)
  go_enter Tryz.func67, Tryz.ntmps67
  go_upto_region 1 with fail
  generalize (w.alloc (.cells #[.slice ao X.length cap, iv] 25)).alloc (.cells #[.string y.1, intC y.2.1, intC y.2.2.1, intC y.2.2.2] 43) = W at *
  go_wp2_with fail
  go_loopw [7] (fun p wr => Hid (∃ i : Nat, i ≤ l.length ∧ p = .int .i64 (i : Int) ∧ SelBB w (.slice ao X.length cap) iv y wr ∧ ∀ q ∈ l.take i, namesQ X y q = false)) (fun p _ => l.length - (intOf p).toNat)
  case atStart => exact Lib.hid ⟨0, Nat.zero_le _, rfl, HB0.out, fun q hq => by simp at hq⟩
  case round =>
    obtain ⟨i, hi, rfl, hb, hn⟩ := hrel.out
    have HB := Lib.hid hb
    have HN := Lib.hid hn
    clear hrel hb hn HB0
    by_cases hlt : i < l.length
    case neg =>
      have hii : i = l.length := Nat.le_antisymm hi (Nat.le_of_not_lt hlt)
      subst hii
      have HM : Hid (R = false) := Lib.hid (by
        rw [← HRES.out]
        have h := HN.out
        rw [List.take_length] at h
        exact List.any_eq_false.2 fun q hq e => by rw [h q hq] at e; cases e)
      go_wp2_with fail
      go_ret
      exact ⟨by rw [HM.out]; rfl, HB.out.bel⟩
    case pos =>
      obtain ⟨qb, qo, rq, e1, hqb, q0, q1, hsp⟩ : ∃ qb qo rq, la = some ⟨qb, qo, none⟩ ∧ qb < w.heap.size ∧ w.cell? ⟨qb, qo + i * 2, none⟩ = some (.string l[i].1) ∧ w.cell? ⟨qb, qo + i * 2 + 1, none⟩ = some rq ∧ SpansOf w.heap.size rq l[i].2 w := by
        obtain ⟨a, c, e, h⟩ := HL.out
        injection e with e1 e2 e3
        subst e1
        exact h i _ (List.getElem?_eq_getElem hlt)
      subst e1
      have hql := HQ.out _ (List.getElem_mem hlt)
      have HYES : Hid (namesQ X y l[i] = true → R = true) := Lib.hid (fun h => by rw [← HRES.out]; exact List.any_eq_true.2 ⟨_, List.getElem_mem hlt, h⟩)
      have HNOT : Hid (namesQ X y l[i] = false → ∀ q ∈ l.take (i + 1), namesQ X y q = false) := Lib.hid (fun h q hq => by
        rw [List.take_succ_eq_append_getElem hlt] at hq
        rcases List.mem_append.1 hq with h1 | h1
        · exact HN.out q h1
        · rw [List.mem_singleton.1 h1]; exact h)
      have hi0 : (0 : Int) ≤ (i : Int) := Int.natCast_nonneg i
      have hi1 : (i : Int) < (l.length : Int) := Int.ofNat_lt.2 hlt
      generalize l[i] = q at *
      have hwq : qb < wr.heap.size := Nat.lt_of_lt_of_le hqb HB.out.bel.size
      have HSB : Hid (∀ W', Below wr.heap.size wr W' → HeldNs w.heap.size qb (qo + i * 2) (.slice ao X.length cap) iv q rq W') := Lib.hid (fun W' hb => ⟨⟨(HB.out.below hb).c0, (HB.out.below hb).c1⟩, ((HB.out.bel.trans (hb.mono HB.out.bel.size)).cell (p := ⟨qb, qo + i * 2, none⟩) hqb).trans q0, ((HB.out.bel.trans (hb.mono HB.out.bel.size)).cell (p := ⟨qb, qo + i * 2 + 1, none⟩) hqb).trans q1⟩)
      have HNQ := Lib.hid (fun W' (hb : Below wr.heap.size wr W') => HNM.out W' q rq (HB.out.bel.trans (hb.mono HB.out.bel.size)) hql (hsp.on (HB.out.bel.trans (hb.mono HB.out.bel.size))))
      obtain ⟨qa, qc, rfl⟩ : ∃ a c, rq = .slice a q.2.length c := by obtain ⟨a, c, e, _⟩ := hsp; exact ⟨a, c, e⟩
      clear q0 q1 hsp
      go_upto_region 4 with fail
      refine wp_region_noPanic ?_
      refine wp_region_held_drew (S := HeldNs w.heap.size qb (qo + i * 2) (.slice ao X.length cap) iv q (.slice qa q.2.length qc)) (by kernel_rfl) (HSB.out _ (Below.refl _ _).drew) (fun hS0 => ?_)
      (refine zl2 (i := 0) (v := ?_) rfl (Or.inl ⟨by rfl, ?_⟩) (by assumption) ?_; rotate_left; (· (rintro w ⟨⟨c0, c1⟩, q0, q1⟩; go_simp; try with_reducible rfl)); (try simp only [zl1, Act.put]))
      (refine zl2 (i := 1) (v := ?_) rfl (Or.inl ⟨by rfl, ?_⟩) (by assumption) ?_; rotate_left; (· (rintro w ⟨⟨c0, c1⟩, q0, q1⟩; go_simp; try with_reducible rfl)); (try simp only [zl1, Act.put]))
      (refine zl2 (i := 2) (v := ?_) rfl (Or.inl ⟨by rfl, ?_⟩) (by assumption) ?_; rotate_left; (· (rintro w ⟨⟨c0, c1⟩, q0, q1⟩; go_simp; try with_reducible rfl)); (try simp only [zl1, Act.put]))
      (refine zl2 (i := 3) (v := ?_) rfl (Or.inl ⟨by rfl, ?_⟩) (by assumption) ?_; rotate_left; (· (rintro w ⟨⟨c0, c1⟩, q0, q1⟩; go_simp; try with_reducible rfl)); (try simp only [zl1, Act.put]))
      (refine zl2 (i := 4) (v := ?_) rfl (Or.inl ⟨by rfl, ?_⟩) (by assumption) ?_; rotate_left; (· (rintro w ⟨⟨c0, c1⟩, q0, q1⟩; go_simp; try with_reducible rfl)); (try simp only [zl1, Act.put]))
      refine wpAnyH_ready (rs := [5]) (by kernel_rfl) (by simp) (AllReadyH.cons rfl (fun K hK => ?_) AllReadyH.nil)
      go_simp
      refine (HNQ.out _ (Below.refl wr.heap.size wr).drew).mono ?_
      rintro e w1 ⟨rfl, hb1⟩
      have HB1 := Lib.hid ((Below.refl wr.heap.size wr).drew.trans hb1)
      clear hS0
      have hS0 := HSB.out _ HB1.out
      refine hK.out _ _ hS0 (fun _ => ?_)
      clear hK K hb1
      (try simp only [zl1, Act.put])
      (refine zl2 (i := 6) (v := ?_) rfl (Or.inl ⟨by rfl, ?_⟩) (by assumption) ?_; rotate_left; (· (rintro w ⟨⟨c0, c1⟩, q0, q1⟩; go_simp; try with_reducible rfl)); (try simp only [zl1, Act.put]))
      refine wpAnyH_done (by kernel_rfl) ?_ _
      refine NoPanic.normal ?_
      have HB2 := Lib.hid (HB.out.below HB1.out)
      clear HSB HNQ HB1 hS0 HB
      cases hn : namedI false X q with
      | none =>
        have HN2 := Lib.hid (HNOT.out (by unfold namesQ; rw [hn]))
        have hd : decide ((0 : Int) ≤ -1) = false := by decide
        simp only [optI]
        clear hn
        go_wp2_with fail
        go_quiet (fail)
        have HB3 := Lib.hid (HB2.out.below (below_drewNV (Below.refl _ _) nq))
        go_wp2_with fail
        all_goals
          refine ⟨Lib.hid ⟨i + 1, hlt, by go_num, HB3.out, HN2.out⟩, ?_⟩
          simp [intOf]; omega
      | some k =>
        have hkX := (candI_mem.1 (named_mem hn)).1
        have hnq : namesQ X y q = decide (keyL (X.getD k default) = y) := by unfold namesQ; rw [hn]
        rw [hnq] at HYES HNOT
        obtain ⟨b, off, e1, hbl, hcs, _⟩ := HRV.out k _ (List.getElem?_eq_getElem hkX)
        subst e1
        have hg : X.getD k default = X[k] := by rw [List.getD_eq_getElem?_getD, List.getElem?_eq_getElem hkX]; rfl
        rw [hg] at HYES HNOT
        have hcs := hcs.below HB2.out.bel hbl
        generalize X[k] = x at *
        obtain ⟨d0, d1, d2, d3, _⟩ := hcs
        have c0 := HB2.out.c0
        have y0 := HB2.out.y0
        have y1 := HB2.out.y1
        have y2 := HB2.out.y2
        have y3 := HB2.out.y3
        have hk0 : (0 : Int) ≤ (k : Int) := Int.natCast_nonneg k
        have hk1 : (k : Int) < (X.length : Int) := Int.ofNat_lt.2 hkX
        have hkd : decide ((0 : Int) ≤ (k : Int)) = true := decide_eq_true hk0
        have hve : ∀ W, (binOp .eql 41 (.agg #[intC x.ver.1, intC x.ver.2.1, intC x.ver.2.2]) (.agg #[intC y.2.1, intC y.2.2.1, intC y.2.2.2])).run Tryz.prog W = .ok (.bool (decide (x.ver = y.2))) W := fun W => by
          rw [ver_eql]
          congr 2
          by_cases h1 : x.ver.1 = y.2.1 <;> by_cases h2 : x.ver.2.1 = y.2.2.1 <;> by_cases h3 : x.ver.2.2 = y.2.2.2 <;> simp [h1, h2, h3, Prod.ext_iff]
        simp only [optI]
        clear hn hnq hg
        by_cases hp : x.path = y.1
        case neg =>
          have hpb : (x.path.toList == y.1.toList) = false := by rw [eqs_dec]; exact decide_eq_false hp
          have HN2 := Lib.hid (HNOT.out (decide_eq_false (fun e => hp (congrArg (·.1) e))))
          clear hp HYES HNOT
          go_wp2_with fail
          go_quiet (fail)
          have HB3 := Lib.hid (HB2.out.below (below_drewNV (Below.refl _ _) nq))
          go_wp2_with fail
          all_goals
            refine ⟨Lib.hid ⟨i + 1, hlt, by go_num, HB3.out, HN2.out⟩, ?_⟩
            simp [intOf]; omega
        case pos =>
          have hpb : (x.path.toList == y.1.toList) = true := by rw [eqs_dec]; exact decide_eq_true hp
          by_cases hvv : x.ver = y.2
          case neg =>
            have HN2 := Lib.hid (HNOT.out (decide_eq_false (fun e => hvv (congrArg (·.2) e))))
            rw [decide_eq_false hvv] at hve
            clear hp hvv HYES HNOT
            go_wp2_with fail
            go_quiet (fail)
            have HB3 := Lib.hid (HB2.out.below (below_drewNV (Below.refl _ _) nq))
            go_wp2_with fail
            all_goals
              refine ⟨Lib.hid ⟨i + 1, hlt, by go_num, HB3.out, HN2.out⟩, ?_⟩
              simp [intOf]; omega
          case pos =>
            have HY2 := Lib.hid (HYES.out (decide_eq_true (Prod.ext hp hvv)))
            rw [decide_eq_true hvv] at hve
            clear hp hvv HYES HNOT
            go_wp2_with fail
            go_quiet (fail)
            have HB3 := Lib.hid (HB2.out.below (below_drewNV (Below.refl _ _) nq))
            go_wp2_with fail
            all_goals
              go_ret
              exact ⟨by rw [HY2.out]; rfl, HB3.out.bel⟩
end Go.Proofs.YtenfkejbndifdaaGreatDoor
