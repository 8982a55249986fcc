/- Small facts for the graph reference. Contracts of the reference 34: releases. The cause of a path, plain: what the reference's Why collects. Contracts of the reference's Few and Valid. Contracts of the reference's exist, marks, list, Reach. Contracts of the reference's marks, list, Reach. Contracts of the reference's list and Reach. Graphs, plain: the reference's distances are the same. -/
import Derived.Test.YtenfkejbndifdaaGreatDoorYP
import Derived.Test.YtenfkejbndifdaaGreatDoorYF
import Derived.Test.YtenfkejbndifdaaGreatDoorYM
import Derived.Test.YtenfkejbndifdaaGreatDoorYL
import Derived.Test.YtenfkejbndifdaaGreatDoorZH
import Derived.Test.YtenfkejbndifdaaGreatDoorZI
import Derived.Test.YtenfkejbndifdaaGreatDoorYT
namespace Go.Proofs.YtenfkejbndifdaaGreatDoor
set_option linter.unusedVariables false
set_option linter.unusedSimpArgs false
open Go Go.RowKit

theorem bel_alloc (w : World) (o : Obj) : Below w.heap.size w (w.alloc o) := (Below.refl _ _).alloc (Nat.le_refl _) o
theorem alloc_get (w : World) (o : Obj) (k : Nat) : (w.alloc o).heap[k]? = if k = w.heap.size then some o else w.heap[k]? := by
  show (w.heap.push o)[k]? = _
  rw [Array.getElem?_push]
theorem row_lit {W : World} {b c : Nat} {l : List Nat} (h : W.heap[b]? = some (.cells (l.map natC).toArray 3 (0, 0))) : RowOf intC W.heap.size (.slice (some ⟨b, 0, none⟩) l.length c) (l.map fun n : Nat => (n : Int)) W := by
  refine .inr ⟨b, 0, c, by rw [List.length_map], (Array.getElem?_eq_some_iff.1 h).1, fun j x hx => ?_⟩
  rw [Nat.zero_add, cell_of_row _ _ _ _ _ _ h]
  rw [List.getElem?_map] at hx
  cases e : l[j]? with
  | none => rw [e] at hx; cases hx
  | some y => rw [e] at hx; cases hx; simp [e]
abbrev bD (d : List Bool) (a : Nat) : Bool := d.getD a false
def marked (l : List Bool) : List Nat := (List.range l.length).filter fun i => l.getD i false
def ReachS (N : Nat) (es : List (Int × Int)) (from_ : List Int) (l : List Nat) : Prop := l.Pairwise (· < ·) ∧ ∀ k, k ∈ l ↔ k < N ∧ ∃ a : Nat, (a : Int) ∈ from_ ∧ Rch (sucs N es) a k
def Flags (W : World) (g : Nat) (l : List Bool) : Prop := W.heap[g]? = some (.cells (l.map Value.bool).toArray 4 (0, 0))
theorem gD_get {d : List Int} {a : Nat} (h : a < d.length) : d[a]? = some (gD d a) := by
  unfold gD
  rw [List.getD_eq_getElem?_getD, List.getElem?_eq_getElem h]
  rfl
def vlen : Value → Nat
  | .slice _ n _ => n
  | _ => 0
theorem vlen_own {W : World} {B e s n : Nat} {v : Value} {xs : List Value} (h : W.ownsRow B e s v n xs) : vlen v = n := by
  obtain ⟨a, c, rfl⟩ := own_any h
  rfl
end Go.Proofs.YtenfkejbndifdaaGreatDoor

namespace Go.Proofs.YtenfkejbndifdaaGreatDoor
set_option linter.unusedVariables false
set_option linter.unusedSimpArgs false
open Go Go.RowKit

theorem info_strsR : (Tryz.prog.info? 9).map (fun i => (i.zero, i.size, i.bytes)) = some (some (Value.string ⟨#[]⟩), 1, 16) := by kernel_rfl
theorem make_strsR (n : Nat) (hn : n ≤ 1000000) (w : World) : (Instr.makeSlice 97 (.int .i64 (n : Int)) (.int .i64 (n : Int))).run Tryz.prog w = .ok (.slice (some ⟨w.heap.size, 0, none⟩) n n) (w.alloc (.cells (Array.replicate n (.string ⟨#[]⟩)) 9)) := by
  have h := run_make_row' (P := Tryz.prog) 97 9 (.string ⟨#[]⟩) 16 Tryz.underlying97 info_strsR rfl .i64 .i64 n (by omega) (by omega) w
  rw [h, made_rep]
def relK (X : List RelL) (i : Nat) : List (Int × Int) := (List.range i).flatMap fun i => (X.getD i default).reqs.filterMap fun q => (namedI false X q).map fun (k : Nat) => ((i : Int), (k : Int))
def relEd (X : List RelL) (l : List ReqL) (i k : Nat) : List (Int × Int) := (l.take k).filterMap fun q => (namedI false X q).map fun (m : Nat) => ((i : Int), (m : Int))
theorem relK_all (X : List RelL) : relK X X.length = relEs X := rfl
theorem relK_succ (X : List RelL) (i : Nat) : relK X (i + 1) = relK X i ++ relEd X (X.getD i default).reqs i (X.getD i default).reqs.length := by
  unfold relK relEd
  rw [List.range_succ, List.flatMap_append, List.take_length]
  simp
theorem relEd_no {X : List RelL} {l : List ReqL} {i k : Nat} (hk : k < l.length) (h : namedI false X l[k] = none) : relEd X l i (k + 1) = relEd X l i k := by
  unfold relEd
  rw [List.take_succ_eq_append_getElem hk, List.filterMap_append]
  simp [h]
theorem relEd_yes {X : List RelL} {l : List ReqL} {i k m : Nat} (hk : k < l.length) (h : namedI false X l[k] = some m) : relEd X l i (k + 1) = relEd X l i k ++ [((i : Int), (m : Int))] := by
  unfold relEd
  rw [List.take_succ_eq_append_getElem hk, List.filterMap_append]
  simp [h]
theorem relEd_len (X : List RelL) (l : List ReqL) (i k : Nat) : (relEd X l i k).length ≤ k := Nat.le_trans (List.length_filterMap_le _ _) (by rw [List.length_take]; omega)
theorem relK_len {X : List RelL} (hq : ∀ x ∈ X, x.reqs.length ≤ 1000000) : ∀ i, i ≤ X.length → (relK X i).length ≤ i * 1000000
  | 0, _ => Nat.le_refl _
  | i + 1, hi => by
    rw [relK_succ, List.length_append]
    have h1 := relK_len hq i (by omega)
    have h2 := relEd_len X (X.getD i default).reqs i (X.getD i default).reqs.length
    have h3 := hq X[i] (List.getElem_mem (by omega))
    have h4 : X.getD i default = X[i] := by rw [List.getD_eq_getElem?_getD, List.getElem?_eq_getElem (by omega)]; rfl
    rw [h4] at h2 ⊢
    omega
structure RelG (w : World) (v iv sv : Value) (g : Nat) (es : List (Int × Int)) (ev : Value) (W : World) : Prop where
  bel : Below w.heap.size w W
  lo : w.heap.size + 1 < g
  idx : W.heap[w.heap.size]? = some (.cells #[v, iv] 25 (0, 0))
  res : W.heap[w.heap.size + 1]? = some (.cells #[.slice none 0 0, .slice none 0 0] 100 (0, 0))
  out : W.heap[g]? = some (.cells #[sv, ev] 100 (0, 0))
  edges : W.ownsRow (g + 1) 149 2 ev es.length (edgeCells es)
section
variable {w : World} {v iv sv : Value} {g : Nat} {es : List (Int × Int)} {ev : Value} {W : World}
theorem RelG.lt (h : RelG w v iv sv g es ev W) : g < W.heap.size := (Array.getElem?_eq_some_iff.1 h.out).1
theorem RelG.below {W' : World} (h : RelG w v iv sv g es ev W) (hb : Below W.heap.size W W') : RelG w v iv sv g es ev W' := by
  have h1 := h.lt
  have h2 := h.lo
  exact ⟨h.bel.trans (hb.mono h.bel.size), h.lo, (hb.block _ (by omega)).trans h.idx, (hb.block _ (by omega)).trans h.res, (hb.block g h.lt).trans h.out, own_on h.edges hb⟩
theorem RelG.keep {W6 : World} (h : RelG w v iv sv g es ev W) (hg : W.grownBy W6 ev.ownBlock) : W6.heap[g]? = some (.cells #[sv, ev] 100 (0, 0)) ∧ Below w.heap.size W W6 := by
  have h1 := h.lt
  have h2 := h.lo
  have lo : ∀ b, some b = ev.ownBlock → g < b := fun b hb => (own_lo h.edges b hb.symm).1
  exact ⟨(hg.block g h.lt (fun e => by have := lo _ e; omega)).trans h.out, (Below.refl _ _).grown hg h.bel.size (fun b hb => by have := lo b hb.symm; omega)⟩
theorem RelG.edge {W6 : World} {ev' : Value} {x : Int × Int} (h : RelG w v iv sv g es ev W) (hown : W6.ownsRow (g + 1) 149 2 ev' (es.length + 1) (edgeCells es ++ [intC x.1, intC x.2])) (hg : W.grownBy W6 ev.ownBlock) : RelG w v iv sv g (es ++ [x]) ev' (W6.setCell ⟨g, 1, none⟩ ev') := by
  obtain ⟨h1, h2, h3, h4, h5, h6⟩ := h
  have hlt := (Array.getElem?_eq_some_iff.1 h5).1
  have lo : ∀ b, some b = ev.ownBlock → g < b := fun b hb => (own_lo h6 b hb.symm).1
  have g2 := grownBy_setC W6 g 1 ev'
  have hgr : W.grownBy (W6.setCell ⟨g, 1, none⟩ ev') ev.ownBlock ∨ True := .inr trivial
  have f1 : ∀ b, b < g → (W6.setCell ⟨g, 1, none⟩ ev').heap[b]? = W.heap[b]? := fun b hb => (g2.block b (by have := hg.size; omega) (fun e => by injection e with e; omega)).trans (hg.block b (by omega) (fun e => by have := lo _ e; omega))
  refine ⟨(h1.grown hg h1.size (fun b hb => by have := lo b hb.symm; omega)).setCell (by simp; omega) _, h2, (f1 _ (by omega)).trans h3, (f1 _ (by omega)).trans h4, ?_, ?_⟩
  · exact heap_setCell_same _ _ 1 _ _ ev' ((hg.block g hlt (fun e => by have := lo _ e; omega)).trans h5)
  · rw [List.length_append, List.length_singleton, edgeCells_snoc]
    exact own_farM hown g2 (by omega)
end
theorem RelG.start (w : World) (v iv sv : Value) (o : Obj) : RelG w v iv sv (w.heap.size + 1 + 1 + 1) [] (.slice none 0 0) ((((w.alloc (.cells #[v, iv] 25)).alloc (.cells #[.slice none 0 0, .slice none 0 0] 100)).alloc o).alloc (.cells #[sv, .slice none 0 0] 100)) := by
  refine ⟨(by repeat (first | exact Below.refl _ _ | refine Below.drew ?_ | refine Below.alloc ?_ (by simp <;> omega) _ | refine Below.setCell ?_ (by simp <;> omega) _)), by omega, ?_, ?_, ?_, World.ownsRow_nil _ _ _ _⟩
  · (simp only [alloc_get, World.size_alloc]; repeat (first | rw [if_pos trivial] | rw [if_neg (by omega)] | rw [if_pos (by omega)]))
  · (simp only [alloc_get, World.size_alloc]; repeat (first | rw [if_pos trivial] | rw [if_neg (by omega)] | rw [if_pos (by omega)]))
  · (simp only [alloc_get, World.size_alloc]; repeat (first | rw [if_pos trivial] | rw [if_neg (by omega)] | rw [if_pos (by omega)]))
def HeldRg (g : Nat) (v iv : Value) (b o : Nat) (rx : Value) (b2 o2 : Nat) (p rq : Value) (W : World) : Prop := (W.cell? ⟨g, 0, none⟩ = some v ∧ W.cell? ⟨g, 1, none⟩ = some iv) ∧ W.cell? ⟨b, o, none⟩ = some rx ∧ W.cell? ⟨b2, o2, none⟩ = some p ∧ W.cell? ⟨b2, o2 + 1, none⟩ = some rq
set_option maxRecDepth 100000 in
set_option maxHeartbeats 16000000 in
theorem releases_any (v iv : Value) (X : List RelL) (w : World) (hX : X.length ≤ 1000000) (hq : ∀ x ∈ X, RelBd x) (hv : ∀ x ∈ X, validB x.ver.1 x.ver.2.1 x.ver.2.2 = true) (hR : RelsOf w.heap.size v X w) :
    Calls Tryz.prog 61 #[.agg #[v, iv]] w fun e w' => ∃ a c ev, e = .returned (.agg #[.slice a X.length c, ev]) ∧ EdgesOf w'.heap.size ev (relEs X) w' ∧ Below w.heap.size w w' := by
  have HNM := Lib.hid (fun (q : ReqL) rq W (hb : Below w.heap.size w W) (hl : q.2.length ≤ 1000000) (hQ : SpansOf W.heap.size rq q.2 W) => rnamed_any false v iv X q rq W hX hv (hR.on hb) hl hQ)
  obtain ⟨ao, cap, rv, rfl, hrv⟩ := hR.rv
  have HRV := Lib.hid hrv
  have HQB := Lib.hid hq
  have hmk := make_strsR X.length hX
  have HXL : Hid (∀ x ∈ X, x.reqs.length ≤ 1000000) := Lib.hid (fun x hx => (hq x hx).len)
  clear hR hrv hq hv
  have HJ0 := Lib.hid (RelG.start w (.slice ao X.length cap) iv (.slice (some ⟨w.heap.size + 1 + 1, 0, none⟩) X.length X.length) (.cells (Array.replicate X.length (.string ⟨#[]⟩)) 9))
  obtain ⟨j0, hj0, hy0, hy1, hy2⟩ := info_parts info_edges
  go_enter Tryz.func61, Tryz.ntmps61
  go_upto_region 2 with fail
  generalize (((w.alloc (.cells #[.slice ao X.length cap, iv] 25)).alloc (.cells #[.slice none 0 0, .slice none 0 0] 100)).alloc (.cells (Array.replicate X.length (.string ⟨#[]⟩)) 9)).alloc (.cells #[.slice (some ⟨w.heap.size + 1 + 1, 0, none⟩) X.length X.length, .slice none 0 0] 100) = W at *
  clear hmk
  obtain ⟨sv, hsv⟩ : ∃ sv, Value.slice (some ⟨w.heap.size + 1 + 1, 0, none⟩) X.length X.length = sv := ⟨_, rfl⟩
  obtain ⟨g, hg⟩ : ∃ g, w.heap.size + 1 + 1 + 1 = g := ⟨_, rfl⟩
  have HSV := Lib.hid hsv
  simp only [hsv, hg] at HJ0 ⊢
  clear hsv hg
  go_wp2_with fail
  go_loopw [4] (fun p wr => Hid (∃ (i : Nat) (ev : Value), i ≤ X.length ∧ p = .int .i64 (i : Int) ∧ RelG w (.slice ao X.length cap) iv sv g (relK X i) ev wr)) (fun p _ => X.length - (intOf p).toNat)
  case atStart => exact Lib.hid ⟨0, _, Nat.zero_le _, rfl, HJ0.out⟩
  case round =>
    obtain ⟨i, ev, hi, rfl, hj⟩ := hrel.out
    have HJ := Lib.hid hj
    clear hrel hj HJ0
    have c0 : wr.cell? ⟨w.heap.size, 0, none⟩ = some (.slice ao X.length cap) := cell_of_row _ _ 0 _ _ _ HJ.out.idx
    have c1 : wr.cell? ⟨w.heap.size, 1, none⟩ = some iv := cell_of_row _ _ 1 _ _ _ HJ.out.idx
    by_cases hlt : i < X.length
    case neg =>
      have hii : i = X.length := Nat.le_antisymm hi (Nat.le_of_not_lt hlt)
      subst hii
      have HE : Hid (∀ W, wr.grownBy W (some (w.heap.size + 1)) → EdgesOf W.heap.size ev (relEs X) W) := Lib.hid (fun W hg => own_edges (own_farM HJ.out.edges hg (by have := HJ.out.lo; omega)))
      obtain ⟨ea, en, ec, rfl⟩ : ∃ ea en ec, ev = .slice ea en ec := by
        obtain ⟨hl, ⟨rfl, h0⟩ | ⟨g, cap, cur, rfl, _⟩⟩ := HJ.out.edges
        · exact ⟨_, _, _, rfl⟩
        · exact ⟨_, _, _, rfl⟩
      have hsvv := HSV.out
      subst hsvv
      have HBX := Lib.hid (setTwo wr (w.heap.size + 1) _ _ _ (.slice (some ⟨w.heap.size + 1 + 1, 0, none⟩) X.length X.length) (.slice ea en ec) HJ.out.res)
      have HGW : Hid (wr.grownBy ((wr.setCell ⟨w.heap.size + 1, 0, none⟩ (.slice (some ⟨w.heap.size + 1 + 1, 0, none⟩) X.length X.length)).setCell ⟨w.heap.size + 1, 1, none⟩ (.slice ea en ec)) (some (w.heap.size + 1))) := Lib.hid (grownBy_tr (grownBy_setC _ _ _ _) (grownBy_setC _ _ _ _))
      have r0 : wr.cell? ⟨w.heap.size + 1, 0, none⟩ = some (.slice none 0 0) := cell_of_row _ _ 0 _ _ _ HJ.out.res
      have r1 : wr.cell? ⟨w.heap.size + 1, 1, none⟩ = some (.slice none 0 0) := cell_of_row _ _ 1 _ _ _ HJ.out.res
      have q0 := frozen_of_row _ _ 0 _ _ HJ.out.res
      have q1 := frozen_of_row _ _ 1 _ _ HJ.out.res
      have o0 : wr.cell? ⟨g, 0, none⟩ = some (.slice (some ⟨w.heap.size + 1 + 1, 0, none⟩) X.length X.length) := cell_of_row _ _ 0 _ _ _ HJ.out.out
      have o1 : wr.cell? ⟨g, 1, none⟩ = some (.slice ea en ec) := cell_of_row _ _ 1 _ _ _ HJ.out.out
      have HBF := Lib.hid (HJ.out.bel.grown HGW.out HJ.out.bel.size (fun b hb => by cases hb; omega))
      go_wp2_with fail
      refine bodyPost_ret (results_cell_row rfl _ _ (w.heap.size + 1) _ _ _ _ rfl HBX.out Tryz.underlying100 rfl (by kernel_rfl)) rfl ?_
      exact ⟨_, _, _, rfl, HE.out _ HGW.out, HBF.out⟩
    case pos =>
      have hi0 : (0 : Int) ≤ (i : Int) := Int.natCast_nonneg i
      have hi1 : (i : Int) < (X.length : Int) := Int.ofNat_lt.2 hlt
      obtain ⟨b, off, e1, hbl, hcs, hrq⟩ := HRV.out i _ (List.getElem?_eq_getElem hlt)
      subst e1
      have HKS : Hid (relK X (i + 1) = relK X i ++ relEd X X[i].reqs i X[i].reqs.length) := Lib.hid (by
        have hg : X.getD i default = X[i] := by rw [List.getD_eq_getElem?_getD, List.getElem?_eq_getElem hlt]; rfl
        have h := relK_succ X i
        rwa [hg] at h)
      have HKL := Lib.hid (relK_len HXL.out i hi)
      have hxl := HXL.out _ (List.getElem_mem hlt)
      have HQL := Lib.hid (HQB.out _ (List.getElem_mem hlt)).reqs
      generalize X[i] = x at *
      generalize rv i = rx at *
      obtain ⟨ra, rc, rfl, hrows⟩ := hrq
      have HROW := Lib.hid hrows
      obtain ⟨_, _, _, _, d4, _⟩ := hcs
      have HD4 := Lib.hid d4
      have e4 := (HJ.out.bel.cell (p := ⟨b, off + i * 9 + 4, none⟩) hbl).trans d4
      clear d4 hrows
      go_wp2_with fail
      clear c0 c1 e4
      go_loopw [5] (fun p wr => Hid (∃ (k : Nat) (ev : Value), k ≤ x.reqs.length ∧ p = .int .i64 (k : Int) ∧ RelG w (.slice (some ⟨b, off, none⟩) X.length cap) iv sv g (relK X i ++ relEd X x.reqs i k) ev wr)) (fun p _ => x.reqs.length - (intOf p).toNat)
      case atStart => exact Lib.hid ⟨0, ev, Nat.zero_le _, rfl, by have h := HJ.out; rwa [show relK X i ++ relEd X x.reqs i 0 = relK X i by simp [relEd]]⟩
      case round =>
        obtain ⟨k, ev2, hk, rfl, hj2⟩ := hrel.out
        have HJ2 := Lib.hid hj2
        clear hrel hj2 HJ
        have c0 : wr.cell? ⟨w.heap.size, 0, none⟩ = some (.slice (some ⟨b, off, none⟩) X.length cap) := cell_of_row _ _ 0 _ _ _ HJ2.out.idx
        have c1 : wr.cell? ⟨w.heap.size, 1, none⟩ = some iv := cell_of_row _ _ 1 _ _ _ HJ2.out.idx
        have e4 := (HJ2.out.bel.cell (p := ⟨b, off + i * 9 + 4, none⟩) hbl).trans HD4.out
        by_cases hlt4 : k < x.reqs.length
        case neg =>
          have hkk : k = x.reqs.length := Nat.le_antisymm hk (Nat.le_of_not_lt hlt4)
          subst hkk
          have HJE : Hid (RelG w (.slice (some ⟨b, off, none⟩) X.length cap) iv sv g (relK X (i + 1)) ev2 wr) := Lib.hid (by rw [HKS.out]; exact HJ2.out)
          go_wp2_with fail
          all_goals
            refine ⟨Lib.hid ⟨i + 1, ev2, hlt, by go_num, HJE.out⟩, ?_⟩
            simp [intOf]; omega
        case pos =>
          have hk0 : (0 : Int) ≤ (k : Int) := Int.natCast_nonneg k
          have hk1 : (k : Int) < (x.reqs.length : Int) := Int.ofNat_lt.2 hlt4
          obtain ⟨b2, off2, rq, e2, hb2, f0, f1, hsp⟩ := HROW.out k _ (List.getElem?_eq_getElem hlt4)
          subst e2
          have HNO : Hid (namedI false X x.reqs[k] = none → relEd X x.reqs i (k + 1) = relEd X x.reqs i k) := Lib.hid (relEd_no hlt4)
          have HYE : Hid (∀ m, namedI false X x.reqs[k] = some m → relEd X x.reqs i (k + 1) = relEd X x.reqs i k ++ [((i : Int), (m : Int))]) := Lib.hid (fun m => relEd_yes hlt4)
          have hql := (HQL.out _ (List.getElem_mem hlt4)).2
          generalize x.reqs[k] = q at *
          have hbr : b < wr.heap.size := Nat.lt_of_lt_of_le hbl HJ2.out.bel.size
          have hb2r : b2 < wr.heap.size := Nat.lt_of_lt_of_le hb2 HJ2.out.bel.size
          have f0 := (HJ2.out.bel.cell (p := ⟨b2, off2 + k * 2, none⟩) hb2).trans f0
          have f1 := (HJ2.out.bel.cell (p := ⟨b2, off2 + k * 2 + 1, none⟩) hb2).trans f1
          have HSB : Hid (∀ W', Below wr.heap.size wr W' → HeldRg w.heap.size (.slice (some ⟨b, off, none⟩) X.length cap) iv b (off + i * 9 + 4) (.slice (some ⟨b2, off2, none⟩) x.reqs.length rc) b2 (off2 + k * 2) (.string q.1) rq W') := Lib.hid (fun W' hb => ⟨⟨cell_of_row _ _ 0 _ _ _ (HJ2.out.below hb).idx, cell_of_row _ _ 1 _ _ _ (HJ2.out.below hb).idx⟩, (hb.cell (p := ⟨b, off + i * 9 + 4, none⟩) hbr).trans e4, (hb.cell (p := ⟨b2, off2 + k * 2, none⟩) hb2r).trans f0, (hb.cell (p := ⟨b2, off2 + k * 2 + 1, none⟩) hb2r).trans f1⟩)
          have HNQ := Lib.hid (fun W' (hb : Below wr.heap.size wr W') => HNM.out q rq W' (HJ2.out.bel.trans (hb.mono HJ2.out.bel.size)) hql (hsp.on (HJ2.out.bel.trans (hb.mono HJ2.out.bel.size))))
          clear f0 f1 hsp hql
          go_upto_region 8 with fail
          clear c0 c1 e4
          refine wp_region_noPanic ?_
          refine wp_region_held_drew (S := HeldRg w.heap.size (.slice (some ⟨b, off, none⟩) X.length cap) iv b (off + i * 9 + 4) (.slice (some ⟨b2, off2, none⟩) x.reqs.length rc) b2 (off2 + k * 2) (.string q.1) rq) (by kernel_rfl) (HSB.out _ (Below.refl _ _).drew) (fun hS0 => ?_)
          (refine zl2 (i := 0) (v := ?_) rfl (Or.inl ⟨by rfl, ?_⟩) (by assumption) ?_; rotate_left; (· (rintro w ⟨⟨c0, c1⟩, e4, f0, f1⟩; go_simp; try with_reducible rfl)); (try simp only [zl1, Act.put]))
          (refine zl2 (i := 1) (v := ?_) rfl (Or.inl ⟨by rfl, ?_⟩) (by assumption) ?_; rotate_left; (· (rintro w ⟨⟨c0, c1⟩, e4, f0, f1⟩; go_simp; try with_reducible rfl)); (try simp only [zl1, Act.put]))
          (refine zl2 (i := 2) (v := ?_) rfl (Or.inl ⟨by rfl, ?_⟩) (by assumption) ?_; rotate_left; (· (rintro w ⟨⟨c0, c1⟩, e4, f0, f1⟩; go_simp; try with_reducible rfl)); (try simp only [zl1, Act.put]))
          (refine zl2 (i := 3) (v := ?_) rfl (Or.inl ⟨by rfl, ?_⟩) (by assumption) ?_; rotate_left; (· (rintro w ⟨⟨c0, c1⟩, e4, f0, f1⟩; go_simp; try with_reducible rfl)); (try simp only [zl1, Act.put]))
          (refine zl2 (i := 4) (v := ?_) rfl (Or.inl ⟨by rfl, ?_⟩) (by assumption) ?_; rotate_left; (· (rintro w ⟨⟨c0, c1⟩, e4, f0, f1⟩; go_simp; try with_reducible rfl)); (try simp only [zl1, Act.put]))
          (refine zl2 (i := 5) (v := ?_) rfl (Or.inl ⟨by rfl, ?_⟩) (by assumption) ?_; rotate_left; (· (rintro w ⟨⟨c0, c1⟩, e4, f0, f1⟩; go_simp; try with_reducible rfl)); (try simp only [zl1, Act.put]))
          (refine zl2 (i := 6) (v := ?_) rfl (Or.inl ⟨by rfl, ?_⟩) (by assumption) ?_; rotate_left; (· (rintro w ⟨⟨c0, c1⟩, e4, f0, f1⟩; go_simp; try with_reducible rfl)); (try simp only [zl1, Act.put]))
          (refine zl2 (i := 7) (v := ?_) rfl (Or.inl ⟨by rfl, ?_⟩) (by assumption) ?_; rotate_left; (· (rintro w ⟨⟨c0, c1⟩, e4, f0, f1⟩; go_simp; try with_reducible rfl)); (try simp only [zl1, Act.put]))
          (refine zl2 (i := 8) (v := ?_) rfl (Or.inl ⟨by rfl, ?_⟩) (by assumption) ?_; rotate_left; (· (rintro w ⟨⟨c0, c1⟩, e4, f0, f1⟩; go_simp; try with_reducible rfl)); (try simp only [zl1, Act.put]))
          (refine zl2 (i := 9) (v := ?_) rfl (Or.inl ⟨by rfl, ?_⟩) (by assumption) ?_; rotate_left; (· (rintro w ⟨⟨c0, c1⟩, e4, f0, f1⟩; go_simp; try with_reducible rfl)); (try simp only [zl1, Act.put]))
          refine wpAnyH_ready (rs := [10]) (by kernel_rfl) (by simp) (AllReadyH.cons rfl (fun K hK => ?_) AllReadyH.nil)
          go_simp
          refine (HNQ.out _ (Below.refl wr.heap.size wr).drew).mono ?_
          rintro e w8 ⟨rfl, hb8⟩
          have HB8 := Lib.hid ((Below.refl wr.heap.size wr).drew.trans hb8)
          clear hS0
          have hS0 := HSB.out _ HB8.out
          refine hK.out _ _ hS0 (fun _ => ?_)
          clear hK K hb8
          (try simp only [zl1, Act.put])
          (refine zl2 (i := 11) (v := ?_) rfl (Or.inl ⟨by rfl, ?_⟩) (by assumption) ?_; rotate_left; (· (rintro w ⟨⟨c0, c1⟩, e4, f0, f1⟩; go_simp; try with_reducible rfl)); (try simp only [zl1, Act.put]))
          refine wpAnyH_done (by kernel_rfl) ?_ _
          refine NoPanic.normal ?_
          have HJ8 := Lib.hid (HJ2.out.below HB8.out)
          clear HSB HNQ hS0 HB8 HJ2 hbr hb2r
          cases hn : namedI false X q with
          | none =>
            have HIE := Lib.hid (HNO.out hn)
            have hd : decide ((0 : Int) ≤ -1) = false := by decide
            simp only [optI]
            clear hn HYE HNO
            go_wp2_with fail
            all_goals
              refine ⟨Lib.hid ⟨k + 1, ev2, hlt4, by go_num, by rw [HIE.out]; exact HJ8.out⟩, ?_⟩
              simp [intOf]; omega
          | some m =>
            have HIE := Lib.hid (HYE.out m hn)
            have hd : decide ((0 : Int) ≤ (m : Int)) = true := decide_eq_true (Int.natCast_nonneg m)
            simp only [optI]
            have hesl : (relK X i ++ relEd X x.reqs i k).length ≤ 1000000000000 := by
              have e1 := HKL.out
              have e2 := relEd_len X x.reqs i k
              rw [List.length_append]
              omega
            obtain ⟨el, hel⟩ : ∃ el, relK X i ++ relEd X x.reqs i k = el := ⟨_, rfl⟩
            rw [hel] at HJ8 hesl
            have HEL := Lib.hid hel
            clear hn hel HYE HNO
            have o1 : w8.cell? ⟨g, 1, none⟩ = some ev2 := cell_of_row _ _ 1 _ _ _ HJ8.out.out
            have HJ9 := Lib.hid (HJ8.out.below (belQ w8 (.cells #[intC (i : Int), intC (m : Int)] 149)))
            have HN9 := Lib.hid (World.alloc_heap_new w8 (.cells #[intC (i : Int), intC (m : Int)] 149))
            have hz9 : g + 1 ≤ (w8.alloc (.cells #[intC (i : Int), intC (m : Int)] 149)).heap.size := by have := HJ9.out.lt; omega
            have HKEEP2 := Lib.hid (fun w6 hg => HJ9.out.keep (W6 := w6) hg)
            go_wp2_with (at_builtin; refine wpList_append_own _ rfl _ _ 98 rfl (g + 1) 149 j0 _ 2 16 Tryz.underlying98 hj0 hy0 hy1 hy2 rfl (by decide) ev2 _ _ (by rfl) HJ9.out.edges ⟨w8.heap.size, 0, none⟩ 1 1 [intC (i : Int), intC (m : Int)] (by rfl) (by rfl) (World.news_of_block HN9.out) (by simp [Value.oneCell']) (by unfold maxLen; omega) (by omega) hz9 ?_; intro v' wA hown' hgrow _; have HOW2 := Lib.hid hown'; have HGR2 := Lib.hid hgrow; have HKP2 := Lib.hid (HKEEP2.out _ hgrow); have hc6 : wA.cell? ⟨g, 1, none⟩ = some ev2 := cell_of_row _ _ 1 _ _ _ HKP2.out.1; have hf6 := frozen_of_row _ _ 1 _ _ HKP2.out.1; clear hown' hgrow; obtain ⟨g3, gc3, rfl⟩ := ownsRow_succ HOW2.out)
            all_goals
              have HJB := Lib.hid (HJ9.out.edge (x := ((i : Int), (m : Int))) HOW2.out HGR2.out)
              refine ⟨Lib.hid ⟨k + 1, _, hlt4, by go_num, by rw [HIE.out, ← List.append_assoc, HEL.out]; exact HJB.out⟩, ?_⟩
              simp [intOf]; omega
end Go.Proofs.YtenfkejbndifdaaGreatDoor

namespace Go.Proofs.YtenfkejbndifdaaGreatDoor
set_option linter.unusedVariables false
set_option linter.unusedSimpArgs false
open Go

theorem tgt_end {X : List RelL} {roots : List ReqL} {p : ByteArray} {o : Option Nat} (h1 : ∀ t, o = some t → t ∈ topM false X roots ∧ (X.getD t default).path = p) (h2 : o = none → ∀ j ∈ topM false X roots, (X.getD j default).path ≠ p) : tgtM X roots p = o := by
  unfold tgtM
  cases o with
  | none => exact List.find?_eq_none.2 fun j hj e => h2 rfl j hj (of_decide_eq_true e)
  | some t =>
    obtain ⟨ht, hp⟩ := h1 t rfl
    cases hf : (topM false X roots).find? fun i => decide ((X.getD i default).path = p) with
    | none => exact absurd (decide_eq_true hp) (List.find?_eq_none.1 hf t ht)
    | some j =>
      have hj := List.mem_of_find?_eq_some hf
      have hjp : (X.getD j default).path = p := of_decide_eq_true (List.find?_some (p := fun i => decide ((X.getD i default).path = p)) hf)
      rw [top_one hj ht (hjp.trans hp.symm)]
theorem path_len {X : List RelL} {t k : Nat} (ht : t < X.length) : (pathF X.length (relEs X) k t).length = (gD (dT X t) k + 1).toNat := by
  have hd : DistR (sucs X.length ((relEs X).map swapE)) 0 t (dT X t) := swap_dist X.length (relEs X) t ht
  show (if gD (dT X t) k < 0 then [] else descP (sucs X.length (relEs X)) (dT X t) (gD (dT X t) k).toNat k).length = _
  by_cases h : gD (dT X t) k < 0
  · rw [if_pos h, List.length_nil]; omega
  · rw [if_neg h, (descP_way hd _ k (by omega)).2]; omega
def bestW (X : List RelL) (roots : List ReqL) (t i : Nat) : List Nat × Nat := match bestK (rootD X roots t) i with
  | none => ([], 0)
  | some r => (pathF X.length (relEs X) ((namedI false X (roots.getD r default)).getD 0) t, r)
theorem root_at {X : List RelL} {roots : List ReqL} {t i k : Nat} (hi : i < roots.length) (hn : namedI false X roots[i] = some k) : (rootD X roots t).getD i (-1) = gD (dT X t) k := by
  unfold rootD
  rw [List.getD_eq_getElem?_getD, List.getElem?_map, List.getElem?_eq_getElem hi]
  simp only [Option.map_some, Option.getD_some]
  rw [hn]
theorem bestW_step {X : List RelL} {roots : List ReqL} {t i k : Nat} (ht : t < X.length) (ha : ∀ q ∈ roots, ∃ k, namedI false X q = some k) (hi : i < roots.length) (hn : namedI false X roots[i] = some k) :
    bestW X roots t (i + 1) = if 0 < (pathF X.length (relEs X) k t).length ∧ ((bestW X roots t i).1.length = 0 ∨ (pathF X.length (relEs X) k t).length < (bestW X roots t i).1.length) then (pathF X.length (relEs X) k t, i) else bestW X roots t i := by
  have hr := root_at (t := t) hi hn
  have hl := @path_len X t k ht
  have hg : roots.getD i default = roots[i] := by rw [List.getD_eq_getElem?_getD, List.getElem?_eq_getElem hi]; rfl
  unfold bestW
  rw [bestK, hr]
  cases hb : bestK (rootD X roots t) i with
  | none =>
    simp only
    by_cases h0 : 0 ≤ gD (dT X t) k
    · rw [if_pos h0, if_pos ⟨by omega, .inl rfl⟩]
      simp only [hg, hn, Option.getD_some]
    · rw [if_neg h0, if_neg (fun h => by have := h.1; omega)]
  | some r =>
    obtain ⟨hri, h0⟩ := bestK_some hb
    have hrl : r < roots.length := Nat.lt_trans hri hi
    obtain ⟨k2, hk2⟩ := ha _ (List.getElem_mem hrl)
    have hr2 := root_at (t := t) hrl hk2
    have hg2 : roots.getD r default = roots[r] := by rw [List.getD_eq_getElem?_getD, List.getElem?_eq_getElem hrl]; rfl
    have hl2 := @path_len X t k2 ht
    rw [hr2] at h0
    simp only [hr2, hg2, hk2, Option.getD_some]
    by_cases hc : 0 ≤ gD (dT X t) k ∧ gD (dT X t) k < gD (dT X t) k2
    · rw [if_pos hc, if_pos ⟨by omega, .inr (by omega)⟩]
      simp only [hg, hn, Option.getD_some]
    · rw [if_neg hc, if_neg (fun h => by have h1 := h.1; rcases h.2 with h2 | h2 <;> omega)]
      simp only [hg2, hk2, Option.getD_some]
theorem relK_few {X : List RelL} (hq : ∀ x ∈ X, x.reqs.length ≤ 16) : ∀ i, i ≤ X.length → (relK X i).length ≤ i * 16
  | 0, _ => Nat.le_refl _
  | i + 1, hi => by
    rw [relK_succ, List.length_append]
    have h1 := relK_few hq i (by omega)
    have h2 := relEd_len X (X.getD i default).reqs i (X.getD i default).reqs.length
    have h3 := hq X[i] (List.getElem_mem (by omega))
    have h4 : X.getD i default = X[i] := by rw [List.getD_eq_getElem?_getD, List.getElem?_eq_getElem (by omega)]; rfl
    rw [h4] at h2 ⊢
    omega
theorem rel_valid {X : List RelL} (hX : X.length ≤ 200) (hq : ∀ x ∈ X, x.reqs.length ≤ 16) : validG X.length (relEs X) = true := by
  have hl := relK_few hq X.length (Nat.le_refl _)
  rw [relK_all] at hl
  unfold validG
  rw [decide_eq_true (show X.length ≤ 1024 by omega), decide_eq_true (show (relEs X).length ≤ 4096 by omega), Bool.true_and, Bool.true_and, List.all_eq_true]
  intro e he
  obtain ⟨i, q, k, hi, _, hn, rfl⟩ := relEs_mem.1 he
  have hk := (candI_mem.1 (named_mem hn)).1
  exact decide_eq_true ⟨by simp, by simpa using hi, by simp, by simpa using hk⟩
theorem whyV_best {X : List RelL} {roots : List ReqL} {p : ByteArray} {t : Nat} (h0 : (selM false X roots).2 = 0) (ht : tgtM X roots p = some t) :
    whyV X roots p = ((p, ((bestW X roots t roots.length).2 : Int), (bestW X roots t roots.length).1.map fun i => keyL (X.getD i default)), 0) := by
  unfold whyV bestW
  rw [if_neg (by simpa using h0), ht]
  simp only
  cases bestK (rootD X roots t) roots.length <;> rfl
end Go.Proofs.YtenfkejbndifdaaGreatDoor

namespace Go.Proofs.YtenfkejbndifdaaGreatDoor
set_option linter.unusedVariables false
set_option linter.unusedSimpArgs false
open Go Go.RowKit

def okE (N : Nat) (x : Int × Int) : Prop := 0 ≤ x.1 ∧ x.1 < N ∧ 0 ≤ x.2 ∧ x.2 < N
theorem validG_iff (N : Nat) (es : List (Int × Int)) : validG N es = true ↔ N ≤ 1024 ∧ es.length ≤ 4096 ∧ ∀ x ∈ es, okE N x := by
  unfold validG okE
  simp only [Bool.and_eq_true, decide_eq_true_eq, List.all_eq_true, and_assoc]

set_option maxRecDepth 100000 in
set_option maxHeartbeats 4000000 in
theorem rGValid_any (a : Option Addr) (N c : Nat) (ev : Value) (es : List (Int × Int)) (w : World) (hN : N ≤ 1000000000000) (hes : es.length ≤ 1000000000000) (hE : EdgesOf w.heap.size ev es w) :
    Calls Tryz.prog 142 #[.agg #[.slice a N c, ev]] w fun e w' => e = .returned (.bool (validG N es)) ∧ Below w.heap.size w w' := by
  obtain ⟨ao, ec, rfl, hE2⟩ := hE
  have HE := Lib.hid hE2
  have HV := Lib.hid (validG_iff N es)
  clear hE2
  by_cases h1 : N ≤ 1024
  case neg =>
    have h1i : (1024 : Int) < (N : Int) := by omega
    have HF : Hid (validG N es = false) := Lib.hid (by rw [← Bool.not_eq_true, HV.out]; exact fun h => h1 h.1)
    go_enter Tryz.func142, Tryz.ntmps142
    go_wp2_with fail
    go_ret
    exact ⟨by rw [HF.out]; rfl, bel_alloc _ _⟩
  case pos =>
    have h1i : ¬ (1024 : Int) < (N : Int) := by omega
    have h1j : (N : Int) ≤ 1024 := by omega
    by_cases h2 : es.length ≤ 4096
    case neg =>
      have h2i : (4096 : Int) < (es.length : Int) := by omega
      have HF : Hid (validG N es = false) := Lib.hid (by rw [← Bool.not_eq_true, HV.out]; exact fun h => h2 h.2.1)
      go_enter Tryz.func142, Tryz.ntmps142
      go_wp2_with fail
      go_ret
      exact ⟨by rw [HF.out]; rfl, bel_alloc _ _⟩
    case pos =>
      have h2i : ¬ (4096 : Int) < (es.length : Int) := by omega
      have h2j : (es.length : Int) ≤ 4096 := by omega
      have HB0 : Hid (Below w.heap.size w (w.alloc (.cells #[.slice a N c, .slice ao es.length ec] 100))) := Lib.hid (bel_alloc _ _)
      have hg1 : (w.alloc (.cells #[.slice a N c, .slice ao es.length ec] 100)).cell? ⟨w.heap.size, 1, none⟩ = some (.slice ao es.length ec) := cell_of_row _ _ 1 _ _ _ (World.alloc_heap_new w _)
      go_enter Tryz.func142, Tryz.ntmps142
      go_wp2_with fail
      go_loopw [4] (fun q wr => ∃ k : Nat, k ≤ es.length ∧ q = .int .i64 k ∧ Hid (∀ x ∈ es.take k, okE N x) ∧ Hid (Below (w.heap.size + 1) (w.alloc (.cells #[.slice a N c, .slice ao es.length ec] 100)) wr)) (fun q _ => es.length - (intOf q).toNat)
      case atStart => exact ⟨0, by omega, rfl, Lib.hid (by simp), Lib.hid (Below.refl _ _)⟩
      case round =>
        obtain ⟨k, hk, rfl, HO, HB⟩ := hrel
        have hsb := HB.out.size
        simp only [World.size_alloc] at hsb
        have hgr : wr.cell? ⟨w.heap.size, 1, none⟩ = some (.slice ao es.length ec) := (HB.out.cell (p := ⟨w.heap.size, 1, none⟩) (by show w.heap.size < _; omega)).trans hg1
        by_cases hlt : k < es.length
        · have hk0 : (0 : Int) ≤ (k : Int) := by omega
          have hk1 : (k : Int) < (es.length : Int) := by omega
          obtain ⟨b, off, rfl, hb, hc1, hc2⟩ := HE.out k es[k] (by simp [hlt])
          have hc1 := ((HB0.out.trans (HB.out.mono (by omega))).cell (p := ⟨b, off + k * 2, none⟩) hb).trans hc1
          have hc2 := ((HB0.out.trans (HB.out.mono (by omega))).cell (p := ⟨b, off + k * 2 + 1, none⟩) hb).trans hc2
          have HT : Hid (es.take (k + 1) = es.take k ++ [es[k]]) := Lib.hid (List.take_succ_eq_append_getElem hlt)
          have HBAD : Hid (¬ (0 ≤ es[k].1 ∧ es[k].1 < N ∧ 0 ≤ es[k].2 ∧ es[k].2 < N) → validG N es = false) := Lib.hid fun h => by
            rw [← Bool.not_eq_true, HV.out]
            exact fun h9 => h (h9.2.2 _ (List.getElem_mem hlt))
          have HGOOD : Hid (0 ≤ es[k].1 ∧ es[k].1 < N ∧ 0 ≤ es[k].2 ∧ es[k].2 < N → ∀ x ∈ es.take (k + 1), okE N x) := Lib.hid fun h x hx => by
            rw [HT.out] at hx
            rcases List.mem_append.1 hx with hx | hx
            · exact HO.out x hx
            · rw [List.mem_singleton] at hx; rw [hx]; exact h
          obtain ⟨x1, hx1⟩ : ∃ x, x = es[k].1 := ⟨_, rfl⟩
          obtain ⟨x2, hx2⟩ : ∃ x, x = es[k].2 := ⟨_, rfl⟩
          rw [← hx1] at hc1 HBAD HGOOD
          rw [← hx2] at hc2 HBAD HGOOD
          clear hx1 hx2 HT
          by_cases q1 : x1 < 0
          · have p1 : decide (x1 < 0) = true := decide_eq_true q1
            go_wp2_with fail
            go_ret
            exact ⟨by rw [HBAD.out (by rintro ⟨a1, a2, a3, a4⟩; omega)]; rfl, HB0.out.trans ((HB.out.mono (by simp)).alloc (by have := HB.out.size; simp at this; omega) _)⟩
          · have p1 : decide (x1 < 0) = false := decide_eq_false q1
            by_cases q2 : (N : Int) ≤ x1
            · have p2 : decide ((N : Int) ≤ x1) = true := decide_eq_true q2
              go_wp2_with fail
              go_ret
              exact ⟨by rw [HBAD.out (by rintro ⟨a1, a2, a3, a4⟩; omega)]; rfl, HB0.out.trans ((HB.out.mono (by simp)).alloc (by have := HB.out.size; simp at this; omega) _)⟩
            · have p2 : decide ((N : Int) ≤ x1) = false := decide_eq_false q2
              by_cases q3 : x2 < 0
              · have p3 : decide (x2 < 0) = true := decide_eq_true q3
                go_wp2_with fail
                go_ret
                exact ⟨by rw [HBAD.out (by rintro ⟨a1, a2, a3, a4⟩; omega)]; rfl, HB0.out.trans ((HB.out.mono (by simp)).alloc (by have := HB.out.size; simp at this; omega) _)⟩
              · have p3 : decide (x2 < 0) = false := decide_eq_false q3
                by_cases q4 : (N : Int) ≤ x2
                · have p4 : decide ((N : Int) ≤ x2) = true := decide_eq_true q4
                  go_wp2_with fail
                  go_ret
                  exact ⟨by rw [HBAD.out (by rintro ⟨a1, a2, a3, a4⟩; omega)]; rfl, HB0.out.trans ((HB.out.mono (by simp)).alloc (by have := HB.out.size; simp at this; omega) _)⟩
                · have p4 : decide ((N : Int) ≤ x2) = false := decide_eq_false q4
                  have HG := Lib.hid (HGOOD.out ⟨by omega, by omega, by omega, by omega⟩)
                  clear HBAD HGOOD
                  go_wp2_with fail
                  go_roundw
                  case rel => exact ⟨k + 1, by omega, by go_num, HG, Lib.hid (HB.out.alloc (by omega) _)⟩
                  case measure => simp [intOf]; omega
        · have hkk : k = es.length := by omega
          subst hkk
          have HT : Hid (validG N es = true) := Lib.hid (HV.out.2 ⟨h1, h2, by have := HO.out; rwa [List.take_length] at this⟩)
          go_wp2_with fail
          go_ret
          exact ⟨by rw [HT.out]; rfl, HB0.out.trans (HB.out.mono (by omega))⟩
end Go.Proofs.YtenfkejbndifdaaGreatDoor

namespace Go.Proofs.YtenfkejbndifdaaGreatDoor
set_option linter.unusedVariables false
set_option linter.unusedSimpArgs false
open Go Go.RowKit

set_option maxRecDepth 100000 in
set_option maxHeartbeats 4000000 in
theorem rexist_any (a : Option Addr) (N c : Nat) (ev lv : Value) (es : List (Int × Int)) (l : List Int) (w : World) (hN : N ≤ 1000000000000) (hes : es.length ≤ 1000000000000) (hE : EdgesOf w.heap.size ev es w) (hll : l.length ≤ 1000000000) (hL : RowOf intC w.heap.size lv l w) :
    Calls Tryz.prog 108 #[.agg #[.slice a N c, ev], lv] w fun e w' => e = .returned (.bool (validG N es && l.all (nodeB N))) ∧ Below w.heap.size w w' := by
  obtain ⟨la, lc, rfl, hL2⟩ := rowOf_open hL
  have hE2 := hE
  obtain ⟨ao, ec, rfl, _⟩ := hE2
  have HL := Lib.hid hL2
  have HE := Lib.hid hE
  have HB0 : Hid (Below w.heap.size w (w.alloc (.cells #[.slice a N c, .slice ao es.length ec] 100))) := Lib.hid (bel_alloc _ _)
  have HG0 : Hid ((w.alloc (.cells #[.slice a N c, .slice ao es.length ec] 100)).heap[w.heap.size]? = some (.cells #[.slice a N c, .slice ao es.length ec] 100 (0, 0))) := Lib.hid (World.alloc_heap_new w _)
  clear hL2 hL hE
  go_enter Tryz.func108, Tryz.ntmps108
  go_wp2_with fail
  go_loopw [5] (fun q wr => ∃ k : Nat, k ≤ l.length ∧ q = .int .i64 k ∧ Hid ((l.take k).all (nodeB N) = true) ∧ Hid (Below (w.heap.size + 1) (w.alloc (.cells #[.slice a N c, .slice ao es.length ec] 100)) wr)) (fun q _ => l.length - (intOf q).toNat)
  case atStart => exact ⟨0, by omega, rfl, Lib.hid (by simp), Lib.hid (Below.refl _ _)⟩
  case round =>
    obtain ⟨k, hk, rfl, HA, HB⟩ := hrel
    have hsb := HB.out.size
    simp only [World.size_alloc] at hsb
    have hgr := (HB.out.block w.heap.size (by omega)).trans HG0.out
    have hg0 : wr.cell? ⟨w.heap.size, 0, none⟩ = some (.slice a N c) := cell_of_row _ _ 0 _ _ _ hgr
    have hg1 : wr.cell? ⟨w.heap.size, 1, none⟩ = some (.slice ao es.length ec) := cell_of_row _ _ 1 _ _ _ hgr
    have HBW := Lib.hid (HB0.out.trans (HB.out.mono (by omega)))
    by_cases hlt : k < l.length
    · have hk0 : (0 : Int) ≤ (k : Int) := by omega
      have hk1 : (k : Int) < (l.length : Int) := by omega
      obtain ⟨b, off, rfl, hb, hc1⟩ := HL.out k l[k] (by simp [hlt])
      have hc1 := (HBW.out.cell (p := ⟨b, off + k, none⟩) hb).trans hc1
      have HBAD : Hid (nodeB N l[k] = false → (validG N es && l.all (nodeB N)) = false) := Lib.hid fun h => by
        have : l.all (nodeB N) = false := by
          rw [← Bool.not_eq_true, List.all_eq_true]
          intro h9
          have := h9 _ (List.getElem_mem hlt)
          rw [h] at this
          cases this
        rw [this, Bool.and_false]
      have HGOOD : Hid (nodeB N l[k] = true → (l.take (k + 1)).all (nodeB N) = true) := Lib.hid fun h => by
        rw [List.take_succ_eq_append_getElem hlt, List.all_append, HA.out]
        simpa using h
      generalize l[k] = x at *
      by_cases q1 : x < 0
      · have p1 : decide (x < 0) = true := decide_eq_true q1
        have HX := Lib.hid (HBAD.out (by unfold nodeB; exact decide_eq_false (fun h => by omega)))
        clear hgr HBAD HGOOD
        go_wp2_with fail
        go_quiet (fail)
        go_wp2_with fail
        go_ret
        exact ⟨by rw [HX.out]; rfl, below_drewN HBW.out _⟩
      · have p1 : decide (x < 0) = false := decide_eq_false q1
        by_cases q2 : (N : Int) ≤ x
        · have p2 : decide ((N : Int) ≤ x) = true := decide_eq_true q2
          have HX := Lib.hid (HBAD.out (by unfold nodeB; exact decide_eq_false (fun h => by omega)))
          clear hgr HBAD HGOOD
          go_wp2_with fail
          go_quiet (fail)
          go_wp2_with fail
          go_ret
          exact ⟨by rw [HX.out]; rfl, below_drewN HBW.out _⟩
        · have p2 : decide ((N : Int) ≤ x) = false := decide_eq_false q2
          have HX := Lib.hid (HGOOD.out (by unfold nodeB; exact decide_eq_true ⟨by omega, by omega⟩))
          clear hgr HBAD HGOOD
          go_wp2_with fail
          go_quiet (fail)
          go_wp2_with fail
          go_roundw
          case rel => exact ⟨k + 1, by omega, by go_num, HX, Lib.hid (below_drewN HB.out _)⟩
          case measure => simp [intOf]; omega
    · have hkk : k = l.length := by omega
      subst hkk
      have hv := rGValid_any a N c (.slice ao es.length ec) es wr hN hes ((HE.out.below HBW.out (Nat.le_refl _)).mono (by omega))
      have HV := Lib.hid hv
      have HX : Hid ((validG N es && l.all (nodeB N)) = validG N es) := Lib.hid (by have := HA.out; rw [List.take_length] at this; rw [this, Bool.and_true])
      clear hgr hv
      go_wp2_with fail
      refine HV.out.mono ?_
      rintro e w' ⟨rfl, hb⟩
      go_wp2_with fail
      go_ret
      exact ⟨by rw [HX.out]; rfl, HBW.out.trans (hb.mono (by omega))⟩

def MarkS (N : Nat) (es : List (Int × Int)) (fn : List Nat) (l : List Bool) : Prop := l.length = N ∧ ∀ k, bD l k = true ↔ k < N ∧ ∃ a ∈ fn, Rch (sucs N es) a k
end Go.Proofs.YtenfkejbndifdaaGreatDoor

namespace Go.Proofs.YtenfkejbndifdaaGreatDoor
set_option linter.unusedVariables false
set_option linter.unusedSimpArgs false
open Go Go.RowKit

def cntF (W : World) (g : Nat) : Nat := match W.heap[g]? with
  | some (.cells cs _ _) => cs.toList.countP fun v => match v with | .bool false => true | _ => false
  | _ => 0
def bval : Value → Nat
  | .bool true => 1
  | _ => 0

end Go.Proofs.YtenfkejbndifdaaGreatDoor

namespace Go.Proofs.YtenfkejbndifdaaGreatDoor
set_option linter.unusedVariables false
set_option linter.unusedSimpArgs false
open Go Go.RowKit

end Go.Proofs.YtenfkejbndifdaaGreatDoor

namespace Go.Proofs.YtenfkejbndifdaaGreatDoor
set_option linter.unusedVariables false
set_option linter.unusedSimpArgs false

structure RD (N : Nat) (es : List (Int × Int)) (tgt n : Nat) (pre : List (Int × Int)) (d : List Int) : Prop where
  len : d.length = N
  lo : ∀ a, -1 ≤ gD d a
  t0 : gD d tgt = 0
  zero : ∀ a, gD d a = 0 → a = tgt
  pred : ∀ (a m : Nat), gD d a = (m : Int) + 1 → ∃ b : Nat, ((a : Int), (b : Int)) ∈ es ∧ gD d b = m
  bound : ∀ a, gD d a + unass d < N
  done : ∀ x ∈ es, 0 ≤ gD d x.2.toNat → gD d x.2.toNat < (n : Int) → 0 ≤ gD d x.1.toNat ∧ gD d x.1.toNat ≤ gD d x.2.toNat + 1
  cur : ∀ x ∈ pre, gD d x.2.toNat = (n : Int) → 0 ≤ gD d x.1.toNat ∧ gD d x.1.toNat ≤ (n : Int) + 1
def rdstep (n : Nat) (d : List Int) (x : Int × Int) : List Int := if gD d x.2.toNat = (n : Int) ∧ gD d x.1.toNat < 0 then d.set x.1.toNat ((n : Int) + 1) else d
theorem RD.step {N : Nat} {es : List (Int × Int)} {tgt n : Nat} {pre : List (Int × Int)} {d : List Int} (h : RD N es tgt n pre d) (x : Int × Int) (hx : x ∈ es) (hok : okE N x) (htop : ∀ a, gD d a ≤ (n : Int) + 1) : RD N es tgt n (pre ++ [x]) (rdstep n d x) ∧ ∀ a, gD (rdstep n d x) a ≤ (n : Int) + 1 := by
  obtain ⟨k1, k2, k3, k4⟩ := hok
  unfold rdstep
  split
  · rename_i hc
    obtain ⟨c1, c2⟩ := hc
    obtain ⟨i, hi⟩ : ∃ i, i = x.1.toNat := ⟨_, rfl⟩
    obtain ⟨j, hj⟩ : ∃ j, j = x.2.toNat := ⟨_, rfl⟩
    rw [← hi] at c2 ⊢
    rw [← hj] at c1
    have hil : i < d.length := by rw [h.len]; omega
    have hg : ∀ a, gD (d.set i ((n : Int) + 1)) a = if a = i then (n : Int) + 1 else gD d a := fun a => gD_set d i _ a hil
    have hu := unass_set d i ((n : Int) + 1) hil c2 (by omega)
    have hb := h.bound j
    have hji : j ≠ i := fun e => by rw [e] at c1; omega
    have ht : tgt ≠ i := fun e => by have := h.t0; rw [e] at this; omega
    refine ⟨⟨by rw [List.length_set]; exact h.len, fun a => ?_, ?_, fun a ha => ?_, fun a m ha => ?_, fun a => ?_, fun y hy h1 h2 => ?_, fun y hy h1 => ?_⟩, fun a => ?_⟩
    · rw [hg]; have := h.lo a; split <;> omega
    · rw [hg, if_neg ht]; exact h.t0
    · rw [hg] at ha
      split at ha
      · omega
      · exact h.zero a ha
    · rw [hg] at ha
      split at ha
      · rename_i e
        refine ⟨j, ?_, by rw [hg, if_neg hji]; omega⟩
        rw [e, hi, hj]
        have e1 : ((x.1.toNat : Nat) : Int) = x.1 := by omega
        have e2 : ((x.2.toNat : Nat) : Int) = x.2 := by omega
        rw [e1, e2]
        exact hx
      · obtain ⟨b, hb1, hb2⟩ := h.pred a m ha
        refine ⟨b, hb1, ?_⟩
        rw [hg, if_neg (fun e => by rw [e] at hb2; omega)]
        exact hb2
    · rw [hg]
      have := h.bound a
      split <;> omega
    · rw [hg] at h1 h2 ⊢
      by_cases e2 : y.2.toNat = i
      · rw [if_pos e2] at h2; omega
      · rw [if_neg e2] at h1 h2
        have := h.done y hy h1 h2
        rw [hg, if_neg e2]
        by_cases e1 : y.1.toNat = i
        · rw [e1] at this; omega
        · rw [if_neg e1]; exact this
    · rw [hg] at h1
      by_cases e2 : y.2.toNat = i
      · rw [if_pos e2] at h1; omega
      · rw [if_neg e2] at h1
        rw [hg]
        rcases List.mem_append.1 hy with hy | hy
        · have := h.cur y hy h1
          by_cases e1 : y.1.toNat = i
          · rw [if_pos e1]; omega
          · rw [if_neg e1]; exact this
        · rw [List.mem_singleton] at hy
          subst hy
          rw [if_pos hi.symm]; omega
    · rw [hg]; have := htop a; split <;> omega
  · rename_i hc
    refine ⟨⟨h.len, h.lo, h.t0, h.zero, h.pred, h.bound, h.done, fun y hy h1 => ?_⟩, htop⟩
    rcases List.mem_append.1 hy with hy | hy
    · exact h.cur y hy h1
    · rw [List.mem_singleton] at hy
      subst hy
      have := htop y.1.toNat
      exact ⟨Int.not_lt.1 fun h9 => hc ⟨h1, h9⟩, this⟩
theorem RD.next {N : Nat} {es : List (Int × Int)} {tgt n : Nat} {d : List Int} (h : RD N es tgt n es d) : RD N es tgt (n + 1) [] d := by
  refine ⟨h.len, h.lo, h.t0, h.zero, h.pred, h.bound, fun x hx h1 h2 => ?_, fun x hx => by cases hx⟩
  by_cases e : gD d x.2.toNat = (n : Int)
  · have := h.cur x hx e
    omega
  · exact h.done x hx h1 (by omega)
theorem RD.start {N : Nat} {es : List (Int × Int)} {tgt : Nat} (hto : tgt < N) : RD N es tgt 0 [] ((List.replicate N (-1)).set tgt 0) ∧ ∀ a, gD ((List.replicate N (-1)).set tgt 0) a ≤ ((0 : Nat) : Int) := by
  have hg : ∀ a, gD ((List.replicate N (-1 : Int)).set tgt 0) a = if a = tgt then 0 else -1 := fun a => by
    rw [gD_set _ _ _ _ (by simpa using hto), gD_rep]
  have hu : unass ((List.replicate N (-1 : Int)).set tgt 0) + 1 = N := by
    rw [unass_set _ _ _ (by simpa using hto) (by rw [gD_rep]; omega) (by omega)]
    unfold unass
    rw [List.countP_replicate]
    simp
  refine ⟨⟨by simp, fun a => by rw [hg]; split <;> omega, by rw [hg, if_pos rfl], fun a ha => ?_, fun a m ha => ?_, fun a => by rw [hg]; split <;> omega, fun x hx h1 h2 => by omega, fun x hx => by cases hx⟩, fun a => by rw [hg]; split <;> omega⟩
  · rw [hg] at ha; split at ha
    · assumption
    · omega
  · rw [hg] at ha; split at ha <;> omega
theorem RD.dist {N : Nat} {es : List (Int × Int)} {tgt : Nat} {d : List Int} (h : RD N es tgt N [] d) (hv : validG N es = true) : DistR (sucs N (es.map swapE)) 0 tgt d := by
  have hof : ∀ a b : Nat, a ∈ ofP (sucs N (es.map swapE)) b 0 ↔ b < N ∧ a < N ∧ ((a : Int), (b : Int)) ∈ es := fun a b => by
    unfold ofP
    rw [List.mem_filter, mem_sucs, mem_swap]
    simp
  refine ⟨by rw [sucs_length]; exact h.len, h.lo, h.t0, h.zero, fun a m ha => ?_, fun b hb a ha => ?_⟩
  · obtain ⟨b, h1, h2⟩ := h.pred a m ha
    have hbl := gD_lt (d := d) (a := b) (by omega)
    have hal := gD_lt (d := d) (a := a) (by omega)
    rw [h.len] at hbl hal
    exact ⟨b, (hof a b).2 ⟨hbl, hal, h1⟩, h2⟩
  · obtain ⟨h1, h2, h3⟩ := (hof a b).1 ha
    have := h.done _ h3 (by simpa using hb) (by
      have := h.bound b
      show gD d ((b : Int)).toNat < _
      rw [Int.toNat_natCast]
      omega)
    simpa using this
end Go.Proofs.YtenfkejbndifdaaGreatDoor
