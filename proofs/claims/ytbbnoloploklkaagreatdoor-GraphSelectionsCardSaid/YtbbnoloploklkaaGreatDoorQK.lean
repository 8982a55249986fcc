/- The graph of a selection: graph.Of. The index's table.selected. Contracts of the reference's part, Valid and Compare. Contracts of the constraint's Place and At, and of the reference's. Contract of the constraint's Has. -/
import Derived.Test.YtbbnoloploklkaaGreatDoorQI
import Derived.Test.YtbbnoloploklkaaGreatDoorQJ
import Derived.Test.YtbbnoloploklkaaGreatDoorQA
import Derived.Test.YtbbnoloploklkaaGreatDoorQE
import Derived.Test.YtbbnoloploklkaaGreatDoorQC
namespace Go.Proofs.YtbbnoloploklkaaGreatDoor
set_option linter.unusedVariables false
set_option linter.unusedSimpArgs false
open Go Go.RowKit

def incrK (s : List SelL) (k : Nat) : Prop := ∀ j, j + 1 < k → ltB (s.getD j default).1 (s.getD (j + 1) default).1 = true
theorem incrK_all {s : List SelL} : incrK s s.length ↔ incrS s := by
  have hg : ∀ i (hi : i < s.length), s.getD i default = s[i] := fun i hi => by rw [List.getD_eq_getElem?_getD, List.getElem?_eq_getElem hi]; rfl
  constructor
  · intro h
    unfold incrS
    rw [List.pairwise_iff_getElem]
    intro i j hi hj hij
    obtain ⟨d, rfl⟩ : ∃ d, j = i + d + 1 := ⟨j - i - 1, by omega⟩
    clear hij
    induction d with
    | zero => have := h i (by omega); rwa [hg i hi, hg (i + 1) (by omega)] at this
    | succ d ih =>
      have := h (i + d + 1) (by omega)
      rw [hg (i + d + 1) (by omega), hg (i + d + 1 + 1) (by omega)] at this
      exact ltB_trans (ih (by omega)) this
  · intro h j hj
    rw [hg j (by omega), hg (j + 1) hj]
    exact List.pairwise_iff_getElem.1 h j (j + 1) (by omega) hj (by omega)
theorem incrK_step {s : List SelL} {k : Nat} (h : incrK s k) (h2 : 0 < k → ltB (s.getD (k - 1) default).1 (s.getD k default).1 = true) : incrK s (k + 1) := fun j hj => by
  by_cases e : j + 1 = k
  · subst e
    exact h2 (by omega)
  · exact h j (by omega)
theorem SelsOf.at {B : Nat} {ao : Option Addr} {n cap : Nat} {s : List SelL} {W : World} (h : SelsOf B (.slice ao n cap) s W) {i : Nat} (hi : i < s.length) :
    ∃ b off, ao = some ⟨b, off, none⟩ ∧ b < B ∧ W.cell? ⟨b, off + i * 4, none⟩ = some (.string (s.getD i default).1) ∧ W.cell? ⟨b, off + i * 4 + 1, none⟩ = some (intC (s.getD i default).2.1) ∧ W.cell? ⟨b, off + i * 4 + 2, none⟩ = some (intC (s.getD i default).2.2.1) ∧ W.cell? ⟨b, off + i * 4 + 3, none⟩ = some (intC (s.getD i default).2.2.2) := by
  obtain ⟨ao', cap', e, h⟩ := h
  cases e
  obtain ⟨b, off, e, h0, h1⟩ := h i s[i] (by simp [hi])
  have hg : s.getD i default = s[i] := by rw [List.getD_eq_getElem?_getD, List.getElem?_eq_getElem hi]; rfl
  rw [hg]
  exact ⟨b, off, e, h0, h1⟩
def GraphR (w : World) (g : (List ByteArray × List (Int × Int)) × Int) (e : Ending) (w' : World) : Prop :=
  ∃ nv ev, e = .returned (.tuple #[.agg #[nv, ev], .int .i64 g.2]) ∧ RowOf Value.string w'.heap.size nv g.1.1 w' ∧ EdgesOf w'.heap.size ev g.1.2 w' ∧ Below w.heap.size w w'
theorem ofV_one {X : List RelL} {s : List SelL} (h : checkX X ≠ 0 ∨ ¬ incrS s) : ofV X s = (([], []), 1) := by unfold ofV; rw [if_pos h]
theorem ofV_ok {X : List RelL} {s : List SelL} (h : checkX X = 0) (hi : incrS s) (hf : ∀ j, j < s.length → (findR X (s.getD j default)).isSome = true) : ofV X s = ((s.map (·.1), edgesK X s s.length), 0) := by
  unfold ofV
  rw [if_neg (fun e => e.elim (fun e => e h) (fun e => e hi)), if_pos (List.all_eq_true.2 fun y hy => by
    obtain ⟨j, hj, rfl⟩ := List.mem_iff_getElem.1 hy
    have := hf j hj
    rwa [List.getD_eq_getElem?_getD, List.getElem?_eq_getElem hj] at this)]
theorem ofV_six {X : List RelL} {s : List SelL} (h : checkX X = 0) (hi : incrS s) {j : Nat} (hj : j < s.length) (hf : (findR X (s.getD j default)).isSome = false) : ofV X s = (([], []), 6) := by
  unfold ofV
  rw [if_neg (fun e => e.elim (fun e => e h) (fun e => e hi)), if_neg (fun e => by
    have := List.all_eq_true.1 e (s.getD j default) (by rw [List.getD_eq_getElem?_getD, List.getElem?_eq_getElem hj]; exact List.getElem_mem hj)
    rw [hf] at this; cases this)]
theorem firstI_path (s : List SelL) (p : ByteArray) : firstI (fun z : SelL => decide (z.1 = p)) s = match pathIx s p with | some k => (k : Int) | none => -1 := rfl
theorem eqs_dec (a b : ByteArray) : (a.toList == b.toList) = decide (a = b) := by
  by_cases h : a = b
  · subst h; simp
  · have : ¬ a.toList = b.toList := fun e => h (bytes_inj e)
    simp [h, this]
set_option maxRecDepth 100000 in
theorem ofFn_any (z : SelL) (p : ByteArray) (g : Nat) (W : World) (h : W.cell? ⟨g, 0, none⟩ = some (.string p)) :
    Calls Tryz.prog 118 #[.agg #[.string z.1, intC z.2.1, intC z.2.2.1, intC z.2.2.2], .pointer (some ⟨g, 0, none⟩)] W fun e w' => e = .returned (.bool (decide (z.1 = p))) ∧ Below W.heap.size W w' := by
  have hlt := World.block_lt_of_cell? _ _ h
  simp only at hlt
  rw [← eqs_dec]
  go_enter Tryz.func118, Tryz.ntmps118
  go_wp2_with fail
  go_ret
  exact ⟨rfl, belQ _ _⟩
theorem info_strs2 : (Tryz.prog.info? 9).map (fun i => (i.zero, i.size, i.bytes)) = some (some (Value.string ⟨#[]⟩), 1, 16) := by kernel_rfl
structure OfJ (w1 : World) (g : Nat) (s : List SelL) (k : Nat) (es : List (Int × Int)) (nv ev : Value) (W : World) : Prop where
  bel : Below w1.heap.size w1 W
  lo : w1.heap.size ≤ g
  out : W.heap[g]? = some (.cells #[nv, ev] 78 (0, 0))
  nodes : W.ownsRow (g + 1) 9 1 nv k ((s.take k).map (fun y => .string y.1))
  edges : W.ownsRow (g + 1) 84 2 ev es.length (edgeCells es)
variable {w1 : World} {g : Nat} {s : List SelL} {k : Nat} {es : List (Int × Int)} {nv ev : Value} {W : World}
theorem OfJ.lt (h : OfJ w1 g s k es nv ev W) : g < W.heap.size := (Array.getElem?_eq_some_iff.1 h.out).1
theorem OfJ.below {W' : World} (h : OfJ w1 g s k es nv ev W) (hb : Below W.heap.size W W') : OfJ w1 g s k es nv ev W' :=
  ⟨h.bel.trans (hb.mono h.bel.size), h.lo, (hb.block g h.lt).trans h.out, own_on h.nodes hb, own_on h.edges hb⟩
theorem OfJ.start {w1 W : World} (s : List SelL) (hb : Below w1.heap.size w1 W) : OfJ w1 W.heap.size s 0 [] (.slice none 0 0) (.slice none 0 0) (W.alloc (.cells #[.slice none 0 0, .slice none 0 0] 78)) :=
  ⟨hb.trans ((belQ W _).mono hb.size), hb.size, World.alloc_heap_new W _, World.ownsRow_nil _ _ _ _, World.ownsRow_nil _ _ _ _⟩
theorem OfJ.node {W6 : World} {nv' : Value} (h : OfJ w1 g s k es nv ev W) (hk : k < s.length) (hown : W6.ownsRow (g + 1) 9 1 nv' (k + 1) ((s.take k).map (fun y => .string y.1) ++ [.string (s.getD k default).1])) (hg : W.grownBy W6 nv.ownBlock) : OfJ w1 g s (k + 1) es nv' ev (W6.setCell ⟨g, 0, none⟩ nv') := by
  obtain ⟨h1, h2, h3, h4, h5⟩ := h
  have hlt := (Array.getElem?_eq_some_iff.1 h3).1
  have lo : ∀ b, some b = nv.ownBlock → g < b := fun b hb => (own_lo h4 b hb.symm).1
  have g2 := grownBy_setC W6 g 0 nv'
  refine ⟨(h1.grown hg (by omega) (fun b hb => by have := lo b hb.symm; omega)).setCell h2 _, h2, ?_, ?_, own_farM (h5.kept hg (own_apart h5 h4 (by decide))) g2 (by omega)⟩
  · exact heap_setCell_same _ _ 0 _ _ nv' ((hg.block g hlt (fun e => by have := lo _ e; omega)).trans h3)
  · have : (s.take (k + 1)).map (fun y => Value.string y.1) = (s.take k).map (fun y => .string y.1) ++ [.string (s.getD k default).1] := by
      rw [List.take_succ_eq_append_getElem hk, List.map_append, List.getD_eq_getElem?_getD, List.getElem?_eq_getElem hk]; rfl
    rw [this]
    exact own_farM hown g2 (by omega)
theorem OfJ.edge {W6 : World} {ev' : Value} {x : Int × Int} (h : OfJ w1 g s k es nv ev W) (hown : W6.ownsRow (g + 1) 84 2 ev' (es.length + 1) (edgeCells es ++ [intC x.1, intC x.2])) (hg : W.grownBy W6 ev.ownBlock) : OfJ w1 g s k (es ++ [x]) nv ev' (W6.setCell ⟨g, 1, none⟩ ev') := by
  obtain ⟨h1, h2, h3, h4, h5⟩ := h
  have hlt := (Array.getElem?_eq_some_iff.1 h3).1
  have lo : ∀ b, some b = ev.ownBlock → g < b := fun b hb => (own_lo h5 b hb.symm).1
  have g2 := grownBy_setC W6 g 1 ev'
  refine ⟨(h1.grown hg (by omega) (fun b hb => by have := lo b hb.symm; omega)).setCell h2 _, h2, ?_, own_farM (h4.kept hg (own_apart h4 h5 (by decide))) g2 (by omega), ?_⟩
  · exact heap_setCell_same _ _ 1 _ _ ev' ((hg.block g hlt (fun e => by have := lo _ e; omega)).trans h3)
  · rw [List.length_append, List.length_singleton, edgeCells_snoc]
    exact own_farM hown g2 (by omega)
theorem own_strs {W : World} {B n : Nat} {v : Value} {l : List ByteArray} (h : W.ownsRow B 9 1 v n (l.map Value.string)) : RowOf Value.string W.heap.size v l W := by
  obtain ⟨hl, ⟨rfl, h0⟩ | ⟨g, cap, cur, rfl, h1, h2, h3, h4, h5, h6⟩⟩ := h
  · left
    rw [h0, List.length_map] at hl
    exact ⟨List.length_eq_zero_iff.1 (by omega), none, 0, rfl⟩
  · right
    rw [List.length_map] at hl
    refine ⟨g, 0, cap, by rw [show n = l.length by omega], (Array.getElem?_eq_some_iff.1 h2).1, fun i x hx => ?_⟩
    have hi := (List.getElem?_eq_some_iff.1 hx).1
    have : (l.map Value.string)[i]? = some (.string x) := by rw [List.getElem?_map, hx]; rfl
    rw [Nat.zero_add, cell_of_row _ _ _ _ _ _ h2, ← this, ← h6, List.getElem?_take, if_pos (by omega)]
    simp
set_option maxRecDepth 100000 in
set_option maxHeartbeats 8000000 in
theorem Of_any (v iv sv : Value) (X : List RelL) (s : List SelL) (w : World) (hm : MaxOk w) (hX : X.length ≤ 1000000) (hq : ∀ x ∈ X, RelBd x) (hR : RelsOf w.heap.size v X w) (hs : s.length ≤ 1000000) (hy : ∀ y ∈ s, SelBd y) (hS : SelsOf w.heap.size sv s w) :
    Calls Tryz.prog 49 #[.agg #[v, iv], sv] w (GraphR w (ofV X s)) := by
  obtain ⟨so, sc, rfl⟩ : ∃ so sc, sv = .slice so s.length sc := by obtain ⟨a, c, e, _⟩ := hS; exact ⟨a, c, e⟩
  have HC := Lib.hid (fun W (hb : Below w.heap.size w W) => IdxCheck_any v iv X W (hm.below hb hm.pos) hX hq ((hR.below hb (Nat.le_refl _)).mono hb.size))
  have HF := Lib.hid (fun y (hy : SelBd y) W (hb : Below w.heap.size w W) => Find_any v iv X y W (hm.below hb hm.pos) hX hq ((hR.below hb (Nat.le_refl _)).mono hb.size) hy)
  have HSB := Lib.hid hy
  have HS := Lib.hid hS
  have HQ := Lib.hid hq
  clear hm hR hq hy hS
  obtain ⟨G, hG⟩ : ∃ G, ofV X s = G := ⟨_, rfl⟩
  have HG := Lib.hid hG
  rw [hG]
  clear hG
  have HB0 : Hid (Below w.heap.size w ((w.alloc (.cells #[v, iv] 25)).alloc (.cells #[.slice none 0 0, .slice none 0 0] 78))) := Lib.hid (by repeat (first | exact Below.refl _ _ | refine Below.drew ?_ | refine Below.alloc ?_ (by simp <;> omega) _ | refine Below.setCell ?_ (by simp <;> omega) _))
  have HI0 : Hid (((w.alloc (.cells #[v, iv] 25)).alloc (.cells #[.slice none 0 0, .slice none 0 0] 78)).heap[w.heap.size]? = some (.cells #[v, iv] 25 (0, 0))) := Lib.hid (((belQ _ _).block w.heap.size (by simp)).trans (World.alloc_heap_new w _))
  have HZ0 : Hid (((w.alloc (.cells #[v, iv] 25)).alloc (.cells #[.slice none 0 0, .slice none 0 0] 78)).heap[w.heap.size + 1]? = some (.cells #[.slice none 0 0, .slice none 0 0] 78 (0, 0))) := Lib.hid (by
    have := World.alloc_heap_new (w.alloc (.cells #[v, iv] 25)) (.cells #[.slice none 0 0, .slice none 0 0] 78)
    rwa [World.size_alloc] at this)
  have hw0 : w.heap.size + 1 < ((w.alloc (.cells #[v, iv] 25)).alloc (.cells #[.slice none 0 0, .slice none 0 0] 78)).heap.size := by simp
  go_enter Tryz.func49, Tryz.ntmps49
  go_upto_region 1 with fail
  generalize (w.alloc (.cells #[v, iv] 25)).alloc (.cells #[.slice none 0 0, .slice none 0 0] 78) = W at *
  have c0 : W.cell? ⟨w.heap.size, 0, none⟩ = some v := cell_of_row _ _ 0 _ _ _ HI0.out
  have c1 : W.cell? ⟨w.heap.size, 1, none⟩ = some iv := cell_of_row _ _ 1 _ _ _ HI0.out
  go_wp2_with fail
  refine (HC.out _ HB0.out).mono ?_
  rintro e w1 ⟨rfl, hb1⟩
  have HB1 := Lib.hid (HB0.out.trans (hb1.mono HB0.out.size))
  have HI1 := Lib.hid ((hb1.block w.heap.size (by omega)).trans HI0.out)
  have HZ1 := Lib.hid ((hb1.block (w.heap.size + 1) hw0).trans HZ0.out)
  have hs1 := hb1.size
  clear hb1 c0 c1 HB0 HI0 HZ0 HC
  obtain ⟨E, hE⟩ : ∃ E, checkX X = E := ⟨_, rfl⟩
  have HE := Lib.hid hE
  rw [hE]
  clear hE
  have r0 : w1.cell? ⟨w.heap.size + 1, 0, none⟩ = some (.slice none 0 0) := cell_of_row _ _ 0 _ _ _ HZ1.out
  have r1 : w1.cell? ⟨w.heap.size + 1, 1, none⟩ = some (.slice none 0 0) := cell_of_row _ _ 1 _ _ _ HZ1.out
  have q0 := frozen_of_row _ _ 0 _ _ HZ1.out
  have q1 := frozen_of_row _ _ 1 _ _ HZ1.out
  have HNO : Hid (∀ (wx : World) (en : Int), Below w1.heap.size w1 wx → G = (([], []), en) → ∃ rr, ((wx.setCell ⟨w.heap.size + 1, 0, none⟩ (.slice none 0 0)).setCell ⟨w.heap.size + 1, 1, none⟩ (.slice none 0 0)) = rr ∧ rr.heap[w.heap.size + 1]? = some (.cells #[.slice none 0 0, .slice none 0 0] 78 (0, 0)) ∧ GraphR w G (.returned (.tuple #[.agg #[.slice none 0 0, .slice none 0 0], .int .i64 en])) rr) := Lib.hid (by
    intro wx en hb hg
    refine ⟨_, rfl, setTwo _ _ _ _ _ _ _ ((hb.block _ (by omega)).trans HZ1.out), ?_⟩
    rw [hg]
    refine ⟨_, _, rfl, .inl ⟨rfl, none, 0, rfl⟩, ⟨none, 0, rfl, fun i x hx => by simp at hx⟩, ?_⟩
    exact ((HB1.out.trans (hb.mono HB1.out.size)).setCell (by simp) _).setCell (by simp) _)
  by_cases h0 : E = 0
  case neg =>
    have h0b : (E != 0) = true := by simpa using h0
    obtain ⟨rr, hrr, hbx, hgr⟩ := HNO.out w1 1 (Below.refl _ _) (by rw [← HG.out]; exact ofV_one (.inl (by rw [HE.out]; exact h0)))
    have HGR := Lib.hid hgr
    have HBX := Lib.hid hbx
    clear hgr hbx
    go_wp2_with fail
    refine bodyPost_ret (results_cell_tmp rfl _ _ (w.heap.size + 1) _ _ _ _ rfl HBX.out Tryz.underlying78 rfl (by kernel_rfl)) rfl ?_
    exact HGR.out
  subst h0
  clear r0 r1 q0 q1
  go_wp2_with fail
  go_loopw [6] (fun p wr => Hid (∃ k : Nat, 1 ≤ k ∧ p = .int .i64 k ∧ Hid ((k ≤ s.length ∨ k = 1) ∧ incrK s k) ∧ Hid (Below w1.heap.size w1 wr))) (fun p _ => s.length + 1 - (intOf p).toNat)
  case atStart => exact Lib.hid ⟨1, by omega, rfl, Lib.hid ⟨.inr rfl, fun j hj => by omega⟩, Lib.hid (Below.refl _ _)⟩
  case round =>
    obtain ⟨k, hk1, rfl, HK, HB⟩ := hrel.out
    clear hrel
    have hsl := HB.out.size
    by_cases hlt : k < s.length
    case neg =>
      have HIN := Lib.hid (show incrS s from incrK_all.1 (fun j hj => HK.out.2 j (by rcases HK.out.1 with h | h <;> omega)))
      have HJ0 := Lib.hid (OfJ.start s HB.out)
      obtain ⟨i0, hi0, hz0, hz1, hz2⟩ := info_parts info_strs2
      obtain ⟨j0, hj0, hy0, hy1, hy2⟩ := info_parts info_edges
      clear HK
      go_upto_region 9 with fail
      generalize hg : wr.heap.size = g at *
      have hg1 : w1.heap.size ≤ g := by omega
      generalize wr.alloc (.cells #[.slice none 0 0, .slice none 0 0] 78) = W2 at *
      clear hg HB
      go_wp2_with fail
      go_loopw [40] (fun p wr => Hid (∃ k nv ev, k ≤ s.length ∧ p = .int .i64 ((k : Nat) : Int) ∧ OfJ w1 g s k (edgesK X s k) nv ev wr ∧ ∀ j, j < k → (findR X (s.getD j default)).isSome = true)) (fun p _ => s.length - (intOf p).toNat)
      case atStart => exact Lib.hid ⟨0, _, _, Nat.zero_le _, rfl, HJ0.out, fun j hj => absurd hj (Nat.not_lt_zero _)⟩
      case round =>
        obtain ⟨k, nv, ev, hk, rfl, hj, hfo⟩ := hrel.out
        have HJ := Lib.hid hj
        have HFO := Lib.hid hfo
        clear hrel hj hfo
        by_cases hlt2 : k < s.length
        case neg =>
          have hk2 : k = s.length := by omega
          subst hk2
          have HGO := Lib.hid (show G = ((s.map (·.1), edgesK X s s.length), 0) by rw [← HG.out]; exact ofV_ok HE.out HIN.out HFO.out)
          have hz := (HJ.out.bel.block (w.heap.size + 1) (by omega)).trans HZ1.out
          have ho := HJ.out.out
          have HBF := Lib.hid (HB1.out.trans (HJ.out.bel.mono HB1.out.size))
          have HNS : Hid (∀ W, wr.grownBy W (some (w.heap.size + 1)) → RowOf Value.string W.heap.size nv (s.map (·.1)) W ∧ EdgesOf W.heap.size ev (edgesK X s s.length) W) := Lib.hid (fun W hg => by
            have h1 := own_farM HJ.out.nodes hg (by omega)
            have h2 := own_farM HJ.out.edges hg (by omega)
            rw [List.take_length] at h1
            exact ⟨own_strs (by rw [List.map_map]; exact h1), own_edges h2⟩)
          obtain ⟨na, nc, rfl⟩ : ∃ na nc, nv = .slice na s.length nc := by
            obtain ⟨hl, ⟨rfl, h0⟩ | ⟨g, cap, cur, rfl, _⟩⟩ := HJ.out.nodes
            · exact ⟨none, 0, by rw [h0]⟩
            · exact ⟨_, _, rfl⟩
          obtain ⟨ea, ec, rfl⟩ : ∃ ea ec, ev = .slice ea (edgesK X s s.length).length ec := by
            obtain ⟨hl, ⟨rfl, h0⟩ | ⟨g, cap, cur, rfl, _⟩⟩ := HJ.out.edges
            · exact ⟨none, 0, by rw [h0]⟩
            · exact ⟨_, _, rfl⟩
          have HBX := Lib.hid (setTwo wr (w.heap.size + 1) _ _ _ (.slice na s.length nc) (.slice ea (edgesK X s s.length).length ec) hz)
          have HGW : Hid (wr.grownBy ((wr.setCell ⟨w.heap.size + 1, 0, none⟩ (.slice na s.length nc)).setCell ⟨w.heap.size + 1, 1, none⟩ (.slice ea (edgesK X s s.length).length ec)) (some (w.heap.size + 1))) := Lib.hid (grownBy_tr (grownBy_setC _ _ _ _) (grownBy_setC _ _ _ _))
          have r0 : wr.cell? ⟨w.heap.size + 1, 0, none⟩ = some (.slice none 0 0) := cell_of_row _ _ 0 _ _ _ hz
          have r1 : wr.cell? ⟨w.heap.size + 1, 1, none⟩ = some (.slice none 0 0) := cell_of_row _ _ 1 _ _ _ hz
          have q0 := frozen_of_row _ _ 0 _ _ hz
          have q1 := frozen_of_row _ _ 1 _ _ hz
          have o0 : wr.cell? ⟨g, 0, none⟩ = some (.slice na s.length nc) := cell_of_row _ _ 0 _ _ _ ho
          have o1 : wr.cell? ⟨g, 1, none⟩ = some (.slice ea (edgesK X s s.length).length ec) := cell_of_row _ _ 1 _ _ _ ho
          clear hz ho
          go_wp2_with fail
          refine bodyPost_ret (results_cell_tmp rfl _ _ (w.heap.size + 1) _ _ _ _ rfl HBX.out Tryz.underlying78 rfl (by kernel_rfl)) rfl ?_
          rw [HGO.out]
          obtain ⟨h1, h2⟩ := HNS.out _ HGW.out
          exact ⟨_, _, rfl, h1, h2, HBF.out.grown HGW.out HBF.out.size (fun b hb => by cases hb; omega)⟩
        case pos =>
          obtain ⟨b, off, rfl, hbl, d0, d1, d2, d3⟩ := HS.out.at hlt2
          have HBW := Lib.hid (HB1.out.trans (HJ.out.bel.mono HB1.out.size))
          have d0 := (HBW.out.cell (p := ⟨b, off + k * 4, none⟩) hbl).trans d0
          have d1 := (HBW.out.cell (p := ⟨b, off + k * 4 + 1, none⟩) hbl).trans d1
          have d2 := (HBW.out.cell (p := ⟨b, off + k * 4 + 2, none⟩) hbl).trans d2
          have d3 := (HBW.out.cell (p := ⟨b, off + k * 4 + 3, none⟩) hbl).trans d3
          have HYB := Lib.hid (HSB.out (s.getD k default) (by rw [List.getD_eq_getElem?_getD, List.getElem?_eq_getElem hlt2]; exact List.getElem_mem hlt2))
          obtain ⟨y, hyk⟩ : ∃ y, s.getD k default = y := ⟨_, rfl⟩
          rw [hyk] at d0 d1 d2 d3 HYB
          have HYK := Lib.hid hyk
          clear hyk
          have hbw : b < wr.heap.size := Nat.lt_of_lt_of_le hbl HBW.out.size
          have HJ9 := Lib.hid (HJ.out.below (belQ wr (.cells #[.string y.1, intC y.2.1, intC y.2.2.1, intC y.2.2.2] 43)))
          have HB9 := Lib.hid (HBW.out.trans ((belQ wr (.cells #[.string y.1, intC y.2.1, intC y.2.2.1, intC y.2.2.2] 43)).mono HBW.out.size))
          have hi9 := (HJ9.out.bel.block w.heap.size (by omega)).trans HI1.out
          have c0 : (wr.alloc (.cells #[.string y.1, intC y.2.1, intC y.2.2.1, intC y.2.2.2] 43)).cell? ⟨w.heap.size, 0, none⟩ = some v := cell_of_row _ _ 0 _ _ _ hi9
          have c1 : (wr.alloc (.cells #[.string y.1, intC y.2.1, intC y.2.2.1, intC y.2.2.2] 43)).cell? ⟨w.heap.size, 1, none⟩ = some iv := cell_of_row _ _ 1 _ _ _ hi9
          have hn9 := World.alloc_heap_new wr (.cells #[.string y.1, intC y.2.1, intC y.2.2.1, intC y.2.2.2] 43)
          have HN9 := Lib.hid hn9
          clear hi9 hn9
          have HFY := Lib.hid (HF.out y HYB.out _ HB9.out)
          obtain ⟨o, ho⟩ : ∃ o, findX X y = o := ⟨_, rfl⟩
          rw [ho] at HFY
          have HO := Lib.hid (show findR X y = o by rw [← ho]; unfold findX; rw [if_pos HE.out])
          clear ho
          go_wp2_with fail
          refine HFY.out.mono ?_
          rintro e w3 ⟨r', rfl, hrr, hb3⟩
          have HJ3 := Lib.hid (HJ9.out.below hb3)
          have HB3 := Lib.hid (HB9.out.trans (hb3.mono HB9.out.size))
          have HY3 := Lib.hid ((hb3.block wr.heap.size (by simp)).trans HN9.out)
          have hs3 := hb3.size
          simp only [World.size_alloc] at hs3
          obtain ⟨x, hx⟩ : ∃ x, o.getD default = x := ⟨_, rfl⟩
          have HX := Lib.hid hx
          rw [hx] at hrr ⊢
          obtain ⟨ra, rc, rfl, _⟩ := hrr.now
          have HRR := Lib.hid (hrr.below (belQ w3 (.cells (relC x (.slice ra x.reqs.length rc)) 71)))
          have HJ4 := Lib.hid (HJ3.out.below (belQ w3 (.cells (relC x (.slice ra x.reqs.length rc)) 71)))
          have HY4 := Lib.hid (((belQ w3 (.cells (relC x (.slice ra x.reqs.length rc)) 71)).block wr.heap.size (by omega)).trans HY3.out)
          have HG4 : Hid (BoxR (w3.alloc (.cells (relC x (.slice ra x.reqs.length rc)) 71)) w3.heap.size x (.slice ra x.reqs.length rc)) := Lib.hid (BoxR.made _ _ _)
          clear hx hrr hb3 d0 d1 d2 d3 c0 c1 HFY
          simp only [relC_at] at HRR HJ4 HY4 HG4 ⊢
          obtain ⟨ob, hob⟩ : ∃ ob, o.isSome = ob := ⟨_, rfl⟩
          have HOB := Lib.hid hob
          rw [hob]
          clear hob
          go_upto_region 13 with fail
          generalize w3.alloc (.cells #[.string x.path, intC x.ver.1, intC x.ver.2.1, intC x.ver.2.2, .slice ra x.reqs.length rc, .string x.ar, .string x.ifc, .string x.cert, .bool x.yk] 71) = W4 at *
          cases ob with
          | false =>
            obtain ⟨rr, hrr, hbx, hgr⟩ := HNO.out W4 6 HJ4.out.bel (by rw [← HG.out]; exact ofV_six HE.out HIN.out hlt2 (by rw [HYK.out, HO.out, HOB.out]))
            have HGR := Lib.hid hgr
            have HBX := Lib.hid hbx
            have hz := (HJ4.out.bel.block (w.heap.size + 1) (by omega)).trans HZ1.out
            have r0 : W4.cell? ⟨w.heap.size + 1, 0, none⟩ = some (.slice none 0 0) := cell_of_row _ _ 0 _ _ _ hz
            have r1 : W4.cell? ⟨w.heap.size + 1, 1, none⟩ = some (.slice none 0 0) := cell_of_row _ _ 1 _ _ _ hz
            have q0 := frozen_of_row _ _ 0 _ _ hz
            have q1 := frozen_of_row _ _ 1 _ _ hz
            clear hgr hbx hz
            go_wp2_with fail
            refine bodyPost_ret (results_cell_tmp rfl _ _ (w.heap.size + 1) _ _ _ _ rfl HBX.out Tryz.underlying78 rfl (by kernel_rfl)) rfl ?_
            exact HGR.out
          | true =>
            have HXF : Hid (findR X y = some x) := Lib.hid (by
              rw [HO.out, ← HX.out]
              cases ho : o with
              | none => have := HOB.out; rw [ho] at this; cases this
              | some z => rfl)
            have HXB : Hid (x.reqs.length ≤ 1000000) := Lib.hid (by
              obtain ⟨i, hi, e, _⟩ := findR_some HXF.out
              rw [List.getD_eq_getElem?_getD, List.getElem?_eq_getElem hi] at e
              exact (HQ.out x (by rw [← e]; exact List.getElem_mem hi)).len)
            have HRO : Hid (reqsOf X y = x.reqs) := Lib.hid (by unfold reqsOf; rw [HXF.out])
            have o0 : W4.cell? ⟨g, 0, none⟩ = some nv := cell_of_row _ _ 0 _ _ _ HJ4.out.out
            have y0 : W4.cell? ⟨wr.heap.size, 0, none⟩ = some (.string y.1) := cell_of_row _ _ 0 _ _ _ HY4.out
            have HJ5 := Lib.hid (HJ4.out.below (belQ W4 (.cells #[.string y.1] 9)))
            have HR5 := Lib.hid (HRR.out.below (belQ W4 (.cells #[.string y.1] 9)))
            have HG5 := Lib.hid (HG4.out.on (belQ W4 (.cells #[.string y.1] 9)))
            have HN5 := Lib.hid (World.alloc_heap_new W4 (.cells #[.string y.1] 9))
            have hz5 : g + 1 ≤ (W4.alloc (.cells #[.string y.1] 9)).heap.size := by have := HJ5.out.lt; omega
            have HKEEP : Hid (∀ w6, (W4.alloc (.cells #[.string y.1] 9)).grownBy w6 nv.ownBlock → w6.heap[g]? = some (.cells #[nv, ev] 78 (0, 0)) ∧ BoxR w6 w3.heap.size x (.slice ra x.reqs.length rc) ∧ ReqRows (wr.heap.size + 1) (.slice ra x.reqs.length rc) x.reqs w6) := Lib.hid (fun w6 hg => by
              have lo : ∀ b, some b = nv.ownBlock → g + 1 ≤ b ∧ ∃ cs, (W4.alloc (.cells #[.string y.1] 9)).heap[b]? = some (.cells cs 9 (0, 0)) := fun b hb => ⟨(own_lo HJ5.out.nodes b hb.symm).1, (own_lo HJ5.out.nodes b hb.symm).2.2⟩
              refine ⟨(hg.block g HJ5.out.lt (fun e => by have := (lo _ e).1; omega)).trans HJ5.out.out, (hg.block _ HG5.out.lt (fun e => ?_)).trans HG5.out, (HR5.out.map (fun _ _ _ _ _ _ h => own_mono h (by simp))).grown hg (fun b hb => ?_)⟩
              · obtain ⟨cs, h⟩ := (lo _ e).2
                have h2 : (W4.alloc (.cells #[.string y.1] 9)).heap[w3.heap.size]? = _ := HG5.out
                rw [h] at h2
                injection h2 with h2
                injection h2 with _ h2
                exact absurd h2 (by decide)
              · obtain ⟨cs, h⟩ := (lo b hb.symm).2
                exact .inr ⟨cs, _, h, by decide, by decide⟩)
            go_wp2_with (at_builtin; refine wpList_append_own _ rfl _ _ 75 rfl (g + 1) 9 i0 _ 1 16 Tryz.underlying75 hi0 hz0 hz1 hz2 rfl (by decide) nv k _ (by rfl) HJ5.out.nodes ⟨W4.heap.size, 0, none⟩ 1 1 [.string y.1] (by rfl) (by rfl) (World.news_of_block HN5.out) (by simp [Value.oneCell']) (by unfold maxLen; omega) (by omega) hz5 ?_; intro v' w6 hown' hgrow _; have HOW := Lib.hid hown'; have HGR := Lib.hid hgrow; have HKP := Lib.hid (HKEEP.out _ hgrow); have hc6 : w6.cell? ⟨g, 0, none⟩ = some nv := cell_of_row _ _ 0 _ _ _ HKP.out.1; have hf6 := frozen_of_row _ _ 0 _ _ HKP.out.1; have hbx := HKP.out.2.1.cells; clear hown' hgrow; obtain ⟨gg, gc, rfl⟩ := ownsRow_succ HOW.out)
            have HJ7 : Hid (OfJ w1 g s (k + 1) (edgesK X s k) (.slice (some ⟨gg, 0, none⟩) (k + 1) gc) ev (w6.setCell ⟨g, 0, none⟩ (.slice (some ⟨gg, 0, none⟩) (k + 1) gc))) := Lib.hid (HJ5.out.node hlt2 (by rw [HYK.out]; exact HOW.out) HGR.out)
            have hgw : g < wr.heap.size := HJ.out.lt
            have HR7 : Hid (ReqRows (wr.heap.size + 1) (.slice ra x.reqs.length rc) x.reqs (w6.setCell ⟨g, 0, none⟩ (.slice (some ⟨gg, 0, none⟩) (k + 1) gc))) := Lib.hid (HKP.out.2.2.grown (grownBy_setC _ _ _ _) (fun b hb => .inl (by cases hb; omega)))
            generalize w6.setCell ⟨g, 0, none⟩ (.slice (some ⟨gg, 0, none⟩) (k + 1) gc) = W7 at *
            have hgw1 : g < wr.heap.size + 1 := by omega
            generalize wr.heap.size + 1 = rb at *
            go_loopw [67] (fun p wr => Hid (∃ j ev, j ≤ x.reqs.length ∧ p = .int .i64 ((j : Nat) : Int) ∧ OfJ w1 g s (k + 1) (edgesK X s k ++ nodeE s k (x.reqs.take j)) (.slice (some ⟨gg, 0, none⟩) (k + 1) gc) ev wr ∧ ReqRows rb (.slice ra x.reqs.length rc) x.reqs wr)) (fun p _ => x.reqs.length - (intOf p).toNat)
            case atStart => exact Lib.hid ⟨0, ev, Nat.zero_le _, rfl, by rw [List.take_zero]; simpa [nodeE] using HJ7.out, HR7.out⟩
            case round =>
              obtain ⟨j, ev2, hj, rfl, hjj, hrr⟩ := hrel.out
              have HJJ := Lib.hid hjj
              have HRJ := Lib.hid hrr
              clear hrel hjj hrr
              by_cases hlt3 : j < x.reqs.length
              case neg =>
                have hj2 : j = x.reqs.length := by omega
                subst hj2
                have HFO2 := Lib.hid (show ∀ j, j < k + 1 → (findR X (s.getD j default)).isSome = true from fun j hj => by
                  by_cases e : j = k
                  · rw [e, HYK.out, HXF.out]; rfl
                  · exact HFO.out j (by omega))
                have HJE : Hid (OfJ w1 g s (k + 1) (edgesK X s (k + 1)) (.slice (some ⟨gg, 0, none⟩) (k + 1) gc) ev2 wr) := Lib.hid (by
                  have := HJJ.out
                  rwa [List.take_length, ← HRO.out, ← HYK.out, ← edgesK_succ] at this)
                go_wp2_with fail
                all_goals
                  refine ⟨Lib.hid ⟨k + 1, _, _, by omega, by go_num, HJE.out, HFO2.out⟩, ?_⟩
                  simp [intOf]; omega
              case pos =>
                have hxb := HXB.out
                obtain ⟨ra', rc', e1, hrq⟩ := HRJ.out.now
                cases e1
                obtain ⟨b2, off2, qv, e2, hb2, f0, f1, hsp⟩ := hrq j x.reqs[j] (by simp [hlt3])
                have HQJ : Hid (x.reqs.take (j + 1) = x.reqs.take j ++ [x.reqs[j]]) := Lib.hid (List.take_succ_eq_append_getElem hlt3)
                generalize x.reqs[j] = q at *
                obtain ⟨qa, qc, rfl, _⟩ := hsp
                subst e2
                clear hrq
                have HI := Lib.hid (fun (W : World) (hb : Below w1.heap.size w1 W) (gb : Nat) (hc : W.cell? ⟨gb, 0, none⟩ = some (.string q.1)) => idx_sel 118 #[.pointer (some ⟨gb, 0, none⟩)] (enters_of Tryz.func118 (by kernel_rfl) rfl) (fun z => decide (z.1 = q.1)) _ s W (by omega) ((HS.out.below (HB1.out.trans (hb.mono HB1.out.size)) (Nat.le_refl _)).mono (HB1.out.trans (hb.mono HB1.out.size)).size)
                  (fun W2 z _ hW2 => by
                    have hlt := World.block_lt_of_cell? _ _ hc
                    have := ofFn_any z q.1 gb W2 ((hW2.cell (p := ⟨gb, 0, none⟩) hlt).trans hc)
                    exact this.mono fun e w' ⟨h1, h2⟩ => ⟨h1, hW2.trans (h2.mono hW2.size)⟩))
                have hb2w : b2 < wr.heap.size := hb2
                have HJA := Lib.hid (HJJ.out.below (belQ wr (.cells #[.string q.1, .slice qa q.2.length qc] 58)))
                have HRA := Lib.hid (HRJ.out.below (belQ wr (.cells #[.string q.1, .slice qa q.2.length qc] 58)))
                have hna := World.alloc_heap_new wr (.cells #[.string q.1, .slice qa q.2.length qc] 58)
                have HCA := Lib.hid (HI.out _ HJA.out.bel wr.heap.size (cell_of_row _ _ 0 _ _ _ hna))
                clear hna HI
                rw [firstI_path] at HCA
                have HRK2 : Hid (nodeE s k (x.reqs.take (j + 1)) = nodeE s k (x.reqs.take j) ++ (match pathIx s q.1 with | some m => [((k : Int), (m : Int))] | none => [])) := Lib.hid (by rw [HQJ.out, nodeE_snoc]; cases pathIx s q.1 <;> rfl)
                cases hp : pathIx s q.1 with
                | none =>
                  rw [hp] at HCA HRK2
                  simp only at HCA
                  go_wp2_with fail
                  refine HCA.out.mono ?_
                  rintro e w8 ⟨rfl, hb8⟩
                  have HJ8 : Hid (OfJ w1 g s (k + 1) (edgesK X s k ++ nodeE s k (x.reqs.take (j + 1))) (.slice (some ⟨gg, 0, none⟩) (k + 1) gc) ev2 w8) := Lib.hid (by rw [HRK2.out, List.append_nil]; exact HJA.out.below hb8)
                  have HR8 := Lib.hid (HRA.out.below hb8)
                  clear hb8 hp f0 f1 hb2w hbx hc6 hf6
                  go_wp2_with fail
                  all_goals
                    refine ⟨Lib.hid ⟨j + 1, ev2, by omega, by go_num, HJ8.out, HR8.out⟩, ?_⟩
                    simp [intOf]; omega
                | some m =>
                  rw [hp] at HCA HRK2
                  simp only at HCA
                  have hm0 : (0 : Int) ≤ (m : Int) := by omega
                  have hmb : decide ((0 : Int) ≤ (m : Int)) = true := decide_eq_true hm0
                  go_wp2_with fail
                  refine HCA.out.mono ?_
                  rintro e w8 ⟨rfl, hb8⟩
                  have hj8 := HJA.out.below hb8
                  obtain ⟨el, hel⟩ : ∃ el, edgesK X s k ++ nodeE s k (x.reqs.take j) = el := ⟨_, rfl⟩
                  rw [hel] at hj8
                  have HJ8 := Lib.hid hj8
                  have HEL := Lib.hid hel
                  have HR8 := Lib.hid (HRA.out.below hb8)
                  clear hb8 hp f0 f1 hb2w hbx hc6 hf6 hj8 hel
                  have o1 : w8.cell? ⟨g, 1, none⟩ = some ev2 := cell_of_row _ _ 1 _ _ _ HJ8.out.out
                  have HJ9 := Lib.hid (HJ8.out.below (belQ w8 (.cells #[intC (k : Int), intC (m : Int)] 84)))
                  have HR9 := Lib.hid (HR8.out.below (belQ w8 (.cells #[intC (k : Int), intC (m : Int)] 84)))
                  have HN9 := Lib.hid (World.alloc_heap_new w8 (.cells #[intC (k : Int), intC (m : Int)] 84))
                  have hz9 : g + 1 ≤ (w8.alloc (.cells #[intC (k : Int), intC (m : Int)] 84)).heap.size := by have := HJ9.out.lt; omega
                  have HKEEP2 : Hid (∀ w6, (w8.alloc (.cells #[intC (k : Int), intC (m : Int)] 84)).grownBy w6 ev2.ownBlock → w6.heap[g]? = some (.cells #[.slice (some ⟨gg, 0, none⟩) (k + 1) gc, ev2] 78 (0, 0)) ∧ ReqRows rb (.slice (some ⟨b2, off2, none⟩) x.reqs.length rc) x.reqs w6) := Lib.hid (fun w6 hg => by
                    have lo : ∀ b, some b = ev2.ownBlock → g + 1 ≤ b ∧ ∃ cs, (w8.alloc (.cells #[intC (k : Int), intC (m : Int)] 84)).heap[b]? = some (.cells cs 84 (0, 0)) := fun b hb => ⟨(own_lo HJ9.out.edges b hb.symm).1, (own_lo HJ9.out.edges b hb.symm).2.2⟩
                    refine ⟨(hg.block g HJ9.out.lt (fun e => by have := (lo _ e).1; omega)).trans HJ9.out.out, HR9.out.grown hg (fun b hb => ?_)⟩
                    obtain ⟨cs, h⟩ := (lo b hb.symm).2
                    exact .inr ⟨cs, _, h, by decide, by decide⟩)
                  have hesl : el.length ≤ 1000000000000 := by
                    have e1 := edgesK_len X s 16 (fun y => reqsOf_len HE.out y) k
                    have e2 := nodeE_len s k (x.reqs.take j)
                    rw [List.length_take] at e2
                    rw [← HEL.out, List.length_append]
                    omega
                  go_wp2_with (at_builtin; refine wpList_append_own _ rfl _ _ 76 rfl (g + 1) 84 j0 _ 2 16 Tryz.underlying76 hj0 hy0 hy1 hy2 rfl (by decide) ev2 _ _ (by rfl) HJ9.out.edges ⟨w8.heap.size, 0, none⟩ 1 1 [intC (k : Int), intC (m : Int)] (by rfl) (by rfl) (World.news_of_block HN9.out) (by simp [Value.oneCell']) (by unfold maxLen; omega) (by omega) hz9 ?_; intro v' wA hown' hgrow _; have HOW2 := Lib.hid hown'; have HGR2 := Lib.hid hgrow; have HKP2 := Lib.hid (HKEEP2.out _ hgrow); have hc6 : wA.cell? ⟨g, 1, none⟩ = some ev2 := cell_of_row _ _ 1 _ _ _ HKP2.out.1; have hf6 := frozen_of_row _ _ 1 _ _ HKP2.out.1; clear hown' hgrow; obtain ⟨g3, gc3, rfl⟩ := ownsRow_succ HOW2.out)
                  all_goals
                    have HJB := Lib.hid (HJ9.out.edge (x := ((k : Int), (m : Int))) HOW2.out HGR2.out)
                    have HRB := Lib.hid (HKP2.out.2.grown (grownBy_setC wA g 1 (.slice (some ⟨g3, 0, none⟩) (el.length + 1) gc3)) (fun b hb => .inl (by cases hb; omega)))
                    refine ⟨Lib.hid ⟨j + 1, _, by omega, by go_num, by rw [HRK2.out, ← List.append_assoc, HEL.out]; exact HJB.out, HRB.out⟩, ?_⟩
                    simp [intOf]; omega
    case pos =>
      obtain ⟨b, off, rfl, hbl, d0, _⟩ := HS.out.at hlt
      obtain ⟨b2, off2, e2, _, f0, _⟩ := HS.out.at (i := k - 1) (by omega)
      cases e2
      have d0 := ((HB1.out.trans (HB.out.mono HB1.out.size)).cell (p := ⟨b, off + k * 4, none⟩) hbl).trans d0
      have f0 := ((HB1.out.trans (HB.out.mono HB1.out.size)).cell (p := ⟨b, off + (k - 1) * 4, none⟩) hbl).trans f0
      have hsub : wrap64 ((k : Int) - 1) = ((k - 1 : Nat) : Int) := by rw [show ((k : Int) - 1) = ((k - 1 : Nat) : Int) by omega]; unfold wrap64; omega
      have hl0 : (0 : Int) ≤ ((k - 1 : Nat) : Int) := by omega
      have hl1 : ((k - 1 : Nat) : Int) < (s.length : Int) := by omega
      generalize hpa : (s.getD (k - 1) default).1 = pa at *
      generalize hpb : (s.getD k default).1 = pb at *
      have HPA := Lib.hid hpa
      have HPB := Lib.hid hpb
      clear hpa hpb
      go_wp2_with fail
      go_quiet (fail)
      have HBQ : Hid (Below w1.heap.size w1 (wr.drewN nq)) := Lib.hid (below_drewNV HB.out _)
      have hsq : (wr.drewN nq).heap.size = wr.heap.size := by simp
      generalize wr.drewN nq = wx at *
      clear d0 f0
      cases hc : ltB pa pb with
      | false =>
        have hc2 : Op.bytesLess pa.toList pb.toList = false := hc
        have HN := Lib.hid (show ¬ incrS s from fun h => by
          have := incrK_all.2 h (k - 1) (by omega)
          rw [show k - 1 + 1 = k by omega, HPA.out, HPB.out, hc] at this
          cases this)
        obtain ⟨rr, hrr, hbx, hgr⟩ := HNO.out wx 1 HBQ.out (by rw [← HG.out]; exact ofV_one (.inr HN.out))
        have HGR := Lib.hid hgr
        have HBX := Lib.hid hbx
        have hz := (HBQ.out.block (w.heap.size + 1) (by omega)).trans HZ1.out
        have r0 : wx.cell? ⟨w.heap.size + 1, 0, none⟩ = some (.slice none 0 0) := cell_of_row _ _ 0 _ _ _ hz
        have r1 : wx.cell? ⟨w.heap.size + 1, 1, none⟩ = some (.slice none 0 0) := cell_of_row _ _ 1 _ _ _ hz
        have q0 := frozen_of_row _ _ 0 _ _ hz
        have q1 := frozen_of_row _ _ 1 _ _ hz
        clear hgr hbx hz hc
        rw [hc2]
        simp only [Bool.not_false]
        clear hc2
        go_wp2_with fail
        refine bodyPost_ret (results_cell_tmp rfl _ _ (w.heap.size + 1) _ _ _ _ rfl HBX.out Tryz.underlying78 rfl (by kernel_rfl)) rfl ?_
        exact HGR.out
      | true =>
        have hc2 : Op.bytesLess pa.toList pb.toList = true := hc
        have HK2 := Lib.hid (show (k + 1 ≤ s.length ∨ k + 1 = 1) ∧ incrK s (k + 1) from ⟨.inl (by omega), incrK_step HK.out.2 (fun _ => by rw [HPA.out, HPB.out]; exact hc)⟩)
        clear hc
        rw [hc2]
        simp only [Bool.not_true]
        clear hc2
        go_wp2_with fail
        all_goals
          refine ⟨Lib.hid ⟨k + 1, by omega, by go_num, HK2, HBQ⟩, ?_⟩
          simp [intOf]; omega
end Go.Proofs.YtbbnoloploklkaaGreatDoor

namespace Go.Proofs.YtbbnoloploklkaaGreatDoor
set_option linter.unusedVariables false
set_option linter.unusedSimpArgs false
open Go Go.RowKit Go.Maps

def relXs (l : List RelL) (rs : List Value) : List Value := (l.zip rs).flatMap fun p => (relC p.1 p.2).toList
theorem relXs_snoc {l : List RelL} {rs : List Value} (h : rs.length = l.length) (x : RelL) (r : Value) : relXs (l ++ [x]) (rs ++ [r]) = relXs l rs ++ (relC x r).toList := by
  unfold relXs
  rw [List.zip_append h.symm, List.flatMap_append]
  simp
theorem relXs_length : ∀ {l : List RelL} {rs : List Value}, rs.length = l.length → (relXs l rs).length = l.length * 9
  | [], [], _ => rfl
  | x :: l, r :: rs, h => by
    have := relXs_length (l := l) (rs := rs) (by simpa using h)
    unfold relXs at this ⊢
    rw [List.zip_cons_cons, List.flatMap_cons, List.length_append, this, List.length_cons]
    simp only [relC, List.length_cons, List.length_nil]
    omega
def pickK (X : List RelL) (s : List SelL) (k : Nat) : List RelL := (s.take k).map fun y => (findX X y).getD default
theorem pickK_succ {X : List RelL} {s : List SelL} {k : Nat} (h : k < s.length) : pickK X s (k + 1) = pickK X s k ++ [(findX X (s.getD k default)).getD default] := by
  unfold pickK
  rw [List.take_succ_eq_append_getElem h, List.map_append, List.getD_eq_getElem?_getD, List.getElem?_eq_getElem h]
  rfl
theorem pickK_length {X : List RelL} {s : List SelL} {k : Nat} (h : k ≤ s.length) : (pickK X s k).length = k := by
  unfold pickK
  rw [List.length_map, List.length_take]
  omega
def SelectR (w : World) (B : Nat) (X : List RelL) (s : List SelL) (e : Ending) (w' : World) : Prop :=
  Below w.heap.size w w' ∧ ((¬ incrS s ∧ e = .returned (.tuple #[.slice none 0 0, .int .i64 1])) ∨
    (incrS s ∧ (∃ y ∈ s, findX X y = none) ∧ e = .returned (.tuple #[.slice none 0 0, .int .i64 6])) ∨
    (incrS s ∧ (∀ y ∈ s, (findX X y).isSome = true) ∧ ∃ v rs, e = .returned (.tuple #[v, .int .i64 0]) ∧ rs.length = s.length ∧ w'.ownsRow w.heap.size 71 9 v s.length (relXs (pickK X s s.length) rs) ∧
      ∀ i, i < s.length → ReqsOf B (rs.getD i undef) ((pickK X s s.length).getD i default).reqs w'))
set_option maxRecDepth 100000 in
set_option maxHeartbeats 8000000 in
theorem selected_any (m1 m2 : Nat) (sv : Value) (X : List RelL) (B : Nat) (s : List SelL) (w : World) (hB : B ≤ w.heap.size) (hT : TabOf w B m1 (tabX X)) (hs : s.length ≤ 1000000) (hy : ∀ y ∈ s, SelBd y) (hS : SelsOf w.heap.size sv s w) :
    Calls Tryz.prog 120 #[.agg #[.map (some m1), .map (some m2)], sv] w (SelectR w B X s) := by
  obtain ⟨so, sc, rfl⟩ : ∃ so sc, sv = .slice so s.length sc := by obtain ⟨a, c, e, _⟩ := hS; exact ⟨a, c, e⟩
  have HSB := Lib.hid hy
  have HS := Lib.hid hS
  have HT := Lib.hid hT
  have hml : m1 < w.heap.size := by obtain ⟨f, rv, n, h1, _⟩ := hT; exact h1.lt
  clear hy hS hT
  have HB0 : Hid (Below w.heap.size w (w.alloc (.cells #[.map (some m1), .map (some m2)] 144))) := Lib.hid (belQ _ _)
  have HT0 : Hid ((w.alloc (.cells #[.map (some m1), .map (some m2)] 144)).heap[w.heap.size]? = some (.cells #[.map (some m1), .map (some m2)] 144 (0, 0))) := Lib.hid (World.alloc_heap_new w _)
  have hw0 : w.heap.size < (w.alloc (.cells #[.map (some m1), .map (some m2)] 144)).heap.size := by simp
  obtain ⟨i0, hi0, hz0, hz1, hz2⟩ := info_parts info_rels
  go_enter Tryz.func120, Tryz.ntmps120
  go_upto_region 1 with fail
  generalize w.alloc (.cells #[.map (some m1), .map (some m2)] 144) = w1 at *
  go_wp2_with fail
  go_loopw [6] (fun p wr => Hid (∃ k : Nat, 1 ≤ k ∧ p = .int .i64 k ∧ Hid ((k ≤ s.length ∨ k = 1) ∧ incrK s k) ∧ Hid (Below w1.heap.size w1 wr))) (fun p _ => s.length + 1 - (intOf p).toNat)
  case atStart => exact Lib.hid ⟨1, by omega, rfl, Lib.hid ⟨.inr rfl, fun j hj => by omega⟩, Lib.hid (Below.refl _ _)⟩
  case round =>
    obtain ⟨k, hk1, rfl, HK, HB⟩ := hrel.out
    clear hrel
    have hsl := HB.out.size
    by_cases hlt : k < s.length
    case neg =>
      have HIN := Lib.hid (show incrS s from incrK_all.1 (fun j hj => HK.out.2 j (by rcases HK.out.1 with h | h <;> omega)))
      clear HK
      have HBZ := Lib.hid (HB0.out.trans (HB.out.mono HB0.out.size))
      have hsl1 := HB.out.size
      have HBB := Lib.hid HB.out
      clear HB
      go_wp2_with fail
      go_loopw [7, 32] (fun ov p wr2 => Hid (∃ k rs, k ≤ s.length ∧ p = .int .i64 ((k : Nat) : Int) ∧ rs.length = k ∧ wr2.ownsRow w1.heap.size 71 9 ov k (relXs (pickK X s k) rs) ∧ (∀ i, i < k → ReqsOf B (rs.getD i undef) ((pickK X s k).getD i default).reqs wr2) ∧ (∀ j, j < k → (findX X (s.getD j default)).isSome = true) ∧ Below w1.heap.size w1 wr2)) (fun _ p _ => s.length - (intOf p).toNat)
      case atStart => exact Lib.hid ⟨0, [], Nat.zero_le _, rfl, rfl, World.ownsRow_nil _ _ _ _, fun i hi => absurd hi (Nat.not_lt_zero _), fun i hi => absurd hi (Nat.not_lt_zero _), HBB.out⟩
      case round =>
        obtain ⟨k, rs, hk, rfl, hrs, hrow, hrq, hfo, hbb⟩ := hrel.out
        have HROW := Lib.hid hrow
        have HRQ := Lib.hid hrq
        have HFO := Lib.hid hfo
        have HBB2 := Lib.hid hbb
        have HRS := Lib.hid hrs
        clear hrel hrow hrq hfo hbb hrs
        have HBW := Lib.hid (HB0.out.trans (HBB2.out.mono HB0.out.size))
        have hsz := HBB2.out.size
        by_cases hlt2 : k < s.length
        case neg =>
          have hk2 : k = s.length := by omega
          subst hk2
          have HALL := Lib.hid (show ∀ y ∈ s, (findX X y).isSome = true from fun y hy => by
            obtain ⟨j, hj, rfl⟩ := List.mem_iff_getElem.1 hy
            have := HFO.out j hj
            rwa [List.getD_eq_getElem?_getD, List.getElem?_eq_getElem hj] at this)
          go_wp2_with fail
          go_ret2
          exact ⟨HBW.out, .inr (.inr ⟨HIN.out, HALL.out, _, rs, rfl, HRS.out, own_mono HROW.out (by omega), HRQ.out⟩)⟩
        case pos =>
          obtain ⟨b, off, rfl, hbl, d0, d1, d2, d3⟩ := HS.out.at hlt2
          have d0 := (HBW.out.cell (p := ⟨b, off + k * 4, none⟩) hbl).trans d0
          have d1 := (HBW.out.cell (p := ⟨b, off + k * 4 + 1, none⟩) hbl).trans d1
          have d2 := (HBW.out.cell (p := ⟨b, off + k * 4 + 2, none⟩) hbl).trans d2
          have d3 := (HBW.out.cell (p := ⟨b, off + k * 4 + 3, none⟩) hbl).trans d3
          have hym : s.getD k default ∈ s := by rw [List.getD_eq_getElem?_getD, List.getElem?_eq_getElem hlt2]; exact List.getElem_mem hlt2
          have HYB := Lib.hid (HSB.out _ hym)
          have HYM := Lib.hid hym
          obtain ⟨y, hyk⟩ : ∃ y, s.getD k default = y := ⟨_, rfl⟩
          rw [hyk] at d0 d1 d2 d3 HYB HYM
          have HYK := Lib.hid hyk
          clear hyk hym
          have hbw : b < wr.heap.size := Nat.lt_of_lt_of_le hbl HBW.out.size
          have HB9 := Lib.hid (HBW.out.trans ((belQ wr (.cells #[.string y.1, intC y.2.1, intC y.2.2.1, intC y.2.2.2] 43)).mono HBW.out.size))
          have HN9 := Lib.hid (World.alloc_heap_new wr (.cells #[.string y.1, intC y.2.1, intC y.2.2.1, intC y.2.2.2] 43))
          have htl : w.heap.size < wr.heap.size := by omega
          have ht9 := (HBB2.out.block w.heap.size hw0).trans HT0.out
          have t0 : wr.cell? ⟨w.heap.size, 0, none⟩ = some (.map (some m1)) := cell_of_row _ _ 0 _ _ _ ht9
          have HROW9 := Lib.hid (own_on HROW.out (belQ wr (.cells #[.string y.1, intC y.2.1, intC y.2.2.1, intC y.2.2.2] 43)))
          obtain ⟨f, n, hmf, hlk⟩ := (HT.out.below HB9.out hB).look
          have HMF := Lib.hid hmf
          have hlk := hlk y HYB.out
          have HKY := Lib.hid (keyS_of HYB.out)
          have HZR := Lib.hid (show ∀ W, (zeroValue 71).run Tryz.prog W = .ok zeroR W from Tryz.zeroValue71)
          obtain ⟨o, ho⟩ : ∃ o, findX X y = o := ⟨_, rfl⟩
          have HO := Lib.hid ho
          obtain ⟨x, r, e1, e2, e3, e4⟩ : ∃ x r, (f (keyS y)).getD zeroR = .agg (relC x r) ∧ (f (keyS y)).isSome = o.isSome ∧ o.getD default = x ∧ ReqsOf B r x.reqs (wr.alloc (.cells #[.string y.1, intC y.2.1, intC y.2.2.1, intC y.2.2.2] 43)) := by
            rcases hlk with ⟨l1, l2⟩ | ⟨x, r, l1, l2, l3, l4⟩
            · rw [ho] at l1
              subst l1
              exact ⟨default, .slice none 0 0, by rw [l2]; rfl, by rw [l2]; rfl, rfl, ⟨none, 0, rfl, fun i q hq => by cases hq⟩⟩
            · rw [ho] at l2
              subst l2
              exact ⟨x, r, by rw [l3]; rfl, by rw [l3]; rfl, rfl, l4⟩
          have HE3 := Lib.hid e3
          have HE4 := Lib.hid e4
          obtain ⟨ob, hob⟩ : ∃ ob, o.isSome = ob := ⟨_, rfl⟩
          have HOB := Lib.hid hob
          rw [hob] at e2
          obtain ⟨ra, rc, rfl, _⟩ := e4
          simp only [relC_at] at e1
          clear hlk hmf ho e3 hob ht9
          have HB10 := Lib.hid ((belQ (wr.alloc (.cells #[.string y.1, intC y.2.1, intC y.2.2.1, intC y.2.2.2] 43)) (.cells #[.string x.path, intC x.ver.1, intC x.ver.2.1, intC x.ver.2.2, .slice ra x.reqs.length rc, .string x.ar, .string x.ifc, .string x.cert, .bool x.yk] 71)))
          have hws10 : wr.heap.size + 1 < ((wr.alloc (.cells #[.string y.1, intC y.2.1, intC y.2.2.1, intC y.2.2.2] 43)).alloc (.cells #[.string x.path, intC x.ver.1, intC x.ver.2.1, intC x.ver.2.2, .slice ra x.reqs.length rc, .string x.ar, .string x.ifc, .string x.cert, .bool x.yk] 71)).heap.size := by simp
          have HG10 : Hid (BoxR ((wr.alloc (.cells #[.string y.1, intC y.2.1, intC y.2.2.1, intC y.2.2.2] 43)).alloc (.cells #[.string x.path, intC x.ver.1, intC x.ver.2.1, intC x.ver.2.2, .slice ra x.reqs.length rc, .string x.ar, .string x.ifc, .string x.cert, .bool x.yk] 71)) (wr.heap.size + 1) x (.slice ra x.reqs.length rc)) := Lib.hid (by
            have := BoxR.made (wr.alloc (.cells #[.string y.1, intC y.2.1, intC y.2.2.1, intC y.2.2.2] 43)) x (.slice ra x.reqs.length rc)
            rwa [World.size_alloc] at this)
          have HBX := Lib.hid (HB9.out.trans (HB10.out.mono HB9.out.size))
          have HB1X := Lib.hid ((HBB2.out.trans ((belQ wr (.cells #[.string y.1, intC y.2.1, intC y.2.2.1, intC y.2.2.2] 43)).mono hsz)).trans (HB10.out.mono (by simp; omega)))
          have HROW10 := Lib.hid (own_on HROW9.out HB10.out)
          have HRQ10 : Hid (∀ i, i < k → ReqsOf B (rs.getD i undef) ((pickK X s k).getD i default).reqs ((wr.alloc (.cells #[.string y.1, intC y.2.1, intC y.2.2.1, intC y.2.2.2] 43)).alloc (.cells #[.string x.path, intC x.ver.1, intC x.ver.2.1, intC x.ver.2.2, .slice ra x.reqs.length rc, .string x.ar, .string x.ifc, .string x.cert, .bool x.yk] 71))) := Lib.hid (fun i hi => (HRQ.out i hi).below (B' := w.heap.size) ((Below.refl _ _ |>.alloc (Nat.le_trans (Nat.le_of_lt hw0) hsz) _).alloc (by simp; omega) _) hB)
          have HR10 := Lib.hid (HE4.out.below (HB10.out.mono (show w.heap.size ≤ (wr.alloc (.cells #[.string y.1, intC y.2.1, intC y.2.2.1, intC y.2.2.2] 43)).heap.size by simp; omega)) hB)

          go_upto_region 11 with (at_lookup; refine wpList_look_ok_F rfl _ _ 141 rfl 43 71 lawSel Tryz.underlying141 (HZR.out _) m1 n f (by rfl) HMF.out _ (keyS y) rfl HKY.out ?_; rw [e1, e2])
          generalize (wr.alloc (.cells #[.string y.1, intC y.2.1, intC y.2.2.1, intC y.2.2.2] 43)).alloc (.cells #[.string x.path, intC x.ver.1, intC x.ver.2.1, intC x.ver.2.2, .slice ra x.reqs.length rc, .string x.ar, .string x.ifc, .string x.cert, .bool x.yk] 71) = W4 at *
          cases ob with
          | false =>
            have HNO := Lib.hid (show ∃ y ∈ s, findX X y = none from ⟨y, HYM.out, by rw [HO.out]; cases ho : o with | none => rfl | some z => have := HOB.out; rw [ho] at this; cases this⟩)
            go_wp2_with fail
            go_ret2
            exact ⟨HBX.out, .inr (.inl ⟨HIN.out, HNO.out, rfl⟩)⟩
          | true =>
            obtain ⟨a0, a1, a2, a3, a4, a5, a6, a7, a8⟩ := HG10.out.cells
            have HROW5 := Lib.hid (own_on HROW10.out (belQ W4 (.cells #[.string x.path, intC x.ver.1, intC x.ver.2.1, intC x.ver.2.2, .slice ra x.reqs.length rc, .string x.ar, .string x.ifc, .string x.cert, .bool x.yk] 71)))
            have HN5 := Lib.hid (World.alloc_heap_new W4 (.cells #[.string x.path, intC x.ver.1, intC x.ver.2.1, intC x.ver.2.2, .slice ra x.reqs.length rc, .string x.ar, .string x.ifc, .string x.cert, .bool x.yk] 71))
            have HB5 := Lib.hid (HB1X.out.trans ((belQ W4 (.cells #[.string x.path, intC x.ver.1, intC x.ver.2.1, intC x.ver.2.2, .slice ra x.reqs.length rc, .string x.ar, .string x.ifc, .string x.cert, .bool x.yk] 71)).mono HB1X.out.size))
            have hz5 : w1.heap.size ≤ (W4.alloc (.cells #[.string x.path, intC x.ver.1, intC x.ver.2.1, intC x.ver.2.2, .slice ra x.reqs.length rc, .string x.ar, .string x.ifc, .string x.cert, .bool x.yk] 71)).heap.size := HB5.out.size
            have HRQ5 : Hid (∀ i, i < k → ReqsOf B (rs.getD i undef) ((pickK X s k).getD i default).reqs (W4.alloc (.cells #[.string x.path, intC x.ver.1, intC x.ver.2.1, intC x.ver.2.2, .slice ra x.reqs.length rc, .string x.ar, .string x.ifc, .string x.cert, .bool x.yk] 71))) := Lib.hid (fun i hi => (HRQ10.out i hi).below (belQ W4 (.cells #[.string x.path, intC x.ver.1, intC x.ver.2.1, intC x.ver.2.2, .slice ra x.reqs.length rc, .string x.ar, .string x.ifc, .string x.cert, .bool x.yk] 71)) (Nat.le_trans hB HBX.out.size))
            have HR5 := Lib.hid (HR10.out.below (belQ W4 (.cells #[.string x.path, intC x.ver.1, intC x.ver.2.1, intC x.ver.2.2, .slice ra x.reqs.length rc, .string x.ar, .string x.ifc, .string x.cert, .bool x.yk] 71)) (Nat.le_trans hB HBX.out.size))
            have HRL : Hid (rs.length = (pickK X s k).length) := Lib.hid (by rw [HRS.out, pickK_length (by omega)])
            obtain ⟨pl, hpl⟩ : ∃ pl, relXs (pickK X s k) rs = pl := ⟨_, rfl⟩
            have HPL := Lib.hid hpl
            have HROW6 := HROW5.out
            rw [hpl] at HROW6
            have HROW7 := Lib.hid HROW6
            clear HROW6 hpl
            go_wp2_with (at_builtin; refine wpList_append_own _ rfl _ _ 22 rfl w1.heap.size 71 i0 _ 9 120 Tryz.underlying22 hi0 hz0 hz1 hz2 rfl (by decide) u7 k pl (by rfl) HROW7.out ⟨W4.heap.size, 0, none⟩ 1 1 [.string x.path, intC x.ver.1, intC x.ver.2.1, intC x.ver.2.2, .slice ra x.reqs.length rc, .string x.ar, .string x.ifc, .string x.cert, .bool x.yk] (by rfl) (by rfl) (World.news_of_block HN5.out) (by simp [Value.oneCell']) (by unfold maxLen; omega) (by omega) hz5 ?_; intro v' wA hown' hgrow _; have HOW2 := Lib.hid hown'; have HGR2 := Lib.hid hgrow; clear hown' hgrow; obtain ⟨g3, gc3, rfl⟩ := ownsRow_succ HOW2.out)
            all_goals
              have HBA : Hid (Below w1.heap.size w1 wA) := Lib.hid (HB5.out.grown HGR2.out hz5 (fun b hb => (own_lo HROW7.out b hb).1))
              have hbw : Below w.heap.size (W4.alloc (.cells #[.string x.path, intC x.ver.1, intC x.ver.2.1, intC x.ver.2.2, .slice ra x.reqs.length rc, .string x.ar, .string x.ifc, .string x.cert, .bool x.yk] 71)) wA := (Below.refl _ _).grown HGR2.out (by omega) (fun b hb => by have := (own_lo HROW7.out b hb).1; omega)
              have HRA : Hid (∀ i, i < k + 1 → ReqsOf B ((rs ++ [Value.slice ra x.reqs.length rc]).getD i undef) ((pickK X s (k + 1)).getD i default).reqs wA) := Lib.hid (fun i hi => by
                rw [pickK_succ hlt2, HYK.out, HO.out, HE3.out]
                by_cases e : i = k
                · subst e
                  rw [List.getD_eq_getElem?_getD, List.getElem?_append_right (by rw [HRS.out]; exact Nat.le_refl _), HRS.out, Nat.sub_self, List.getD_eq_getElem?_getD, List.getElem?_append_right (by rw [pickK_length (by omega)]; exact Nat.le_refl _), pickK_length (by omega), Nat.sub_self]
                  exact HR5.out.below hbw hB
                · rw [List.getD_eq_getElem?_getD, List.getElem?_append_left (by rw [HRS.out]; omega), List.getD_eq_getElem?_getD (l := pickK X s k ++ [x]), List.getElem?_append_left (by rw [pickK_length (by omega)]; omega), ← List.getD_eq_getElem?_getD, ← List.getD_eq_getElem?_getD]
                  exact (HRQ5.out i (by omega)).below hbw hB)
              have HFO2 := Lib.hid (show ∀ j, j < k + 1 → (findX X (s.getD j default)).isSome = true from fun j hj => by
                by_cases e : j = k
                · rw [e, HYK.out, HO.out]; exact HOB.out
                · exact HFO.out j (by omega))
              have HOW3 : Hid (wA.ownsRow w1.heap.size 71 9 (.slice (some ⟨g3, 0, none⟩) (k + 1) gc3) (k + 1) (relXs (pickK X s (k + 1)) (rs ++ [Value.slice ra x.reqs.length rc]))) := Lib.hid (by
                rw [pickK_succ hlt2, HYK.out, HO.out, HE3.out, relXs_snoc HRL.out, HPL.out]
                exact HOW2.out)
              refine ⟨Lib.hid ⟨k + 1, rs ++ [Value.slice ra x.reqs.length rc], by omega, by go_num, by rw [List.length_append, HRS.out]; rfl, HOW3.out, HRA.out, HFO2.out, HBA.out⟩, ?_⟩
              simp [intOf]; omega
    case pos =>
      obtain ⟨b, off, rfl, hbl, d0, _⟩ := HS.out.at hlt
      obtain ⟨b2, off2, e2, _, f0, _⟩ := HS.out.at (i := k - 1) (by omega)
      cases e2
      have d0 := ((HB0.out.trans (HB.out.mono HB0.out.size)).cell (p := ⟨b, off + k * 4, none⟩) hbl).trans d0
      have f0 := ((HB0.out.trans (HB.out.mono HB0.out.size)).cell (p := ⟨b, off + (k - 1) * 4, none⟩) hbl).trans f0
      have hsub : wrap64 ((k : Int) - 1) = ((k - 1 : Nat) : Int) := by rw [show ((k : Int) - 1) = ((k - 1 : Nat) : Int) by omega]; unfold wrap64; omega
      have hl0 : (0 : Int) ≤ ((k - 1 : Nat) : Int) := by omega
      have hl1 : ((k - 1 : Nat) : Int) < (s.length : Int) := by omega
      generalize hpa : (s.getD (k - 1) default).1 = pa at *
      generalize hpb : (s.getD k default).1 = pb at *
      have HPA := Lib.hid hpa
      have HPB := Lib.hid hpb
      clear hpa hpb
      go_wp2_with fail
      go_quiet (fail)
      have HBQ : Hid (Below w1.heap.size w1 (wr.drewN nq)) := Lib.hid (below_drewNV HB.out _)
      generalize wr.drewN nq = wx at *
      clear d0 f0
      cases hc : ltB pa pb with
      | false =>
        have hc2 : Op.bytesLess pa.toList pb.toList = false := hc
        have HN := Lib.hid (show ¬ incrS s from fun h => by
          have := incrK_all.2 h (k - 1) (by omega)
          rw [show k - 1 + 1 = k by omega, HPA.out, HPB.out, hc] at this
          cases this)
        clear hc
        rw [hc2]
        simp only [Bool.not_false]
        clear hc2
        go_wp2_with fail
        go_ret2
        exact ⟨HB0.out.trans (HBQ.out.mono HB0.out.size), .inl ⟨HN.out, rfl⟩⟩
      | true =>
        have hc2 : Op.bytesLess pa.toList pb.toList = true := hc
        have HK2 := Lib.hid (show (k + 1 ≤ s.length ∨ k + 1 = 1) ∧ incrK s (k + 1) from ⟨.inl (by omega), incrK_step HK.out.2 (fun _ => by rw [HPA.out, HPB.out]; exact hc)⟩)
        clear hc
        rw [hc2]
        simp only [Bool.not_true]
        clear hc2
        go_wp2_with fail
        all_goals
          refine ⟨Lib.hid ⟨k + 1, by omega, by go_num, HK2, HBQ⟩, ?_⟩
          simp [intOf]; omega
end Go.Proofs.YtbbnoloploklkaaGreatDoor

namespace Go.Proofs.YtbbnoloploklkaaGreatDoor
open Go Go.RowKit

theorem rpart_any (n : Int) (w : World) : Calls Tryz.prog 219 #[.int .i64 n] w fun e w' => e = .returned (.bool (partB n)) ∧ w = w' := by
  cases h : partB n with
  | true =>
    obtain ⟨h1, h2⟩ := part_yes h
    clear h
    go_enter Tryz.func219, Tryz.ntmps219
    go_wp2
    go_ret
    exact ⟨rfl, rfl⟩
  | false =>
    rcases (show n < 0 ∨ (0 ≤ n ∧ ¬ n ≤ 999) by have := part_no h; omega) with h1 | ⟨h1, h2⟩
    all_goals
      clear h
      go_enter Tryz.func219, Tryz.ntmps219
      go_wp2
      go_ret
      exact ⟨rfl, rfl⟩
theorem rValid_any (a b c : Int) (w : World) : Calls Tryz.prog 184 #[.agg #[.int .i64 a, .int .i64 b, .int .i64 c]] w fun e w' => e = .returned (.bool (validB a b c)) ∧ w' = w.alloc (.cells #[.int .i64 a, .int .i64 b, .int .i64 c] 41) := by
  have HE : Hid (validB a b c = (partB a && (partB b && partB c))) := Lib.hid rfl
  obtain ⟨v, hv⟩ : ∃ v, validB a b c = v := ⟨_, rfl⟩
  rw [hv] at HE ⊢
  clear hv
  cases h1 : partB a with
  | false =>
    have HV := Lib.hid (show v = false by rw [HE.out, h1]; rfl)
    go_enter Tryz.func184, Tryz.ntmps184
    go_wp2_with (go_at_call 219; refine (rpart_any _ _).mono ?_; rintro e w' ⟨rfl, rfl⟩)
    go_ret
    exact ⟨by rw [HV.out]; rfl, rfl⟩
  | true =>
    cases h2 : partB b with
    | false =>
      have HV := Lib.hid (show v = false by rw [HE.out, h1, h2]; rfl)
      go_enter Tryz.func184, Tryz.ntmps184
      go_wp2_with (go_at_call 219; refine (rpart_any _ _).mono ?_; rintro e w' ⟨rfl, rfl⟩)
      go_ret
      exact ⟨by rw [HV.out]; rfl, rfl⟩
    | true =>
      cases h3 : partB c with
      | false =>
        have HV := Lib.hid (show v = false by rw [HE.out, h1, h2, h3]; rfl)
        go_enter Tryz.func184, Tryz.ntmps184
        go_wp2_with (go_at_call 219; refine (rpart_any _ _).mono ?_; rintro e w' ⟨rfl, rfl⟩)
        go_ret
        exact ⟨by rw [HV.out]; rfl, rfl⟩
      | true =>
        have HV := Lib.hid (show v = true by rw [HE.out, h1, h2, h3]; rfl)
        go_enter Tryz.func184, Tryz.ntmps184
        go_wp2_with (go_at_call 219; refine (rpart_any _ _).mono ?_; rintro e w' ⟨rfl, rfl⟩)
        go_ret
        exact ⟨by rw [HV.out]; rfl, rfl⟩
end Go.Proofs.YtbbnoloploklkaaGreatDoor

namespace Go.Proofs.YtbbnoloploklkaaGreatDoor
set_option linter.unusedVariables false
set_option linter.unusedSimpArgs false
open Go Go.RowKit

def placeV (a b c : Int) : Int × Int := if validB a b c = true then (1000 * b + c, 0) else (0, 2)
def atV (m p : Int) : (Int × Int × Int) × Int := if partB m = true ∧ 0 ≤ p ∧ p < 1000000 then ((m, p / 1000, p % 1000), 0) else ((0, 0, 0), 2)
set_option maxRecDepth 100000 in
theorem Place_any (a b c : Int) (w : World) : Calls Tryz.prog 41 #[.agg #[.int .i64 a, .int .i64 b, .int .i64 c]] w fun e w' => e = .returned (.tuple #[.int .i64 (placeV a b c).1, .int .i64 (placeV a b c).2]) ∧ Below w.heap.size w w' := by
  by_cases hv : validB a b c = true
  · have HE := Lib.hid (show placeV a b c = (1000 * b + c, 0) by unfold placeV; rw [if_pos hv])
    rw [HE.out]
    obtain ⟨⟨a0, a1⟩, ⟨b0, b1⟩, c0, c1⟩ := valid_le hv
    go_enter Tryz.func41, Tryz.ntmps41
    go_wp2_with (go_at_call 103; refine (Valid_any _ _ _ _).mono ?_; rintro e w' ⟨rfl, rfl⟩)
    go_ret2
    exact ⟨rfl, (by repeat (first | exact Below.refl _ _ | refine Below.drew ?_ | refine Below.alloc ?_ (by simp <;> omega) _ | refine Below.setCell ?_ (by simp <;> omega) _))⟩
  · have hv : validB a b c = false := by simpa using hv
    have HE := Lib.hid (show placeV a b c = (0, 2) by unfold placeV; rw [hv]; rfl)
    rw [HE.out]
    go_enter Tryz.func41, Tryz.ntmps41
    go_wp2_with (go_at_call 103; refine (Valid_any _ _ _ _).mono ?_; rintro e w' ⟨rfl, rfl⟩)
    go_ret2
    exact ⟨rfl, (by repeat (first | exact Below.refl _ _ | refine Below.drew ?_ | refine Below.alloc ?_ (by simp <;> omega) _ | refine Below.setCell ?_ (by simp <;> omega) _))⟩
end Go.Proofs.YtbbnoloploklkaaGreatDoor

namespace Go.Proofs.YtbbnoloploklkaaGreatDoor
set_option linter.unusedVariables false
set_option linter.unusedSimpArgs false
open Go Go.RowKit

def inB (p : Int) (x : Int × Int) : Bool := decide (x.1 ≤ p) && decide (p < x.2)
theorem hasB_eq (s : List (Int × Int)) (p : Int) : hasB s p = ((decide (0 ≤ p) && decide (p < 1000000)) && s.any (inB p)) := rfl
set_option maxRecDepth 100000 in
theorem inCl_any (pb : Nat) (p a b : Int) (W : World) (hc : W.cell? ⟨pb, 0, none⟩ = some (intC p)) :
    Calls Tryz.prog 172 #[.agg #[intC a, intC b], .pointer (some ⟨pb, 0, none⟩)] W fun e w' => e = .returned (.bool (inB p (a, b))) ∧ Below W.heap.size W w' := by
  have hlt : pb < W.heap.size := World.block_lt_of_cell? _ _ hc
  have hne : pb ≠ W.heap.size := by omega
  by_cases h1 : a ≤ p
  · by_cases h2 : p < b
    · have HE : Hid (inB p (a, b) = true) := Lib.hid (by simp [inB, h1, h2])
      rw [HE.out]
      go_enter Tryz.func172, Tryz.ntmps172
      go_wp2
      go_ret
      exact ⟨rfl, (by repeat (first | exact Below.refl _ _ | refine Below.drew ?_ | refine Below.alloc ?_ (by simp <;> omega) _ | refine Below.setCell ?_ (by simp <;> omega) _))⟩
    · have HE : Hid (inB p (a, b) = false) := Lib.hid (by simp [inB, h1, h2])
      rw [HE.out]
      go_enter Tryz.func172, Tryz.ntmps172
      go_wp2
      go_ret
      exact ⟨rfl, (by repeat (first | exact Below.refl _ _ | refine Below.drew ?_ | refine Below.alloc ?_ (by simp <;> omega) _ | refine Below.setCell ?_ (by simp <;> omega) _))⟩
  · have HE : Hid (inB p (a, b) = false) := Lib.hid (by simp [inB, h1])
    rw [HE.out]
    go_enter Tryz.func172, Tryz.ntmps172
    go_wp2
    go_ret
    exact ⟨rfl, (by repeat (first | exact Below.refl _ _ | refine Below.drew ?_ | refine Below.alloc ?_ (by simp <;> omega) _ | refine Below.setCell ?_ (by simp <;> omega) _))⟩
set_option maxRecDepth 100000 in
theorem Has_any (v : Value) (s : List (Int × Int)) (p : Int) (w : World) (hs : s.length ≤ 1000000000) (hE : SpansOf w.heap.size v s w) :
    Calls Tryz.prog 122 #[v, .int .i64 p] w fun e w' => e = .returned (.bool (hasB s p)) ∧ Below w.heap.size w w' := by
  have hb0 : Below w.heap.size w (w.alloc (.cells #[intC p] 3)) := (Below.refl _ _).alloc (Nat.le_refl _) _
  have hcall := has_spanE 172 #[.pointer (some ⟨w.heap.size, 0, none⟩)] (enters_of Tryz.func172 (by kernel_rfl) rfl) (inB p) v s (w.alloc (.cells #[intC p] 3)) hs
    ((hE.below hb0 (Nat.le_refl _)).mono (by simp)) (fun W x _ hW => (inCl_any w.heap.size p x.1 x.2 W (by
      rw [hW.cell (p := ⟨w.heap.size, 0, none⟩) (by simp)]
      simp [go_sem])).mono fun e w' h => ⟨h.1, hW.trans (h.2.mono hW.size)⟩)
  by_cases h0 : 0 ≤ p
  · by_cases h1 : p < 1000000
    · have he : hasB s p = s.any (inB p) := by rw [hasB_eq]; simp [h0, h1]
      rw [he]
      generalize s.any (inB p) = q at *
      have HC := Lib.hid hcall
      clear hcall he
      obtain ⟨ao, ec, rfl, _⟩ := hE
      go_enter Tryz.func122, Tryz.ntmps122
      go_wp2_with ((with_reducible refine HC.out.mono ?_); rintro e w' ⟨rfl, hb⟩)
      go_ret
      exact ⟨rfl, hb0.trans (hb.mono (by simp))⟩
    · have he : hasB s p = false := by rw [hasB_eq]; simp [h1]
      rw [he]
      clear hcall he
      go_enter Tryz.func122, Tryz.ntmps122
      go_wp2
      go_ret
      exact ⟨rfl, hb0⟩
  · have he : hasB s p = false := by rw [hasB_eq]; simp [h0]
    rw [he]
    clear hcall he
    go_enter Tryz.func122, Tryz.ntmps122
    go_wp2
    go_ret
    exact ⟨rfl, hb0⟩
end Go.Proofs.YtbbnoloploklkaaGreatDoor
