/- Contract of the reference's Of. The library's Equal at edges and strings that are the same. Graphs, plain: the components in order. -/
import Derived.Test.YtbbnoloploklkaaGreatDoorQP
import Derived.Test.YtbbnoloploklkaaGreatDoorQJ
import Derived.Test.YtbbnoloploklkaaGreatDoorQShelf
import Derived.Shelf.SlicesQ.Equal
import Derived.Laws.StructEq
import Derived.Test.YtbbnoloploklkaaGreatDoorQD
namespace Go.Proofs.YtbbnoloploklkaaGreatDoor
set_option linter.unusedVariables false
set_option linter.unusedSimpArgs false
open Go Go.RowKit

def innerE (s : List SelL) (k : Nat) (p : ByteArray) (n : Nat) : List (Int × Int) := match pathIx s p with
  | some m => if m < n then [((k : Int), (m : Int))] else []
  | none => []
theorem innerE_zero (s : List SelL) (k : Nat) (p : ByteArray) : innerE s k p 0 = [] := by
  unfold innerE
  cases pathIx s p with
  | none => rfl
  | some m => exact if_neg (Nat.not_lt_zero _)
theorem innerE_all (s : List SelL) (k : Nat) (p : ByteArray) : innerE s k p s.length = (match pathIx s p with | some m => [((k : Int), (m : Int))] | none => []) := by
  unfold innerE
  cases h : pathIx s p with
  | none => rfl
  | some m => exact if_pos (pathIx_some h).1
theorem innerE_no {s : List SelL} {k n : Nat} {p : ByteArray} (h : (s.getD n default).1 ≠ p) : innerE s k p (n + 1) = innerE s k p n := by
  unfold innerE
  cases hp : pathIx s p with
  | none => rfl
  | some m =>
    have hne : m ≠ n := fun e => h (by rw [← e]; exact (pathIx_some hp).2)
    by_cases hm : m < n
    · simp only [if_pos hm, if_pos (show m < n + 1 by omega)]
    · simp only [if_neg hm, if_neg (show ¬ m < n + 1 by omega)]
theorem innerE_yes {s : List SelL} (hs : incrS s) {k n : Nat} (hn : n < s.length) : innerE s k (s.getD n default).1 (n + 1) = innerE s k (s.getD n default).1 n ++ [((k : Int), (n : Int))] := by
  unfold innerE
  rw [pathIx_at hs hn]
  simp only [if_pos (Nat.lt_succ_self n), if_neg (Nat.lt_irrefl n), List.nil_append]
set_option maxRecDepth 100000 in
set_option maxHeartbeats 8000000 in
theorem rOf_any (v iv sv : Value) (X : List RelL) (s : List SelL) (w : World) (hX : X.length ≤ 1000000) (hq : ∀ x ∈ X, RelBd x) (hR : RelsOf w.heap.size v X w) (hs : s.length ≤ 1000000) (hS : SelsOf w.heap.size sv s w) :
    Calls Tryz.prog 50 #[.agg #[v, iv], sv] w (GraphR w (ofV X s)) := by
  obtain ⟨so, sc, rfl⟩ : ∃ so sc, sv = .slice so s.length sc := by obtain ⟨a, c, e, _⟩ := hS; exact ⟨a, c, e⟩
  have HC := Lib.hid (fun W (hb : Below w.heap.size w W) => rCheck32_any v iv X W hX hq ((hR.below hb (Nat.le_refl _)).mono hb.size))
  have HF := Lib.hid (fun y W (hb : Below w.heap.size w W) => rFind32_any v iv X y W w.heap.size hb.size hX hq (hR.below hb (Nat.le_refl _)))
  have HIC := Lib.hid (fun W (hb : Below w.heap.size w W) => rIncr_any (.slice so s.length sc) s W hs ((hS.below hb (Nat.le_refl _)).mono hb.size))
  have HS := Lib.hid hS
  have HQ := Lib.hid hq
  clear hR hq hS
  obtain ⟨G, hG⟩ : ∃ G, ofV X s = G := ⟨_, rfl⟩
  have HG := Lib.hid hG
  rw [hG]
  clear hG
  have HB0 : Hid (Below w.heap.size w ((w.alloc (.cells #[v, iv] 25)).alloc (.cells #[.slice none 0 0, .slice none 0 0] 78))) := Lib.hid (by repeat (first | exact Below.refl _ _ | refine Below.drew ?_ | refine Below.alloc ?_ (by simp <;> omega) _ | refine Below.setCell ?_ (by simp <;> omega) _))
  have HI0 : Hid (((w.alloc (.cells #[v, iv] 25)).alloc (.cells #[.slice none 0 0, .slice none 0 0] 78)).heap[w.heap.size]? = some (.cells #[v, iv] 25 (0, 0))) := Lib.hid (((belQ _ _).block w.heap.size (by simp)).trans (World.alloc_heap_new w _))
  have HZ0 : Hid (((w.alloc (.cells #[v, iv] 25)).alloc (.cells #[.slice none 0 0, .slice none 0 0] 78)).heap[w.heap.size + 1]? = some (.cells #[.slice none 0 0, .slice none 0 0] 78 (0, 0))) := Lib.hid (by
    have := World.alloc_heap_new (w.alloc (.cells #[v, iv] 25)) (.cells #[.slice none 0 0, .slice none 0 0] 78)
    rwa [World.size_alloc] at this)
  have hw0 : w.heap.size + 1 < ((w.alloc (.cells #[v, iv] 25)).alloc (.cells #[.slice none 0 0, .slice none 0 0] 78)).heap.size := by simp
  go_enter Tryz.func50, Tryz.ntmps50
  go_upto_region 1 with fail
  generalize (w.alloc (.cells #[v, iv] 25)).alloc (.cells #[.slice none 0 0, .slice none 0 0] 78) = W at *
  have c0 : W.cell? ⟨w.heap.size, 0, none⟩ = some v := cell_of_row _ _ 0 _ _ _ HI0.out
  have c1 : W.cell? ⟨w.heap.size, 1, none⟩ = some iv := cell_of_row _ _ 1 _ _ _ HI0.out
  go_wp2_with fail
  refine (HC.out _ HB0.out).mono ?_
  rintro e w1 ⟨rfl, hb1⟩
  have HB1 := Lib.hid (HB0.out.trans (hb1.mono HB0.out.size))
  have HI1 := Lib.hid ((hb1.block w.heap.size (by omega)).trans HI0.out)
  have HZ1 := Lib.hid ((hb1.block (w.heap.size + 1) hw0).trans HZ0.out)
  have hs1 := hb1.size
  clear hb1 c0 c1 HB0 HI0 HZ0 HC
  obtain ⟨E, hE⟩ : ∃ E, checkX X = E := ⟨_, rfl⟩
  have HE := Lib.hid hE
  rw [hE]
  clear hE
  have r0 : w1.cell? ⟨w.heap.size + 1, 0, none⟩ = some (.slice none 0 0) := cell_of_row _ _ 0 _ _ _ HZ1.out
  have r1 : w1.cell? ⟨w.heap.size + 1, 1, none⟩ = some (.slice none 0 0) := cell_of_row _ _ 1 _ _ _ HZ1.out
  have q0 := frozen_of_row _ _ 0 _ _ HZ1.out
  have q1 := frozen_of_row _ _ 1 _ _ HZ1.out
  have HNO : Hid (∀ (wx : World) (en : Int), Below w1.heap.size w1 wx → G = (([], []), en) → ∃ rr, ((wx.setCell ⟨w.heap.size + 1, 0, none⟩ (.slice none 0 0)).setCell ⟨w.heap.size + 1, 1, none⟩ (.slice none 0 0)) = rr ∧ rr.heap[w.heap.size + 1]? = some (.cells #[.slice none 0 0, .slice none 0 0] 78 (0, 0)) ∧ GraphR w G (.returned (.tuple #[.agg #[.slice none 0 0, .slice none 0 0], .int .i64 en])) rr) := Lib.hid (by
    intro wx en hb hg
    refine ⟨_, rfl, setTwo _ _ _ _ _ _ _ ((hb.block _ (by omega)).trans HZ1.out), ?_⟩
    rw [hg]
    refine ⟨_, _, rfl, .inl ⟨rfl, none, 0, rfl⟩, ⟨none, 0, rfl, fun i x hx => by simp at hx⟩, ?_⟩
    exact ((HB1.out.trans (hb.mono HB1.out.size)).setCell (by simp) _).setCell (by simp) _)
  by_cases h0 : E = 0
  case neg =>
    have h0b : (E != 0) = true := by simpa using h0
    obtain ⟨rr, hrr, hbx, hgr⟩ := HNO.out w1 1 (Below.refl _ _) (by rw [← HG.out]; exact ofV_one (.inl (by rw [HE.out]; exact h0)))
    have HGR := Lib.hid hgr
    have HBX := Lib.hid hbx
    clear hgr hbx
    go_wp2_with fail
    refine bodyPost_ret (results_cell_tmp rfl _ _ (w.heap.size + 1) _ _ _ _ rfl HBX.out Tryz.underlying78 rfl (by kernel_rfl)) rfl ?_
    exact HGR.out
  subst h0
  clear r0 r1 q0 q1
  go_wp2_with fail
  refine (HIC.out _ HB1.out).mono ?_
  rintro e w2 ⟨ib, rfl, hib, hb2⟩
  have HB2 := Lib.hid hb2
  have HIB := Lib.hid hib
  have hs2 := hb2.size
  clear hb2 hib
  cases ib with
  | false =>
    obtain ⟨rr, hrr, hbx, hgr⟩ := HNO.out w2 1 HB2.out (by rw [← HG.out]; exact ofV_one (.inr (fun h => by have := HIB.out.2 h; cases this)))
    have HGR := Lib.hid hgr
    have HBX := Lib.hid hbx
    have hz := (HB2.out.block (w.heap.size + 1) (by omega)).trans HZ1.out
    have r0 : w2.cell? ⟨w.heap.size + 1, 0, none⟩ = some (.slice none 0 0) := cell_of_row _ _ 0 _ _ _ hz
    have r1 : w2.cell? ⟨w.heap.size + 1, 1, none⟩ = some (.slice none 0 0) := cell_of_row _ _ 1 _ _ _ hz
    have q0 := frozen_of_row _ _ 0 _ _ hz
    have q1 := frozen_of_row _ _ 1 _ _ hz
    clear hgr hbx hz
    go_wp2_with fail
    refine bodyPost_ret (results_cell_tmp rfl _ _ (w.heap.size + 1) _ _ _ _ rfl HBX.out Tryz.underlying78 rfl (by kernel_rfl)) rfl ?_
    exact HGR.out
  | true =>
  have HIN := Lib.hid (HIB.out.1 rfl)
  have HJ0 := Lib.hid (OfJ.start s HB2.out)
  obtain ⟨i0, hi0, hz0, hz1, hz2⟩ := info_parts info_strs2
  obtain ⟨j0, hj0, hy0, hy1, hy2⟩ := info_parts info_edges
  clear HIB
  go_upto_region 4 with fail
  generalize hg : w2.heap.size = g at *
  have hg1 : w1.heap.size ≤ g := by omega
  generalize w2.alloc (.cells #[.slice none 0 0, .slice none 0 0] 78) = W2 at *
  clear hg HB2
  go_wp2_with fail
  go_loopw [7] (fun p wr => Hid (∃ k nv ev, k ≤ s.length ∧ p = .int .i64 ((k : Nat) : Int) ∧ OfJ w1 g s k (edgesK X s k) nv ev wr ∧ ∀ j, j < k → (findR X (s.getD j default)).isSome = true)) (fun p _ => s.length - (intOf p).toNat)
  case atStart => exact Lib.hid ⟨0, _, _, Nat.zero_le _, rfl, HJ0.out, fun j hj => absurd hj (Nat.not_lt_zero _)⟩
  case round =>
    obtain ⟨k, nv, ev, hk, rfl, hj, hfo⟩ := hrel.out
    have HJ := Lib.hid hj
    have HFO := Lib.hid hfo
    clear hrel hj hfo
    by_cases hlt2 : k < s.length
    case neg =>
      have hk2 : k = s.length := by omega
      subst hk2
      have HGO := Lib.hid (show G = ((s.map (·.1), edgesK X s s.length), 0) by rw [← HG.out]; exact ofV_ok HE.out HIN.out HFO.out)
      have hz := (HJ.out.bel.block (w.heap.size + 1) (by omega)).trans HZ1.out
      have ho := HJ.out.out
      have HBF := Lib.hid (HB1.out.trans (HJ.out.bel.mono HB1.out.size))
      have HNS : Hid (∀ W, wr.grownBy W (some (w.heap.size + 1)) → RowOf Value.string W.heap.size nv (s.map (·.1)) W ∧ EdgesOf W.heap.size ev (edgesK X s s.length) W) := Lib.hid (fun W hg => by
        have h1 := own_farM HJ.out.nodes hg (by omega)
        have h2 := own_farM HJ.out.edges hg (by omega)
        rw [List.take_length] at h1
        exact ⟨own_strs (by rw [List.map_map]; exact h1), own_edges h2⟩)
      obtain ⟨na, nc, rfl⟩ : ∃ na nc, nv = .slice na s.length nc := by
        obtain ⟨hl, ⟨rfl, h0⟩ | ⟨g, cap, cur, rfl, _⟩⟩ := HJ.out.nodes
        · exact ⟨none, 0, by rw [h0]⟩
        · exact ⟨_, _, rfl⟩
      obtain ⟨ea, ec, rfl⟩ : ∃ ea ec, ev = .slice ea (edgesK X s s.length).length ec := by
        obtain ⟨hl, ⟨rfl, h0⟩ | ⟨g, cap, cur, rfl, _⟩⟩ := HJ.out.edges
        · exact ⟨none, 0, by rw [h0]⟩
        · exact ⟨_, _, rfl⟩
      have HBX := Lib.hid (setTwo wr (w.heap.size + 1) _ _ _ (.slice na s.length nc) (.slice ea (edgesK X s s.length).length ec) hz)
      have HGW : Hid (wr.grownBy ((wr.setCell ⟨w.heap.size + 1, 0, none⟩ (.slice na s.length nc)).setCell ⟨w.heap.size + 1, 1, none⟩ (.slice ea (edgesK X s s.length).length ec)) (some (w.heap.size + 1))) := Lib.hid (grownBy_tr (grownBy_setC _ _ _ _) (grownBy_setC _ _ _ _))
      have r0 : wr.cell? ⟨w.heap.size + 1, 0, none⟩ = some (.slice none 0 0) := cell_of_row _ _ 0 _ _ _ hz
      have r1 : wr.cell? ⟨w.heap.size + 1, 1, none⟩ = some (.slice none 0 0) := cell_of_row _ _ 1 _ _ _ hz
      have q0 := frozen_of_row _ _ 0 _ _ hz
      have q1 := frozen_of_row _ _ 1 _ _ hz
      have o0 : wr.cell? ⟨g, 0, none⟩ = some (.slice na s.length nc) := cell_of_row _ _ 0 _ _ _ ho
      have o1 : wr.cell? ⟨g, 1, none⟩ = some (.slice ea (edgesK X s s.length).length ec) := cell_of_row _ _ 1 _ _ _ ho
      clear hz ho
      go_wp2_with fail
      refine bodyPost_ret (results_cell_tmp rfl _ _ (w.heap.size + 1) _ _ _ _ rfl HBX.out Tryz.underlying78 rfl (by kernel_rfl)) rfl ?_
      rw [HGO.out]
      obtain ⟨h1, h2⟩ := HNS.out _ HGW.out
      exact ⟨_, _, rfl, h1, h2, HBF.out.grown HGW.out HBF.out.size (fun b hb => by cases hb; omega)⟩
    case pos =>
      obtain ⟨b, off, rfl, hbl, d0, d1, d2, d3⟩ := HS.out.at hlt2
      have HBW := Lib.hid (HB1.out.trans (HJ.out.bel.mono HB1.out.size))
      have hsl := HJ.out.bel.size
      have d0 := (HBW.out.cell (p := ⟨b, off + k * 4, none⟩) hbl).trans d0
      have d1 := (HBW.out.cell (p := ⟨b, off + k * 4 + 1, none⟩) hbl).trans d1
      have d2 := (HBW.out.cell (p := ⟨b, off + k * 4 + 2, none⟩) hbl).trans d2
      have d3 := (HBW.out.cell (p := ⟨b, off + k * 4 + 3, none⟩) hbl).trans d3
      obtain ⟨y, hyk⟩ : ∃ y, s.getD k default = y := ⟨_, rfl⟩
      rw [hyk] at d0 d1 d2 d3
      have HYK := Lib.hid hyk
      clear hyk
      have hbw : b < wr.heap.size := Nat.lt_of_lt_of_le hbl HBW.out.size
      have hi9 := (HJ.out.bel.block w.heap.size (by omega)).trans HI1.out
      have c0 : wr.cell? ⟨w.heap.size, 0, none⟩ = some v := cell_of_row _ _ 0 _ _ _ hi9
      have c1 : wr.cell? ⟨w.heap.size, 1, none⟩ = some iv := cell_of_row _ _ 1 _ _ _ hi9
      clear hi9
      obtain ⟨o, ho⟩ : ∃ o, findX X y = o := ⟨_, rfl⟩
      have HFY := Lib.hid (fun W hb => HF.out y W hb)
      rw [ho] at HFY
      have HO := Lib.hid (show findR X y = o by rw [← ho]; unfold findX; rw [if_pos HE.out])
      clear ho
      have hlt3 : (k : Int) < (s.length : Int) := by omega
      have hk0 : (0 : Int) ≤ (k : Int) := by omega
      have HSS : Hid (∀ W' : World, Below wr.heap.size wr W' → HeldS ⟨w.heap.size, 0, none⟩ ⟨w.heap.size, 1, none⟩ ⟨b, off + k * 4, none⟩ ⟨b, off + k * 4 + 1, none⟩ ⟨b, off + k * 4 + 2, none⟩ ⟨b, off + k * 4 + 3, none⟩ v iv (.string y.1) (intC y.2.1) (intC y.2.2.1) (intC y.2.2.2) W') := Lib.hid (fun W' hb => ⟨(hb.cell (p := ⟨w.heap.size, 0, none⟩) (by simp; omega)).trans c0, (hb.cell (p := ⟨w.heap.size, 1, none⟩) (by simp; omega)).trans c1, (hb.cell (p := ⟨b, _, none⟩) hbw).trans d0, (hb.cell (p := ⟨b, _, none⟩) hbw).trans d1, (hb.cell (p := ⟨b, _, none⟩) hbw).trans d2, (hb.cell (p := ⟨b, _, none⟩) hbw).trans d3⟩)
      obtain ⟨x, hx⟩ : ∃ x, o.getD default = x := ⟨_, rfl⟩
      have HX := Lib.hid hx
      obtain ⟨ob, hob⟩ : ∃ ob, o.isSome = ob := ⟨_, rfl⟩
      have HOB := Lib.hid hob
      unfold FindR2 at HFY
      rw [hx, hob] at HFY
      clear hx hob d0 d1 d2 d3 c0 c1
      simp only [relC_at] at HFY
      go_upto_region 7 with fail
      go_cut [8, 9, 28, 40, 41, 42] (fun s8 s9 s28 s40 s41 s42 wx => ∃ (g8 : Nat) (ra : Option Addr) (rc : Nat), s8 = .pointer (some ⟨g8, 0, none⟩) ∧ s9 = .bool ob ∧ s28 = .tuple #[.agg (relC x (.slice ra x.reqs.length rc)), .bool ob] ∧ s40 = .tuple #[.agg (relC x (.slice ra x.reqs.length rc)), .bool ob] ∧ s41 = .agg (relC x (.slice ra x.reqs.length rc)) ∧ s42 = .bool ob ∧
        Hid (BoxR wx g8 x (.slice ra x.reqs.length rc) ∧ ReqsOf w.heap.size (.slice ra x.reqs.length rc) x.reqs wx ∧ Below wr.heap.size wr wx))
      case first =>
        refine wp_region_noPanic ?_
        refine wp_region_held_drew (S := HeldS ⟨w.heap.size, 0, none⟩ ⟨w.heap.size, 1, none⟩ ⟨b, off + k * 4, none⟩ ⟨b, off + k * 4 + 1, none⟩ ⟨b, off + k * 4 + 2, none⟩ ⟨b, off + k * 4 + 3, none⟩ v iv (.string y.1) (intC y.2.1) (intC y.2.2.1) (intC y.2.2.2)) (by kernel_rfl) (HSS.out _ (Below.refl _ _).drew) (fun hS0 => ?_)
        (refine wpAnyH_take (i := 0) (v := ?_) rfl (by kernel_rfl) (by kernel_rfl) (by kernel_rfl) (fun _ _ _ h => h) (Or.inl ⟨by rfl, ?_⟩) (by assumption) ?_; rotate_left; (· (intro w hSw; obtain ⟨p0, p1, p2, p3, p4, p5⟩ := hSw; go_simp; try with_reducible rfl)); (try simp only [zl1, zl2, zl3, Act.put, zl4, zl5, zl6]))
        (refine wpAnyH_take (i := 1) (v := ?_) rfl (by kernel_rfl) (by kernel_rfl) (by kernel_rfl) (fun _ _ _ h => h) (Or.inl ⟨by rfl, ?_⟩) (by assumption) ?_; rotate_left; (· (intro w hSw; obtain ⟨p0, p1, p2, p3, p4, p5⟩ := hSw; go_simp; try with_reducible rfl)); (try simp only [zl1, zl2, zl3, Act.put, zl4, zl5, zl6]))
        (refine wpAnyH_take (i := 2) (v := ?_) rfl (by kernel_rfl) (by kernel_rfl) (by kernel_rfl) (fun _ _ _ h => h) (Or.inl ⟨by rfl, ?_⟩) (by assumption) ?_; rotate_left; (· (intro w hSw; obtain ⟨p0, p1, p2, p3, p4, p5⟩ := hSw; go_simp; try with_reducible rfl)); (try simp only [zl1, zl2, zl3, Act.put, zl4, zl5, zl6]))
        (refine wpAnyH_take (i := 3) (v := ?_) rfl (by kernel_rfl) (by kernel_rfl) (by kernel_rfl) (fun _ _ _ h => h) (Or.inl ⟨by rfl, ?_⟩) (by assumption) ?_; rotate_left; (· (intro w hSw; obtain ⟨p0, p1, p2, p3, p4, p5⟩ := hSw; go_simp; try with_reducible rfl)); (try simp only [zl1, zl2, zl3, Act.put, zl4, zl5, zl6]))
        (refine wpAnyH_take (i := 4) (v := ?_) rfl (by kernel_rfl) (by kernel_rfl) (by kernel_rfl) (fun _ _ _ h => h) (Or.inl ⟨by rfl, ?_⟩) (by assumption) ?_; rotate_left; (· (intro w hSw; obtain ⟨p0, p1, p2, p3, p4, p5⟩ := hSw; go_simp; try with_reducible rfl)); (try simp only [zl1, zl2, zl3, Act.put, zl4, zl5, zl6]))
        (refine wpAnyH_take (i := 5) (v := ?_) rfl (by kernel_rfl) (by kernel_rfl) (by kernel_rfl) (fun _ _ _ h => h) (Or.inl ⟨by rfl, ?_⟩) (by assumption) ?_; rotate_left; (· (intro w hSw; obtain ⟨p0, p1, p2, p3, p4, p5⟩ := hSw; go_simp; try with_reducible rfl)); (try simp only [zl1, zl2, zl3, Act.put, zl4, zl5, zl6]))
        (refine wpAnyH_take (i := 6) (v := ?_) rfl (by kernel_rfl) (by kernel_rfl) (by kernel_rfl) (fun _ _ _ h => h) (Or.inl ⟨by rfl, ?_⟩) (by assumption) ?_; rotate_left; (· (intro w hSw; obtain ⟨p0, p1, p2, p3, p4, p5⟩ := hSw; go_simp; try with_reducible rfl)); (try simp only [zl1, zl2, zl3, Act.put, zl4, zl5, zl6]))
        (refine wpAnyH_take (i := 7) (v := ?_) rfl (by kernel_rfl) (by kernel_rfl) (by kernel_rfl) (fun _ _ _ h => h) (Or.inl ⟨by rfl, ?_⟩) (by assumption) ?_; rotate_left; (· (intro w hSw; obtain ⟨p0, p1, p2, p3, p4, p5⟩ := hSw; go_simp; try with_reducible rfl)); (try simp only [zl1, zl2, zl3, Act.put, zl4, zl5, zl6]))
        (refine wpAnyH_take (i := 8) (v := ?_) rfl (by kernel_rfl) (by kernel_rfl) (by kernel_rfl) (fun _ _ _ h => h) (Or.inl ⟨by rfl, ?_⟩) (by assumption) ?_; rotate_left; (· (intro w hSw; obtain ⟨p0, p1, p2, p3, p4, p5⟩ := hSw; go_simp; try with_reducible rfl)); (try simp only [zl1, zl2, zl3, Act.put, zl4, zl5, zl6]))
        (refine wpAnyH_take (i := 9) (v := ?_) rfl (by kernel_rfl) (by kernel_rfl) (by kernel_rfl) (fun _ _ _ h => h) (Or.inl ⟨by rfl, ?_⟩) (by assumption) ?_; rotate_left; (· (intro w hSw; obtain ⟨p0, p1, p2, p3, p4, p5⟩ := hSw; go_simp; try with_reducible rfl)); (try simp only [zl1, zl2, zl3, Act.put, zl4, zl5, zl6]))
        (refine wpAnyH_take (i := 10) (v := ?_) rfl (by kernel_rfl) (by kernel_rfl) (by kernel_rfl) (fun _ _ _ h => h) (Or.inl ⟨by rfl, ?_⟩) (by assumption) ?_; rotate_left; (· (intro w hSw; obtain ⟨p0, p1, p2, p3, p4, p5⟩ := hSw; go_simp; try with_reducible rfl)); (try simp only [zl1, zl2, zl3, Act.put, zl4, zl5, zl6]))
        refine wpAnyH_ready (rs := [11, 15]) (by kernel_rfl) (by simp) (AllReadyH.cons rfl (fun K hK => ?_) (AllReadyH.cons rfl (fun K hK => ?_) AllReadyH.nil))
        · go_simp
          refine (HFY.out _ HBW.out.drew).mono ?_
          rintro e w3 ⟨r', rfl, hrr, hb3⟩
          have HRR := Lib.hid hrr
          obtain ⟨ra, rc, rfl, _⟩ := hrr
          have hb4 : Below wr.heap.size wr w3 := (Below.refl _ _).drew.trans (show Below wr.heap.size wr.drew w3 from hb3.mono (Nat.le_refl _))
          have HB4 := Lib.hid hb4
          refine hK.out _ _ (HSS.out _ hb4) (fun hS1 => ?_)
          clear hK K hS0 hb3 hb4
          (try simp only [zl1, zl2, zl3, Act.put, zl4, zl5, zl6])
          (refine wpAnyH_take (i := 12) (v := ?_) rfl (by kernel_rfl) (by kernel_rfl) (by kernel_rfl) (fun _ _ _ h => h) (Or.inl ⟨by rfl, ?_⟩) (by assumption) ?_; rotate_left; (· (intro w hSw; obtain ⟨p0, p1, p2, p3, p4, p5⟩ := hSw; go_simp; try with_reducible rfl)); (try simp only [zl1, zl2, zl3, Act.put, zl4, zl5, zl6]))
          (refine wpAnyH_take (i := 13) (v := ?_) rfl (by kernel_rfl) (by kernel_rfl) (by kernel_rfl) (fun _ _ _ h => h) (Or.inl ⟨by rfl, ?_⟩) (by assumption) ?_; rotate_left; (· (intro w hSw; obtain ⟨p0, p1, p2, p3, p4, p5⟩ := hSw; go_simp; try with_reducible rfl)); (try simp only [zl1, zl2, zl3, Act.put, zl4, zl5, zl6]))
          (refine wpAnyH_take (i := 14) (v := ?_) rfl (by kernel_rfl) (by kernel_rfl) (by kernel_rfl) (fun _ _ _ h => h) (Or.inl ⟨by rfl, ?_⟩) (by assumption) ?_; rotate_left; (· (intro w hSw; obtain ⟨p0, p1, p2, p3, p4, p5⟩ := hSw; go_simp; try with_reducible rfl)); (try simp only [zl1, zl2, zl3, Act.put, zl4, zl5, zl6]))
          refine wpAnyH_ready (rs := [15]) (by kernel_rfl) (by simp) (AllReadyH.cons rfl (fun K hK => ?_) AllReadyH.nil)
          go_simp
          have HB5 := Lib.hid (HB4.out.trans ((belQ w3 (.cells #[.string ⟨#[]⟩, .int .i64 0, .int .i64 0, .int .i64 0, .slice none 0 0, .string ⟨#[]⟩, .string ⟨#[]⟩, .string ⟨#[]⟩, .bool false] 71)).mono HB4.out.size))
          have HZ5 := Lib.hid (World.alloc_heap_new w3 (.cells #[.string ⟨#[]⟩, .int .i64 0, .int .i64 0, .int .i64 0, .slice none 0 0, .string ⟨#[]⟩, .string ⟨#[]⟩, .string ⟨#[]⟩, .bool false] 71))
          have HR5 := Lib.hid (HRR.out.below (belQ w3 (.cells #[.string ⟨#[]⟩, .int .i64 0, .int .i64 0, .int .i64 0, .slice none 0 0, .string ⟨#[]⟩, .string ⟨#[]⟩, .string ⟨#[]⟩, .bool false] 71)) (Nat.le_trans HBW.out.size HB4.out.size))
          refine hK.out _ _ (HSS.out _ HB5.out) (fun hS2 => ?_)
          clear hK K hS1
          (try simp only [zl1, zl2, zl3, Act.put, zl4, zl5, zl6])
          generalize hg8 : w3.heap.size = g8 at *
          have hg8l : wr.heap.size ≤ g8 := by have := HB4.out.size; omega
          generalize w3.alloc (.cells #[.string ⟨#[]⟩, .int .i64 0, .int .i64 0, .int .i64 0, .slice none 0 0, .string ⟨#[]⟩, .string ⟨#[]⟩, .string ⟨#[]⟩, .bool false] 71) = W5 at *
          have hz5 := HZ5.out
          have b0 : W5.cell? ⟨g8, 0, none⟩ = some (.string ⟨#[]⟩) := cell_of_row _ _ 0 _ _ _ hz5
          have b1 : W5.cell? ⟨g8, 1, none⟩ = some (.int .i64 0) := cell_of_row _ _ 1 _ _ _ hz5
          have b2 : W5.cell? ⟨g8, 2, none⟩ = some (.int .i64 0) := cell_of_row _ _ 2 _ _ _ hz5
          have b3 : W5.cell? ⟨g8, 3, none⟩ = some (.int .i64 0) := cell_of_row _ _ 3 _ _ _ hz5
          have b4 : W5.cell? ⟨g8, 4, none⟩ = some (.slice none 0 0) := cell_of_row _ _ 4 _ _ _ hz5
          have b5 : W5.cell? ⟨g8, 5, none⟩ = some (.string ⟨#[]⟩) := cell_of_row _ _ 5 _ _ _ hz5
          have b6 : W5.cell? ⟨g8, 6, none⟩ = some (.string ⟨#[]⟩) := cell_of_row _ _ 6 _ _ _ hz5
          have b7 : W5.cell? ⟨g8, 7, none⟩ = some (.string ⟨#[]⟩) := cell_of_row _ _ 7 _ _ _ hz5
          have b8 : W5.cell? ⟨g8, 8, none⟩ = some (.bool false) := cell_of_row _ _ 8 _ _ _ hz5
          have F : ∀ j, W5.frozen? ⟨g8, j, none⟩ = false := fun j => frozen_of_row _ _ j _ _ hz5
          have f0 := F 0
          have f1 := F 1
          have f2 := F 2
          have f3 := F 3
          have f4 := F 4
          have f5 := F 5
          have f6 := F 6
          have f7 := F 7
          have f8 := F 8
          clear F
          have hgr := setRel_grown W5 (g8) x (.slice ra x.reqs.length rc)
          have hbx : BoxR (setRel W5 (g8) x (.slice ra x.reqs.length rc)) (g8) x (.slice ra x.reqs.length rc) := setRel_box x (.slice ra x.reqs.length rc) hz5
          have hbl : Below wr.heap.size wr (setRel W5 (g8) x (.slice ra x.reqs.length rc)) := HB5.out.grown hgr HB5.out.size (fun b hb => by cases hb; omega)
          have hrl : ReqsOf w.heap.size (.slice ra x.reqs.length rc) x.reqs (setRel W5 (g8) x (.slice ra x.reqs.length rc)) := HR5.out.below (B' := w.heap.size) ((Below.refl _ _).grown hgr (Nat.le_trans HBW.out.size HB5.out.size) (fun b hb => by cases hb; have := HBW.out.size; omega)) (Nat.le_refl _)
          have hss := HSS.out _ hbl
          have HBX := Lib.hid (And.intro hbx (And.intro hrl hbl))
          unfold setRel at HBX hss
          clear hgr hbx hbl hrl hz5
          refine wpAnyH_ready (rs := [16]) (by kernel_rfl) (by simp) (AllReadyH.cons rfl (fun K hK => ?_) AllReadyH.nil)
          go_simp
          refine hK.out _ _ hss (fun hS9 => ?_)
          clear hK K hss hS2
          (try simp only [zl1, zl2, zl3, Act.put, zl4, zl5, zl6])
          (refine wpAnyH_take (i := 17) (v := ?_) rfl (by kernel_rfl) (by kernel_rfl) (by kernel_rfl) (fun _ _ _ h => h) (Or.inl ⟨by rfl, ?_⟩) (by assumption) ?_; rotate_left; (· (intro w hSw; obtain ⟨p0, p1, p2, p3, p4, p5⟩ := hSw; go_simp; try with_reducible rfl)); (try simp only [zl1, zl2, zl3, Act.put, zl4, zl5, zl6]))
          refine wpAnyH_done (by kernel_rfl) ?_ _
          refine NoPanic.normal ?_
          go_wp2_with fail
          go_meet
          exact ⟨_, ra, rc, rfl, rfl, rfl, rfl, rfl, rfl, HBX⟩
        · go_simp
          have HB5 : Hid (Below wr.heap.size wr ((wr.alloc (.cells #[.string ⟨#[]⟩, .int .i64 0, .int .i64 0, .int .i64 0, .slice none 0 0, .string ⟨#[]⟩, .string ⟨#[]⟩, .string ⟨#[]⟩, .bool false] 71)).drew)) := Lib.hid (belQ wr (.cells #[.string ⟨#[]⟩, .int .i64 0, .int .i64 0, .int .i64 0, .slice none 0 0, .string ⟨#[]⟩, .string ⟨#[]⟩, .string ⟨#[]⟩, .bool false] 71)).drew
          refine hK.out _ _ (HSS.out _ HB5.out) (fun hS1 => ?_)
          clear hK K hS0
          (try simp only [zl1, zl2, zl3, Act.put, zl4, zl5, zl6])
          refine wpAnyH_ready (rs := [11]) (by kernel_rfl) (by simp) (AllReadyH.cons rfl (fun K hK => ?_) AllReadyH.nil)
          go_simp
          refine (HFY.out _ (HBW.out.trans (HB5.out.mono HBW.out.size))).mono ?_
          rintro e W5 ⟨r', rfl, hrr, hb3⟩
          have HR5 := Lib.hid hrr
          obtain ⟨ra, rc, rfl, _⟩ := hrr
          have HB4 := Lib.hid (HB5.out.trans (hb3.mono HB5.out.size))
          have hz5 := (hb3.block wr.heap.size (by simp)).trans (show ((wr.alloc (.cells #[.string ⟨#[]⟩, .int .i64 0, .int .i64 0, .int .i64 0, .slice none 0 0, .string ⟨#[]⟩, .string ⟨#[]⟩, .string ⟨#[]⟩, .bool false] 71)).drew).heap[wr.heap.size]? = _ from World.alloc_heap_new wr (.cells #[.string ⟨#[]⟩, .int .i64 0, .int .i64 0, .int .i64 0, .slice none 0 0, .string ⟨#[]⟩, .string ⟨#[]⟩, .string ⟨#[]⟩, .bool false] 71))
          refine hK.out _ _ (HSS.out _ HB4.out) (fun hS2 => ?_)
          clear hK K hS1 hb3 HB5
          (try simp only [zl1, zl2, zl3, Act.put, zl4, zl5, zl6])
          (refine wpAnyH_take (i := 12) (v := ?_) rfl (by kernel_rfl) (by kernel_rfl) (by kernel_rfl) (fun _ _ _ h => h) (Or.inl ⟨by rfl, ?_⟩) (by assumption) ?_; rotate_left; (· (intro w hSw; obtain ⟨p0, p1, p2, p3, p4, p5⟩ := hSw; go_simp; try with_reducible rfl)); (try simp only [zl1, zl2, zl3, Act.put, zl4, zl5, zl6]))
          (refine wpAnyH_take (i := 13) (v := ?_) rfl (by kernel_rfl) (by kernel_rfl) (by kernel_rfl) (fun _ _ _ h => h) (Or.inl ⟨by rfl, ?_⟩) (by assumption) ?_; rotate_left; (· (intro w hSw; obtain ⟨p0, p1, p2, p3, p4, p5⟩ := hSw; go_simp; try with_reducible rfl)); (try simp only [zl1, zl2, zl3, Act.put, zl4, zl5, zl6]))
          (refine wpAnyH_take (i := 14) (v := ?_) rfl (by kernel_rfl) (by kernel_rfl) (by kernel_rfl) (fun _ _ _ h => h) (Or.inl ⟨by rfl, ?_⟩) (by assumption) ?_; rotate_left; (· (intro w hSw; obtain ⟨p0, p1, p2, p3, p4, p5⟩ := hSw; go_simp; try with_reducible rfl)); (try simp only [zl1, zl2, zl3, Act.put, zl4, zl5, zl6]))
          have hg8l : wr.heap.size ≤ wr.heap.size := Nat.le_refl _
          have b0 : W5.cell? ⟨wr.heap.size, 0, none⟩ = some (.string ⟨#[]⟩) := cell_of_row _ _ 0 _ _ _ hz5
          have b1 : W5.cell? ⟨wr.heap.size, 1, none⟩ = some (.int .i64 0) := cell_of_row _ _ 1 _ _ _ hz5
          have b2 : W5.cell? ⟨wr.heap.size, 2, none⟩ = some (.int .i64 0) := cell_of_row _ _ 2 _ _ _ hz5
          have b3 : W5.cell? ⟨wr.heap.size, 3, none⟩ = some (.int .i64 0) := cell_of_row _ _ 3 _ _ _ hz5
          have b4 : W5.cell? ⟨wr.heap.size, 4, none⟩ = some (.slice none 0 0) := cell_of_row _ _ 4 _ _ _ hz5
          have b5 : W5.cell? ⟨wr.heap.size, 5, none⟩ = some (.string ⟨#[]⟩) := cell_of_row _ _ 5 _ _ _ hz5
          have b6 : W5.cell? ⟨wr.heap.size, 6, none⟩ = some (.string ⟨#[]⟩) := cell_of_row _ _ 6 _ _ _ hz5
          have b7 : W5.cell? ⟨wr.heap.size, 7, none⟩ = some (.string ⟨#[]⟩) := cell_of_row _ _ 7 _ _ _ hz5
          have b8 : W5.cell? ⟨wr.heap.size, 8, none⟩ = some (.bool false) := cell_of_row _ _ 8 _ _ _ hz5
          have F : ∀ j, W5.frozen? ⟨wr.heap.size, j, none⟩ = false := fun j => frozen_of_row _ _ j _ _ hz5
          have f0 := F 0
          have f1 := F 1
          have f2 := F 2
          have f3 := F 3
          have f4 := F 4
          have f5 := F 5
          have f6 := F 6
          have f7 := F 7
          have f8 := F 8
          clear F
          have hgr := setRel_grown W5 (wr.heap.size) x (.slice ra x.reqs.length rc)
          have hbx : BoxR (setRel W5 (wr.heap.size) x (.slice ra x.reqs.length rc)) (wr.heap.size) x (.slice ra x.reqs.length rc) := setRel_box x (.slice ra x.reqs.length rc) hz5
          have hbl : Below wr.heap.size wr (setRel W5 (wr.heap.size) x (.slice ra x.reqs.length rc)) := HB4.out.grown hgr HB4.out.size (fun b hb => by cases hb; omega)
          have hrl : ReqsOf w.heap.size (.slice ra x.reqs.length rc) x.reqs (setRel W5 (wr.heap.size) x (.slice ra x.reqs.length rc)) := HR5.out.below (B' := w.heap.size) ((Below.refl _ _).grown hgr (Nat.le_trans HBW.out.size HB4.out.size) (fun b hb => by cases hb; have := HBW.out.size; omega)) (Nat.le_refl _)
          have hss := HSS.out _ hbl
          have HBX := Lib.hid (And.intro hbx (And.intro hrl hbl))
          unfold setRel at HBX hss
          clear hgr hbx hbl hrl hz5
          refine wpAnyH_ready (rs := [16]) (by kernel_rfl) (by simp) (AllReadyH.cons rfl (fun K hK => ?_) AllReadyH.nil)
          go_simp
          refine hK.out _ _ hss (fun hS9 => ?_)
          clear hK K hss hS2
          (try simp only [zl1, zl2, zl3, Act.put, zl4, zl5, zl6])
          (refine wpAnyH_take (i := 17) (v := ?_) rfl (by kernel_rfl) (by kernel_rfl) (by kernel_rfl) (fun _ _ _ h => h) (Or.inl ⟨by rfl, ?_⟩) (by assumption) ?_; rotate_left; (· (intro w hSw; obtain ⟨p0, p1, p2, p3, p4, p5⟩ := hSw; go_simp; try with_reducible rfl)); (try simp only [zl1, zl2, zl3, Act.put, zl4, zl5, zl6]))
          refine wpAnyH_done (by kernel_rfl) ?_ _
          refine NoPanic.normal ?_
          go_wp2_with fail
          go_meet
          exact ⟨_, ra, rc, rfl, rfl, rfl, rfl, rfl, rfl, HBX⟩
      case rest =>
        obtain ⟨g8, ra, rc, rfl, rfl, rfl, rfl, rfl, rfl, HBX⟩ := hcut
        have HJC := Lib.hid (HJ.out.below HBX.out.2.2)
        have HBC := Lib.hid (HBW.out.trans (HBX.out.2.2.mono HBW.out.size))
        simp only [relC_at]
        cases ob with
        | false =>
          obtain ⟨rr, hrr, hbx, hgr⟩ := HNO.out wc 6 HJC.out.bel (by rw [← HG.out]; exact ofV_six HE.out HIN.out hlt2 (by rw [HYK.out, HO.out, HOB.out]))
          have HGR := Lib.hid hgr
          have HBX2 := Lib.hid hbx
          have hz := (HJC.out.bel.block (w.heap.size + 1) (by omega)).trans HZ1.out
          have r0 : wc.cell? ⟨w.heap.size + 1, 0, none⟩ = some (.slice none 0 0) := cell_of_row _ _ 0 _ _ _ hz
          have r1 : wc.cell? ⟨w.heap.size + 1, 1, none⟩ = some (.slice none 0 0) := cell_of_row _ _ 1 _ _ _ hz
          have q0 := frozen_of_row _ _ 0 _ _ hz
          have q1 := frozen_of_row _ _ 1 _ _ hz
          clear hgr hbx hz
          go_wp2_with fail
          refine bodyPost_ret (results_cell_tmp rfl _ _ (w.heap.size + 1) _ _ _ _ rfl HBX2.out Tryz.underlying78 rfl (by kernel_rfl)) rfl ?_
          exact HGR.out
        | true =>
          have HXF : Hid (findR X y = some x) := Lib.hid (by
            rw [HO.out, ← HX.out]
            cases ho : o with
            | none => have := HOB.out; rw [ho] at this; cases this
            | some z => rfl)
          have HXB : Hid (x.reqs.length ≤ 1000000) := Lib.hid (by
            obtain ⟨i, hi, e, _⟩ := findR_some HXF.out
            rw [List.getD_eq_getElem?_getD, List.getElem?_eq_getElem hi] at e
            exact (HQ.out x (by rw [← e]; exact List.getElem_mem hi)).len)
          have HRO : Hid (reqsOf X y = x.reqs) := Lib.hid (by unfold reqsOf; rw [HXF.out])
          obtain ⟨_, _, e0, _, hy0, _⟩ := HS.out.at hlt2
          cases e0
          rw [HYK.out] at hy0
          have hcy := (HBC.out.cell (p := ⟨b, off + k * 4, none⟩) hbl).trans hy0
          have hco : wc.cell? ⟨g, 0, none⟩ = some nv := cell_of_row _ _ 0 _ _ _ HJC.out.out
          have hgc : g < wc.heap.size := HJC.out.lt
          have hbc : b < wc.heap.size := Nat.lt_of_lt_of_le hbl HBC.out.size
          have HS10 : Hid (∀ W', Below wc.heap.size wc W' → HeldC ⟨g, 0, none⟩ ⟨b, off + k * 4, none⟩ nv (.string y.1) W') := Lib.hid (fun W' hb => ⟨(hb.cell (p := ⟨g, 0, none⟩) hgc).trans hco, (hb.cell (p := ⟨b, off + k * 4, none⟩) hbc).trans hcy⟩)
          have HJ5 : Hid (OfJ w1 g s k (edgesK X s k) nv ev ((wc.alloc (.cells #[.string y.1] 9)).drew)) := Lib.hid (HJC.out.below (belQ _ _).drew)
          have HB5 : Hid (BoxR ((wc.alloc (.cells #[.string y.1] 9)).drew) g8 x (.slice ra x.reqs.length rc)) := Lib.hid (HBX.out.1.on (belQ _ _).drew)
          have HR5 : Hid (ReqsOf w.heap.size (.slice ra x.reqs.length rc) x.reqs ((wc.alloc (.cells #[.string y.1] 9)).drew)) := Lib.hid (HBX.out.2.1.below (B' := wc.heap.size) (belQ _ _).drew HBC.out.size)
          have HN5 : Hid (((wc.alloc (.cells #[.string y.1] 9)).drew).heap[wc.heap.size]? = some (.cells #[.string y.1] 9 (0, 0))) := Lib.hid (World.alloc_heap_new wc _)
          have hz5 : g + 1 ≤ ((wc.alloc (.cells #[.string y.1] 9)).drew).heap.size := by have := HJ5.out.lt; omega
          have hw1g := HJ.out.lo
          have hww1 := HB1.out.size
          have hhs : Below wc.heap.size wc ((wc.alloc (.cells #[.string y.1] 9)).drew) := (belQ _ _).drew
          have HHS := Lib.hid hhs
          clear hy0 hco hcy hhs
          go_upto_region 10 with fail
          refine wp_region_noPanic ?_
          refine region_plain_split (S := HeldC ⟨g, 0, none⟩ ⟨b, off + k * 4, none⟩ nv (.string y.1)) 9 (by kernel_rfl) (by kernel_rfl) ?_
          simp only [List.take_succ_cons, List.take_zero]
          have hS0 := HS10.out wc.drew (Below.refl _ _).drew
          (refine wpAnyH_take (i := 0) (v := ?_) rfl (by kernel_rfl) (by kernel_rfl) (by kernel_rfl) (fun _ _ _ h => h) (Or.inl ⟨by rfl, ?_⟩) (by assumption) ?_; rotate_left; (· (intro w hSw; obtain ⟨p0, p1⟩ := hSw; go_simp; try with_reducible rfl)); (try simp only [zl1, zl2, zl3, Act.put, zl4, zl5, zl6]))
          (refine wpAnyH_take (i := 1) (v := ?_) rfl (by kernel_rfl) (by kernel_rfl) (by kernel_rfl) (fun _ _ _ h => h) (Or.inl ⟨by rfl, ?_⟩) (by assumption) ?_; rotate_left; (· (intro w hSw; obtain ⟨p0, p1⟩ := hSw; go_simp; try with_reducible rfl)); (try simp only [zl1, zl2, zl3, Act.put, zl4, zl5, zl6]))
          (refine wpAnyH_take (i := 2) (v := ?_) rfl (by kernel_rfl) (by kernel_rfl) (by kernel_rfl) (fun _ _ _ h => h) (Or.inl ⟨by rfl, ?_⟩) (by assumption) ?_; rotate_left; (· (intro w hSw; obtain ⟨p0, p1⟩ := hSw; go_simp; try with_reducible rfl)); (try simp only [zl1, zl2, zl3, Act.put, zl4, zl5, zl6]))
          (refine wpAnyH_take (i := 3) (v := ?_) rfl (by kernel_rfl) (by kernel_rfl) (by kernel_rfl) (fun _ _ _ h => h) (Or.inl ⟨by rfl, ?_⟩) (by assumption) ?_; rotate_left; (· (intro w hSw; obtain ⟨p0, p1⟩ := hSw; go_simp; try with_reducible rfl)); (try simp only [zl1, zl2, zl3, Act.put, zl4, zl5, zl6]))
          (refine wpAnyH_take (i := 4) (v := ?_) rfl (by kernel_rfl) (by kernel_rfl) (by kernel_rfl) (fun _ _ _ h => h) (Or.inl ⟨by rfl, ?_⟩) (by assumption) ?_; rotate_left; (· (intro w hSw; obtain ⟨p0, p1⟩ := hSw; go_simp; try with_reducible rfl)); (try simp only [zl1, zl2, zl3, Act.put, zl4, zl5, zl6]))
          (refine wpAnyH_take (i := 5) (v := ?_) rfl (by kernel_rfl) (by kernel_rfl) (by kernel_rfl) (fun _ _ _ h => h) (Or.inl ⟨by rfl, ?_⟩) (by assumption) ?_; rotate_left; (· (intro w hSw; obtain ⟨p0, p1⟩ := hSw; go_simp; try with_reducible rfl)); (try simp only [zl1, zl2, zl3, Act.put, zl4, zl5, zl6]))
          (refine wpAnyH_take (i := 6) (v := ?_) rfl (by kernel_rfl) (by kernel_rfl) (by kernel_rfl) (fun _ _ _ h => h) (Or.inl ⟨by rfl, ?_⟩) (by assumption) ?_; rotate_left; (· (intro w hSw; obtain ⟨p0, p1⟩ := hSw; go_simp; try with_reducible rfl)); (try simp only [zl1, zl2, zl3, Act.put, zl4, zl5, zl6]))
          refine wpAnyH_ready (rs := [7]) (by kernel_rfl) (by simp) (AllReadyH.cons rfl (fun K hK => ?_) AllReadyH.nil)
          go_simp
          refine hK.out _ _ (HS10.out _ HHS.out) (fun _ => ?_)
          clear hK K hS0
          (try simp only [zl1, zl2, zl3, Act.put, zl4, zl5, zl6])
          generalize (wc.alloc (.cells #[.string y.1] 9)).drew = W5 at *
          have HKEEP : Hid (∀ w6, W5.grownBy w6 nv.ownBlock → w6.heap[g]? = some (.cells #[nv, ev] 78 (0, 0)) ∧ BoxR w6 g8 x (.slice ra x.reqs.length rc) ∧ ReqsOf w.heap.size (.slice ra x.reqs.length rc) x.reqs w6 ∧ HeldC ⟨g, 0, none⟩ ⟨b, off + k * 4, none⟩ nv (.string y.1) w6) := Lib.hid (fun w6 hg => by
            have lo : ∀ b, some b = nv.ownBlock → g + 1 ≤ b ∧ ∃ cs, W5.heap[b]? = some (.cells cs 9 (0, 0)) := fun b hb => ⟨(own_lo HJ5.out.nodes b hb.symm).1, (own_lo HJ5.out.nodes b hb.symm).2.2⟩
            have hout := (hg.block g HJ5.out.lt (fun e => by have := (lo _ e).1; omega)).trans HJ5.out.out
            have hbel : Below w.heap.size W5 w6 := (Below.refl _ _).grown hg (Nat.le_trans HBC.out.size HHS.out.size) (fun b hb => by have := (lo b hb.symm).1; omega)
            refine ⟨hout, (hg.block _ HB5.out.lt (fun e => ?_)).trans HB5.out, HR5.out.below hbel (Nat.le_refl _), cell_of_row _ _ 0 _ _ _ hout, ?_⟩
            · obtain ⟨cs, h⟩ := (lo _ e).2
              have h2 : W5.heap[g8]? = _ := HB5.out
              rw [h] at h2
              injection h2 with h2
              injection h2 with _ h2
              exact absurd h2 (by decide)
            · exact (hbel.cell (p := ⟨b, off + k * 4, none⟩) hbl).trans (HS10.out _ HHS.out).2)
          refine wpAnyH_ready (rs := [8]) (by kernel_rfl) (by simp) (AllReadyH.cons rfl (fun K hK => ?_) AllReadyH.nil)
          refine step_append_lies _ (by rfl) _ _ _ (by rfl) (g + 1) 9 i0 _ 1 16 Tryz.underlying75 hi0 hz0 hz1 hz2 rfl (by decide) nv k _ (by rfl) HJ5.out.nodes ⟨wc.heap.size, 0, none⟩ 1 1 [.string y.1] (by rfl) (by rfl) (World.news_of_block HN5.out) (by simp [Value.oneCell']) (by decide) (by unfold maxLen; omega) (by omega) hz5 W5.heap.size rfl ?_
          intro gg gc w6 hown' hgrow _ _
          have HOW := Lib.hid hown'
          have HGR := Lib.hid hgrow
          have HKP := Lib.hid (HKEEP.out _ hgrow)
          refine hK.out _ _ HKP.out.2.2.2 (fun _ => ?_)
          clear hK K hown' hgrow
          (try simp only [zl1, zl2, zl3, Act.put, zl4, zl5, zl6])
          refine wpAnyH_done (by kernel_rfl) ?_ _
          show wpList _ _ _ _ _ _
          simp only [List.drop_succ_cons, List.drop_zero]
          have hc6 : w6.cell? ⟨g, 0, none⟩ = some nv := cell_of_row _ _ 0 _ _ _ HKP.out.1
          have hf6 := frozen_of_row _ _ 0 _ _ HKP.out.1
          go_wp2_with fail
          refine NoPanic.normal ?_
          go_wp2_with fail
          have hgg8 : g8 ≠ g := fun e => by
            have h1 : w6.heap[g8]? = _ := HKP.out.2.1
            rw [e, HKP.out.1] at h1
            injection h1 with h1
            injection h1 with _ h1
            exact absurd h1 (by decide)
          have HJ7 : Hid (OfJ w1 g s (k + 1) (edgesK X s k) (.slice (some ⟨gg, 0, none⟩) (k + 1) gc) ev (w6.setCell ⟨g, 0, none⟩ (.slice (some ⟨gg, 0, none⟩) (k + 1) gc))) := Lib.hid (HJ5.out.node hlt2 (by rw [HYK.out]; exact HOW.out) HGR.out)
          have HB7 : Hid (BoxR (w6.setCell ⟨g, 0, none⟩ (.slice (some ⟨gg, 0, none⟩) (k + 1) gc)) g8 x (.slice ra x.reqs.length rc)) := Lib.hid (((grownBy_setC w6 g 0 _).block g8 HKP.out.2.1.lt (fun e => hgg8 (by injection e))).trans HKP.out.2.1)
          have HR7 : Hid (ReqsOf w.heap.size (.slice ra x.reqs.length rc) x.reqs (w6.setCell ⟨g, 0, none⟩ (.slice (some ⟨gg, 0, none⟩) (k + 1) gc))) := Lib.hid (HKP.out.2.2.1.below (B' := w.heap.size) ((Below.refl _ _).setCell (by simp; omega) _) (Nat.le_refl _))
          generalize w6.setCell ⟨g, 0, none⟩ (.slice (some ⟨gg, 0, none⟩) (k + 1) gc) = W7 at *
          clear hc6 hf6 HS10 HJ5 HB5 HR5 HN5 HHS HKEEP HOW HGR HKP hz5
          have hxb := HXB.out
          go_loopw [10] (fun p wr => Hid (∃ j ev, j ≤ x.reqs.length ∧ p = .int .i64 ((j : Nat) : Int) ∧ OfJ w1 g s (k + 1) (edgesK X s k ++ nodeE s k (x.reqs.take j)) (.slice (some ⟨gg, 0, none⟩) (k + 1) gc) ev wr ∧ BoxR wr g8 x (.slice ra x.reqs.length rc) ∧ ReqsOf w.heap.size (.slice ra x.reqs.length rc) x.reqs wr)) (fun p _ => x.reqs.length - (intOf p).toNat)
          case atStart => exact Lib.hid ⟨0, ev, Nat.zero_le _, rfl, by rw [List.take_zero]; simpa [nodeE] using HJ7.out, HB7.out, HR7.out⟩
          case round =>
            obtain ⟨j, ev2, hj, rfl, hjj, hbj, hrj⟩ := hrel.out
            have HJJ := Lib.hid hjj
            have HBJ := Lib.hid hbj
            have HRJ := Lib.hid hrj
            have hc4 : wr.cell? ⟨g8, 4, none⟩ = some (.slice ra x.reqs.length rc) := hbj.cells.2.2.2.2.1
            clear hrel hjj hbj
            by_cases hlt4 : j < x.reqs.length
            case neg =>
              have hj2 : j = x.reqs.length := by omega
              subst hj2
              have HFO2 := Lib.hid (show ∀ j, j < k + 1 → (findR X (s.getD j default)).isSome = true from fun j hj => by
                by_cases e : j = k
                · rw [e, HYK.out, HXF.out]; rfl
                · exact HFO.out j (by omega))
              have HJE : Hid (OfJ w1 g s (k + 1) (edgesK X s (k + 1)) (.slice (some ⟨gg, 0, none⟩) (k + 1) gc) ev2 wr) := Lib.hid (by
                have := HJJ.out
                rwa [List.take_length, ← HRO.out, ← HYK.out, ← edgesK_succ] at this)
              clear hrj
              go_wp2_with fail
              all_goals
                refine ⟨Lib.hid ⟨k + 1, _, _, by omega, by go_num, HJE.out, HFO2.out⟩, ?_⟩
                simp [intOf]; omega
            case pos =>
              obtain ⟨ra', rc', e1, hrq⟩ := hrj
              cases e1
              obtain ⟨b2, off2, qv, e2, hb2, f0, f1, hsp⟩ := hrq j x.reqs[j] (by simp [hlt4])
              have HQJ : Hid (x.reqs.take (j + 1) = x.reqs.take j ++ [x.reqs[j]]) := Lib.hid (List.take_succ_eq_append_getElem hlt4)
              generalize x.reqs[j] = q at *
              subst e2
              have HF0 := Lib.hid f0
              have hlt5 : (j : Int) < (x.reqs.length : Int) := by omega
              have hjz : (0 : Int) ≤ (j : Int) := by omega
              clear hrq hsp f0 f1
              have HRK2 : Hid (nodeE s k (x.reqs.take (j + 1)) = nodeE s k (x.reqs.take j) ++ innerE s k q.1 s.length) := Lib.hid (by rw [HQJ.out, nodeE_snoc, innerE_all]; cases pathIx s q.1 <;> rfl)
              go_wp2_with fail
              go_loopw [11] (fun p wr2 => Hid (∃ n ev, n ≤ s.length ∧ p = .int .i64 ((n : Nat) : Int) ∧ OfJ w1 g s (k + 1) (edgesK X s k ++ nodeE s k (x.reqs.take j) ++ innerE s k q.1 n) (.slice (some ⟨gg, 0, none⟩) (k + 1) gc) ev wr2 ∧ BoxR wr2 g8 x (.slice (some ⟨b2, off2, none⟩) x.reqs.length rc) ∧ ReqsOf w.heap.size (.slice (some ⟨b2, off2, none⟩) x.reqs.length rc) x.reqs wr2 ∧ Below w.heap.size wr wr2)) (fun p _ => s.length - (intOf p).toNat)
              case atStart => exact Lib.hid ⟨0, ev2, Nat.zero_le _, rfl, by rw [innerE_zero, List.append_nil]; exact HJJ.out, HBJ.out, HRJ.out, Below.refl _ _⟩
              case round =>
                obtain ⟨n, ev3, hn, rfl, hjj, hbj, hrj, hbb⟩ := hrel.out
                have HJN := Lib.hid hjj
                have HBN := Lib.hid hbj
                have HRN := Lib.hid hrj
                have HBB := Lib.hid hbb
                have hc4 : wr.cell? ⟨g8, 4, none⟩ = some (.slice (some ⟨b2, off2, none⟩) x.reqs.length rc) := hbj.cells.2.2.2.2.1
                clear hrel hjj hbj hrj hbb
                by_cases hlt6 : n < s.length
                case neg =>
                  have hn2 : n = s.length := by omega
                  subst hn2
                  have HJE : Hid (OfJ w1 g s (k + 1) (edgesK X s k ++ nodeE s k (x.reqs.take (j + 1))) (.slice (some ⟨gg, 0, none⟩) (k + 1) gc) ev3 wr) := Lib.hid (by rw [HRK2.out, ← List.append_assoc]; exact HJN.out)
                  go_wp2_with fail
                  all_goals
                    refine ⟨Lib.hid ⟨j + 1, ev3, by omega, by go_num, HJE.out, HBN.out, HRN.out⟩, ?_⟩
                    simp [intOf]; omega
                case pos =>
                  obtain ⟨b3, off3, e3, hb3, g0, _⟩ := HS.out.at hlt6
                  cases e3
                  have HBWN := Lib.hid (HB1.out.trans (HJN.out.bel.mono HB1.out.size))
                  have d0 := (HBWN.out.cell (p := ⟨b, off + n * 4, none⟩) hbl).trans g0
                  have f0 := (HBB.out.cell (p := ⟨b2, off2 + j * 2, none⟩) hb2).trans HF0.out
                  obtain ⟨zp, hzp⟩ : ∃ z, (s.getD n default).1 = z := ⟨_, rfl⟩
                  rw [hzp] at d0
                  have HZP := Lib.hid hzp
                  have hlt7 : (n : Int) < (s.length : Int) := by omega
                  have hn0 : (0 : Int) ≤ (n : Int) := by omega
                  clear hzp g0
                  by_cases heq : zp = q.1
                  case neg =>
                    have hpb : (zp.toList == q.1.toList) = false := by rw [eqs_dec]; exact decide_eq_false heq
                    have HIE := Lib.hid (show innerE s k q.1 (n + 1) = innerE s k q.1 n from innerE_no (by rw [HZP.out]; exact heq))
                    go_wp2_with fail
                    go_quiet (fail)
                    have hbq : Below wr.heap.size wr (wr.drewN nq) := below_drewNV (Below.refl _ _) nq
                    have HJ9 := Lib.hid (HJN.out.below hbq)
                    have HB9 := Lib.hid (HBN.out.on hbq)
                    have HR9 := Lib.hid (HRN.out.below hbq HBWN.out.size)
                    have HBB9 := Lib.hid (HBB.out.trans (hbq.mono HBWN.out.size))
                    clear hbq
                    go_wp2_with fail
                    all_goals
                      refine ⟨Lib.hid ⟨n + 1, ev3, by omega, by go_num, by rw [HIE.out]; exact HJ9.out, HB9.out, HR9.out, HBB9.out⟩, ?_⟩
                      simp [intOf]; omega
                  case pos =>
                    have hpb : (zp.toList == q.1.toList) = true := by rw [eqs_dec]; exact decide_eq_true heq
                    have HIE := Lib.hid (show innerE s k q.1 (n + 1) = innerE s k q.1 n ++ [((k : Int), (n : Int))] by rw [← heq, ← HZP.out]; exact innerE_yes HIN.out hlt6)
                    clear heq
                    go_wp2_with fail
                    go_quiet (fail)
                    have hbq : Below wr.heap.size wr (wr.drewN nq) := below_drewNV (Below.refl _ _) nq
                    have hj9 := HJN.out.below hbq
                    obtain ⟨el, hel⟩ : ∃ el, edgesK X s k ++ nodeE s k (x.reqs.take j) ++ innerE s k q.1 n = el := ⟨_, rfl⟩
                    rw [hel] at hj9
                    have HEL := Lib.hid hel
                    have HJ8 := Lib.hid hj9
                    have HB8 := Lib.hid (HBN.out.on hbq)
                    have HR8 := Lib.hid (HRN.out.below hbq HBWN.out.size)
                    have HBB8 := Lib.hid (HBB.out.trans (hbq.mono HBWN.out.size))
                    have hsz8 : w.heap.size ≤ (wr.drewN nq).heap.size := Nat.le_trans HBWN.out.size hbq.size
                    clear hbq hj9 hel d0 f0 hpb hc4
                    generalize wr.drewN nq = w8 at *
                    have o1 : w8.cell? ⟨g, 1, none⟩ = some ev3 := cell_of_row _ _ 1 _ _ _ HJ8.out.out
                    have HJ9 := Lib.hid (HJ8.out.below (belQ w8 (.cells #[intC (k : Int), intC (n : Int)] 84)))
                    have HB9 := Lib.hid (HB8.out.on (belQ w8 (.cells #[intC (k : Int), intC (n : Int)] 84)))
                    have HR9 := Lib.hid (HR8.out.below (belQ w8 (.cells #[intC (k : Int), intC (n : Int)] 84)) hsz8)
                    have HBB9 := Lib.hid (HBB8.out.trans ((belQ w8 (.cells #[intC (k : Int), intC (n : Int)] 84)).mono hsz8))
                    have HN9 := Lib.hid (World.alloc_heap_new w8 (.cells #[intC (k : Int), intC (n : Int)] 84))
                    have hz9 : g + 1 ≤ (w8.alloc (.cells #[intC (k : Int), intC (n : Int)] 84)).heap.size := by have := HJ9.out.lt; omega
                    have HKEEP2 : Hid (∀ w6, (w8.alloc (.cells #[intC (k : Int), intC (n : Int)] 84)).grownBy w6 ev3.ownBlock → w6.heap[g]? = some (.cells #[.slice (some ⟨gg, 0, none⟩) (k + 1) gc, ev3] 78 (0, 0)) ∧ BoxR w6 g8 x (.slice (some ⟨b2, off2, none⟩) x.reqs.length rc) ∧ ReqsOf w.heap.size (.slice (some ⟨b2, off2, none⟩) x.reqs.length rc) x.reqs w6 ∧ Below w.heap.size (w8.alloc (.cells #[intC (k : Int), intC (n : Int)] 84)) w6) := Lib.hid (fun w6 hg => by
                      have lo : ∀ b, some b = ev3.ownBlock → g + 1 ≤ b ∧ ∃ cs, (w8.alloc (.cells #[intC (k : Int), intC (n : Int)] 84)).heap[b]? = some (.cells cs 84 (0, 0)) := fun b hb => ⟨(own_lo HJ9.out.edges b hb.symm).1, (own_lo HJ9.out.edges b hb.symm).2.2⟩
                      have hbel : Below w.heap.size (w8.alloc (.cells #[intC (k : Int), intC (n : Int)] 84)) w6 := (Below.refl _ _).grown hg (Nat.le_trans hsz8 (by simp)) (fun b hb => by have := (lo b hb.symm).1; omega)
                      refine ⟨(hg.block g HJ9.out.lt (fun e => by have := (lo _ e).1; omega)).trans HJ9.out.out, (hg.block _ HB9.out.lt (fun e => ?_)).trans HB9.out, HR9.out.below hbel (Nat.le_refl _), hbel⟩
                      obtain ⟨cs, h⟩ := (lo _ e).2
                      have h2 : (w8.alloc (.cells #[intC (k : Int), intC (n : Int)] 84)).heap[g8]? = _ := HB9.out
                      rw [h] at h2
                      injection h2 with h2
                      injection h2 with _ h2
                      exact absurd h2 (by decide))
                    have hesl : el.length ≤ 1000000000000 := by
                      have e1 := edgesK_len X s 16 (fun y => reqsOf_len HE.out y) k
                      have e2 := nodeE_len s k (x.reqs.take j)
                      have e3 : (innerE s k q.1 n).length ≤ 1 := by
                        unfold innerE
                        cases pathIx s q.1 with
                        | none => simp
                        | some m => simp only; split <;> simp
                      rw [List.length_take] at e2
                      rw [← HEL.out, List.length_append, List.length_append]
                      omega
                    go_wp2_with (at_builtin; refine wpList_append_own _ rfl _ _ 76 rfl (g + 1) 84 j0 _ 2 16 Tryz.underlying76 hj0 hy0 hy1 hy2 rfl (by decide) ev3 _ _ (by rfl) HJ9.out.edges ⟨w8.heap.size, 0, none⟩ 1 1 [intC (k : Int), intC (n : Int)] (by rfl) (by rfl) (World.news_of_block HN9.out) (by simp [Value.oneCell']) (by unfold maxLen; omega) (by omega) hz9 ?_; intro v' wA hown' hgrow _; have HOW2 := Lib.hid hown'; have HGR2 := Lib.hid hgrow; have HKP2 := Lib.hid (HKEEP2.out _ hgrow); have hc6 : wA.cell? ⟨g, 1, none⟩ = some ev3 := cell_of_row _ _ 1 _ _ _ HKP2.out.1; have hf6 := frozen_of_row _ _ 1 _ _ HKP2.out.1; clear hown' hgrow; obtain ⟨g3, gc3, rfl⟩ := ownsRow_succ HOW2.out)
                    all_goals
                      have HJB := Lib.hid (HJ9.out.edge (x := ((k : Int), (n : Int))) HOW2.out HGR2.out)
                      have HBB2 : Hid (BoxR (wA.setCell ⟨g, 1, none⟩ (.slice (some ⟨g3, 0, none⟩) (el.length + 1) gc3)) g8 x (.slice (some ⟨b2, off2, none⟩) x.reqs.length rc)) := Lib.hid (((grownBy_setC wA g 1 _).block g8 HKP2.out.2.1.lt (fun e => hgg8 (by injection e))).trans HKP2.out.2.1)
                      have hbs : Below w.heap.size wA (wA.setCell ⟨g, 1, none⟩ (.slice (some ⟨g3, 0, none⟩) (el.length + 1) gc3)) := (Below.refl _ _).setCell (by simp; omega) _
                      have HRB := Lib.hid (HKP2.out.2.2.1.below (B' := w.heap.size) hbs (Nat.le_refl _))
                      have HBF := Lib.hid (HBB9.out.trans (HKP2.out.2.2.2.trans hbs))
                      refine ⟨Lib.hid ⟨n + 1, _, by omega, by go_num, by rw [HIE.out, ← List.append_assoc, HEL.out]; exact HJB.out, HBB2.out, HRB.out, HBF.out⟩, ?_⟩
                      simp [intOf]; omega
end Go.Proofs.YtbbnoloploklkaaGreatDoor

namespace Go.Proofs.YtbbnoloploklkaaGreatDoor
set_option linter.unusedVariables false
set_option linter.unusedSimpArgs false
open Go Go.RowKit Go.Shelf Go.Lib

def edgeRen : Ren := ⟨fun _ => 52, fun x => if x = 0 then 0 else if x = 3 then 3 else if x = 4 then 4 else if x = 22 then 76 else 84, fun x => x⟩
theorem edgeLays8 : SlLaysQ.n8 Tryz.prog edgeRen := {
  mixed := by kernel_rfl
  f8 := ⟨Tryz.f52.name, by decide, Tryz.func52.trans (congrArg some (by kernel_rfl))⟩
  t0 := Tryz.underlying0
  a0 := Tryz.isAgg0
  z0 := Tryz.sizeOf0
  v0 := Tryz.zeroValue0
  t3 := Tryz.underlying3
  a3 := Tryz.isAgg3
  z3 := Tryz.sizeOf3
  v3 := Tryz.zeroValue3
  t4 := Tryz.underlying4
  a4 := Tryz.isAgg4
  z4 := Tryz.sizeOf4
  v4 := Tryz.zeroValue4
  t22 := Tryz.underlying76
  a22 := Tryz.isAgg76
  z22 := Tryz.sizeOf76
  v22 := Tryz.zeroValue76 }
def edgeC (x : Int × Int) : List Value := [.int .i64 x.1, .int .i64 x.2]
theorem edge_neq : NeqAt Tryz.prog 84 (fun x => .agg (edgeC x).toArray) (fun x y => x.1 == y.1 && x.2 == y.2) := by
  refine ⟨fun x y w => ?_, GuardAt.agg _ (by kernel_rfl)⟩
  have u3 := Tryz.underlying3
  have a3 := Tryz.isAgg3
  have z3 := Tryz.sizeOf3
  have hS : Tryz.prog.underlying 84 = some (.struct (Tryz.prog.fieldsOf 84)) := by kernel_rfl
  have hp : Tryz.prog.stoodInHeld 84 = false := by kernel_rfl
  simp only [edgeC]
  rw [run_neq_struct, show (10000 : Nat) = 9999 + 1 from rfl, run_equalIn_agg w 9999 84 _ _ hS hp]
  simp only [Program.fieldsOf, Tryz.underlying84]
  go_simp
  by_cases h1 : x.fst = y.fst <;> by_cases h2 : x.snd = y.snd <;> simp [h1, h2]
theorem edges_cells {B b off cap : Nat} {es : List (Int × Int)} {w : World} (h : EdgesOf B (.slice (some ⟨b, off, none⟩) es.length cap) es w) : ∀ j, j < es.length → ∀ i v, (edgeC es[j]!)[i]? = some v → w.cell? ⟨b, off + j * 2 + i, none⟩ = some v := by
  obtain ⟨ao, c, e, h⟩ := h
  cases e
  intro j hj i v hv
  rw [getElem!_pos es j hj] at hv
  obtain ⟨b', off', e, _, h1, h2⟩ := h j es[j] (by simp [hj])
  cases e
  match i, hv with
  | 0, hv => cases hv; exact h1
  | 1, hv => cases hv; exact h2
  | i + 2, hv => simp [edgeC] at hv
theorem Equal_strs_same (v u : Value) (B : Nat) (l : List ByteArray) (w : World) (hl : l.length ≤ 1000000000) (h1 : RowOf Value.string B v l w) (h2 : RowOf Value.string B u l w) :
    Calls Tryz.prog 51 #[v, u] w fun e w' => e = .returned (.bool true) ∧ ∃ q, w' = w.drewN q := by
  obtain ⟨ua, uc, rfl, _⟩ := rowOf_open h2
  rcases h1 with ⟨rfl, a, c, rfl⟩ | ⟨b, off, cap, rfl, _, hc⟩
  · refine (Tryz.slices_Equal_string_empty a ua c 0 uc w (by decide)).mono ?_
    rintro e w' ⟨rfl, rfl⟩
    exact ⟨rfl, 0, rfl⟩
  · rcases h2 with ⟨rfl, a, c, e⟩ | ⟨b2, off2, cap2, e, _, hc2⟩
    · refine (Tryz.slices_Equal_string_empty _ ua cap 0 uc w (by decide)).mono ?_
      rintro e w' ⟨rfl, rfl⟩
      exact ⟨rfl, 0, rfl⟩
    · cases e
      have hcc : ∀ (b off : Nat), (∀ (i : Nat) (x : ByteArray), l[i]? = some x → w.cell? ⟨b, off + i, none⟩ = some (Value.string x)) → ∀ j, j < l.length → w.cell? ⟨b, off + j, none⟩ = some (.string (l.getD j ByteArray.empty)) := fun b off h j hj => by
        rw [h j l[j] (by simp [hj]), List.getD_eq_getElem?_getD, List.getElem?_eq_getElem hj]; rfl
      refine (Tryz.slices_Equal_string b off l.length cap b2 off2 l.length uc l l w (Nat.le_refl _) (Nat.le_refl _) (by omega) (by omega) (hcc b off hc) (hcc b2 off2 hc2)).mono ?_
      rintro e w' ⟨rfl, q, rfl⟩
      exact ⟨by simp, q, rfl⟩
set_option maxRecDepth 100000 in
theorem Equal_edges_same (v u : Value) (B : Nat) (es : List (Int × Int)) (w : World) (hl : es.length ≤ 1000000000) (h1 : EdgesOf B v es w) (h2 : EdgesOf B u es w) :
    Calls Tryz.prog 52 #[v, u] w fun e w' => e = .returned (.bool true) ∧ ∃ q, w' = w.drewN q := by
  have g1 := h1
  have g2 := h2
  obtain ⟨a1, c1, rfl, k1⟩ := h1
  obtain ⟨a2, c2, rfl, k2⟩ := h2
  by_cases hp : 0 < es.length
  · obtain ⟨b1, o1, rfl, _⟩ := k1 0 es[0] (by simp [hp])
    obtain ⟨b2, o2, rfl, _⟩ := k2 0 es[0] (by simp [hp])
    refine (AnyQ.slices_Equal edgeLays8 2 Tryz.isAgg84 Tryz.sizeOf84 edgeC (fun _ => rfl) _ edge_neq b1 o1 es.length c1 b2 o2 es.length c2 es es w (Nat.le_refl _) (Nat.le_refl _) (by omega) (by omega) (edges_cells g1) (edges_cells g2)).mono ?_
    rintro e w' ⟨rfl, q, rfl⟩
    refine ⟨?_, q, rfl⟩
    congr 2
    exact Lib.allEq_all _ _ _ rfl (fun j _ => by simp)
  · have : es = [] := List.length_eq_zero_iff.1 (by omega)
    subst this
    go_enter Tryz.func52, Tryz.ntmps52
    go_wp2_with fail
    go_loopw [13] (fun q wr => q = .int .i64 0 ∧ wr = w) (fun _ _ => 0)
    case atStart => exact ⟨rfl, rfl⟩
    case round =>
      obtain ⟨rfl, rfl⟩ := hrel
      go_wp2_with fail
      go_ret
      exact ⟨rfl, 0, rfl⟩
end Go.Proofs.YtbbnoloploklkaaGreatDoor

namespace Go.Proofs.YtbbnoloploklkaaGreatDoor
set_option linter.unusedVariables false
set_option linter.unusedSimpArgs false

abbrev bD (d : List Bool) (a : Nat) : Bool := d.getD a false
def lrdy (S : List (List Nat)) (done : List Bool) (k : Nat) : Bool := !bD done k && !((S.getD k []).any fun j => !bD done j)
def lpick (S : List (List Nat)) (done : List Bool) : Nat := ((List.range S.length).find? (lrdy S done)).getD 0
def lstep (S : List (List Nat)) (st : List Bool × List Nat) : List Bool × List Nat := (st.1.set (lpick S st.1) true, st.2 ++ [lpick S st.1])
def lrun (S : List (List Nat)) : Nat → List Bool × List Nat
  | 0 => (List.replicate S.length false, [])
  | k + 1 => lstep S (lrun S k)
def listF (S : List (List Nat)) : List Nat := (lrun S S.length).2
theorem lrun_len (S : List (List Nat)) : ∀ k, (lrun S k).1.length = S.length ∧ (lrun S k).2.length = k
  | 0 => by simp [lrun]
  | k + 1 => by
    obtain ⟨h1, h2⟩ := lrun_len S k
    unfold lrun lstep
    simp [h1, h2]
theorem lpick_lt (S : List (List Nat)) (done : List Bool) (h : 0 < S.length) : lpick S done < S.length := by
  unfold lpick
  cases e : (List.range S.length).find? (lrdy S done) with
  | none => exact h
  | some x => exact List.mem_range.1 (List.mem_of_find?_eq_some e)
theorem lrun_lt (S : List (List Nat)) : ∀ k, k ≤ S.length → ∀ x ∈ (lrun S k).2, x < S.length
  | 0, _, x, hx => by simp [lrun] at hx
  | k + 1, hk, x, hx => by
    unfold lrun lstep at hx
    simp only [List.mem_append, List.mem_singleton] at hx
    rcases hx with hx | rfl
    · exact lrun_lt S k (by omega) x hx
    · exact lpick_lt S _ (by omega)
theorem listF_length (S : List (List Nat)) : (listF S).length = S.length := (lrun_len S _).2
theorem listF_lt (S : List (List Nat)) : ∀ x ∈ listF S, x < S.length := lrun_lt S _ (Nat.le_refl _)
def NoneRdy (S : List (List Nat)) (done : List Bool) (k : Nat) : Prop := ∀ j, j < k → lrdy S done j = false
theorem lpick_at {S : List (List Nat)} {done : List Bool} {k : Nat} (hk : k < S.length) (hn : NoneRdy S done k) (hr : lrdy S done k = true) : lpick S done = k := by
  unfold lpick
  have : (List.range S.length).find? (lrdy S done) = some k := by
    rw [List.find?_eq_some_iff_append]
    refine ⟨hr, List.range k, (List.range (S.length - k - 1)).map (· + (k + 1)), ?_, fun a ha => ?_⟩
    · have e : S.length = k + (1 + (S.length - k - 1)) := by omega
      rw [e, List.range_add, List.range_add]
      have e2 : k + (1 + (S.length - k - 1)) - k - 1 = S.length - k - 1 := by omega
      simp [List.range_succ, Function.comp_def, Nat.add_comm, Nat.add_left_comm]
    · rw [hn a (List.mem_range.1 ha)]; rfl
  rw [this]; rfl
theorem lpick_none {S : List (List Nat)} {done : List Bool} (hn : NoneRdy S done S.length) : lpick S done = 0 := by
  unfold lpick
  have : (List.range S.length).find? (lrdy S done) = none := by
    rw [List.find?_eq_none]
    intro x hx
    rw [hn x (List.mem_range.1 hx)]; simp
  rw [this]; rfl
end Go.Proofs.YtbbnoloploklkaaGreatDoor
