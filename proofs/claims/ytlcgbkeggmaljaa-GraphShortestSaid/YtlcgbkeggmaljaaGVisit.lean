/- Contract of the graph's Reach: the visit of a node. -/
import Derived.Test.YtlcgbkeggmaljaaGPlainReach
import Derived.Test.YtlcgbkeggmaljaaGOf
import Derived.Test.YtlcgbkeggmaljaaGReverse
import Derived.Maps.Range
namespace Go.Proofs.Ytlcgbkeggmaljaa
set_option linter.unusedVariables false
set_option linter.unusedSimpArgs false
open Go Go.RowKit

/-- some flags in a block. -/
def Flags (W : World) (g : Nat) (l : List Bool) : Prop := W.heap[g]? = some (.cells (l.map Value.bool).toArray 4 (0, 0))
theorem Flags.cell {W : World} {g : Nat} {l : List Bool} (h : Flags W g l) (i : Nat) (b : Bool) (hb : l[i]? = some b) : W.cell? ⟨g, i, none⟩ = some (.bool b) := by
  rw [cell_of_row _ _ _ _ _ _ h]
  simp [hb]
theorem Flags.set {W : World} {g : Nat} {l : List Bool} (h : Flags W g l) (i : Nat) (b : Bool) : Flags (W.setCell ⟨g, i, none⟩ (.bool b)) g (l.set i b) := by
  have := heap_setCell_same W g i _ _ (.bool b) h
  unfold Flags
  rw [this]
  simp [List.map_set]
/-- what a visit finds: the boxes of the successors, of the flags' slice and of the closure. -/
structure VisW (W : World) (B0 Bs Bn Bv gs : Nat) (v : Value) (S : List (List Nat)) : Prop where
  s : Boxed W Bs 53 v
  f : Boxed W Bn 55 (.slice (some ⟨gs, 0, none⟩) S.length S.length)
  c : Boxed W Bv 56 (.func (.func 41) #[] #[.pointer (some ⟨Bn, 0, none⟩), .pointer (some ⟨Bs, 0, none⟩), .pointer (some ⟨Bv, 0, none⟩)])
  r : RowsOf B0 v S W
theorem VisW.kept {W W' : World} {B0 Bs Bn Bv gs : Nat} {v : Value} {S : List (List Nat)} (h : VisW W B0 Bs Bn Bv gs v S) (hg : W.grownBy W' (some gs)) (h1 : Bs ≠ gs) (h2 : Bn ≠ gs) (h3 : Bv ≠ gs) (h4 : B0 ≤ gs) (h5 : B0 ≤ W.heap.size) : VisW W' B0 Bs Bn Bv gs v S :=
  ⟨h.s.kept hg (by simpa using h1), h.f.kept hg (by simpa using h2), h.c.kept hg (by simpa using h3), h.r.below (B' := B0) ((Below.refl B0 W).grown hg h5 (fun k e => by cases e; exact h4)) (Nat.le_refl _)⟩
theorem VisW.turn {W W' : World} {B0 Bs Bn Bv gs : Nat} {v : Value} {S : List (List Nat)} (h : VisW W B0 Bs Bn Bv gs v S) {row : Option Nat} (hg : W.grownBy W' row) (hr : ∀ r, row = some r → B0 ≤ r ∧ ∃ o : Obj, W.heap[r]? = some o ∧ o.isCells = false) (h5 : B0 ≤ W.heap.size) : VisW W' B0 Bs Bn Bv gs v S :=
  ⟨blk_turn h.s hg (fun r e => (hr r e).2), blk_turn h.f hg (fun r e => (hr r e).2), blk_turn h.c hg (fun r e => (hr r e).2), h.r.below (B' := B0) ((Below.refl B0 W).grown hg h5 (fun k e => (hr k e).1)) (Nat.le_refl _)⟩

attribute [local go_sem] Oper.semAt_some

set_option maxRecDepth 100000 in
set_option maxHeartbeats 4000000 in
theorem visit_any (B0 Bs Bn Bv gs : Nat) (v : Value) (S : List (List Nat)) (hS : S.length ≤ 1000000) (hSl : ∀ a, (S.getD a []).length ≤ 1000000) (hSk : ∀ a, ∀ k ∈ S.getD a [], k < S.length) (d1 : Bs ≠ gs) (d2 : Bn ≠ gs) (d3 : Bv ≠ gs) (d4 : B0 ≤ gs) :
    ∀ (m : Nat) (seen : List Bool) (n : Nat) (W : World), unseen seen ≤ m → seen.length = S.length → n < S.length → B0 ≤ W.heap.size → VisW W B0 Bs Bn Bv gs v S → Flags W gs seen →
    Calls Try.prog 41 #[natC n, .pointer (some ⟨Bn, 0, none⟩), .pointer (some ⟨Bs, 0, none⟩), .pointer (some ⟨Bv, 0, none⟩)] W fun e W' => e = .returned (.tuple #[]) ∧ ∃ seen', VisR S seen n seen' ∧ Flags W' gs seen' ∧ W.grownBy W' (some gs) := by
  intro m
  induction m with
  | zero =>
    intro seen n W hm hl hn hB hV hF
    have hnl : n < seen.length := by omega
    have hsn : seen[n]? = some true := by
      cases hb : seen[n]? with
      | none => rw [List.getElem?_eq_none_iff] at hb; omega
      | some b =>
        cases b with
        | true => rfl
        | false => have := unseen_set seen n hb; omega
    have hc1 := hV.f.cell
    have hc2 := hF.cell n true hsn
    have hn0 : (0 : Int) ≤ (n : Int) := by omega
    have hn1 : (n : Int) < (S.length : Int) := by omega
    have HV := Lib.hid (VisR.seen (S := S) hsn)
    have HF := Lib.hid hF
    clear hF hV hsn
    go_enter Try.func41, Try.ntmps41
    go_wp2_with fail
    exact bodyPost_ret (results_none rfl _ _ _) rfl ⟨rfl, _, HV.out, HF.out, World.grownBy.refl _ _⟩
  | succ m ih =>
    intro seen n W hm hl hn hB hV hF
    have hnl : n < seen.length := by omega
    have hn0 : (0 : Int) ≤ (n : Int) := by omega
    have hn1 : (n : Int) < (S.length : Int) := by omega
    cases hb : seen[n]? with
    | none => rw [List.getElem?_eq_none_iff] at hb; omega
    | some b =>
      cases b with
      | true =>
        have hc1 := hV.f.cell
        have hc2 := hF.cell n true hb
        have HV := Lib.hid (VisR.seen (S := S) hb)
        have HF := Lib.hid hF
        clear hF hV hb ih
        go_enter Try.func41, Try.ntmps41
        go_wp2_with fail
        exact bodyPost_ret (results_none rfl _ _ _) rfl ⟨rfl, _, HV.out, HF.out, World.grownBy.refl _ _⟩
      | false =>
        have hc1 := hV.f.cell
        have hc2 := hF.cell n false hb
        have hfz := frozen_of_row _ _ n _ _ hF
        have hc3 := hV.s.cell
        have hcu := unseen_set seen n hb
        have HB := Lib.hid hb
        have HVW := Lib.hid hV
        have HFL := Lib.hid hF
        have IH := Lib.hid ih
        clear hF hV hb ih
        refine (callsIn_wide (n := 9)).1 ?_
        refine callsIn_of_wp_marks Try.func41 rfl trivial ?_ rfl
        simp only [Try.ntmps41, List.size_toArray, List.length_cons, List.length_nil, Nat.reduceAdd, Nat.reduceSub, Array.replicate_succ, Array.replicate_zero, List.push_toArray, List.append_toArray, List.nil_append, List.cons_append]
        gi_wp2_with fail
        refine ⟨trivial, (of_in 8 v (n : Int) 0 _ ?_).mono ?_⟩
        · obtain ⟨_, _, hv⟩ | ⟨_, _, _, hv, _⟩ := HVW.out.r
          · obtain ⟨_, rfl⟩ := hv; rfl
          · rw [hv]; rfl
        rintro e w' ⟨rfl, rfl⟩
        gi_wp2_with fail
        obtain ⟨W0, hW0⟩ : ∃ W0, W0 = W.setCell ⟨gs, n, none⟩ (.bool true) := ⟨_, rfl⟩
        have hg0 : W.grownBy W0 (some gs) := by rw [hW0]; exact ⟨rfl, rfl, rfl, by simp, fun k _ hk => heap_setCell_other _ ⟨gs, n, none⟩ k _ (fun e => hk (by rw [e]))⟩
        have hF0 : Flags W0 gs (seen.set n true) := by rw [hW0]; exact HFL.out.set n true
        have hV0 := HVW.out.kept hg0 d1 d2 d3 d4 hB
        have hs0 : W0.heap.size = W.heap.size := by rw [hW0]; simp
        rw [← hW0]
        clear hW0 hc1 hc2 hc3 hfz
        have hgs : gs < W0.heap.size := (Array.getElem?_eq_some_iff.1 hF0).1
        obtain ⟨W1, hW1⟩ : ∃ W1, W1 = ((W0.alloc (.cells #[v] 53)).alloc (.cells #[.int .i64 (n : Int)] 3)).alloc (.cells #[.int .i64 0] 3) := ⟨_, rfl⟩
        have hg1 : W0.grownBy W1 none := by rw [hW1]; exact ((World.grownBy_alloc _ _ _).trans (World.grownBy_alloc _ _ _)).trans (World.grownBy_alloc _ _ _)
        have b0 : Boxed W1 W.heap.size 53 v := by rw [hW1, ← hs0]; exact ((Boxed.new W0 _ v).alloc _).alloc _
        have b1 : Boxed W1 (W.heap.size + 1) 3 (natC n) := by
          rw [hW1, ← hs0]
          have := (Boxed.new (W0.alloc (.cells #[v] 53)) 3 (natC n)).alloc (.cells #[natC 0] 3)
          rwa [World.size_alloc] at this
        have b2 : Boxed W1 (W.heap.size + 1 + 1) 3 (natC 0) := by
          rw [hW1, ← hs0]
          have := Boxed.new ((W0.alloc (.cells #[v] 53)).alloc (.cells #[natC n] 3)) 3 (natC 0)
          rwa [World.size_alloc, World.size_alloc] at this
        have hs1 : W1.heap.size = W0.heap.size + 3 := by rw [hW1]; simp
        rw [← hW1]
        clear hW1
        have hV1 := hV0.turn hg1 (fun r e => by cases e) (by omega)
        have hF1 : Flags W1 gs (seen.set n true) := blk_turn hF0 hg1 (fun r e => by cases e)
        have hgW1 : W.grownBy W1 (some gs) := hg0.trans (hg1.but _)
        refine wpIn_rangeFunc_ownG rfl (by decide) (gf := 64) rfl trivial (enters_of Try.func64 (by kernel_rfl) rfl)
          (of_stops 8 (by decide) W.heap.size B0 v S n 0 hn (by omega) (by have := hSl n; omega) W1 b0 b1 b2 hV1.r (by omega)) kpB_t (kpB_b (by omega) (by omega)) (Below.refl _ _) (fun _ => rfl)
          (fun pre W' => ∃ sn, VisL S (seen.set n true) (valsOf pre) sn ∧ Flags W' gs sn ∧ VisW W' B0 Bs Bn Bv gs v S ∧ W1.grownBy W' (some gs)) (fun _ _ _ => False) ?hI (fun _ _ _ _ _ h _ _ => h) ?h0
          (fun x => { tmps := #[natC n, .pointer (some ⟨Bn, 0, none⟩), .pointer (some ⟨Bs, 0, none⟩), .pointer (some ⟨Bv, 0, none⟩), undef, natC x.1, .slice (some ⟨gs, 0, none⟩) S.length S.length, natC n, .pointer (some ⟨gs, n, none⟩), .bool false,
              .slice (some ⟨gs, 0, none⟩) S.length S.length, natC n, .pointer (some ⟨gs, n, none⟩), v, natC n, .func (.func 64) #[] #[.pointer (some ⟨W.heap.size, 0, none⟩), .pointer (some ⟨W.heap.size + 1, 0, none⟩), .pointer (some ⟨W.heap.size + 1 + 1, 0, none⟩)], natC x.1, undef, undef, undef], defers := [] }) ?assign ?body ?done ?stop
        case hI =>
          intro pre X Y row h hg hr
          obtain ⟨sn, h1, h2, h3, h4⟩ := h
          exact ⟨sn, h1, blk_turn h2 hg (fun r e => (hr r e).2), h3.turn hg (fun r e => ⟨by have := (hr r e).1; omega, (hr r e).2⟩) (by have := h4.size; omega), ownFrom_grown (β := Unit) (Nat.le_refl _) () X Y row h4 hg hr⟩
        case h0 => exact ⟨_, VisL.nil _ _, hF1, hV1, World.grownBy.refl _ _⟩
        case assign =>
          intro l x W2 K hK
          simp only [encOf]
          gi_wp2
          exact hK
        case body =>
          rintro l pre x W2 ⟨sn, hvl, hF2, hV2, hg2⟩ _
          have hxk : x.1 ∈ S.getD n [] := by
            have := x.2
            unfold ofL at this
            exact (List.mem_filter.1 this).1
          have hs2 := hg2.size
          have hlen : sn.length = S.length := by have := hvl.1.1; rw [List.length_set] at this; omega
          have hun : unseen sn ≤ m := by have := hvl.1.left; omega
          have hcall := IH.out sn x.1 W2 hun hlen (hSk n _ hxk) (by omega) hV2 hF2
          have hcc := hV2.c.cell
          have HV2 := Lib.hid hV2
          have HVL := Lib.hid hvl
          have HG2 := Lib.hid hg2
          have HF2 := Lib.hid hF2
          have HCALL := Lib.hid hcall
          clear hV2 hvl hg2 hF2 hcall
          gi_wp2_with fail
          refine ⟨trivial, ?_⟩
          refine (CallsIn.inRound l (callsIn_wide.2 HCALL.out)).mono ?_
          rintro e W3 ⟨rfl, sn', hv3, hF3, hg3⟩
          gi_wp2_with fail
          refine ⟨(KeepsOthers.of_grownBy hg3 (fun j o ej hj => by cases ej; rw [show W2.heap[gs]? = _ from HF2.out] at hj; cases hj; rfl)).from _, ⟨hg3.block _ (by omega) (by simp; omega), (Below.refl B0 W2).grown hg3 (by omega) (fun k e => by cases e; exact d4)⟩, sn', by rw [valsOf_snoc]; exact HVL.out.snoc hv3, hF3, HV2.out.kept hg3 d1 d2 d3 d4 (by omega), HG2.out.trans hg3⟩
        case done =>
          rintro D xs W2 hD hxs ⟨sn, hvl, hF2, hV2, hg2⟩ hK
          gi_wp2
          refine ⟨by simp, .inl ⟨_, _, rfl, run_takeDeferred hK, ?_⟩⟩
          have hput := grownBy_putObj' W2 D (.deferred none)
          have hrow : ∀ r, some D = some r → ∃ o : Obj, W2.heap[r]? = some o ∧ o.isCells = false := fun r e => by cases e; exact ⟨_, hK, rfl⟩
          refine ⟨_, results_none rfl _ _ _, rfl, sn, VisR.done HB.out ?_, blk_turn hF2 hput hrow, ?_⟩
          · rw [hxs] at hvl
            unfold ofL at hvl
            rw [List.filter_eq_self.2 (by simp)] at hvl
            exact hvl
          · exact (hgW1.trans hg2).andThen hput (fun j e => .inl (by cases e; omega))
        case stop =>
          rintro D c pre W2 hD _ h _
          exact h.elim
end Go.Proofs.Ytlcgbkeggmaljaa
