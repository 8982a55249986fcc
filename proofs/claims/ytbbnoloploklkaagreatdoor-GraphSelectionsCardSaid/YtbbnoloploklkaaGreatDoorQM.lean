/- Contract of the graph's Reach: the visit of a node. Contract of the graph's Reach. The law GraphSelections: what its reach is; the law's closure. Contract of the reference's decimal. Contracts of the reference's Segments, segment, Major and IsPath. Contracts of the reference's Line and Path. Contract of the reference's Compare. Insertion into a sorted list of spans, plain. -/
import Derived.Test.YtbbnoloploklkaaGreatDoorQC
import Derived.Test.YtbbnoloploklkaaGreatDoorQL
import Derived.Test.YtbbnoloploklkaaGreatDoorQJ
import Derived.Maps.Range
import Derived.Test.YtbbnoloploklkaaGreatDoorQK
import Derived.Test.YtbbnoloploklkaaGreatDoorQB
import Derived.Test.YtbbnoloploklkaaGreatDoorQA
namespace Go.Proofs.YtbbnoloploklkaaGreatDoor
set_option linter.unusedVariables false
set_option linter.unusedSimpArgs false
open Go Go.RowKit

def Flags (W : World) (g : Nat) (l : List Bool) : Prop := W.heap[g]? = some (.cells (l.map Value.bool).toArray 4 (0, 0))
theorem Flags.cell {W : World} {g : Nat} {l : List Bool} (h : Flags W g l) (i : Nat) (b : Bool) (hb : l[i]? = some b) : W.cell? ⟨g, i, none⟩ = some (.bool b) := by
  rw [cell_of_row _ _ _ _ _ _ h]
  simp [hb]
theorem Flags.set {W : World} {g : Nat} {l : List Bool} (h : Flags W g l) (i : Nat) (b : Bool) : Flags (W.setCell ⟨g, i, none⟩ (.bool b)) g (l.set i b) := by
  have := heap_setCell_same W g i _ _ (.bool b) h
  unfold Flags
  rw [this]
  simp [List.map_set]
structure VisW (W : World) (B0 Bs Bn Bv gs : Nat) (v : Value) (S : List (List Nat)) : Prop where
  s : Boxed W Bs 161 v
  f : Boxed W Bn 163 (.slice (some ⟨gs, 0, none⟩) S.length S.length)
  c : Boxed W Bv 164 (.func (.func 126) #[] #[.pointer (some ⟨Bn, 0, none⟩), .pointer (some ⟨Bs, 0, none⟩), .pointer (some ⟨Bv, 0, none⟩)])
  r : RowsOf B0 v S W
theorem VisW.kept {W W' : World} {B0 Bs Bn Bv gs : Nat} {v : Value} {S : List (List Nat)} (h : VisW W B0 Bs Bn Bv gs v S) (hg : W.grownBy W' (some gs)) (h1 : Bs ≠ gs) (h2 : Bn ≠ gs) (h3 : Bv ≠ gs) (h4 : B0 ≤ gs) (h5 : B0 ≤ W.heap.size) : VisW W' B0 Bs Bn Bv gs v S :=
  ⟨h.s.kept hg (by simpa using h1), h.f.kept hg (by simpa using h2), h.c.kept hg (by simpa using h3), h.r.below (B' := B0) ((Below.refl B0 W).grown hg h5 (fun k e => by cases e; exact h4)) (Nat.le_refl _)⟩
theorem VisW.turn {W W' : World} {B0 Bs Bn Bv gs : Nat} {v : Value} {S : List (List Nat)} (h : VisW W B0 Bs Bn Bv gs v S) {row : Option Nat} (hg : W.grownBy W' row) (hr : ∀ r, row = some r → B0 ≤ r ∧ ∃ o : Obj, W.heap[r]? = some o ∧ o.isCells = false) (h5 : B0 ≤ W.heap.size) : VisW W' B0 Bs Bn Bv gs v S :=
  ⟨blk_turn h.s hg (fun r e => (hr r e).2), blk_turn h.f hg (fun r e => (hr r e).2), blk_turn h.c hg (fun r e => (hr r e).2), h.r.below (B' := B0) ((Below.refl B0 W).grown hg h5 (fun k e => (hr k e).1)) (Nat.le_refl _)⟩

attribute [local go_sem] Oper.semAt_some

set_option maxRecDepth 100000 in
set_option maxHeartbeats 4000000 in
theorem visit_any (B0 Bs Bn Bv gs : Nat) (v : Value) (S : List (List Nat)) (hS : S.length ≤ 1000000) (hSl : ∀ a, (S.getD a []).length ≤ 1000000) (hSk : ∀ a, ∀ k ∈ S.getD a [], k < S.length) (d1 : Bs ≠ gs) (d2 : Bn ≠ gs) (d3 : Bv ≠ gs) (d4 : B0 ≤ gs) :
    ∀ (m : Nat) (seen : List Bool) (n : Nat) (W : World), unseen seen ≤ m → seen.length = S.length → n < S.length → B0 ≤ W.heap.size → VisW W B0 Bs Bn Bv gs v S → Flags W gs seen →
    Calls Tryz.prog 126 #[natC n, .pointer (some ⟨Bn, 0, none⟩), .pointer (some ⟨Bs, 0, none⟩), .pointer (some ⟨Bv, 0, none⟩)] W fun e W' => e = .returned (.tuple #[]) ∧ ∃ seen', VisR S seen n seen' ∧ Flags W' gs seen' ∧ W.grownBy W' (some gs) := by
  intro m
  induction m with
  | zero =>
    intro seen n W hm hl hn hB hV hF
    have hnl : n < seen.length := by omega
    have hsn : seen[n]? = some true := by
      cases hb : seen[n]? with
      | none => rw [List.getElem?_eq_none_iff] at hb; omega
      | some b =>
        cases b with
        | true => rfl
        | false => have := unseen_set seen n hb; omega
    have hc1 := hV.f.cell
    have hc2 := hF.cell n true hsn
    have hn0 : (0 : Int) ≤ (n : Int) := by omega
    have hn1 : (n : Int) < (S.length : Int) := by omega
    have HV := Lib.hid (VisR.seen (S := S) hsn)
    have HF := Lib.hid hF
    clear hF hV hsn
    go_enter Tryz.func126, Tryz.ntmps126
    go_wp2_with fail
    exact bodyPost_ret (results_none rfl _ _ _) rfl ⟨rfl, _, HV.out, HF.out, World.grownBy.refl _ _⟩
  | succ m ih =>
    intro seen n W hm hl hn hB hV hF
    have hnl : n < seen.length := by omega
    have hn0 : (0 : Int) ≤ (n : Int) := by omega
    have hn1 : (n : Int) < (S.length : Int) := by omega
    cases hb : seen[n]? with
    | none => rw [List.getElem?_eq_none_iff] at hb; omega
    | some b =>
      cases b with
      | true =>
        have hc1 := hV.f.cell
        have hc2 := hF.cell n true hb
        have HV := Lib.hid (VisR.seen (S := S) hb)
        have HF := Lib.hid hF
        clear hF hV hb ih
        go_enter Tryz.func126, Tryz.ntmps126
        go_wp2_with fail
        exact bodyPost_ret (results_none rfl _ _ _) rfl ⟨rfl, _, HV.out, HF.out, World.grownBy.refl _ _⟩
      | false =>
        have hc1 := hV.f.cell
        have hc2 := hF.cell n false hb
        have hfz := frozen_of_row _ _ n _ _ hF
        have hc3 := hV.s.cell
        have hcu := unseen_set seen n hb
        have HB := Lib.hid hb
        have HVW := Lib.hid hV
        have HFL := Lib.hid hF
        have IH := Lib.hid ih
        clear hF hV hb ih
        refine (callsIn_wide (n := 9)).1 ?_
        refine callsIn_of_wp_marks Tryz.func126 rfl trivial ?_ rfl
        simp only [Tryz.ntmps126, List.size_toArray, List.length_cons, List.length_nil, Nat.reduceAdd, Nat.reduceSub, Array.replicate_succ, Array.replicate_zero, List.push_toArray, List.append_toArray, List.nil_append, List.cons_append]
        gi_wp2_with fail
        refine ⟨trivial, (of_in 8 v (n : Int) 0 _ ?_).mono ?_⟩
        · obtain ⟨_, _, hv⟩ | ⟨_, _, _, hv, _⟩ := HVW.out.r
          · obtain ⟨_, rfl⟩ := hv; rfl
          · rw [hv]; rfl
        rintro e w' ⟨rfl, rfl⟩
        gi_wp2_with fail
        obtain ⟨W0, hW0⟩ : ∃ W0, W0 = W.setCell ⟨gs, n, none⟩ (.bool true) := ⟨_, rfl⟩
        have hg0 : W.grownBy W0 (some gs) := by rw [hW0]; exact ⟨rfl, rfl, rfl, by simp, fun k _ hk => heap_setCell_other _ ⟨gs, n, none⟩ k _ (fun e => hk (by rw [e]))⟩
        have hF0 : Flags W0 gs (seen.set n true) := by rw [hW0]; exact HFL.out.set n true
        have hV0 := HVW.out.kept hg0 d1 d2 d3 d4 hB
        have hs0 : W0.heap.size = W.heap.size := by rw [hW0]; simp
        rw [← hW0]
        clear hW0 hc1 hc2 hc3 hfz
        have hgs : gs < W0.heap.size := (Array.getElem?_eq_some_iff.1 hF0).1
        obtain ⟨W1, hW1⟩ : ∃ W1, W1 = ((W0.alloc (.cells #[v] 161)).alloc (.cells #[.int .i64 (n : Int)] 3)).alloc (.cells #[.int .i64 0] 3) := ⟨_, rfl⟩
        have hg1 : W0.grownBy W1 none := by rw [hW1]; exact ((World.grownBy_alloc _ _ _).trans (World.grownBy_alloc _ _ _)).trans (World.grownBy_alloc _ _ _)
        have b0 : Boxed W1 W.heap.size 161 v := by rw [hW1, ← hs0]; exact ((Boxed.new W0 _ v).alloc _).alloc _
        have b1 : Boxed W1 (W.heap.size + 1) 3 (natC n) := by
          rw [hW1, ← hs0]
          have := (Boxed.new (W0.alloc (.cells #[v] 161)) 3 (natC n)).alloc (.cells #[natC 0] 3)
          rwa [World.size_alloc] at this
        have b2 : Boxed W1 (W.heap.size + 1 + 1) 3 (natC 0) := by
          rw [hW1, ← hs0]
          have := Boxed.new ((W0.alloc (.cells #[v] 161)).alloc (.cells #[natC n] 3)) 3 (natC 0)
          rwa [World.size_alloc, World.size_alloc] at this
        have hs1 : W1.heap.size = W0.heap.size + 3 := by rw [hW1]; simp
        rw [← hW1]
        clear hW1
        have hV1 := hV0.turn hg1 (fun r e => by cases e) (by omega)
        have hF1 : Flags W1 gs (seen.set n true) := blk_turn hF0 hg1 (fun r e => by cases e)
        have hgW1 : W.grownBy W1 (some gs) := hg0.trans (hg1.but _)
        refine wpIn_rangeFunc_ownG rfl (by decide) (gf := 175) rfl trivial (enters_of Tryz.func175 (by kernel_rfl) rfl)
          (of_stops 8 (by decide) W.heap.size B0 v S n 0 hn (by omega) (by have := hSl n; omega) W1 b0 b1 b2 hV1.r (by omega)) kpB_t (kpB_b (by omega) (by omega)) (Below.refl _ _) (fun _ => rfl)
          (fun pre W' => ∃ sn, VisL S (seen.set n true) (valsOf pre) sn ∧ Flags W' gs sn ∧ VisW W' B0 Bs Bn Bv gs v S ∧ W1.grownBy W' (some gs)) (fun _ _ _ => False) ?hI (fun _ _ _ _ _ h _ _ => h) ?h0
          (fun x => { tmps := #[natC n, .pointer (some ⟨Bn, 0, none⟩), .pointer (some ⟨Bs, 0, none⟩), .pointer (some ⟨Bv, 0, none⟩), undef, natC x.1, .slice (some ⟨gs, 0, none⟩) S.length S.length, natC n, .pointer (some ⟨gs, n, none⟩), .bool false,
              .slice (some ⟨gs, 0, none⟩) S.length S.length, natC n, .pointer (some ⟨gs, n, none⟩), v, natC n, .func (.func 175) #[] #[.pointer (some ⟨W.heap.size, 0, none⟩), .pointer (some ⟨W.heap.size + 1, 0, none⟩), .pointer (some ⟨W.heap.size + 1 + 1, 0, none⟩)], natC x.1, undef, undef, undef], defers := [] }) ?assign ?body ?done ?stop
        case hI =>
          intro pre X Y row h hg hr
          obtain ⟨sn, h1, h2, h3, h4⟩ := h
          exact ⟨sn, h1, blk_turn h2 hg (fun r e => (hr r e).2), h3.turn hg (fun r e => ⟨by have := (hr r e).1; omega, (hr r e).2⟩) (by have := h4.size; omega), ownFrom_grown (β := Unit) (Nat.le_refl _) () X Y row h4 hg hr⟩
        case h0 => exact ⟨_, VisL.nil _ _, hF1, hV1, World.grownBy.refl _ _⟩
        case assign =>
          intro l x W2 K hK
          simp only [encOf]
          gi_wp2
          exact hK
        case body =>
          rintro l pre x W2 ⟨sn, hvl, hF2, hV2, hg2⟩ _
          have hxk : x.1 ∈ S.getD n [] := by
            have := x.2
            unfold ofL at this
            exact (List.mem_filter.1 this).1
          have hs2 := hg2.size
          have hlen : sn.length = S.length := by have := hvl.1.1; rw [List.length_set] at this; omega
          have hun : unseen sn ≤ m := by have := hvl.1.left; omega
          have hcall := IH.out sn x.1 W2 hun hlen (hSk n _ hxk) (by omega) hV2 hF2
          have hcc := hV2.c.cell
          have HV2 := Lib.hid hV2
          have HVL := Lib.hid hvl
          have HG2 := Lib.hid hg2
          have HF2 := Lib.hid hF2
          have HCALL := Lib.hid hcall
          clear hV2 hvl hg2 hF2 hcall
          gi_wp2_with fail
          refine ⟨trivial, ?_⟩
          refine (CallsIn.inRound l (callsIn_wide.2 HCALL.out)).mono ?_
          rintro e W3 ⟨rfl, sn', hv3, hF3, hg3⟩
          gi_wp2_with fail
          refine ⟨(KeepsOthers.of_grownBy hg3 (fun j o ej hj => by cases ej; rw [show W2.heap[gs]? = _ from HF2.out] at hj; cases hj; rfl)).from _, ⟨hg3.block _ (by omega) (by simp; omega), (Below.refl B0 W2).grown hg3 (by omega) (fun k e => by cases e; exact d4)⟩, sn', by rw [valsOf_snoc]; exact HVL.out.snoc hv3, hF3, HV2.out.kept hg3 d1 d2 d3 d4 (by omega), HG2.out.trans hg3⟩
        case done =>
          rintro D xs W2 hD hxs ⟨sn, hvl, hF2, hV2, hg2⟩ hK
          gi_wp2
          refine ⟨by simp, .inl ⟨_, _, rfl, run_takeDeferred hK, ?_⟩⟩
          have hput := grownBy_putObj' W2 D (.deferred none)
          have hrow : ∀ r, some D = some r → ∃ o : Obj, W2.heap[r]? = some o ∧ o.isCells = false := fun r e => by cases e; exact ⟨_, hK, rfl⟩
          refine ⟨_, results_none rfl _ _ _, rfl, sn, VisR.done HB.out ?_, blk_turn hF2 hput hrow, ?_⟩
          · rw [hxs] at hvl
            unfold ofL at hvl
            rw [List.filter_eq_self.2 (by simp)] at hvl
            exact hvl
          · exact (hgW1.trans hg2).andThen hput (fun j e => .inl (by cases e; omega))
        case stop =>
          rintro D c pre W2 hD _ h _
          exact h.elim
end Go.Proofs.YtbbnoloploklkaaGreatDoor

namespace Go.Proofs.YtbbnoloploklkaaGreatDoor
set_option linter.unusedVariables false
set_option linter.unusedSimpArgs false
open Go Go.RowKit

def marked (l : List Bool) : List Nat := (List.range l.length).filter fun i => l.getD i false
theorem mem_marked {l : List Bool} {k : Nat} : k ∈ marked l ↔ l[k]? = some true := by
  unfold marked
  rw [List.mem_filter, List.mem_range, List.getD_eq_getElem?_getD]
  constructor
  · rintro ⟨h, h2⟩
    rw [List.getElem?_eq_getElem h] at h2 ⊢
    simpa using h2
  · intro h
    have hl := (List.getElem?_eq_some_iff.1 h).1
    rw [h]
    exact ⟨hl, rfl⟩
theorem marked_sorted (l : List Bool) : (marked l).Pairwise (· < ·) := List.Pairwise.filter _ List.pairwise_lt_range
theorem marked_take (l : List Bool) (k : Nat) (h : k < l.length) : (List.range (k + 1)).filter (fun i => l.getD i false) = if l[k] = true then (List.range k).filter (fun i => l.getD i false) ++ [k] else (List.range k).filter (fun i => l.getD i false) := by
  rw [List.range_succ, List.filter_append]
  have e : l.getD k false = l[k] := by rw [List.getD_eq_getElem?_getD, List.getElem?_eq_getElem h]; rfl
  by_cases hk : l[k] = true
  · rw [if_pos hk, List.filter_cons_of_pos (by rw [e]; exact hk)]; rfl
  · rw [if_neg hk, List.filter_cons_of_neg (by rw [e]; exact hk)]; simp

def ReachS (N : Nat) (es : List (Int × Int)) (from_ : List Int) (l : List Nat) : Prop := l.Pairwise (· < ·) ∧ ∀ k, k ∈ l ↔ k < N ∧ ∃ a : Nat, (a : Int) ∈ from_ ∧ Rch (sucs N es) a k
theorem visL_bound {S : List (List Nat)} {n : Nat} {pre : List Nat} {sn : List Bool} (h : VisL S (List.replicate n false) pre sn) : sn.length = n := by rw [← h.1.1, List.length_replicate]
theorem visL_closed {S : List (List Nat)} {n : Nat} {pre : List Nat} {sn : List Bool} (h : VisL S (List.replicate n false) pre sn) {a b : Nat} (hr : Rch S a b) (ha : sn[a]? = some true) : sn[b]? = some true := by
  have hnf : ∀ a, (List.replicate n false)[a]? ≠ some true := fun a e => by
    have := List.eq_of_mem_replicate (List.mem_of_getElem? e)
    cases this
  induction hr with
  | refl => exact ha
  | step hb _ ih => exact ih ((h.2.2 _ ha (hnf _)).2 _ hb)
theorem reachS_of {N : Nat} {es : List (Int × Int)} {from_ : List Int} {fn : List Nat} {sn : List Bool} (hf : from_ = fn.map Int.ofNat) (h : VisL (sucs N es) (List.replicate N false) fn sn) : ReachS N es from_ (marked sn) := by
  subst hf
  refine ⟨marked_sorted _, fun k => ?_⟩
  rw [mem_marked]
  constructor
  · intro hk
    obtain ⟨⟨a, ha, hr⟩, _⟩ := h.2.2 k hk (fun e => by cases List.eq_of_mem_replicate (List.mem_of_getElem? e))
    refine ⟨?_, a, List.mem_map.2 ⟨a, ha, rfl⟩, hr⟩
    have := (List.getElem?_eq_some_iff.1 hk).1
    rwa [visL_bound h] at this
  · rintro ⟨_, a, ha, hr⟩
    obtain ⟨b, hb, e⟩ := List.mem_map.1 ha
    have : b = a := Int.ofNat.inj e
    subst this
    exact visL_closed h hr (h.2.1 _ hb)

set_option maxRecDepth 100000 in
set_option maxHeartbeats 4000000 in
theorem Reach_yes (a : Option Addr) (N c : Nat) (ev lv : Value) (es : List (Int × Int)) (fn : List Nat) (w : World) (hE : EdgesOf w.heap.size ev es w) (hll : fn.length ≤ 1000000000) (hL : RowOf intC w.heap.size lv (fn.map Int.ofNat) w) (hv : validG N es = true) (hn : ∀ k ∈ fn, k < N) :
    Calls Tryz.prog 55 #[.agg #[.slice a N c, ev], lv] w fun e w' => ∃ v l, e = .returned v ∧ ReachS N es (fn.map Int.ofNat) l ∧ w'.ownsRow w.heap.size 3 1 v l.length (l.map natC) ∧ Below w.heap.size w w' := by
  obtain ⟨hN, hes⟩ := validG_n hv
  have hb1 : Below w.heap.size w (w.alloc (.cells #[.slice a N c, ev] 78)) := (Below.refl _ _).alloc (Nat.le_refl _) _
  have hall : (fn.map Int.ofNat).all (nodeB N) = true := by
    rw [List.all_eq_true]
    intro x hx
    obtain ⟨k, hk, rfl⟩ := List.mem_map.1 hx
    have := hn k hk
    unfold nodeB
    exact decide_eq_true ⟨Int.natCast_nonneg k, by show ((k : Nat) : Int) < N; omega⟩
  have hx := exist_any a N c ev lv es (fn.map Int.ofNat) _ (by omega) ((hE.below hb1 (Nat.le_refl _)).mono hb1.size) (by simpa using hll) ((hL.below hb1 (Nat.le_refl _)).mono hb1.size)
  rw [hv, hall] at hx
  have HX := Lib.hid hx
  have HB1 := Lib.hid hb1
  have HE := Lib.hid hE
  obtain ⟨ao, ec, rfl, _⟩ := hE
  have hL2 := hL
  obtain ⟨la, lc, rfl, hL3⟩ := rowOf_open hL
  rw [List.length_map] at *
  have HL := Lib.hid hL3
  have HV := Lib.hid hv
  have HN := Lib.hid hn
  have hmk := make_bools N (by omega)
  clear hx hb1 hL hL2 hL3 hall hv hn
  go_enter Tryz.func55, Tryz.ntmps55
  go_wp2_with fail
  refine HX.out.mono ?_
  rintro e w1 ⟨rfl, hb⟩
  have hs1 := hb.size
  simp at hs1
  have hg0 : w1.cell? ⟨w.heap.size, 0, none⟩ = some (.slice a N c) := (hb.cell (p := ⟨w.heap.size, 0, none⟩) (by show w.heap.size < _; simp)).trans (cell_of_row _ _ 0 _ _ _ (World.alloc_heap_new w _))
  have hg1 : w1.cell? ⟨w.heap.size, 1, none⟩ = some (.slice ao es.length ec) := (hb.cell (p := ⟨w.heap.size, 1, none⟩) (by show w.heap.size < _; simp)).trans (cell_of_row _ _ 1 _ _ _ (World.alloc_heap_new w _))
  have HW1 := Lib.hid (HB1.out.trans (hb.mono (by simp)))
  have hns := newSucc_any a c N _ es w1 ((HE.out.below HW1.out (Nat.le_refl _)).mono (by omega)) HV.out
  have HNS := Lib.hid hns
  clear hb hns
  go_wp2_with fail
  refine HNS.out.mono ?_
  rintro e w2 ⟨v, vs, rfl, hgrid, hb2⟩
  have hs2 := hb2.size
  have hrows := hgrid.rows
  obtain ⟨va, vc, hvv⟩ := hgrid.shape
  rw [List.length_map, sucs_length] at hvv
  subst hvv
  have HR := Lib.hid hrows
  have HW2 := Lib.hid (HW1.out.trans (hb2.mono (by omega)))
  clear hrows hgrid hb2 HNS HW1 hg0 hg1
  go_wp2_with fail
  obtain ⟨W3, hW3⟩ : ∃ W3, W3 = (((w2.alloc (.cells #[.slice va N vc] 161)).alloc (.cells (Array.replicate N (.bool false)) 4)).alloc (.cells #[.slice (some ⟨w2.heap.size + 1, 0, none⟩) N N] 163)).alloc
    (.cells #[.func (.func 126) #[] #[.pointer (some ⟨w2.heap.size + 1 + 1, 0, none⟩), .pointer (some ⟨w2.heap.size, 0, none⟩), .pointer (some ⟨w2.heap.size + 1 + 1 + 1, 0, none⟩)]] 164) := ⟨_, rfl⟩
  have hB3 : Below w2.heap.size w2 W3 := by rw [hW3]; exact (((((Below.refl _ _).alloc (Nat.le_refl _) _).alloc (by simp) _).alloc (by simp; omega) _).alloc (by simp; omega) _)
  have hs3 : W3.heap.size = w2.heap.size + 4 := by rw [hW3]; simp
  have hV3 : VisW W3 w2.heap.size w2.heap.size (w2.heap.size + 1 + 1) (w2.heap.size + 1 + 1 + 1) (w2.heap.size + 1) (.slice va N vc) (sucs N es) := by
    refine ⟨?_, ?_, ?_, HR.out.below hB3 (Nat.le_refl _)⟩
    · rw [hW3]; exact (((Boxed.new w2 _ _).alloc _).alloc _).alloc _
    · rw [hW3]
      have := (Boxed.new ((w2.alloc (.cells #[.slice va N vc] 161)).alloc (.cells (Array.replicate N (.bool false)) 4)) 163 (.slice (some ⟨w2.heap.size + 1, 0, none⟩) N N)).alloc (.cells #[.func (.func 126) #[] #[.pointer (some ⟨w2.heap.size + 1 + 1, 0, none⟩), .pointer (some ⟨w2.heap.size, 0, none⟩), .pointer (some ⟨w2.heap.size + 1 + 1 + 1, 0, none⟩)]] 164)
      rw [World.size_alloc, World.size_alloc] at this
      rw [sucs_length]
      exact this
    · rw [hW3]
      have := Boxed.new (((w2.alloc (.cells #[.slice va N vc] 161)).alloc (.cells (Array.replicate N (.bool false)) 4)).alloc (.cells #[.slice (some ⟨w2.heap.size + 1, 0, none⟩) N N] 163)) 164 (.func (.func 126) #[] #[.pointer (some ⟨w2.heap.size + 1 + 1, 0, none⟩), .pointer (some ⟨w2.heap.size, 0, none⟩), .pointer (some ⟨w2.heap.size + 1 + 1 + 1, 0, none⟩)])
      rw [World.size_alloc, World.size_alloc, World.size_alloc] at this
      exact this
  have hF3 : Flags W3 (w2.heap.size + 1) (List.replicate N false) := by
    rw [hW3]
    unfold Flags
    refine (Below.heap_alloc _ _ _ (by simp)).trans ((Below.heap_alloc _ _ _ (by simp)).trans ?_)
    have := World.alloc_heap_new (w2.alloc (.cells #[.slice va N vc] 161)) (.cells (Array.replicate N (.bool false)) 4)
    rw [World.size_alloc] at this
    rw [this]
    simp
  rw [← hW3]
  clear hW3
  have HV3 := Lib.hid hV3
  have HF3 := Lib.hid hF3
  have HB3 := Lib.hid hB3
  clear hV3 hF3 hB3 hmk
  have hfn : (fn.length : Int) ≤ 1000000000 := by omega
  go_loopw [25] (fun p wr => ∃ (k : Nat) (sn : List Bool), k ≤ fn.length ∧ p = .int .i64 k ∧ Hid (VisL (sucs N es) (List.replicate N false) (fn.take k) sn) ∧ Hid (Flags wr (w2.heap.size + 1) sn) ∧ Hid (VisW wr w2.heap.size w2.heap.size (w2.heap.size + 1 + 1) (w2.heap.size + 1 + 1 + 1) (w2.heap.size + 1) (.slice va N vc) (sucs N es)) ∧ Hid (W3.grownBy wr (some (w2.heap.size + 1)))) (fun p _ => fn.length - (intOf p).toNat)
  case atStart => exact ⟨0, _, by omega, rfl, Lib.hid (VisL.nil _ _), HF3, HV3, Lib.hid (World.grownBy.refl _ _)⟩
  case round =>
    clear HV3 HF3
    obtain ⟨k, sn, hk, rfl, HVL, HF, HVW, HG⟩ := hrel
    have hsr := HG.out.size
    have HBR : Hid (Below w2.heap.size w2 wr) := Lib.hid (HB3.out.grown HG.out (by omega) (fun j e => by cases e; omega))
    by_cases hlt : k < fn.length
    · obtain ⟨b, off, rfl, hb, hc⟩ := HL.out k (Int.ofNat fn[k]) (by rw [List.getElem?_map, List.getElem?_eq_getElem hlt]; rfl)
      have hc1 : wr.cell? ⟨b, off + k, none⟩ = some (natC fn[k]) := ((HW2.out.trans (HBR.out.mono (by omega))).cell (p := ⟨b, off + k, none⟩) hb).trans hc
      have HT : Hid (fn.take (k + 1) = fn.take k ++ [fn[k]]) := Lib.hid (List.take_succ_eq_append_getElem hlt)
      have hnk := HN.out _ (List.getElem_mem hlt)
      generalize fn[k] = n at *
      have hcc := HVW.out.c.cell
      have hcall := visit_any w2.heap.size w2.heap.size (w2.heap.size + 1 + 1) (w2.heap.size + 1 + 1 + 1) (w2.heap.size + 1) (.slice va N vc) (sucs N es) (by rw [sucs_length]; omega)
        (fun a => by
          by_cases ha : a < N
          · rw [sucs_getD _ _ _ ha]; have := sucL_length N es a; omega
          · rw [List.getD_eq_getElem?_getD, List.getElem?_eq_none (by rw [sucs_length]; omega)]; simp)
        (fun a k hk => by
          rw [sucs_length]
          by_cases ha : a < N
          · rw [sucs_getD _ _ _ ha] at hk; exact (mem_sucL.1 hk).1
          · rw [List.getD_eq_getElem?_getD, List.getElem?_eq_none (by rw [sucs_length]; omega)] at hk; simp at hk)
        (by omega) (by omega) (by omega) (by omega) (unseen sn) sn n wr (Nat.le_refl _) (by rw [visL_bound HVL.out, sucs_length]) (by rw [sucs_length]; exact hnk) (by omega) HVW.out HF.out
      have HCALL := Lib.hid hcall
      clear hc hcall
      go_wp2_with fail
      refine HCALL.out.mono ?_
      rintro e w4 ⟨rfl, sn', hv4, hF4, hg4⟩
      go_wp2_with fail
      go_roundw
      case rel => exact ⟨k + 1, sn', by omega, by go_num, Lib.hid (by rw [HT.out]; exact HVL.out.snoc hv4), Lib.hid hF4, Lib.hid (HVW.out.kept hg4 (by omega) (by omega) (by omega) (by omega) (by omega)), Lib.hid (HG.out.trans hg4)⟩
      case measure => simp [intOf]; omega
    · have hkk : k = fn.length := by omega
      subst hkk
      rw [List.take_length] at HVL
      have hcs := HVW.out.f.cell
      rw [sucs_length] at hcs
      have hsl := visL_bound HVL.out
      go_wp2_with fail
      obtain ⟨i0, hi0', hz0, hz1, hz2⟩ := info_parts info_ints
      obtain ⟨wo, rfl⟩ : ∃ wo : World, wo = wr := ⟨_, rfl⟩
      go_loopw [10, 35] (fun o p wr => ∃ k : Nat, k ≤ N ∧ p = .int .i64 k ∧ Hid (wr.ownsRow w.heap.size 3 1 o ((List.range k).filter fun i => sn.getD i false).length (((List.range k).filter fun i => sn.getD i false).map natC)) ∧ Hid (Flags wr (w2.heap.size + 1) sn) ∧ Hid (Below w.heap.size w wr)) (fun _ p _ => N - (intOf p).toNat)
      case atStart => exact ⟨0, by omega, rfl, Lib.hid (World.ownsRow_nil _ _ _ _), HF, Lib.hid (HW2.out.trans (HBR.out.mono (by omega)))⟩
      case round =>
        clear HF HVW HG HBR hcs
        obtain ⟨k, hk, rfl, HO, HF, HB⟩ := hrel
        by_cases hlt : k < N
        · have hsk : k < sn.length := by omega
          have hc1 := HF.out.cell k sn[k] (by simp [hsk])
          have HM := Lib.hid (marked_take sn k hsk)
          have hsb := HB.out.size
          have hle : ((List.range k).filter fun i => sn.getD i false).length ≤ k := by
            have := List.length_filter_le (fun i => sn.getD i false) (List.range k)
            simpa using this
          generalize sn[k] = b at *
          cases b with
          | true =>
            have HM2 : Hid ((List.range (k + 1)).filter (fun i => sn.getD i false) = (List.range k).filter (fun i => sn.getD i false) ++ [k]) := Lib.hid (by rw [HM.out, if_pos rfl])
            generalize (List.range k).filter (fun i => sn.getD i false) = lk at *
            go_wp2_with (at_builtin; refine wpList_append_own _ rfl _ _ 86 rfl w.heap.size 3 i0 _ 1 8 Tryz.underlying86 hi0' hz0 hz1 hz2 rfl (by decide) _ _ _ (by rfl) (HO.out.alloc _) ⟨wr.heap.size, 0, none⟩ 1 1 [natC k] (by rfl) (by rfl) (World.news_of_block (cs := #[natC k]) (t := 3) (fr := (0, 0)) (heap_alloc_new wr _)) (by simp [Value.oneCell']) (by unfold maxLen; omega) (by omega) (by simp; omega) ?_; intro v' w5 hown' hgrow _)
            go_roundw
            case rel =>
              refine ⟨k + 1, by omega, by go_num, Lib.hid (by rw [HM2.out, List.length_append, List.map_append]; exact hown'), Lib.hid ?_, Lib.hid ((HB.out.alloc hsb _).grown hgrow (by simp; omega) (fun j hj => (HO.out.lt j hj).1))⟩
              refine (hgrow.block _ ?_ (blk_ne HF.out HO.out (by decide))).trans ((Below.heap_alloc _ _ _ (Array.getElem?_eq_some_iff.1 HF.out).1).trans HF.out)
              have := (Array.getElem?_eq_some_iff.1 HF.out).1
              simp
              omega
            case measure => simp [intOf]; omega
          | false =>
            go_wp2_with fail
            go_roundw
            case rel => exact ⟨k + 1, by omega, by go_num, Lib.hid (by rw [HM.out, if_neg (by simp)]; exact HO.out), HF, HB⟩
            case measure => simp [intOf]; omega
        · have hkk : k = N := by omega
          subst hkk
          go_wp2_with fail
          go_ret
          refine ⟨_, marked sn, rfl, reachS_of rfl HVL.out, ?_, HB.out⟩
          unfold marked
          rw [hsl]
          exact HO.out
end Go.Proofs.YtbbnoloploklkaaGreatDoor

namespace Go.Proofs.YtbbnoloploklkaaGreatDoor
set_option linter.unusedVariables false
set_option linter.unusedSimpArgs false
open Go Go.RowKit

def namedK (roots : List ReqL) (s : List SelL) (k : Nat) : List Nat := (List.range k).filter fun i => roots.any fun q => decide (q.1 = (s.getD i default).1)
theorem namedK_succ (roots : List ReqL) (s : List SelL) (k : Nat) : namedK roots s (k + 1) = if (roots.any fun q => decide (q.1 = (s.getD k default).1)) = true then namedK roots s k ++ [k] else namedK roots s k := by
  unfold namedK
  rw [List.range_succ, List.filter_append]
  have h1 : (List.filter (fun i => roots.any fun q => decide (q.1 = (s.getD i default).1)) [k]) = if (roots.any fun q => decide (q.1 = (s.getD k default).1)) = true then [k] else [] := by rw [List.filter_cons]; rfl
  rw [h1]
  split
  · rfl
  · rw [List.append_nil]
theorem namedK_le (roots : List ReqL) (s : List SelL) (k : Nat) : (namedK roots s k).length ≤ k := by
  have := List.length_filter_le (fun i => roots.any fun q => decide (q.1 = (s.getD i default).1)) (List.range k)
  unfold namedK
  simpa using this
theorem namedK_lt {roots : List ReqL} {s : List SelL} {k i : Nat} (h : i ∈ namedK roots s k) : i < k := List.mem_range.1 (List.mem_filter.1 h).1
theorem sel_reach {X : List RelL} {roots : List ReqL} {s : List SelL} {l : List Nat} (hs : incrS s) (hn : ∀ y ∈ s, Need X roots s y.1) (h : ReachS s.length (edgesK X s s.length) ((namedK roots s s.length).map Int.ofNat) l) : l.length = s.length := by
  have key : ∀ i, i < s.length → i ∈ l := fun i hi => by
    have hm : s.getD i default ∈ s := by rw [List.getD_eq_getElem?_getD, List.getElem?_eq_getElem hi]; exact List.getElem_mem hi
    obtain ⟨a, ha, hr⟩ := need_reach (fr := (namedK roots s s.length).map Int.ofNat) hs (fun j hj hq => by
      obtain ⟨q, hq1, hq2⟩ := hq
      refine List.mem_map.2 ⟨j, List.mem_filter.2 ⟨List.mem_range.2 hj, List.any_eq_true.2 ⟨q, hq1, decide_eq_true hq2⟩⟩, rfl⟩) (hn _ hm) i hi rfl
    exact (h.2 i).2 ⟨hi, a, ha, hr⟩
  have hp : l.Perm (List.range s.length) := (List.perm_ext_iff_of_nodup (h.1.imp fun h => Nat.ne_of_lt h) List.nodup_range).2 fun i => by
    rw [List.mem_range]
    exact ⟨fun hi => ((h.2 i).1 hi).1, key i⟩
  rw [hp.length_eq, List.length_range]
set_option maxRecDepth 100000 in
theorem samepath_any (p : ByteArray) (q : ReqL) (a : Option Addr) (n k c : Nat) (W : World) (hc : W.cell? ⟨c, 0, none⟩ = some (.string p)) :
    Calls Tryz.prog 54 #[.agg #[.string q.1, .slice a n k], .pointer (some ⟨c, 0, none⟩)] W fun e w' => e = .returned (.bool (decide (q.1 = p))) ∧ Below W.heap.size W w' := by
  have hlt := World.block_lt_of_cell? _ _ hc
  simp only at hlt
  go_enter Tryz.func54, Tryz.ntmps54
  go_wp2_with fail
  go_ret
  exact ⟨congrArg (fun b => Ending.returned (.bool b)) (eqs_dec q.1 p), (by repeat (first | exact Below.refl _ _ | refine Below.drew ?_ | refine Below.alloc ?_ (by simp <;> omega) _ | refine Below.setCell ?_ (by simp <;> omega) _))⟩
theorem samepath_pred (p : ByteArray) (es : List ReqL) (c : Nat) (w : World) (hc : w.cell? ⟨c, 0, none⟩ = some (.string p)) : PredQ 54 #[.pointer (some ⟨c, 0, none⟩)] es (fun q => decide (q.1 = p)) w := by
  intro W x r hx hb hS
  have hlt := World.block_lt_of_cell? _ _ hc
  simp only at hlt
  obtain ⟨a, k, rfl, _⟩ := hS
  refine (samepath_any p x a _ k c W ((hb.cell (p := ⟨c, 0, none⟩) hlt).trans hc)).mono ?_
  rintro e w' ⟨rfl, h⟩
  exact ⟨rfl, hb.trans (h.mono hb.size)⟩
end Go.Proofs.YtbbnoloploklkaaGreatDoor

namespace Go.Proofs.YtbbnoloploklkaaGreatDoor
open Go Go.RowKit

end Go.Proofs.YtbbnoloploklkaaGreatDoor

namespace Go.Proofs.YtbbnoloploklkaaGreatDoor
open Go Go.RowKit

theorem conv_one (c : UInt8) (w : World) : (convert 276 9 (.slice (some ⟨w.heap.size, 0, none⟩) 1 1)).run Tryz.prog (w.alloc (.cells #[.int .u8 c.toNat] 5)).drew = .ok (.string ⟨#[c]⟩) (w.alloc (.cells #[.int .u8 c.toNat] 5)).drew :=
  conv_own 0 _ [c] _ (Lib.hid (Mine.new 5 1 0 1 [.int .u8 c.toNat] _ w (Nat.zero_le _) rfl rfl (by decide)).out)
theorem Mine.set {e B g cap n : Nat} {xs : List Value} {w : World} (h : Hid (Mine e 1 B (.slice (some ⟨g, 0, none⟩) n cap) n xs w)) (j : Nat) (u : Value) : Hid (Mine e 1 B (.slice (some ⟨g, 0, none⟩) n cap) n (xs.set j u) (w.setCell ⟨g, j, none⟩ u)) := by
  obtain ⟨h1, h2⟩ := h.out
  refine Lib.hid ⟨(h1.stored j u).1, ?_⟩
  have : (w.setCell ⟨g, j, none⟩ u).heap.size = w.heap.size := by simp
  omega
def strVs (l : List (List UInt8)) : List Value := l.map fun x => .string ⟨x.toArray⟩
theorem segs_pos (l : List UInt8) : 0 < (segsL l).length := List.length_pos_iff.2 (segsL_ne l)

theorem strVs_set (sg : List (List UInt8)) (hne : sg ≠ []) (l : List UInt8) (nn : Nat) (hn : sg.length = nn + 1) (x : ByteArray) (hx : x = ⟨l.toArray⟩) : (strVs sg).set nn (.string x) = strVs (sg.dropLast ++ [l]) := by
  subst hx
  have e : sg = sg.dropLast ++ [sg.getLast hne] := (List.dropLast_concat_getLast hne).symm
  have hl : nn = (sg.dropLast.map fun x => Value.string ⟨x.toArray⟩).length := by simp; omega
  unfold strVs
  conv => lhs; rw [e]
  rw [List.map_append, List.map_append, hl, List.set_append_right _ _ (Nat.le_refl _)]
  simp
theorem strVs_B (s : ByteArray) : strVs (segsL s.data.toList) = (segB s).map Value.string := by
  unfold strVs segB; rw [List.map_map]; rfl

set_option maxRecDepth 100000 in
set_option maxHeartbeats 4000000 in
theorem Segments_any (s : ByteArray) (w : World) (hs : s.size ≤ 1000000) :
    Calls Tryz.prog 251 #[.string s] w fun e w' => ∃ v, e = .returned v ∧ Mine 9 1 w.heap.size v (segsL s.data.toList).length (strVs (segsL s.data.toList)) w' ∧ Below w.heap.size w w' := by
  obtain ⟨B, hB⟩ : ∃ B, B = w.heap.size := ⟨_, rfl⟩
  have HBB := Lib.hid hB
  have hB2 : B ≤ w.heap.size := by omega
  have hcn : Hid (Mine 9 1 B (.slice (some ⟨w.heap.size, 0, none⟩) 1 1) 1 [.string ⟨#[]⟩] (w.alloc (.cells #[.string ⟨#[]⟩] 9))) := Mine.new _ _ _ _ _ _ _ hB2 rfl rfl (by decide)
  have hb0 : Below B w (w.alloc (.cells #[.string ⟨#[]⟩] 9)) := (Below.refl _ _).alloc hB2 _
  clear hB hB2
  go_enter Tryz.func251, Tryz.ntmps251
  go_wp2_with fail
  go_loopw [3, 4] (fun o i wr => ∃ k : Nat, k ≤ s.size ∧ i = .int .i64 k ∧ Hid (Mine 9 1 B o (segsL (s.data.toList.take k)).length (strVs (segsL (s.data.toList.take k))) wr) ∧ Hid (Below B w wr)) (fun _ i _ => s.size - (intOf i).toNat)
  case atStart => exact ⟨0, by omega, rfl, hcn, Lib.hid hb0⟩
  case round =>
    clear hcn hb0
    obtain ⟨k, hk, rfl, HO, hbel⟩ := hrel
    by_cases hlt : k < s.size
    · have HT : Hid (s.data.toList.take (k + 1) = s.data.toList.take k ++ [s[k]]) := Lib.hid (by rw [List.take_succ_eq_append_getElem (by simpa using hlt)]; rfl)
      have hp := segs_pos (s.data.toList.take k)
      have hle := segsL_length (s.data.toList.take k)
      rw [List.length_take, ← Lib.size_eq] at hle
      have hne := segsL_ne (s.data.toList.take k)
      have hsl := segsL_le (s.data.toList.take k)
      have htl : (s.data.toList.take k).length ≤ s.size := by rw [List.length_take, ← Lib.size_eq]; omega
      have h255 : (s[k]).toNat ≤ 255 := by have := (s[k]).toNat_lt; omega
      generalize hcs : s[k] = c at *
      by_cases h1 : c = 47
      · subst h1
        have HE : Hid (segsL (s.data.toList.take (k + 1)) = segsL (s.data.toList.take k) ++ [[]]) := Lib.hid (by rw [HT.out, segsL_snoc_slash])
        obtain ⟨sg, hsg⟩ : ∃ sg, segsL (s.data.toList.take k) = sg := ⟨_, rfl⟩
        rw [hsg] at HO HE hp hle hne
        clear hsg HT hne hsl htl
        obtain ⟨nn, hnn⟩ : ∃ nn, sg.length = nn := ⟨_, rfl⟩
        have HN := Lib.hid hnn
        rw [hnn] at HO hp hle
        clear hnn
        go_wp2_with (at_builtin; refine app_strs _ rfl _ _ (by rfl) B _ _ _ (by rfl) HO 1 [.string ⟨#[]⟩] _ (by rfl) (by rfl) (by rfl) (by simp [Value.oneCell']) (by decide) (by omega) ?_; intro g cap w2 HO2 hb2)
        go_roundw
        case rel => exact ⟨k + 1, by omega, by go_num, Lib.hid (by have := HO2.out; rw [HE.out, List.length_append, HN.out]; simpa [strVs] using this), Lib.hid (hbel.out.trans hb2)⟩
        case measure => simp [intOf]; omega
      · have e1 : ((c.toNat : Int) == 47) = false := by rw [beq_eq_false_iff_ne]; intro e; exact h1 (UInt8.toNat_inj.1 (by have : ((47 : UInt8).toNat) = 47 := rfl; omega))
        have HE : Hid (segsL (s.data.toList.take (k + 1)) = (segsL (s.data.toList.take k)).dropLast ++ [(segsL (s.data.toList.take k)).getLast hne ++ [c]]) := Lib.hid (by rw [HT.out, segsL_snoc_other _ _ h1])
        clear h1
        clear HT
        generalize segsL (s.data.toList.take k) = sg at *
        obtain ⟨nn, hnn⟩ : ∃ nn, sg.length = nn + 1 := ⟨sg.length - 1, by omega⟩
        have HN := Lib.hid hnn
        rw [hnn] at HO hle
        obtain ⟨g, cap, rfl⟩ := HO.out.shape (by omega)
        obtain ⟨lb, hlb⟩ : ∃ lb : ByteArray, ⟨(sg.getLast hne).toArray⟩ = lb := ⟨_, rfl⟩
        have hcell : wr.cell? ⟨g, nn, none⟩ = some (.string lb) := by
          rw [HO.out.cell nn (by omega), ← hlb, strVs, List.getElem?_map]
          rw [show sg[nn]? = some (sg.getLast hne) by rw [List.getLast_eq_getElem]; rw [List.getElem?_eq_getElem (by omega)]; congr 2; omega]
          rfl
        have hfz : wr.frozen? ⟨g, nn, none⟩ = false := HO.out.1.frozenAt nn
        have hbw : Below wr.heap.size wr (wr.alloc (.cells #[.int .u8 c.toNat] 5)) := (Below.refl _ _).alloc (Nat.le_refl _) _
        have hge := HO.out.ge.2
        have hcell2 := (hbw.cell (p := ⟨g, nn, none⟩) hge).trans hcell
        have hfz2 := (hbw.frozen (p := ⟨g, nn, none⟩) hge).trans hfz
        have HO3 := Mine.set (Mine.below HO hbw) nn (.string (lb ++ ⟨#[c]⟩))
        have HB3 : Hid (Below B w ((wr.alloc (.cells #[.int .u8 c.toNat] 5)).setCell ⟨g, nn, none⟩ (.string (lb ++ ⟨#[c]⟩)))) := Lib.hid ((hbel.out.trans (hbw.mono HO.out.2)).setCell (p := ⟨g, nn, none⟩) HO.out.ge.1 _)
        clear hbw hge
        have hcv := conv_one c wr
        have hls : lb.size ≤ 1000000 := by
          have := hsl _ (List.getLast_mem hne)
          rw [← hlb, Lib.size_eq]
          show (sg.getLast hne).toArray.toList.length ≤ _
          simp
          omega
        have hno : ¬ 9223372036854775807 < lb.size + (⟨#[c]⟩ : ByteArray).size := by have : (⟨#[c]⟩ : ByteArray).size = 1 := rfl; omega
        have hno2 : ¬ 9223372036854775806 < lb.size := by omega
        have hno3 : ¬ 9223372036854775807 < lb.size + 1 := by omega
        have HL := Lib.hid hlb
        clear hlb hp
        have q1 : IntKind.i64.wrap (nn : Int) = nn := by rw [IntKind.wrap_i64]; omega
        go_wp2_with fail
        go_region
        go_wp2
        go_roundw
        case rel => exact ⟨k + 1, by omega, by go_num, Lib.hid (by
          have h1 := HO3.out
          rw [HE.out]
          have e1 : (sg.dropLast ++ [sg.getLast hne ++ [c]]).length = nn + 1 := by have := HN.out; simp; omega
          rw [e1, ← strVs_set sg hne _ nn HN.out (lb ++ ⟨#[c]⟩) (by rw [← HL.out]; apply ByteArray.ext; simp [ByteArray.data_append])]
          exact h1), Lib.hid HB3.out.drew⟩
        case measure => simp [intOf]; omega
    · have hkk : k = s.size := by omega
      subst hkk
      rw [List.take_of_length_le (by rw [← Lib.size_eq]; exact Nat.le_refl _)] at HO
      go_wp2
      go_ret
      exact ⟨_, rfl, by rw [← HBB.out]; exact HO.out, by rw [← HBB.out]; exact hbel.out⟩

set_option maxHeartbeats 400000 in
theorem rsegment_any (s : ByteArray) (w : World) (hs : s.size ≤ maxLen) :
    Calls Tryz.prog 252 #[.string s] w fun e w' => e = .returned (.bool (segOk s)) ∧ Below w.heap.size w w' := by
  have HN := Lib.hid (rIsName_any s w hs)
  unfold maxLen at hs
  have HS : Hid (segOk s = (nameS s && allZ pathZ s)) := Lib.hid rfl
  go_enter Tryz.func252, Tryz.ntmps252
  go_wp2
  go_loop [3] (fun i => ∃ k : Nat, k ≤ s.size ∧ i = .int .i64 k ∧ Hid ((s.data.toList.take k).all (fun b => pathZ b.toNat) = true)) (fun i => s.size - (intOf i).toNat)
  case atStart => exact ⟨0, Nat.zero_le _, rfl, Lib.hid rfl⟩
  case round =>
    obtain ⟨k, hk, rfl, HA⟩ := hrel
    by_cases hlt : k < s.size
    · have HZ : Hid (pathZ (s[k].toNat : Int) = (smallZ (s[k].toNat : Int) || digitZ (s[k].toNat : Int))) := Lib.hid rfl
      cases h1 : smallZ (s[k].toNat : Int)
      · cases h2 : digitZ (s[k].toNat : Int)
        · have hb : Hid (¬ pathZ (s[k].toNat : Int) = true) := Lib.hid (by rw [HZ.out, h1, h2]; exact Bool.false_ne_true)
          go_wp2_with (first | (go_at_call 266; refine (rsmall_any _ _).mono ?_; rintro e w' ⟨rfl, rfl⟩) | (go_at_call 267; refine (rdigit_any _ _).mono ?_; rintro e w' ⟨rfl, rfl⟩))
          go_ret
          exact ⟨ret_bool (by rw [HS.out, all_not _ s k hlt hb.out, Bool.and_false]), Below.refl _ _⟩
        · have hb : Hid (pathZ (s[k].toNat : Int) = true) := Lib.hid (by rw [HZ.out, h1, h2]; rfl)
          go_wp2_with (first | (go_at_call 266; refine (rsmall_any _ _).mono ?_; rintro e w' ⟨rfl, rfl⟩) | (go_at_call 267; refine (rdigit_any _ _).mono ?_; rintro e w' ⟨rfl, rfl⟩))
          go_round
          case rel => exact ⟨k + 1, by omega, by go_num, Lib.hid (all_take _ s k hlt HA.out hb.out)⟩
          case measure => simp [intOf]; omega
      · have hb : Hid (pathZ (s[k].toNat : Int) = true) := Lib.hid (by rw [HZ.out, h1]; rfl)
        go_wp2_with (first | (go_at_call 266; refine (rsmall_any _ _).mono ?_; rintro e w' ⟨rfl, rfl⟩) | (go_at_call 267; refine (rdigit_any _ _).mono ?_; rintro e w' ⟨rfl, rfl⟩))
        go_round
        case rel => exact ⟨k + 1, by omega, by go_num, Lib.hid (all_take _ s k hlt HA.out hb.out)⟩
        case measure => simp [intOf]; omega
    · have HD := Lib.hid (all_done pathZ s k (by omega) HA.out)
      go_wp2_with fail
      refine HN.out.mono ?_
      rintro e w' ⟨rfl, hb⟩
      go_wp2
      go_ret
      exact ⟨ret_bool (by rw [HS.out, HD.out, Bool.and_true]), hb⟩

theorem majZ_yes {s : ByteArray} (h : verOk s = true) : majZ s = verN s ∧ 0 ≤ verN s := by
  have h2 : majZ s = verN s := by unfold majZ; rw [if_pos h]
  refine ⟨h2, ?_⟩
  unfold verN
  rw [if_pos h]
  unfold verOk okR at h
  simp only [Bool.and_eq_true] at h
  have h3 := h.2.2.2.2
  unfold allZ at h3
  rw [List.all_eq_true, tailS_data] at h3
  exact (valL_lt _ (fun b hb => h3 b hb)).1

set_option maxRecDepth 100000 in
set_option maxHeartbeats 2000000 in
theorem rMajor_any (s : ByteArray) (w : World) :
    Calls Tryz.prog 221 #[.string s] w fun e w' => e = .returned (.tuple #[.int .i64 (majN s), .int .i64 (majE s)]) ∧ Below w.heap.size w w' := by
  have HP : Hid (pathOk s = (decide (s.size ≤ 64) && (decide (2 ≤ (segB s).length) && (verOk (lastB s) && (segB s).all segOk)))) := Lib.hid rfl
  have HN : Hid (majN s = if pathOk s then verN (lastB s) else 0) := Lib.hid rfl
  have HE : Hid (majE s = if pathOk s then 0 else 4) := Lib.hid rfl
  by_cases h2 : s.size ≤ 64
  case neg =>
    have HT : Hid (pathOk s = false) := Lib.hid (by rw [HP.out, decide_eq_false h2]; rfl)
    have h3 : 64 < (s.size : Int) := by omega
    go_enter Tryz.func221, Tryz.ntmps221
    go_wp2
    go_ret2
    exact ⟨ret_ii (by rw [HN.out, HT.out]; rfl) (by rw [HE.out, HT.out]; rfl), Below.refl _ _⟩
  have h3 : ¬ 64 < (s.size : Int) := by omega
  have hne := segB_ne s
  have hln := segB_length s
  have hsz := segB_le s
  have hlm := lastB_mem s
  have HD2 := Lib.hid (decide_eq_true h2)
  have HG := Lib.hid (Segments_any s w (by omega))
  have HB := Lib.hid (strVs_B s)
  have HBL : Hid ((segsL s.data.toList).length = (segB s).length) := Lib.hid (by unfold segB; rw [List.length_map])
  have HLB : Hid ((segB s)[(segB s).length - 1]? = some (lastB s)) := Lib.hid (by unfold lastB; rw [List.getD_eq_getElem?_getD, List.getElem?_eq_getElem (by omega)]; rfl)
  go_enter Tryz.func221, Tryz.ntmps221
  go_wp2_with fail
  refine HG.out.mono ?_
  rintro e w1 ⟨v, rfl, hv, hb⟩
  rw [HB.out, HBL.out] at hv
  obtain ⟨g, cap, rfl⟩ := hv.shape hne
  have hcells : ∀ i (h : i < (segB s).length), w1.cell? ⟨g, i, none⟩ = some (.string (segB s)[i]) := fun i h => by rw [hv.cell i (by omega), List.getElem?_map, List.getElem?_eq_getElem h]; rfl
  have hg := hv.ge
  have hbl := hb
  generalize hsgg : segB s = sg at *
  generalize lastB s = lb at *
  have H1 := Lib.hid hcells
  have H2 := Lib.hid hsz
  have HM := Lib.hid hlm
  have HSG := Lib.hid hsgg
  clear hcells hsz hlm hsgg hb hv
  go_wp2_with fail
  go_loopw [5] (fun i wr => ∃ k : Nat, k ≤ sg.length ∧ i = .int .i64 k ∧ Hid ((sg.take k).all segOk = true) ∧ Hid (Below w1.heap.size w1 wr)) (fun i _ => sg.length - (intOf i).toNat)
  case atStart => exact ⟨0, Nat.zero_le _, rfl, Lib.hid rfl, Lib.hid (Below.refl _ _)⟩
  case round =>
    obtain ⟨k, hk, rfl, HA, hbr⟩ := hrel
    by_cases hlt : k < sg.length
    · have hck : wr.cell? ⟨g, k, none⟩ = some (.string sg[k]) := (hbr.out.cell (p := ⟨g, k, none⟩) hg.2).trans (H1.out k hlt)
      have HX := Lib.hid (H2.out _ (List.getElem_mem hlt))
      have HO : Hid ((sg.take (k + 1)).all segOk = ((sg.take k).all segOk && segOk sg[k])) := Lib.hid (by rw [List.take_succ_eq_append_getElem hlt, List.all_append]; simp)
      have HF : Hid (segOk sg[k] = false → sg.all segOk = false) := Lib.hid (fun h => by rw [List.all_eq_false]; exact ⟨sg[k], List.getElem_mem hlt, by rw [h]; exact Bool.false_ne_true⟩)
      generalize sg[k] = x at *
      cases h4 : segOk x
      · have HT : Hid (pathOk s = false) := Lib.hid (by rw [HP.out, HF.out h4]; simp)
        go_wp2_with fail
        refine (rsegment_any x wr (by have := HX.out; unfold maxLen; omega)).mono ?_
        rintro e w2 ⟨rfl, hb2⟩
        rw [h4]
        go_wp2
        go_ret2
        exact ⟨ret_ii (by rw [HN.out, HT.out]; rfl) (by rw [HE.out, HT.out]; rfl), (hbl.trans (hbr.out.mono hbl.size)).trans (hb2.mono (hbl.trans (hbr.out.mono hbl.size)).size)⟩
      · have HO2 : Hid ((sg.take (k + 1)).all segOk = true) := Lib.hid (by rw [HO.out, HA.out, h4]; rfl)
        go_wp2_with fail
        refine (rsegment_any x wr (by have := HX.out; unfold maxLen; omega)).mono ?_
        rintro e w2 ⟨rfl, hb2⟩
        rw [h4]
        go_wp2
        go_roundw
        case rel => exact ⟨k + 1, by omega, by go_num, HO2, Lib.hid (hbr.out.trans (hb2.mono hbr.out.size))⟩
        case measure => simp [intOf]; omega
    · obtain rfl : k = sg.length := by omega
      have HO : Hid (sg.all segOk = true) := Lib.hid (by have := HA.out; rwa [List.take_length] at this)
      obtain ⟨nn, hnn⟩ : ∃ nn, sg.length = nn + 1 := ⟨sg.length - 1, by omega⟩
      have hck : wr.cell? ⟨g, nn, none⟩ = some (.string lb) := by
        have e : sg[nn]? = some lb := by rw [← HLB.out, hnn]; rfl
        obtain ⟨h5, h6⟩ := List.getElem?_eq_some_iff.1 e
        rw [(hbr.out.cell (p := ⟨g, nn, none⟩) hg.2).trans (H1.out nn h5), h6]
      have HX := Lib.hid (H2.out _ HM.out)
      have HQ : Hid (pathOk s = (decide (2 ≤ nn + 1) && verOk lb)) := Lib.hid (by rw [HP.out, HD2.out, HO.out, hnn]; simp)
      have HBL2 : Hid (Below w.heap.size w wr) := Lib.hid (hbl.trans (hbr.out.mono hbl.size))
      have q1 : wrap64 (nn : Int) = nn := by unfold wrap64; omega
      rw [hnn] at *
      have HMJ := Lib.hid (rmajor_any lb wr (by have := HX.out; omega))
      cases h5 : verOk lb
      · have HT : Hid (pathOk s = false) := Lib.hid (by rw [HQ.out, h5, Bool.and_false])
        have HZ := Lib.hid (majZ_no h5)
        go_wp2_with fail
        refine HMJ.out.mono ?_
        rintro e w2 ⟨rfl, rfl⟩
        rw [HZ.out]
        by_cases h6 : (nn : Int) + 1 < 2
        all_goals
          go_wp2
          go_ret2
          exact ⟨ret_ii (by rw [HN.out, HT.out]; rfl) (by rw [HE.out, HT.out]; rfl), HBL2.out⟩
      · have hz := majZ_yes h5
        have HZ := Lib.hid hz.1
        have hz2 := hz.2
        obtain ⟨vn, hvn⟩ : ∃ vn, verN lb = vn := ⟨_, rfl⟩
        rw [hvn] at hz2
        have HVN := Lib.hid hvn
        clear hz hvn
        by_cases h6 : (nn : Int) + 1 < 2
        · have HT : Hid (pathOk s = false) := Lib.hid (by rw [HQ.out, decide_eq_false (by omega)]; rfl)
          go_wp2_with fail
          refine HMJ.out.mono ?_
          rintro e w2 ⟨rfl, rfl⟩
          rw [HZ.out, HVN.out]
          go_wp2
          go_ret2
          exact ⟨ret_ii (by rw [HN.out, HT.out]; rfl) (by rw [HE.out, HT.out]; rfl), HBL2.out⟩
        · have HT : Hid (pathOk s = true) := Lib.hid (by rw [HQ.out, h5, decide_eq_true (by omega)]; rfl)
          have h7 : ¬ vn < 0 := by omega
          go_wp2_with fail
          refine HMJ.out.mono ?_
          rintro e w2 ⟨rfl, rfl⟩
          rw [HZ.out, HVN.out]
          go_wp2
          go_ret2
          exact ⟨ret_ii (by rw [HN.out, HT.out, if_pos rfl, HVN.out]) (by rw [HE.out, HT.out]; rfl), HBL2.out⟩

set_option maxHeartbeats 400000 in
theorem rIsPath_any (s : ByteArray) (w : World) :
    Calls Tryz.prog 220 #[.string s] w fun e w' => e = .returned (.bool (pathOk s)) ∧ Below w.heap.size w w' := by
  have HE : Hid (majE s = if pathOk s then 0 else 4) := Lib.hid rfl
  cases h : pathOk s
  all_goals
    rw [h] at HE
    simp only [Bool.false_eq_true, if_false, if_true] at HE
    go_enter Tryz.func220, Tryz.ntmps220
    go_wp2_with fail
    refine (rMajor_any s w).mono ?_
    rintro e w' ⟨rfl, hb⟩
    rw [HE.out]
    go_wp2
    go_ret
    exact ⟨rfl, hb⟩
end Go.Proofs.YtbbnoloploklkaaGreatDoor

namespace Go.Proofs.YtbbnoloploklkaaGreatDoor
open Go Go.RowKit

set_option maxRecDepth 100000 in
set_option maxHeartbeats 4000000 in
theorem rLine_any (s : ByteArray) (w : World) (hs : s.size ≤ 1000000) : Calls Tryz.prog 187 #[.string s] w fun e w' =>
    e = .returned (.tuple #[.string (lineV s).1, .int .i64 (lineV s).2.1, .int .i64 (lineV s).2.2]) ∧ Below w.heap.size w w' := by
  have HIP := Lib.hid (fun W => rIsPath_any s W)
  have HMJ := Lib.hid (fun W => rMajor_any s W)
  cases hp : pathOk s with
  | false =>
    have HE := Lib.hid (show lineV s = (⟨#[]⟩, 0, 4) by unfold lineV; rw [hp]; rfl)
    rw [HE.out]
    rw [hp] at HIP
    clear hp
    go_enter Tryz.func187, Tryz.ntmps187
    go_wp2_with fail
    (with_reducible refine (HIP.out _).mono ?_)
    rintro e w1 ⟨rfl, hb1⟩
    have HB1 := Lib.hid hb1
    clear hb1
    go_wp2_with fail
    go_ret3
    exact ⟨rfl, HB1.out⟩
  | true =>
    obtain ⟨i, hi1, hi2, hi3, hi4⟩ := slash_path s hp
    obtain ⟨hd, hhd⟩ : ∃ hd, s.extract 0 i = hd := ⟨_, rfl⟩
    have HE := Lib.hid (show lineV s = (hd, majN s, 0) by unfold lineV; rw [hp, hi1, ← hhd]; rfl)
    rw [show majE s = 0 by unfold majE; rw [hp]; rfl] at HMJ
    rw [HE.out]
    rw [hp] at HIP
    have HH := Lib.hid hhd
    have hget : ∀ j (hj : j < s.size), s.data.toList[j]? = some s[j] := fun j hj => by
      have : j < s.data.toList.length := by rw [← Lib.size_eq]; exact hj
      rw [List.getElem?_eq_getElem this]; simp; rfl
    have HI := Lib.hid (show ((s[i]).toNat : Int) = 47 by
      rw [hget i hi2] at hi3
      rw [Option.some.inj hi3]; rfl)
    have HJ := Lib.hid (show ∀ j (hj : j < s.size), i < j → ¬ ((s[j]).toNat : Int) = 47 from fun j hj hij h => hi4 j hij (by
      rw [hget j hj]
      have : s[j] = 47 := UInt8.toNat_inj.1 (by have : (47 : UInt8).toNat = 47 := rfl; omega)
      rw [this]))
    have HI2 := Lib.hid hi2
    have hsz : (1 : Int) ≤ s.size := by omega
    have hsz2 : (s.size : Int) ≤ 1000000 := by omega
    obtain ⟨mj, hmj⟩ : ∃ mj, majN s = mj := ⟨_, rfl⟩
    rw [hmj] at HMJ ⊢
    clear hp hi1 hi3 hi4 hhd hget hmj
    go_enter Tryz.func187, Tryz.ntmps187
    go_wp2_with fail
    (with_reducible refine (HIP.out _).mono ?_)
    rintro e w1 ⟨rfl, hb1⟩
    have HB1 := Lib.hid hb1
    clear hb1
    go_wp2_with fail
    (with_reducible refine (HMJ.out _).mono ?_)
    rintro e w2 ⟨rfl, hb2⟩
    have HB2 : Hid (Below w.heap.size w w2) := Lib.hid (HB1.out.trans (hb2.mono HB1.out.size))
    clear hb2
    go_wp2_with fail
    go_loop [7] (fun e => ∃ k : Nat, i ≤ k ∧ k < s.size ∧ e = .int .i64 k) (fun e => (intOf e).toNat)
    case atStart => exact ⟨s.size - 1, by have := HI2.out; omega, by have := HI2.out; omega, by have := HI2.out; congr 1; omega⟩
    case round =>
      obtain ⟨k, hk1, hk2, rfl⟩ := hrel
      have hk0 : (0 : Int) ≤ (k : Int) := by omega
      have hk3 : (k : Int) < (s.size : Int) := by omega
      by_cases hik : i = k
      · subst hik
        have h47 : ((((s[i]).toNat : Int)) != 47) = false := by rw [HI.out]; rfl
        have g1 : (0 : Int) ≤ (i : Int) := by omega
        have g2 : (i : Int) ≤ s.size := by omega
        have g3 : i ≤ s.size := by omega
        go_wp2_with fail
        go_ret3
        exact ⟨by rw [← HH.out]; rfl, HB2.out⟩
      · have h47 : ((((s[k]).toNat : Int)) != 47) = true := by
          have := HJ.out k hk2 (by omega)
          simpa using this
        have hk4 : (1 : Int) ≤ (k : Int) := by omega
        go_wp2_with fail
        go_round
        case rel => exact ⟨k - 1, by omega, by omega, by congr 1; omega⟩
        case measure => simp [intOf]; omega
end Go.Proofs.YtbbnoloploklkaaGreatDoor

namespace Go.Proofs.YtbbnoloploklkaaGreatDoor
open Go Go.RowKit

theorem cmpI_lt {a b : Int} (h : a < b) : cmpI a b = -1 := by unfold cmpI; rw [if_pos h]
theorem cmpI_gt {a b : Int} (h : b < a) : cmpI a b = 1 := by unfold cmpI; rw [if_neg (by omega), if_pos h]
theorem cmpI_eq {a b : Int} (h : a = b) : cmpI a b = 0 := by unfold cmpI; rw [if_neg (by omega), if_neg (by omega)]
theorem cmpI_ne {a b : Int} (h : a < b ∨ b < a) : cmpI a b ≠ 0 := by
  rcases h with h | h
  · rw [cmpI_lt h]; decide
  · rw [cmpI_gt h]; decide
set_option maxRecDepth 100000 in
set_option maxHeartbeats 8000000 in
theorem rCompare_any (a b c x y z : Int) (w : World) : Calls Tryz.prog 186 #[.agg #[.int .i64 a, .int .i64 b, .int .i64 c], .agg #[.int .i64 x, .int .i64 y, .int .i64 z]] w fun e w' => e = .returned (.int .i64 (cmpV a b c x y z)) ∧ Below w.heap.size w w' := by
  go_enter Tryz.func186, Tryz.ntmps186
  go_wp2_with fail
  obtain ⟨W, hW⟩ : ∃ W, (((w.alloc (.cells #[.int .i64 a, .int .i64 b, .int .i64 c] 41)).alloc (.cells #[.int .i64 x, .int .i64 y, .int .i64 z] 41)).alloc (.cells #[.int .i64 a, .int .i64 b, .int .i64 c] 3)).alloc (.cells #[.int .i64 x, .int .i64 y, .int .i64 z] 3) = W := ⟨_, rfl⟩
  rw [hW]
  have HB0 : Hid (Below w.heap.size w W) := Lib.hid (by rw [← hW]; exact (by repeat (first | exact Below.refl _ _ | refine Below.drew ?_ | refine Below.alloc ?_ (by simp <;> omega) _ | refine Below.setCell ?_ (by simp <;> omega) _)))
  have e0 : W.cell? ⟨w.heap.size + 1 + 1, 0, none⟩ = some (.int .i64 a) := by rw [← hW]; simp [go_sem]
  have e1 : W.cell? ⟨w.heap.size + 1 + 1, 1, none⟩ = some (.int .i64 b) := by rw [← hW]; simp [go_sem]
  have e2 : W.cell? ⟨w.heap.size + 1 + 1, 2, none⟩ = some (.int .i64 c) := by rw [← hW]; simp [go_sem]
  have k0 : W.cell? ⟨w.heap.size + 1 + 1 + 1, 0, none⟩ = some (.int .i64 x) := by rw [← hW]; simp [go_sem]
  have k1 : W.cell? ⟨w.heap.size + 1 + 1 + 1, 1, none⟩ = some (.int .i64 y) := by rw [← hW]; simp [go_sem]
  have k2 : W.cell? ⟨w.heap.size + 1 + 1 + 1, 2, none⟩ = some (.int .i64 z) := by rw [← hW]; simp [go_sem]
  clear hW
  go_loopw [7] (fun i wr => ((i = .int .i64 0) ∨ (i = .int .i64 1 ∧ Hid (cmpI a x = 0)) ∨ (i = .int .i64 2 ∧ Hid (cmpI a x = 0 ∧ cmpI b y = 0)) ∨ (i = .int .i64 3 ∧ Hid (cmpV a b c x y z = 0))) ∧ Hid (∃ n, wr = W.drewN n)) (fun i _ => 3 - (intOf i).toNat)
  case atStart => exact ⟨.inl rfl, Lib.hid ⟨0, rfl⟩⟩
  case round =>
    obtain ⟨hrel, HW⟩ := hrel
    obtain ⟨n, hn⟩ := HW.out
    replace e0 : wr.cell? ⟨w.heap.size + 1 + 1, 0, none⟩ = some (.int .i64 a) := by rw [hn]; exact e0
    replace e1 : wr.cell? ⟨w.heap.size + 1 + 1, 1, none⟩ = some (.int .i64 b) := by rw [hn]; exact e1
    replace e2 : wr.cell? ⟨w.heap.size + 1 + 1, 2, none⟩ = some (.int .i64 c) := by rw [hn]; exact e2
    replace k0 : wr.cell? ⟨w.heap.size + 1 + 1 + 1, 0, none⟩ = some (.int .i64 x) := by rw [hn]; exact k0
    replace k1 : wr.cell? ⟨w.heap.size + 1 + 1 + 1, 1, none⟩ = some (.int .i64 y) := by rw [hn]; exact k1
    replace k2 : wr.cell? ⟨w.heap.size + 1 + 1 + 1, 2, none⟩ = some (.int .i64 z) := by rw [hn]; exact k2
    have HBW : Hid (Below w.heap.size w wr) := Lib.hid (by rw [hn]; exact below_drewNV HB0.out _)
    have HN := Lib.hid hn
    clear hn HW
    rcases hrel with rfl | ⟨rfl, H1⟩ | ⟨rfl, H2⟩ | ⟨rfl, H3⟩
    · rcases Int.lt_trichotomy a x with h | h | h
      · have H0 := Lib.hid (cmpV_0 (b := b) (c := c) (y := y) (z := z) (cmpI_ne (.inl h)))
        have HR := Lib.hid (cmpI_lt h)
        go_wp2_with fail
        go_quiet (fail)
        go_wp2_with fail
        go_ret
        exact ⟨by rw [H0.out, HR.out]; rfl, below_drewNV HBW.out _⟩
      · have H0 := Lib.hid (cmpI_eq h)
        have h1 : ¬ a < x := by omega
        have h2 : ¬ x < a := by omega
        clear h
        go_wp2_with fail
        go_quiet (fail)
        go_wp2_with fail
        go_quiet (fail)
        go_wp2_with fail
        go_roundw
        case rel => exact ⟨.inr (.inl ⟨rfl, H0⟩), Lib.hid ⟨_, by rw [HN.out]; simp only [World.drewN_drewN]; rfl⟩⟩
        case measure => simp [intOf]
      · have H0 := Lib.hid (cmpV_0 (b := b) (c := c) (y := y) (z := z) (cmpI_ne (.inr h)))
        have HR := Lib.hid (cmpI_gt h)
        have h1 : ¬ a < x := by omega
        go_wp2_with fail
        go_quiet (fail)
        go_wp2_with fail
        go_quiet (fail)
        go_wp2_with fail
        go_ret
        exact ⟨by rw [H0.out, HR.out]; rfl, by first | exact below_drewNV (below_drewNV HBW.out _) _ | exact below_drewNV HBW.out _⟩
    · rcases Int.lt_trichotomy b y with h | h | h
      · have H0 := Lib.hid (cmpV_1 (c := c) (z := z) H1.out (cmpI_ne (.inl h)))
        have HR := Lib.hid (cmpI_lt h)
        go_wp2_with fail
        go_quiet (fail)
        go_wp2_with fail
        go_ret
        exact ⟨by rw [H0.out, HR.out]; rfl, below_drewNV HBW.out _⟩
      · have H0 := Lib.hid (cmpI_eq h)
        have h1 : ¬ b < y := by omega
        have h2 : ¬ y < b := by omega
        clear h
        go_wp2_with fail
        go_quiet (fail)
        go_wp2_with fail
        go_quiet (fail)
        go_wp2_with fail
        go_roundw
        case rel => exact ⟨.inr (.inr (.inl ⟨rfl, Lib.hid ⟨H1.out, H0.out⟩⟩)), Lib.hid ⟨_, by rw [HN.out]; simp only [World.drewN_drewN]; rfl⟩⟩
        case measure => simp [intOf]
      · have H0 := Lib.hid (cmpV_1 (c := c) (z := z) H1.out (cmpI_ne (.inr h)))
        have HR := Lib.hid (cmpI_gt h)
        have h1 : ¬ b < y := by omega
        go_wp2_with fail
        go_quiet (fail)
        go_wp2_with fail
        go_quiet (fail)
        go_wp2_with fail
        go_ret
        exact ⟨by rw [H0.out, HR.out]; rfl, by first | exact below_drewNV (below_drewNV HBW.out _) _ | exact below_drewNV HBW.out _⟩
    · rcases Int.lt_trichotomy c z with h | h | h
      · have H0 := Lib.hid (cmpV_2 (c := c) (z := z) H2.out.1 H2.out.2)
        have HR := Lib.hid (cmpI_lt h)
        go_wp2_with fail
        go_quiet (fail)
        go_wp2_with fail
        go_ret
        exact ⟨by rw [H0.out, HR.out]; rfl, below_drewNV HBW.out _⟩
      · have H0 := Lib.hid (cmpI_eq h)
        have h1 : ¬ c < z := by omega
        have h2 : ¬ z < c := by omega
        clear h
        go_wp2_with fail
        go_quiet (fail)
        go_wp2_with fail
        go_quiet (fail)
        go_wp2_with fail
        go_roundw
        case rel => exact ⟨.inr (.inr (.inr ⟨rfl, Lib.hid ((cmpV_2 H2.out.1 H2.out.2).trans H0.out)⟩)), Lib.hid ⟨_, by rw [HN.out]; simp only [World.drewN_drewN]; rfl⟩⟩
        case measure => simp [intOf]
      · have H0 := Lib.hid (cmpV_2 (c := c) (z := z) H2.out.1 H2.out.2)
        have HR := Lib.hid (cmpI_gt h)
        have h1 : ¬ c < z := by omega
        go_wp2_with fail
        go_quiet (fail)
        go_wp2_with fail
        go_quiet (fail)
        go_wp2_with fail
        go_ret
        exact ⟨by rw [H0.out, HR.out]; rfl, by first | exact below_drewNV (below_drewNV HBW.out _) _ | exact below_drewNV HBW.out _⟩
    · go_wp2_with fail
      go_ret
      exact ⟨by rw [H3.out]; rfl, HBW.out⟩
end Go.Proofs.YtbbnoloploklkaaGreatDoor

namespace Go.Proofs.YtbbnoloploklkaaGreatDoor
set_option linter.unusedVariables false
set_option linter.unusedSimpArgs false

def backK (l : List (Int × Int)) (a : Int) : Nat → Nat
  | 0 => 0
  | k + 1 => if a < (l.getD k (0, 0)).1 then backK l a k else k + 1
def insS (l : List (Int × Int)) (x : Int × Int) : List (Int × Int) := l.take (backK l x.1 l.length) ++ ([x] ++ l.drop (backK l x.1 l.length))
def insAll (l : List (Int × Int)) : List (Int × Int) := l.foldl insS []
theorem insAll_snoc (l : List (Int × Int)) (x : Int × Int) : insAll (l ++ [x]) = insS (insAll l) x := by
  unfold insAll
  rw [List.foldl_append]
  rfl
theorem backK_le (l : List (Int × Int)) (a : Int) : ∀ k, backK l a k ≤ k
  | 0 => Nat.le_refl _
  | k + 1 => by
    have := backK_le l a k
    unfold backK
    split <;> omega
theorem backK_above (l : List (Int × Int)) (a : Int) : ∀ k i, backK l a k ≤ i → i < k → a < (l.getD i (0, 0)).1
  | 0, i, _, h => by omega
  | k + 1, i, h1, h2 => by
    unfold backK at h1
    split at h1
    · rename_i hc
      rcases Nat.lt_or_ge i k with h | h
      · exact backK_above l a k i h1 h
      · obtain rfl : i = k := by omega
        exact hc
    · omega
theorem backK_at (l : List (Int × Int)) (a : Int) : ∀ k j, backK l a k = j + 1 → (l.getD j (0, 0)).1 ≤ a
  | 0, j, h => by cases h
  | k + 1, j, h => by
    unfold backK at h
    split at h
    · exact backK_at l a k j h
    · rename_i hc
      obtain rfl : k = j := by omega
      omega
theorem insS_perm (l : List (Int × Int)) (x : Int × Int) : (insS l x).Perm (l ++ [x]) := by
  unfold insS
  generalize backK l x.1 l.length = k
  have h1 : ([x] ++ l.drop k).Perm (l.drop k ++ [x]) := List.perm_append_comm
  have h2 := h1.append_left (l.take k)
  have e : l.take k ++ (l.drop k ++ [x]) = l ++ [x] := by rw [← List.append_assoc, List.take_append_drop]
  rwa [e] at h2
theorem insS_len (l : List (Int × Int)) (x : Int × Int) : (insS l x).length = l.length + 1 := by
  have := (insS_perm l x).length_eq
  simpa using this
theorem insS_sorted (l : List (Int × Int)) (x : Int × Int) (h : l.Pairwise (fun a b => a.1 ≤ b.1)) : (insS l x).Pairwise (fun a b => a.1 ≤ b.1) := by
  have ha := backK_above l x.1 l.length
  have hat := backK_at l x.1 l.length
  have hle := backK_le l x.1 l.length
  unfold insS
  generalize backK l x.1 l.length = k at *
  have hg : ∀ i (hi : i < l.length), l.getD i (0, 0) = l[i] := fun i hi => by simp [hi]
  have hd : ∀ b ∈ l.drop k, x.1 ≤ b.1 := fun b hb => by
    obtain ⟨i, hi, rfl⟩ := List.getElem_of_mem hb
    have hi2 : k + i < l.length := by rw [List.length_drop] at hi; omega
    have := ha (k + i) (by omega) hi2
    rw [hg _ hi2] at this
    rw [List.getElem_drop]
    omega
  have ht : ∀ a ∈ l.take k, a.1 ≤ x.1 := fun a hm => by
    obtain ⟨i, hi, rfl⟩ := List.getElem_of_mem hm
    rw [List.length_take] at hi
    rw [List.getElem_take]
    obtain ⟨k', rfl⟩ : ∃ k', k = k' + 1 := ⟨k - 1, by omega⟩
    have h2 := hat k' rfl
    rw [hg k' (by omega)] at h2
    rcases Nat.lt_or_ge i k' with h3 | h3
    · have := List.pairwise_iff_getElem.1 h i k' (by omega) (by omega) h3
      omega
    · obtain rfl : i = k' := by omega
      exact h2
  refine List.pairwise_append.2 ⟨h.sublist (List.take_sublist _ _), ?_, fun a hm b hb => ?_⟩
  · rw [List.singleton_append, List.pairwise_cons]
    exact ⟨hd, h.sublist (List.drop_sublist _ _)⟩
  · rw [List.singleton_append] at hb
    rcases List.mem_cons.1 hb with rfl | hb
    · exact ht a hm
    · have := ht a hm
      have := hd b hb
      omega
theorem foldl_ins : ∀ (l acc : List (Int × Int)), acc.Pairwise (fun a b => a.1 ≤ b.1) → (l.foldl insS acc).Perm (acc ++ l) ∧ (l.foldl insS acc).Pairwise (fun a b => a.1 ≤ b.1)
  | [], acc, h => ⟨by simp, h⟩
  | x :: l, acc, h => by
    obtain ⟨h1, h2⟩ := foldl_ins l (insS acc x) (insS_sorted acc x h)
    refine ⟨h1.trans ?_, h2⟩
    have := (insS_perm acc x).append_right l
    simpa using this
theorem insAll_perm (l : List (Int × Int)) : (insAll l).Perm l := by
  have := (foldl_ins l [] List.Pairwise.nil).1
  rwa [List.nil_append] at this
theorem insAll_sorted (l : List (Int × Int)) : (insAll l).Pairwise (fun a b => a.1 ≤ b.1) := (foldl_ins l [] List.Pairwise.nil).2
theorem insAll_len (l : List (Int × Int)) : (insAll l).length = l.length := (insAll_perm l).length_eq
theorem ins_canon (s : List (Int × Int)) : mergeS (insAll (clampS s)) = canon s := merge_canon (insAll_perm _) (insAll_sorted _)
theorem clamp_snoc (l : List (Int × Int)) (x : Int × Int) : clampS (l ++ [x]) = if (clamp x).1 < (clamp x).2 then clampS l ++ [clamp x] else clampS l := by
  unfold clampS
  rw [List.map_append, List.filter_append]
  by_cases h : (clamp x).1 < (clamp x).2 <;> simp [h]
theorem mergeS_take (l : List (Int × Int)) (x : Int × Int) : mergeS (l ++ [x]) = joinS (mergeS l) x := by
  unfold mergeS
  rw [List.foldl_append]
  rfl
end Go.Proofs.YtbbnoloploklkaaGreatDoor
