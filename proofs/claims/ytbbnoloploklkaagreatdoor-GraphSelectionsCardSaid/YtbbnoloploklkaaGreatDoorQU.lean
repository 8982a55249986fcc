/- Contract of the graph's Cycle. -/
import Derived.Test.YtbbnoloploklkaaGreatDoorQT
import Derived.Test.YtbbnoloploklkaaGreatDoorQS
namespace Go.Proofs.YtbbnoloploklkaaGreatDoor
set_option linter.unusedVariables false
set_option linter.unusedSimpArgs false
open Go Go.RowKit

theorem op_wide {P : Program} {n : Nat} {ops : Array Oper} {Q : Exit → Act → World → Prop} {i : Nat} {a : Act} {w : World} {K K' : Act → World → Prop} (hQ : ∀ a w, ¬ Q .outgrown a w)
    (hK : ∀ a w, K a w → K' a w) (h : wpOp P ops Q i K a w) : wpOpIn Fence.wide n P ops Q i K' a w := by
  unfold wpOp at h
  unfold wpOpIn
  cases ho : ops[i]? with
  | none => simp only [ho] at h ⊢; exact hK _ _ h
  | some o =>
    simp only [ho] at h ⊢
    by_cases hw : Region.wanted o (yielded ops a.tmps) = true
    · rw [if_pos hw] at h ⊢
      rcases h with h | ⟨_, a0, w0, h⟩
      · refine ⟨fun _ _ => trivial, ?_⟩
        show Oper.uponIn _ _ _ _ _ _ _ ((execOp a.eval o).run P w)
        unfold Oper.wp at h
        generalize (execOp a.eval o).run P w = r at *
        cases r with
        | ok x w' =>
          cases x <;> simp only [Oper.upon, Oper.uponIn] at h ⊢
          case value v => exact hK _ _ h
          case skip => exact hK _ _ h
          case defer d => exact hK _ _ h
          case enter f args =>
            refine ⟨fun h => (by cases h), ?_⟩
            refine callsIn_wide.2 (h.mono ?_)
            intro e w'' he
            cases e with
            | returned v => exact hK _ _ he
            | panicked c => exact he
            | outgrown => exact he
          case row r args =>
            refine ⟨fun h => (by cases h), ?_⟩
            intro c cs _
            obtain ⟨v, w'', hv, hs⟩ := h c cs
            exact ⟨v, w'', hK _ _ hv, stepsIn_wide.2 hs⟩
        | halt x w' =>
          cases x <;> simp only [Oper.upon, Oper.uponIn] at h ⊢ <;> exact h
      · exact absurd h (hQ _ _)
    · rw [if_neg hw] at h ⊢
      exact ⟨fun _ _ => trivial, hK _ _ h⟩
theorem any_wide {P : Program} {n : Nat} {md : Region.Mode} {ops : Array Oper} {Q : Exit → Act → World → Prop} (hQ : ∀ a w, ¬ Q .outgrown a w) :
    ∀ (fuel : Nat) (listed : Array Bool) (a : Act) (w : World), wpAny P md ops Q fuel listed a w → wpAnyIn Fence.wide n P md ops Q fuel listed a w
  | 0, _, _, _, h => h
  | fuel + 1, listed, a, w, h => ⟨h.1, fun i hi => op_wide hQ (fun a w h => any_wide hQ fuel _ a w h) (h.2 i hi)⟩
theorem region_wide {P : Program} {n id : Nat} {ops : Array Oper} {Q : Exit → Act → World → Prop} {a : Act} {w : World} (hm : P.follows .mixedOrders = true) (hQ : ∀ a w, ¬ Q .outgrown a w)
    (h : wpAny P .any ops Q ops.size (Array.replicate ops.size false) a w.drew) : (Code.region id ops true).wpIn Fence.wide n P Q a w :=
  wpIn_region_any hm (any_wide hQ _ _ _ _ h)

theorem region_wideP {P : Program} {n id : Nat} {ops : Array Oper} {Q : Exit → Act → World → Prop} {a : Act} {w : World} {S : World → Prop} (hm : P.follows .mixedOrders = true) (hQ : ∀ a w, ¬ Q .outgrown a w)
    (h : wpAnyH P .any ops (NoPanic Q) S ops.size (Array.replicate ops.size false) a w.drew) : (Code.region id ops true).wpIn Fence.wide n P Q a w :=
  Code.wpIn_mono (fun e a w q => NoPanic.imp e a w q) (region_wide hm (fun a w q => hQ a w q) (wpAny_of_held _ _ _ _ h))
def HeldG (b : Nat) (x y : Value) (W : World) : Prop := W.cell? ⟨b, 0, none⟩ = some x ∧ W.cell? ⟨b, 1, none⟩ = some y

theorem own_turn {W W' : World} {B e n s : Nat} {v : Value} {xs : List Value} {row : Option Nat} (h : W.ownsRow B e s v n xs) (hg : W.grownBy W' row) (hr : ∀ r, row = some r → ∃ o : Obj, W.heap[r]? = some o ∧ o.isCells = false) : W'.ownsRow B e s v n xs := by
  refine ⟨h.1, ?_⟩
  rcases h.2 with h2 | ⟨g, cap, cur, rfl, hb, hg2, r⟩
  · exact .inl h2
  · exact .inr ⟨g, cap, cur, rfl, hb, blk_turn hg2 hg hr, r⟩
structure CycW (B : Nat) (w W : World) (N gf bf bx bl : Nat) (far : List Int) (st : Int × Int) (bv : Value) (best : List Nat) : Prop where
  f : Boxed W bf 86 (.slice (some ⟨gf, 0, none⟩) N N)
  i : Ints W gf far
  x : Boxed W bx 3 (intC st.1)
  l : Boxed W bl 3 (intC st.2)
  o : W.ownsRow B 3 1 bv best.length (best.map natC)
  b : Below B w W
theorem CycW.turn {B : Nat} {w W W' : World} {N gf bf bx bl : Nat} {far : List Int} {st : Int × Int} {bv : Value} {best : List Nat} {row : Option Nat} (h : CycW B w W N gf bf bx bl far st bv best) (hg : W.grownBy W' row) (hr : ∀ r, row = some r → B ≤ r ∧ ∃ o : Obj, W.heap[r]? = some o ∧ o.isCells = false) (hB : B ≤ W.heap.size) : CycW B w W' N gf bf bx bl far st bv best :=
  ⟨blk_turn h.f hg (fun r e => (hr r e).2), blk_turn h.i hg (fun r e => (hr r e).2), blk_turn h.x hg (fun r e => (hr r e).2), blk_turn h.l hg (fun r e => (hr r e).2), own_turn h.o hg (fun r e => (hr r e).2), h.b.grown hg hB (fun k e => (hr k e).1)⟩
theorem Marks.drew {B : Nat} {ds : List Deferred} {W : World} (h : Marks B ds W) : Marks B ds W.drew := h.keep (fun _ _ _ => rfl)
theorem CycW.setX {B : Nat} {w W : World} {N gf bf bx bl : Nat} {far : List Int} {st : Int × Int} {bv : Value} {best : List Nat} (h : CycW B w W N gf bf bx bl far st bv best) (a : Int) (h1 : bf ≠ bx) (h2 : gf ≠ bx) (h3 : bl ≠ bx) (h4 : ∀ j, bv.ownBlock = some j → j ≠ bx) (h5 : B ≤ bx) : CycW B w (W.setCell ⟨bx, 0, none⟩ (intC a)) N gf bf bx bl far (a, st.2) bv best :=
  ⟨h.f.other h1 _, (Below.heap_setCell _ _ _ _ (by exact h2)).trans h.i, h.x.set _, h.l.other h3 _, own_far h.o (fun j hj => Below.heap_setCell _ _ _ _ (by exact h4 j hj)), h.b.setCell (by exact h5) _⟩
theorem CycW.setL {B : Nat} {w W : World} {N gf bf bx bl : Nat} {far : List Int} {st : Int × Int} {bv : Value} {best : List Nat} (h : CycW B w W N gf bf bx bl far st bv best) (a : Int) (h1 : bf ≠ bl) (h2 : gf ≠ bl) (h3 : bx ≠ bl) (h4 : ∀ j, bv.ownBlock = some j → j ≠ bl) (h5 : B ≤ bl) : CycW B w (W.setCell ⟨bl, 0, none⟩ (intC a)) N gf bf bx bl far (st.1, a) bv best :=
  ⟨h.f.other h1 _, (Below.heap_setCell _ _ _ _ (by exact h2)).trans h.i, h.x.other h3 _, h.l.set _, own_far h.o (fun j hj => Below.heap_setCell _ _ _ _ (by exact h4 j hj)), h.b.setCell (by exact h5) _⟩
theorem CycW.drew {B : Nat} {w W : World} {N gf bf bx bl : Nat} {far : List Int} {st : Int × Int} {bv : Value} {best : List Nat} (h : CycW B w W N gf bf bx bl far st bv best) : CycW B w W.drew N gf bf bx bl far st bv best := ⟨h.f, h.i, h.x, h.l, h.o, h.b.drew⟩
def CycI (B : Nat) (w : World) (N gf bf bx bl hs : Nat) (far : List Int) (bv : Value) (best : List Nat) (ds : List Deferred) (pre : List Nat) (W' : World) : Prop :=
  CycW B w W' N gf bf bx bl far (pre.foldl (cstep far) (-1, 0)) bv best ∧ Marks B ds W' ∧ hs ≤ W'.heap.size

attribute [local go_sem] Oper.semAt_some

set_option maxRecDepth 100000 in
set_option maxHeartbeats 4000000 in
theorem Cycle_yes (nv ev : Value) (ns : List ByteArray) (es : List (Int × Int)) (w : World) (hE : EdgesOf w.heap.size ev es w) (hN : RowOf Value.string w.heap.size nv ns w) (hval : validG ns.length es = true) :
    Calls Tryz.prog 116 #[.agg #[nv, ev]] w fun e w' => ∃ v, e = .returned v ∧ w'.ownsRow w.heap.size 3 1 v (cycF ns.length es ns.length).length ((cycF ns.length es ns.length).map natC) ∧ Below w.heap.size w w' ∧ (cycF ns.length es ns.length = [] → v = .slice none 0 0) := by
  obtain ⟨hNn, hNe⟩ := validG_n hval
  have hN0 := hN
  obtain ⟨na, nc, rfl, _⟩ := rowOf_open hN
  have hb1 : Below w.heap.size w (w.alloc (.cells #[.slice na ns.length nc, ev] 78)) := (Below.refl _ _).alloc (Nat.le_refl _) _
  have hx := GValid_any na ns.length nc _ es _ (by omega) ((hE.below hb1 (Nat.le_refl _)).mono hb1.size)
  rw [hval] at hx
  have hE0 := hE
  obtain ⟨ao, ec, rfl, _⟩ := hE
  have HX := Lib.hid hx
  have HB1 := Lib.hid hb1
  have HV := Lib.hid hval
  have HE := Lib.hid hE0
  have HN := Lib.hid hN0
  clear hx hb1 hval hN hE0 hN0
  refine (callsIn_wide (n := 9)).1 ?_
  refine callsIn_of_wp_marks Tryz.func116 rfl trivial ?_ rfl
  simp only [Tryz.ntmps116, List.size_toArray, List.length_cons, List.length_nil, Nat.reduceAdd, Nat.reduceSub, Array.replicate_succ, Array.replicate_zero, List.push_toArray, List.append_toArray, List.nil_append, List.cons_append]
  gi_wp2_with fail
  refine ⟨trivial, ?_⟩
  refine (callsIn_wide.2 HX.out).mono ?_
  rintro e w1 ⟨rfl, hb⟩
  have hs1 := hb.size
  simp only [World.size_alloc] at hs1
  have hblk := (hb.block w.heap.size (by simp)).trans (World.alloc_heap_new w _)
  have hg0 : w1.cell? ⟨w.heap.size, 0, none⟩ = some (.slice na ns.length nc) := cell_of_row _ _ 0 _ _ _ hblk
  have hg1 : w1.cell? ⟨w.heap.size, 1, none⟩ = some (.slice ao es.length ec) := cell_of_row _ _ 1 _ _ _ hblk
  have HW1 := Lib.hid (HB1.out.trans (hb.mono (by simp)))
  have HBK := Lib.hid hblk
  clear hb hblk
  gi_wp2_with fail
  have hHeld : HeldG w.heap.size (.slice na ns.length nc) (.slice ao es.length ec) w1.drew := ⟨hg0, hg1⟩
  refine region_wideP (S := HeldG w.heap.size (.slice na ns.length nc) (.slice ao es.length ec)) (by kernel_rfl) (fun _ _ h => by obtain ⟨_, h, _⟩ := h; cases h) ?_
  refine wpAnyH_take (i := 0) (v := ?_) rfl (by kernel_rfl) (by kernel_rfl) (by kernel_rfl) (fun _ _ _ h => h) (Or.inl ⟨by rfl, ?_⟩) (by assumption) ?_
  rotate_left
  · intro w hSw
    obtain ⟨c0, c1⟩ := hSw
    go_simp
    try with_reducible rfl
  try simp only [List.getElem_toArray, List.getElem_cons_zero, List.getElem_cons_succ, Act.put, List.setIfInBounds_toArray, List.set_cons_zero, List.set_cons_succ]
  refine wpAnyH_take (i := 2) (v := ?_) rfl (by kernel_rfl) (by kernel_rfl) (by kernel_rfl) (fun _ _ _ h => h) (Or.inl ⟨by rfl, ?_⟩) (by assumption) ?_
  rotate_left
  · intro w hSw
    obtain ⟨c0, c1⟩ := hSw
    go_simp
    try with_reducible rfl
  try simp only [List.getElem_toArray, List.getElem_cons_zero, List.getElem_cons_succ, Act.put, List.setIfInBounds_toArray, List.set_cons_zero, List.set_cons_succ]
  have HNS := Lib.hid (newSucc_any na nc ns.length _ es w1.drew ((HE.out.below HW1.out (Nat.le_refl _)).mono (show w.heap.size ≤ w1.heap.size by omega)) HV.out)
  refine wpAnyH_ready (rs := [1]) (by kernel_rfl) (by simp) (AllReadyH.cons rfl (fun K hK => ?_) AllReadyH.nil)
  go_simp
  refine HNS.out.mono ?_
  rintro e w2 ⟨v2, vs2, rfl, hgr2, hb2⟩
  have hs2 : w1.heap.size ≤ w2.heap.size := hb2.size
  have hr2 := hgr2.rows
  obtain ⟨sa, sc, hv2⟩ := hgr2.shape
  rw [List.length_map, sucs_length] at hv2
  subst hv2
  have HR2 := Lib.hid hr2
  have hW2 : Below w.heap.size w w2 := HW1.out.trans (Below.mono (w := w1) ⟨hb2.os, hb2.tape, hb2.output, hb2.size, hb2.block⟩ (show w.heap.size ≤ w1.heap.size by omega))
  have hblk2 : w2.heap[w.heap.size]? = _ := (hb2.block w.heap.size (by show w.heap.size < w1.heap.size; omega)).trans HBK.out
  have HW2 := Lib.hid hW2
  have HBK2 := Lib.hid hblk2
  have hHeld2 : HeldG w.heap.size (.slice na ns.length nc) (.slice ao es.length ec) w2 := ⟨cell_of_row _ _ 0 _ _ _ hblk2, cell_of_row _ _ 1 _ _ _ hblk2⟩
  have hrv := Reverse_any _ _ ns es w2 (by omega) ((HE.out.below hW2 (Nat.le_refl _)).mono (by omega)) ((HN.out.below hW2 (Nat.le_refl _)).mono (by omega))
  have e1 : revN ns es = ns := if_pos HV.out
  have e2 : revE ns.length es = es.map swapE := if_pos HV.out
  rw [e1, e2] at hrv
  have HRV := Lib.hid hrv
  clear hb2 hgr2 hr2 hblk2 hrv e1 e2 hW2 HNS hHeld hg0 hg1
  try go_simp
  refine hK.out _ _ hHeld2 (fun _ => ?_)
  clear hK K
  try simp only [List.getElem_toArray, List.getElem_cons_zero, List.getElem_cons_succ, Act.put, List.setIfInBounds_toArray, List.set_cons_zero, List.set_cons_succ]
  refine wpAnyH_ready (rs := [3]) (by kernel_rfl) (by simp) (AllReadyH.cons rfl (fun K hK => ?_) AllReadyH.nil)
  go_simp
  refine HRV.out.mono ?_
  rintro e w3 ⟨a3, c3, v3, rfl, hn3, he3, hb3⟩
  have hs3 := hb3.size
  have hblk3 := (hb3.block w.heap.size (by omega)).trans HBK2.out
  have hHeld3 : HeldG w.heap.size (.slice na ns.length nc) (.slice ao es.length ec) w3 := ⟨cell_of_row _ _ 0 _ _ _ hblk3, cell_of_row _ _ 1 _ _ _ hblk3⟩
  have HN3 := Lib.hid (newSucc_any a3 c3 ns.length v3 (es.map swapE) w3 he3 (validG_swap HV.out))
  have HW3 := Lib.hid (HW2.out.trans (hb3.mono (by omega)))
  have HR3 := Lib.hid (HR2.out.below hb3 (Nat.le_refl _))
  have HBK3 := Lib.hid hblk3
  obtain ⟨va, vn, vc, rfl⟩ : ∃ a n c, v3 = .slice a n c := by obtain ⟨x, y, h, _⟩ := he3; exact ⟨_, _, _, h⟩
  clear hn3 he3 hb3 HRV hHeld2 hblk3
  try go_simp
  refine hK.out _ _ hHeld3 (fun _ => ?_)
  clear hK K
  try simp only [List.getElem_toArray, List.getElem_cons_zero, List.getElem_cons_succ, Act.put, List.setIfInBounds_toArray, List.set_cons_zero, List.set_cons_succ]
  refine wpAnyH_ready (rs := [4]) (by kernel_rfl) (by simp) (AllReadyH.cons rfl (fun K hK => ?_) AllReadyH.nil)
  go_simp
  refine HN3.out.mono ?_
  rintro e w4 ⟨v4, vs4, rfl, hgr4, hb4⟩
  have hs4 := hb4.size
  have hr4 := hgr4.rows
  obtain ⟨ba, bc, hv4⟩ := hgr4.shape
  rw [List.length_map, sucs_length] at hv4
  subst hv4
  have hblk4 := (hb4.block w.heap.size (by omega)).trans HBK3.out
  have hHeld4 : HeldG w.heap.size (.slice na ns.length nc) (.slice ao es.length ec) w4 := ⟨cell_of_row _ _ 0 _ _ _ hblk4, cell_of_row _ _ 1 _ _ _ hblk4⟩
  have HW4 := Lib.hid (HW3.out.trans (hb4.mono (by omega)))
  have HRB := Lib.hid hr4
  have HRS := Lib.hid ((HR3.out.below (hb4.mono (by omega)) (Nat.le_refl _)).mono (B' := w4.heap.size) (by omega))
  clear hgr4 hb4 hr4 hblk4 hHeld3
  try go_simp
  refine hK.out _ _ hHeld4 (fun _ => ?_)
  clear hK K
  try simp only [List.getElem_toArray, List.getElem_cons_zero, List.getElem_cons_succ, Act.put, List.setIfInBounds_toArray, List.set_cons_zero, List.set_cons_succ]
  refine wpAnyH_take (i := 5) (v := ?_) rfl (by kernel_rfl) (by kernel_rfl) (by kernel_rfl) (fun _ _ _ h => h) (Or.inl ⟨by rfl, ?_⟩) (by assumption) ?_
  rotate_left
  · intro w hSw
    go_simp
    try with_reducible rfl
  try simp only [List.getElem_toArray, List.getElem_cons_zero, List.getElem_cons_succ, Act.put, List.setIfInBounds_toArray, List.set_cons_zero, List.set_cons_succ]
  refine wpAnyH_take (i := 6) (v := ?_) rfl (by kernel_rfl) (by kernel_rfl) (by kernel_rfl) (fun _ _ _ h => h) (Or.inl ⟨by rfl, ?_⟩) (by assumption) ?_
  rotate_left
  · intro w hSw
    go_simp
    try with_reducible rfl
  try simp only [List.getElem_toArray, List.getElem_cons_zero, List.getElem_cons_succ, Act.put, List.setIfInBounds_toArray, List.set_cons_zero, List.set_cons_succ]
  refine wpAnyH_done (by kernel_rfl) ?_ _
  refine NoPanic.normal ?_
  gi_wp2_with fail
  have hcy0 : cycF ns.length es 0 = [] := rfl
  have HC0 := Lib.hid hcy0
  clear hcy0 hHeld4 HN3
  refine wpIn_loop_gas (fun j a' W => ∃ u6 u7 u8 u9 u10 u11 u23 u24 u25 u26 u27 u28 u29 u30 u31 u32 u33 u34 u35 u36 u37 u38 u39 u40 u41 u42 u43 u44 u45 u46 u47 u48 u49 u50 u51 u52 u53 u54 u55 u56 u57 u58 u59 u60 u61 u62 u63 u64 u65 u66 u67 u68 u69 u70 u71 u72 u73 u74 u75 u76 u77 u78 u79 u80 u81 u82 u83 u84 u85 : Value, ∃ (ds : List Deferred) (k : Nat) (bv : Value), ((j = ns.length - k ∧ k ≤ ns.length) ∧ W.ownsRow w4.heap.size 3 1 bv (cycF ns.length es k).length ((cycF ns.length es k).map natC) ∧ (cycF ns.length es k = [] → bv = .slice none 0 0) ∧ (cycF ns.length es k).length ≤ ns.length + 1 ∧ Below w4.heap.size w4 W ∧ Marks w4.heap.size ds W) ∧ a' = { tmps := #[.agg #[.slice na ns.length nc, .slice ao es.length ec], .pointer (some ⟨w.heap.size, 0, none⟩), .slice none 0 0, .slice sa ns.length sc, .slice ba ns.length bc, bv, u6, u7, u8, u9, u10, u11, .agg #[.slice na ns.length nc, .slice ao es.length ec], .bool true, .bool false, .agg #[.slice na ns.length nc, .slice ao es.length ec], .slice sa ns.length sc, .agg #[.slice na ns.length nc, .slice ao es.length ec], .agg #[.slice a3 ns.length c3, .slice va vn vc], .slice ba ns.length bc, .slice sa ns.length sc, .int .i64 (ns.length : Int), .int .i64 (k : Int), u23, u24, u25, u26, u27, u28, u29, u30, u31, u32, u33, u34, u35, u36, u37, u38, u39, u40, u41, u42, u43, u44, u45, u46, u47, u48, u49, u50, u51, u52, u53, u54, u55, u56, u57, u58, u59, u60, u61, u62, u63, u64, u65, u66, u67, u68, u69, u70, u71, u72, u73, u74, u75, u76, u77, u78, u79, u80, u81, u82, u83, u84, u85, undef], defers := ds }) ns.length ?start ?round
  case start =>
    have hmk : Marks w4.heap.size [] w4 := trivial
    have hown : w4.ownsRow w4.heap.size 3 1 (.slice none 0 0) (cycF ns.length es 0).length ((cycF ns.length es 0).map natC) := by rw [HC0.out]; exact World.ownsRow_nil _ _ _ _
    repeat apply Exists.intro
    exact ⟨⟨⟨rfl, Nat.zero_le _⟩, hown, fun _ => rfl, by rw [HC0.out]; simp, Below.refl _ _, hmk⟩, rfl⟩
  case round =>
    intro j a' W h
    obtain ⟨u6, h⟩ := h
    obtain ⟨u7, h⟩ := h
    obtain ⟨u8, h⟩ := h
    obtain ⟨u9, h⟩ := h
    obtain ⟨u10, h⟩ := h
    obtain ⟨u11, h⟩ := h
    obtain ⟨u23, h⟩ := h
    obtain ⟨u24, h⟩ := h
    obtain ⟨u25, h⟩ := h
    obtain ⟨u26, h⟩ := h
    obtain ⟨u27, h⟩ := h
    obtain ⟨u28, h⟩ := h
    obtain ⟨u29, h⟩ := h
    obtain ⟨u30, h⟩ := h
    obtain ⟨u31, h⟩ := h
    obtain ⟨u32, h⟩ := h
    obtain ⟨u33, h⟩ := h
    obtain ⟨u34, h⟩ := h
    obtain ⟨u35, h⟩ := h
    obtain ⟨u36, h⟩ := h
    obtain ⟨u37, h⟩ := h
    obtain ⟨u38, h⟩ := h
    obtain ⟨u39, h⟩ := h
    obtain ⟨u40, h⟩ := h
    obtain ⟨u41, h⟩ := h
    obtain ⟨u42, h⟩ := h
    obtain ⟨u43, h⟩ := h
    obtain ⟨u44, h⟩ := h
    obtain ⟨u45, h⟩ := h
    obtain ⟨u46, h⟩ := h
    obtain ⟨u47, h⟩ := h
    obtain ⟨u48, h⟩ := h
    obtain ⟨u49, h⟩ := h
    obtain ⟨u50, h⟩ := h
    obtain ⟨u51, h⟩ := h
    obtain ⟨u52, h⟩ := h
    obtain ⟨u53, h⟩ := h
    obtain ⟨u54, h⟩ := h
    obtain ⟨u55, h⟩ := h
    obtain ⟨u56, h⟩ := h
    obtain ⟨u57, h⟩ := h
    obtain ⟨u58, h⟩ := h
    obtain ⟨u59, h⟩ := h
    obtain ⟨u60, h⟩ := h
    obtain ⟨u61, h⟩ := h
    obtain ⟨u62, h⟩ := h
    obtain ⟨u63, h⟩ := h
    obtain ⟨u64, h⟩ := h
    obtain ⟨u65, h⟩ := h
    obtain ⟨u66, h⟩ := h
    obtain ⟨u67, h⟩ := h
    obtain ⟨u68, h⟩ := h
    obtain ⟨u69, h⟩ := h
    obtain ⟨u70, h⟩ := h
    obtain ⟨u71, h⟩ := h
    obtain ⟨u72, h⟩ := h
    obtain ⟨u73, h⟩ := h
    obtain ⟨u74, h⟩ := h
    obtain ⟨u75, h⟩ := h
    obtain ⟨u76, h⟩ := h
    obtain ⟨u77, h⟩ := h
    obtain ⟨u78, h⟩ := h
    obtain ⟨u79, h⟩ := h
    obtain ⟨u80, h⟩ := h
    obtain ⟨u81, h⟩ := h
    obtain ⟨u82, h⟩ := h
    obtain ⟨u83, h⟩ := h
    obtain ⟨u84, h⟩ := h
    obtain ⟨u85, h⟩ := h
    obtain ⟨ds, k, bv, ⟨⟨hj, hk⟩, hO, hnil, hbl, hB, hM⟩, rfl⟩ := h
    have hsW := hB.size
    have HO := Lib.hid hO
    have HNIL := Lib.hid hnil
    have HBL := Lib.hid hbl
    have HB := Lib.hid hB
    have HM := Lib.hid hM
    have HJ := Lib.hid hj
    clear hO hnil hbl hB hM hj
    by_cases hlt : k < ns.length
    · have hx1 : (k : Int) < (ns.length : Int) := by omega
      have hRB : RowsOf W.heap.size (.slice ba ns.length bc) (sucs ns.length (es.map swapE)) W := (HRB.out.below HB.out (Nat.le_refl _)).mono hsW
      have hdd := distances_any _ (sucs ns.length (es.map swapE)) k k W hRB (by rw [sucs_length]; omega) (by rw [sucs_length]; exact hlt) (fun x => by have := sucs_row (N := ns.length) (es := es.map swapE) x; omega) sucs_lt
      rw [sucs_length] at hdd
      have HDD := Lib.hid hdd
      clear hRB hdd
      gi_wp2_with fail
      refine ⟨trivial, ?_⟩
      refine (callsIn_wide.2 HDD.out).mono ?_
      rintro e w5 ⟨gf, far, rfl, hgf, hi5, hd5, hb5⟩
      have hs5 := hb5.size
      have hfl := hd5.len
      rw [sucs_length] at hfl
      have hgl := ints_row hi5
      have HFE : Hid (far = cfar ns.length es k) := Lib.hid (hd5.eq sucs_lt (by rw [sucs_length]; exact hlt))
      have HD5 := Lib.hid hd5
      have HI5 := Lib.hid hi5
      have HB5 := Lib.hid hb5
      clear hd5 hi5 hb5 HDD
      gi_wp2_with fail
      refine ⟨trivial, ?_⟩
      refine (of_in 8 _ (k : Int) (k : Int) _ rfl).mono ?_
      rintro e w' ⟨rfl, rfl⟩
      gi_wp2_with fail
      obtain ⟨Wl, hWl⟩ : ∃ Wl, Wl = ((((((w5.alloc (.cells #[.slice (some ⟨gf, 0, none⟩) ns.length ns.length] 86)).alloc (.cells #[.int .i64 (-1)] 3)).alloc (.cells #[.int .i64 0] 3)).alloc (.cells #[.slice sa ns.length sc] 161)).alloc (.cells #[.int .i64 (k : Int)] 3)).alloc (.cells #[.int .i64 (k : Int)] 3)) := ⟨_, rfl⟩
      have hsl : Wl.heap.size = w5.heap.size + 6 := by rw [hWl]; simp
      have hgl5 : w5.grownBy Wl none := by
        rw [hWl]
        exact (((((World.grownBy_alloc _ _ _).trans (World.grownBy_alloc _ _ _)).trans (World.grownBy_alloc _ _ _)).trans (World.grownBy_alloc _ _ _)).trans (World.grownBy_alloc _ _ _)).trans (World.grownBy_alloc _ _ _)
      have p0 : Boxed Wl w5.heap.size 86 (.slice (some ⟨gf, 0, none⟩) ns.length ns.length) := by rw [hWl]; exact (((((Boxed.new w5 _ _).alloc _).alloc _).alloc _).alloc _).alloc _
      have p1 : Boxed Wl (w5.heap.size + 1) 3 (intC (-1)) := by
        rw [hWl]
        have := ((((Boxed.new (w5.alloc (.cells #[.slice (some ⟨gf, 0, none⟩) ns.length ns.length] 86)) 3 (intC (-1))).alloc (.cells #[.int .i64 0] 3)).alloc (.cells #[.slice sa ns.length sc] 161)).alloc (.cells #[.int .i64 (k : Int)] 3)).alloc (.cells #[.int .i64 (k : Int)] 3)
        rwa [World.size_alloc] at this
      have p2 : Boxed Wl (w5.heap.size + 1 + 1) 3 (intC 0) := by
        rw [hWl]
        have := (((Boxed.new ((w5.alloc (.cells #[.slice (some ⟨gf, 0, none⟩) ns.length ns.length] 86)).alloc (.cells #[.int .i64 (-1)] 3)) 3 (intC 0)).alloc (.cells #[.slice sa ns.length sc] 161)).alloc (.cells #[.int .i64 (k : Int)] 3)).alloc (.cells #[.int .i64 (k : Int)] 3)
        rwa [World.size_alloc, World.size_alloc] at this
      have b0 : Boxed Wl (w5.heap.size + 1 + 1 + 1) 161 (.slice sa ns.length sc) := by
        rw [hWl]
        have := ((Boxed.new (((w5.alloc (.cells #[.slice (some ⟨gf, 0, none⟩) ns.length ns.length] 86)).alloc (.cells #[.int .i64 (-1)] 3)).alloc (.cells #[.int .i64 0] 3)) 161 (.slice sa ns.length sc)).alloc (.cells #[.int .i64 (k : Int)] 3)).alloc (.cells #[.int .i64 (k : Int)] 3)
        rwa [World.size_alloc, World.size_alloc, World.size_alloc] at this
      have b1 : Boxed Wl (w5.heap.size + 1 + 1 + 1 + 1) 3 (natC k) := by
        rw [hWl]
        have := (Boxed.new ((((w5.alloc (.cells #[.slice (some ⟨gf, 0, none⟩) ns.length ns.length] 86)).alloc (.cells #[.int .i64 (-1)] 3)).alloc (.cells #[.int .i64 0] 3)).alloc (.cells #[.slice sa ns.length sc] 161)) 3 (natC k)).alloc (.cells #[.int .i64 (k : Int)] 3)
        rwa [World.size_alloc, World.size_alloc, World.size_alloc, World.size_alloc] at this
      have b2 : Boxed Wl (w5.heap.size + 1 + 1 + 1 + 1 + 1) 3 (natC k) := by
        rw [hWl]
        have := Boxed.new (((((w5.alloc (.cells #[.slice (some ⟨gf, 0, none⟩) ns.length ns.length] 86)).alloc (.cells #[.int .i64 (-1)] 3)).alloc (.cells #[.int .i64 0] 3)).alloc (.cells #[.slice sa ns.length sc] 161)).alloc (.cells #[.int .i64 (k : Int)] 3)) 3 (natC k)
        rwa [World.size_alloc, World.size_alloc, World.size_alloc, World.size_alloc, World.size_alloc] at this
      rw [← hWl]
      clear hWl
      have hg45 : Below w4.heap.size w4 w5 := HB.out.trans (HB5.out.mono (by omega))
      have hO5 : w5.ownsRow w4.heap.size 3 1 bv (cycF ns.length es k).length ((cycF ns.length es k).map natC) := own_far HO.out (fun j hj => HB5.out.block j (HO.out.lt j hj).2)
      have hM5 : Marks w4.heap.size ds w5 := HM.out.keep (fun j hj ⟨o, ho, hc⟩ => HB5.out.block j (Array.getElem?_eq_some_iff.1 ho).1)
      have hML : Marks w4.heap.size ds Wl := hM5.grown hgl5 (fun r e => by cases e)
      have hCW : CycW w4.heap.size w4 Wl ns.length gf w5.heap.size (w5.heap.size + 1) (w5.heap.size + 1 + 1) far (-1, 0) bv (cycF ns.length es k) :=
        ⟨p0, blk_turn HI5.out hgl5 (fun r e => by cases e), p1, p2, own_turn hO5 hgl5 (fun r e => by cases e), hg45.grown hgl5 (by omega) (fun r e => by cases e)⟩
      have HBV : Hid (∀ j, bv.ownBlock = some j → j < w5.heap.size) := Lib.hid (fun j hj => by have := (HO.out.lt j hj).2; have := HB5.out.size; omega)
      have HGF : Hid (gf < w5.heap.size) := Lib.hid (Array.getElem?_eq_some_iff.1 HI5.out).1
      have HCW := Lib.hid hCW
      have HML := Lib.hid hML
      clear p0 p1 p2 hg45 hO5 hM5 hgl5 hCW
      refine wpIn_rangeFunc_ownG rfl (by decide) (gf := 175) rfl trivial (enters_of Tryz.func175 (by kernel_rfl) rfl)
        (of_stops 8 (by decide) (w5.heap.size + 1 + 1 + 1) w4.heap.size (.slice sa ns.length sc) (sucs ns.length es) k k (by rw [sucs_length]; exact hlt) (by rw [sucs_length]; omega) (by have := sucs_row (N := ns.length) (es := es) k; omega) Wl b0 b1 b2 (HRS.out.below HCW.out.b (Nat.le_refl _)) (by omega)) kpB_t (kpB_b (by omega) (by omega)) (Below.refl _ _) (fun _ => rfl)
        (fun pre W' => CycI w4.heap.size w4 ns.length gf w5.heap.size (w5.heap.size + 1) (w5.heap.size + 1 + 1) Wl.heap.size far bv (cycF ns.length es k) ds (valsOf pre) W') (fun _ _ _ => False) ?hI (fun _ _ _ _ _ h _ _ => h) ?h0
        (fun x => { tmps := #[.agg #[.slice na ns.length nc, .slice ao es.length ec], .pointer (some ⟨w.heap.size, 0, none⟩), .slice none 0 0, .slice sa ns.length sc, .slice ba ns.length bc, bv, .int .i64 (k : Int), .pointer (some ⟨w5.heap.size, 0, none⟩), .pointer (some ⟨w5.heap.size + 1, 0, none⟩), .pointer (some ⟨w5.heap.size + 1 + 1, 0, none⟩), natC x.1, u11, .agg #[.slice na ns.length nc, .slice ao es.length ec], .bool true, .bool false, .agg #[.slice na ns.length nc, .slice ao es.length ec], .slice sa ns.length sc, .agg #[.slice na ns.length nc, .slice ao es.length ec], .agg #[.slice a3 ns.length c3, .slice va vn vc], .slice ba ns.length bc, .slice sa ns.length sc, .int .i64 (ns.length : Int), .int .i64 (k : Int), .bool true, .int .i64 (k : Int), .slice ba ns.length bc, .int .i64 (k : Int), .int .i64 (k : Int), .slice (some ⟨gf, 0, none⟩) ns.length ns.length, .slice sa ns.length sc, .int .i64 (k : Int), .int .i64 (k : Int), .func (.func 175) #[] #[.pointer (some ⟨w5.heap.size + 1 + 1 + 1, 0, none⟩), .pointer (some ⟨w5.heap.size + 1 + 1 + 1 + 1, 0, none⟩), .pointer (some ⟨w5.heap.size + 1 + 1 + 1 + 1 + 1, 0, none⟩)], natC x.1, u34, u35, u36, u37, u38, u39, u40, u41, u42, u43, u44, u45, u46, u47, u48, u49, u50, u51, u52, u53, u54, u55, u56, u57, u58, u59, u60, u61, u62, u63, u64, u65, u66, u67, u68, u69, u70, u71, u72, u73, u74, u75, u76, u77, u78, u79, u80, u81, u82, u83, u84, u85, undef], defers := [] }) ?assign ?body ?done ?stop
      case hI =>
        intro pre X Y row h hg hr
        obtain ⟨h1, h2, h3⟩ := h
        exact ⟨h1.turn hg (fun r e => ⟨by have := (hr r e).1; omega, (hr r e).2⟩) (by omega), hML.turn h2 hg (fun r e => (hr r e).1), by have := hg.size; omega⟩
      case h0 => exact ⟨HCW.out, HML.out, Nat.le_refl _⟩
      case assign =>
        intro l x W2 K hK
        simp only [encOf]
        gi_wp2
        exact hK
      case body =>
        rintro l pre x W2 ⟨hW2, hM2, hs2'⟩ _
        have hxl : x.1 < ns.length := by
          have := x.2
          unfold ofL at this
          have := sucs_lt (N := ns.length) (es := es) k _ (List.mem_filter.1 this).1
          rwa [sucs_length] at this
        obtain ⟨y, hkx⟩ : ∃ y, y = x.1 := ⟨_, rfl⟩
        rw [← hkx] at hxl ⊢
        have HVS : Hid (valsOf (pre ++ [x]) = valsOf pre ++ [y]) := Lib.hid (by rw [valsOf_snoc, hkx])
        clear hkx
        have hy0 : (0 : Int) ≤ (y : Int) := by omega
        have hy1 : (y : Int) < (ns.length : Int) := by omega
        have hcf := hW2.f.cell
        have hcx := hW2.x.cell
        have hcl := hW2.l.cell
        have hfx := hW2.x.frozen
        have hfl2 := hW2.l.frozen
        have hcy := hW2.i.cell y _ (gD_get (by rw [hfl]; exact hxl))
        have HST : Hid ((valsOf (pre ++ [x])).foldl (cstep far) (-1, 0) = cstep far ((valsOf pre).foldl (cstep far) (-1, 0)) y) := Lib.hid (by rw [HVS.out, List.foldl_append]; rfl)
        have HW2 := Lib.hid hW2
        have HM2 := Lib.hid hM2
        have HS2 : Hid (w5.heap.size + 6 ≤ W2.heap.size) := Lib.hid (by omega)
        have HS3 : Hid (Wl.heap.size ≤ W2.heap.size) := Lib.hid hs2'
        clear hW2 hM2
        obtain ⟨st, hst⟩ : ∃ st, st = (valsOf pre).foldl (cstep far) (-1, 0) := ⟨_, rfl⟩
        rw [← hst] at hcx hcl HST HW2
        clear hst
        obtain ⟨nx, ln⟩ := st
        simp only at hcx hcl
        obtain ⟨fy, hfy⟩ : ∃ fy, fy = gD far y := ⟨_, rfl⟩
        rw [← hfy] at hcy
        have HGY : Hid (far[y]? = some fy) := Lib.hid (by rw [hfy]; exact gD_get (by rw [hfl]; exact hxl))
        have HFY := Lib.hid hfy
        have HFL := Lib.hid hfl
        clear hfy hfl
        by_cases hA : 0 ≤ fy
        · have hAd : decide (0 ≤ fy) = true := decide_eq_true hA
          by_cases hB : nx < 0
          · have hBd : decide (nx < 0) = true := decide_eq_true hB
            gi_wp2_with fail
            refine region_round_tail 16 (by kernel_rfl) (by kernel_rfl) (fun _ _ h => h) (by kernel_rfl) ?_
            simp only [List.take_succ_cons, List.take_zero, List.drop_succ_cons, List.drop_zero]
            refine Sealed.out ?_
            iterate 9 (refine seal_yes (by rfl) (fun K hK => ?_); go_simp; refine hK _ ?_; clear hK K)
            iterate 6 (refine seal_no (by rfl) ?_; go_simp)
            (refine seal_yes (by rfl) (fun K hK => ?_); go_simp; refine hK _ ?_; clear hK K)
            refine seal_nil ?_
            go_wp2_with fail
            gi_wp2_with fail
            have hHC : HeldC ⟨w5.heap.size, 0, none⟩ ⟨gf, y, none⟩ (.slice (some ⟨gf, 0, none⟩) ns.length ns.length) (intC fy) W2.drew.drew := ⟨hcf, hcy⟩
            refine region_roundP (S := HeldC ⟨w5.heap.size, 0, none⟩ ⟨gf, y, none⟩ (.slice (some ⟨gf, 0, none⟩) ns.length ns.length) (intC fy)) (by kernel_rfl) (by kernel_rfl) (fun _ _ h => h) ?_
            (refine wpAnyH_take (i := 1) (v := ?_) rfl (by kernel_rfl) (by kernel_rfl) (by kernel_rfl) (fun _ _ _ h => h) (Or.inl ⟨by rfl, ?_⟩) (by assumption) ?_; rotate_left; (· (intro w hSw; obtain ⟨c0, c1⟩ := hSw; go_simp; try with_reducible rfl)); (try simp only [zl1, zl2, zl3, Act.put, zl4, zl5, zl6]))
            (refine wpAnyH_take (i := 2) (v := ?_) rfl (by kernel_rfl) (by kernel_rfl) (by kernel_rfl) (fun _ _ _ h => h) (Or.inl ⟨by rfl, ?_⟩) (by assumption) ?_; rotate_left; (· (intro w hSw; obtain ⟨c0, c1⟩ := hSw; go_simp; try with_reducible rfl)); (try simp only [zl1, zl2, zl3, Act.put, zl4, zl5, zl6]))
            (refine wpAnyH_take (i := 3) (v := ?_) rfl (by kernel_rfl) (by kernel_rfl) (by kernel_rfl) (fun _ _ _ h => h) (Or.inl ⟨by rfl, ?_⟩) (by assumption) ?_; rotate_left; (· (intro w hSw; obtain ⟨c0, c1⟩ := hSw; go_simp; try with_reducible rfl)); (try simp only [zl1, zl2, zl3, Act.put, zl4, zl5, zl6]))
            (refine wpAnyH_take (i := 4) (v := ?_) rfl (by kernel_rfl) (by kernel_rfl) (by kernel_rfl) (fun _ _ _ h => h) (Or.inl ⟨by rfl, ?_⟩) (by assumption) ?_; rotate_left; (· (intro w hSw; obtain ⟨c0, c1⟩ := hSw; go_simp; try with_reducible rfl)); (try simp only [zl1, zl2, zl3, Act.put, zl4, zl5, zl6]))
            (refine wpAnyH_take (i := 0) (v := ?_) rfl (by kernel_rfl) (by kernel_rfl) (by kernel_rfl) (fun _ _ _ h => h) (Or.inl ⟨by rfl, ?_⟩) (by assumption) ?_; rotate_left; (· (intro w hSw; obtain ⟨c0, c1⟩ := hSw; go_simp; try with_reducible rfl)); (try simp only [zl1, zl2, zl3, Act.put, zl4, zl5, zl6]))
            have hc3 := HW2.out.setX (y : Int) (by omega) (by have := HGF.out; omega) (by omega) (fun j hj => by have := HBV.out j hj; omega) (by have := HB5.out.size; omega)
            have hc4 := hc3.setL fy (by omega) (by have := HGF.out; omega) (by omega) (fun j hj => by have := HBV.out j hj; omega) (by have := HB5.out.size; omega)
            refine wpAnyH_ready (rs := [5]) (by kernel_rfl) (by simp) (AllReadyH.cons rfl (fun K hK => ?_) AllReadyH.nil)
            go_simp
            refine hK.out _ _ ⟨hc3.f.cell, hc3.i.cell y _ HGY.out⟩ (fun _ => ?_)
            clear hK K
            (try simp only [zl1, zl2, zl3, Act.put, zl4, zl5, zl6])
            refine wpAnyH_ready (rs := [6]) (by kernel_rfl) (by simp) (AllReadyH.cons rfl (fun K hK => ?_) AllReadyH.nil)
            have hfl3 := hc3.l.frozen
            go_simp
            refine hK.out _ _ ⟨hc4.f.cell, hc4.i.cell y _ HGY.out⟩ (fun _ => ?_)
            clear hK K
            (try simp only [zl1, zl2, zl3, Act.put, zl4, zl5, zl6])
            refine wpAnyH_done (by kernel_rfl) ?_ _
            refine NoPanic.normal ?_
            gi_wp2_with fail
            have e0 := HST.out
            rw [show cstep far (nx, ln) y = ((y : Int), fy) from by unfold cstep; rw [← HFY.out, if_pos (by simp only; omega)]] at e0
            have hBn : ∀ k : Nat, k ≠ w5.heap.size + 1 → k ≠ w5.heap.size + 1 + 1 → ((W2.setCell ⟨w5.heap.size + 1, 0, none⟩ (intC (y : Int))).setCell ⟨w5.heap.size + 1 + 1, 0, none⟩ (intC fy)).heap[k]? = W2.heap[k]? := fun k h1 h2 => (Below.heap_setCell _ _ _ _ (by exact h2)).trans (Below.heap_setCell _ _ _ _ (by exact h1))
            have hlw : w4.heap.size ≤ w5.heap.size := by have := HB.out.size; have := HB5.out.size; omega
            have hgg : W2.grownBy (W2.setCell ⟨w5.heap.size + 1, 0, none⟩ (intC (y : Int))) (some (w5.heap.size + 1)) := grownBy_setCell' W2 _ _
            have hgh : (W2.setCell ⟨w5.heap.size + 1, 0, none⟩ (intC (y : Int))).grownBy ((W2.setCell ⟨w5.heap.size + 1, 0, none⟩ (intC (y : Int))).setCell ⟨w5.heap.size + 1 + 1, 0, none⟩ (intC fy)) (some (w5.heap.size + 1 + 1)) := grownBy_setCell' _ _ _
            have hkf : KeepsFrom (w5.heap.size + 6) W2 ((W2.setCell ⟨w5.heap.size + 1, 0, none⟩ (intC (y : Int))).setCell ⟨w5.heap.size + 1 + 1, 0, none⟩ (intC fy)) := (KeepsFrom.of_grownBy hgg (fun j e => by cases e; omega)).trans (KeepsFrom.of_grownBy hgh (fun j e => by cases e; omega))
            have hbb : Below w4.heap.size W2 ((W2.setCell ⟨w5.heap.size + 1, 0, none⟩ (intC (y : Int))).setCell ⟨w5.heap.size + 1 + 1, 0, none⟩ (intC fy)) := ((Below.refl _ W2).setCell (by exact (by omega : w4.heap.size ≤ w5.heap.size + 1)) _).setCell (by exact (by omega : w4.heap.size ≤ w5.heap.size + 1 + 1)) _
            refine ⟨⟨hkf.size, hkf.same⟩, ⟨hBn _ (by omega) (by omega), hbb.drew.drew⟩, ?_⟩
            refine ⟨?_, ?_, ?_⟩
            · rw [e0]
              exact hc4.drew.drew
            · have hmm : Marks w4.heap.size ds ((W2.setCell ⟨w5.heap.size + 1, 0, none⟩ (intC (y : Int))).setCell ⟨w5.heap.size + 1 + 1, 0, none⟩ (intC fy)) := (HM2.out.grown hgg (fun r e => by cases e; exact ⟨_, HW2.out.x, rfl⟩)).grown hgh (fun r e => by cases e; exact ⟨_, hc3.l, rfl⟩)
              exact hmm.drew.drew
            · show w5.heap.size + 6 ≤ ((W2.setCell ⟨w5.heap.size + 1, 0, none⟩ (intC (y : Int))).setCell ⟨w5.heap.size + 1 + 1, 0, none⟩ (intC fy)).heap.size
              rw [World.size_setCell, World.size_setCell]; exact HS2.out
          · have hBd : decide (nx < 0) = false := decide_eq_false hB
            by_cases hC : fy < ln
            · have hCd : decide (fy < ln) = true := decide_eq_true hC
              gi_wp2_with fail
              refine region_round_tail 16 (by kernel_rfl) (by kernel_rfl) (fun _ _ h => h) (by kernel_rfl) ?_
              simp only [List.take_succ_cons, List.take_zero, List.drop_succ_cons, List.drop_zero]
              refine Sealed.out ?_
              iterate 16 (refine seal_yes (by rfl) (fun K hK => ?_); go_simp; refine hK _ ?_; clear hK K)
              refine seal_nil ?_
              go_wp2_with fail
              gi_wp2_with fail
              have hHC : HeldC ⟨w5.heap.size, 0, none⟩ ⟨gf, y, none⟩ (.slice (some ⟨gf, 0, none⟩) ns.length ns.length) (intC fy) W2.drew.drew := ⟨hcf, hcy⟩
              refine region_roundP (S := HeldC ⟨w5.heap.size, 0, none⟩ ⟨gf, y, none⟩ (.slice (some ⟨gf, 0, none⟩) ns.length ns.length) (intC fy)) (by kernel_rfl) (by kernel_rfl) (fun _ _ h => h) ?_
              (refine wpAnyH_take (i := 1) (v := ?_) rfl (by kernel_rfl) (by kernel_rfl) (by kernel_rfl) (fun _ _ _ h => h) (Or.inl ⟨by rfl, ?_⟩) (by assumption) ?_; rotate_left; (· (intro w hSw; obtain ⟨c0, c1⟩ := hSw; go_simp; try with_reducible rfl)); (try simp only [zl1, zl2, zl3, Act.put, zl4, zl5, zl6]))
              (refine wpAnyH_take (i := 2) (v := ?_) rfl (by kernel_rfl) (by kernel_rfl) (by kernel_rfl) (fun _ _ _ h => h) (Or.inl ⟨by rfl, ?_⟩) (by assumption) ?_; rotate_left; (· (intro w hSw; obtain ⟨c0, c1⟩ := hSw; go_simp; try with_reducible rfl)); (try simp only [zl1, zl2, zl3, Act.put, zl4, zl5, zl6]))
              (refine wpAnyH_take (i := 3) (v := ?_) rfl (by kernel_rfl) (by kernel_rfl) (by kernel_rfl) (fun _ _ _ h => h) (Or.inl ⟨by rfl, ?_⟩) (by assumption) ?_; rotate_left; (· (intro w hSw; obtain ⟨c0, c1⟩ := hSw; go_simp; try with_reducible rfl)); (try simp only [zl1, zl2, zl3, Act.put, zl4, zl5, zl6]))
              (refine wpAnyH_take (i := 4) (v := ?_) rfl (by kernel_rfl) (by kernel_rfl) (by kernel_rfl) (fun _ _ _ h => h) (Or.inl ⟨by rfl, ?_⟩) (by assumption) ?_; rotate_left; (· (intro w hSw; obtain ⟨c0, c1⟩ := hSw; go_simp; try with_reducible rfl)); (try simp only [zl1, zl2, zl3, Act.put, zl4, zl5, zl6]))
              (refine wpAnyH_take (i := 0) (v := ?_) rfl (by kernel_rfl) (by kernel_rfl) (by kernel_rfl) (fun _ _ _ h => h) (Or.inl ⟨by rfl, ?_⟩) (by assumption) ?_; rotate_left; (· (intro w hSw; obtain ⟨c0, c1⟩ := hSw; go_simp; try with_reducible rfl)); (try simp only [zl1, zl2, zl3, Act.put, zl4, zl5, zl6]))
              have hc3 := HW2.out.setX (y : Int) (by omega) (by have := HGF.out; omega) (by omega) (fun j hj => by have := HBV.out j hj; omega) (by have := HB5.out.size; omega)
              have hc4 := hc3.setL fy (by omega) (by have := HGF.out; omega) (by omega) (fun j hj => by have := HBV.out j hj; omega) (by have := HB5.out.size; omega)
              refine wpAnyH_ready (rs := [5]) (by kernel_rfl) (by simp) (AllReadyH.cons rfl (fun K hK => ?_) AllReadyH.nil)
              go_simp
              refine hK.out _ _ ⟨hc3.f.cell, hc3.i.cell y _ HGY.out⟩ (fun _ => ?_)
              clear hK K
              (try simp only [zl1, zl2, zl3, Act.put, zl4, zl5, zl6])
              refine wpAnyH_ready (rs := [6]) (by kernel_rfl) (by simp) (AllReadyH.cons rfl (fun K hK => ?_) AllReadyH.nil)
              have hfl3 := hc3.l.frozen
              go_simp
              refine hK.out _ _ ⟨hc4.f.cell, hc4.i.cell y _ HGY.out⟩ (fun _ => ?_)
              clear hK K
              (try simp only [zl1, zl2, zl3, Act.put, zl4, zl5, zl6])
              refine wpAnyH_done (by kernel_rfl) ?_ _
              refine NoPanic.normal ?_
              gi_wp2_with fail
              have e0 := HST.out
              rw [show cstep far (nx, ln) y = ((y : Int), fy) from by unfold cstep; rw [← HFY.out, if_pos (by simp only; omega)]] at e0
              have hBn : ∀ k : Nat, k ≠ w5.heap.size + 1 → k ≠ w5.heap.size + 1 + 1 → ((W2.setCell ⟨w5.heap.size + 1, 0, none⟩ (intC (y : Int))).setCell ⟨w5.heap.size + 1 + 1, 0, none⟩ (intC fy)).heap[k]? = W2.heap[k]? := fun k h1 h2 => (Below.heap_setCell _ _ _ _ (by exact h2)).trans (Below.heap_setCell _ _ _ _ (by exact h1))
              have hlw : w4.heap.size ≤ w5.heap.size := by have := HB.out.size; have := HB5.out.size; omega
              have hgg : W2.grownBy (W2.setCell ⟨w5.heap.size + 1, 0, none⟩ (intC (y : Int))) (some (w5.heap.size + 1)) := grownBy_setCell' W2 _ _
              have hgh : (W2.setCell ⟨w5.heap.size + 1, 0, none⟩ (intC (y : Int))).grownBy ((W2.setCell ⟨w5.heap.size + 1, 0, none⟩ (intC (y : Int))).setCell ⟨w5.heap.size + 1 + 1, 0, none⟩ (intC fy)) (some (w5.heap.size + 1 + 1)) := grownBy_setCell' _ _ _
              have hkf : KeepsFrom (w5.heap.size + 6) W2 ((W2.setCell ⟨w5.heap.size + 1, 0, none⟩ (intC (y : Int))).setCell ⟨w5.heap.size + 1 + 1, 0, none⟩ (intC fy)) := (KeepsFrom.of_grownBy hgg (fun j e => by cases e; omega)).trans (KeepsFrom.of_grownBy hgh (fun j e => by cases e; omega))
              have hbb : Below w4.heap.size W2 ((W2.setCell ⟨w5.heap.size + 1, 0, none⟩ (intC (y : Int))).setCell ⟨w5.heap.size + 1 + 1, 0, none⟩ (intC fy)) := ((Below.refl _ W2).setCell (by exact (by omega : w4.heap.size ≤ w5.heap.size + 1)) _).setCell (by exact (by omega : w4.heap.size ≤ w5.heap.size + 1 + 1)) _
              refine ⟨⟨hkf.size, hkf.same⟩, ⟨hBn _ (by omega) (by omega), hbb.drew.drew⟩, ?_⟩
              refine ⟨?_, ?_, ?_⟩
              · rw [e0]
                exact hc4.drew.drew
              · have hmm : Marks w4.heap.size ds ((W2.setCell ⟨w5.heap.size + 1, 0, none⟩ (intC (y : Int))).setCell ⟨w5.heap.size + 1 + 1, 0, none⟩ (intC fy)) := (HM2.out.grown hgg (fun r e => by cases e; exact ⟨_, HW2.out.x, rfl⟩)).grown hgh (fun r e => by cases e; exact ⟨_, hc3.l, rfl⟩)
                exact hmm.drew.drew
              · show w5.heap.size + 6 ≤ ((W2.setCell ⟨w5.heap.size + 1, 0, none⟩ (intC (y : Int))).setCell ⟨w5.heap.size + 1 + 1, 0, none⟩ (intC fy)).heap.size
                rw [World.size_setCell, World.size_setCell]; exact HS2.out
            · have hCd : decide (fy < ln) = false := decide_eq_false hC
              gi_wp2_with fail
              refine region_round_tail 16 (by kernel_rfl) (by kernel_rfl) (fun _ _ h => h) (by kernel_rfl) ?_
              simp only [List.take_succ_cons, List.take_zero, List.drop_succ_cons, List.drop_zero]
              refine Sealed.out ?_
              iterate 16 (refine seal_yes (by rfl) (fun K hK => ?_); go_simp; refine hK _ ?_; clear hK K)
              refine seal_nil ?_
              go_wp2_with fail
              gi_wp2_with fail
              have hg3 : W2.grownBy W2.drew none := grownD (World.grownBy.refl _ _)
              refine ⟨KeepsFrom.of_grownBy hg3 (fun j e => by cases e), ⟨rfl, (Below.refl _ _).drew⟩, ?_⟩
              have e0 := HST.out
              rw [show cstep far (nx, ln) y = (nx, ln) from by unfold cstep; rw [if_neg]; rintro ⟨_, h | h⟩; omega; rw [← HFY.out] at h; omega] at e0
              refine ⟨?_, HM2.out.grown hg3 (fun r e => by cases e), by show Wl.heap.size ≤ W2.heap.size; have := HS2.out; omega⟩
              rw [e0]
              exact ⟨HW2.out.f, HW2.out.i, HW2.out.x, HW2.out.l, HW2.out.o, HW2.out.b.drew⟩
        · have hAd : decide (0 ≤ fy) = false := decide_eq_false hA
          have hA2 : fy < 0 := by omega
          gi_wp2_with fail
          refine region_round_tail 16 (by kernel_rfl) (by kernel_rfl) (fun _ _ h => h) (by kernel_rfl) ?_
          simp only [List.take_succ_cons, List.take_zero, List.drop_succ_cons, List.drop_zero]
          refine Sealed.out ?_
          iterate 6 (refine seal_yes (by rfl) (fun K hK => ?_); go_simp; refine hK _ ?_; clear hK K)
          iterate 10 (refine seal_no (by rfl) ?_; go_simp)
          refine seal_nil ?_
          go_wp2_with fail
          gi_wp2_with fail
          have hg3 : W2.grownBy W2.drew none := grownD (World.grownBy.refl _ _)
          refine ⟨KeepsFrom.of_grownBy hg3 (fun j e => by cases e), ⟨rfl, (Below.refl _ _).drew⟩, ?_⟩
          have e0 := HST.out
          rw [show cstep far (nx, ln) y = (nx, ln) from by unfold cstep; rw [if_neg]; rintro ⟨h, _⟩; rw [← HFY.out] at h; omega] at e0
          refine ⟨?_, HM2.out.grown hg3 (fun r e => by cases e), by show Wl.heap.size ≤ W2.heap.size; have := HS2.out; omega⟩
          rw [e0]
          exact ⟨HW2.out.f, HW2.out.i, HW2.out.x, HW2.out.l, HW2.out.o, HW2.out.b.drew⟩
      case done =>
        rintro D xs W2 hD hxs ⟨hW2, hM2, hs2'⟩ hK
        rw [hxs, ← ofP_eq] at hW2
        have HMP := Lib.hid (hM2.push HML.out (by omega) (Nat.le_refl _) hD hK)
        have HS2 : Hid (w5.heap.size + 6 ≤ W2.heap.size) := Lib.hid (by omega)
        have hcx := hW2.x.cell
        have hcl := hW2.l.cell
        have HW2 := Lib.hid hW2
        clear hW2 hM2
        obtain ⟨st, hst⟩ : ∃ st, st = (ofP (sucs ns.length es) k k).foldl (cstep far) (-1, 0) := ⟨_, rfl⟩
        rw [← hst] at hcx hcl HW2
        have HST := Lib.hid hst
        clear hst
        obtain ⟨nx, ln⟩ := st
        simp only at hcx hcl
        by_cases hA : nx < 0
        · have hAd : decide (nx < 0) = true := decide_eq_true hA
          gi_wp2_with fail
          all_goals first | (rename_i hu _; simp only [undef, Option.some.injEq, reduceCtorEq] at hu; done) | skip
          have hcs : cycF ns.length es (k + 1) = cycF ns.length es k := by
            rw [cycF_succ]
            unfold cycStep
            rw [← HFE.out, ← HST.out]
            simp only
            rw [if_pos (Or.inl hA)]
          have hjj := HJ.out
          refine ⟨ns.length - (k + 1), by omega, ?_⟩
          repeat apply Exists.intro
          refine ⟨⟨⟨rfl, hlt⟩, ?_, ?_, ?_, HW2.out.b, HMP.out⟩, ?_⟩
          rotate_left 3
          · rfl
          · rw [hcs]; exact HW2.out.o
          · rw [hcs]; exact HNIL.out
          · rw [hcs]; exact HBL.out
        · have hAd : decide (nx < 0) = false := decide_eq_false hA
          have hck := cstep_ok (far := far) (ofP (sucs ns.length es) k k) (-1, 0) (Or.inl (by decide))
          rw [← HST.out] at hck
          simp only at hck
          obtain ⟨hl0, m, hnm, hgm⟩ := hck.resolve_left hA
          subst hnm
          have hml : m < ns.length := by have := gD_lt (d := far) (a := m) (by omega); omega
          have hlb : ln ≤ (ns.length : Int) := by
            have := HD5.out.bound sucs_lt (by rw [sucs_length]; exact hlt) m
            rw [sucs_length] at this
            omega
          have hw1 : IntKind.i64.wrap (ln + 1) = ln + 1 := IntWalk.i64_in _ (by omega)
          have hw4 : w4.heap.size ≤ W2.heap.size := by have := HB.out.size; have := HB5.out.size; have := HS2.out; omega
          have hb3 : Below w4.heap.size w4 (W2.alloc (.cells #[.int .i64 (k : Int)] 3)) := HW2.out.b.alloc hw4 _
          have hgf2 : gf < W2.heap.size := (Array.getElem?_eq_some_iff.1 HW2.out.i).1
          have hde := descend_any _ (sucs ns.length es) m gf far (W2.alloc (.cells #[.int .i64 (k : Int)] 3)) ((HRS.out.below hb3 (Nat.le_refl _)).mono (by simp; omega)) (by rw [sucs_length]; omega) (by rw [sucs_length]; exact hfl) ((Below.heap_alloc _ _ _ hgf2).trans HW2.out.i) (by rw [sucs_length]; exact hml) (by omega)
            (fun x => by have := HD5.out.bound sucs_lt (by rw [sucs_length]; exact hlt) x; rw [sucs_length] at this; omega) (fun x => by have := sucs_row (N := ns.length) (es := es) x; omega) sucs_lt HD5.out.desc
          obtain ⟨dp, hdp⟩ : ∃ dp, dp = descP (sucs ns.length es) far (gD far m).toNat m := ⟨_, rfl⟩
          have HDL : Hid (0 < dp.length ∧ dp.length ≤ ln.toNat + 1) := Lib.hid (by rw [hdp]; exact ⟨descP_pos _ _ _ _, by have := descP_length (sucs ns.length es) far (gD far m).toNat m; rw [← hgm]; exact this⟩)
          rw [sucs_length, ← hdp] at hde
          have HDE := Lib.hid hde
          have HDP := Lib.hid hdp
          clear hde hdp hck hb3
          rcases HW2.out.o.2 with ⟨hbn, hbe⟩ | ⟨rg, rcap, rcur, hbn, _⟩
          · subst hbn
            have hcx2 : (W2.alloc (.cells #[.int .i64 (k : Int)] 3)).cell? ⟨w5.heap.size + 1, 0, none⟩ = some (intC (m : Int)) := (HW2.out.x.alloc _).cell
            have hcl2 : (W2.alloc (.cells #[.int .i64 (k : Int)] 3)).cell? ⟨w5.heap.size + 1 + 1, 0, none⟩ = some (intC ln) := (HW2.out.l.alloc _).cell
            have hcf2 : (W2.alloc (.cells #[.int .i64 (k : Int)] 3)).cell? ⟨w5.heap.size, 0, none⟩ = some (.slice (some ⟨gf, 0, none⟩) ns.length ns.length) := (HW2.out.f.alloc _).cell
            have hb0 : cycF ns.length es k = [] := List.eq_nil_of_length_eq_zero hbe
            by_cases hE : (m : Int) = (k : Int)
            · have hEd : decide ((m : Int) = (k : Int)) = true := decide_eq_true hE
              gi_wp2_with fail
              all_goals first | (rename_i hu _; simp only [undef, Option.some.injEq, reduceCtorEq] at hu; done) | skip
              have hcs : cycF ns.length es (k + 1) = [k] := by
                rw [cycF_succ]
                unfold cycStep
                rw [← HFE.out, ← HST.out]
                simp only
                rw [if_neg (by rintro (h | ⟨h, h9⟩); omega; exact h hb0), if_pos hE]
              have hjj := HJ.out
              refine ⟨ns.length - (k + 1), by omega, ?_⟩
              repeat apply Exists.intro
              refine ⟨⟨⟨rfl, hlt⟩, ?_, ?_, ?_, ?_, ?_⟩, ?_⟩
              rotate_left 5
              · repeat' (first | exact rfl | apply And.intro)
              · rw [hcs]
                exact own_made _ _ 1 [natC k] W2 (by have := HB.out.size; have := HB5.out.size; have := HS2.out; omega) (by decide) rfl
              · rw [hcs]; intro h; cases h
              · rw [hcs]; simp
              · exact HW2.out.b.alloc (by have := HB.out.size; have := HB5.out.size; have := HS2.out; omega) _
              · exact HMP.out.grown (World.grownBy_alloc _ _ none) (fun r e => by cases e)
            · have hEd : decide ((m : Int) = (k : Int)) = false := decide_eq_false hE
              gi_wp2_with fail
              all_goals first | (rename_i hu _; simp only [undef, Option.some.injEq, reduceCtorEq] at hu; done) | skip
              refine ⟨trivial, ?_⟩
              refine (callsIn_wide.2 HDE.out).mono ?_
              rintro e w6 ⟨v6, rfl, ho6, hb6⟩
              have hs6 := hb6.size
              obtain ⟨dn, hdn⟩ : ∃ dn, dp.length = dn + 1 := ⟨dp.length - 1, by have := HDL.out; omega⟩
              rw [hdn] at ho6
              obtain ⟨g6, c6, rfl, hg6a, hg6b, hg6c⟩ := own_shape ho6 (by omega)
              have HO6 := Lib.hid ho6
              have HB6 := Lib.hid hb6
              have hdx : dn ≤ 1000000 := by have := HDL.out; omega
              have hsi : (W2.alloc (.cells #[.int .i64 (k : Int)] 3)).heap.size = W2.heap.size + 1 := by simp
              have HOB : Hid (w6.ownsRow w4.heap.size 3 1 (.slice (some ⟨W2.heap.size, 0, none⟩) 1 1) 1 [natC k]) := Lib.hid (own_far (own_made _ _ 1 [natC k] W2 hw4 (by decide) rfl) (fun j hj => HB6.out.block j (by
                have e : W2.heap.size = j := by simpa [Value.ownBlock] using hj
                omega)))
              have HNW : Hid (∀ j u, (dp.dropLast.map natC)[j]? = some u → w6.cell? ((⟨g6, 0, none⟩ : Addr).add j) = some u) := Lib.hid (fun j u hu => by
                rw [Addr.add_lit, Nat.zero_add]
                refine own_cell HO6.out j u ?_
                have hjl := (List.getElem?_eq_some_iff.1 hu).1
                rw [List.length_map, List.length_dropLast] at hjl
                rw [List.getElem?_map, List.getElem?_dropLast, if_pos hjl] at hu
                rw [List.getElem?_map]; exact hu)
              have hwl : IntKind.i64.wrap ((dn : Int) + 1 - 1) = (dn : Int) := by rw [Int.add_sub_cancel]; exact IntWalk.i64_in _ (by omega)
              have hwm : IntKind.i64.wrap (((dn + 1 : Nat) : Int) - 1) = (dn : Int) := by rw [Int.natCast_add, Int.natCast_one]; exact hwl
              obtain ⟨i0, hi0', hz0, hz1, hz2⟩ := info_parts info_ints
              gi_wp2_with (gi_at_builtin; go_loud (refine wpListIn_append_own _ rfl _ _ 86 rfl w4.heap.size 3 i0 (.int .i64 0) 1 8 Tryz.underlying86 hi0' hz0 hz1 hz2 rfl (by decide) _ 1 _ (by rfl) HOB.out ⟨g6, 0, none⟩ dn _ (dp.dropLast.map natC) (by rfl) ?n1 HNW.out ?n3 ?n4 ?n5 ?n6 ?n7))
              case n1 => rw [List.length_map, List.length_dropLast, hdn]; omega
              case n3 => intro u hu; obtain ⟨x, _, rfl⟩ := List.mem_map.1 hu; rfl
              case n4 => unfold maxLen; omega
              case n5 => omega
              case n6 => have := HB6.out.size; omega
              case n7 =>
                intro v' w7 ho7 hg7 hv7
                have HO7 := Lib.hid ho7
                have HG7 := Lib.hid hg7
                clear ho7 hg7 hv7
                gi_wp2_with fail
                have hcs : cycF ns.length es (k + 1) = k :: dp.dropLast := by
                  rw [cycF_succ]
                  unfold cycStep
                  rw [← HFE.out, ← HST.out]
                  simp only
                  rw [if_neg (by rintro (h | ⟨h, h9⟩); omega; exact h hb0), if_neg hE, HDP.out]
                  rfl
                have hll : (k :: dp.dropLast).length = 1 + dn := by rw [List.length_cons, List.length_dropLast, hdn]; omega
                have hjj := HJ.out
                have hblk6 := (HB6.out.block W2.heap.size (by omega)).trans (World.alloc_heap_new W2 _)
                refine ⟨ns.length - (k + 1), by omega, ?_⟩
                repeat apply Exists.intro
                refine ⟨⟨⟨rfl, hlt⟩, ?_, ?_, ?_, ?_, ?_⟩, ?_⟩
                rotate_left 5
                · repeat' (first | exact rfl | apply And.intro)
                · rw [hcs, hll, List.map_cons, List.map_dropLast]
                  exact HO7.out
                · rw [hcs]; intro h; cases h
                · rw [hcs, hll]; have := HDL.out; omega
                · exact (((HW2.out.b.alloc hw4 _).trans (HB6.out.mono (by omega))).grown HG7.out (by omega) (fun j e => by cases e; exact hw4))
                · exact (((HMP.out.grown (World.grownBy_alloc _ _ none) (fun r e => by cases e)).keep (fun j hj ⟨o, ho, hc⟩ => HB6.out.block j (Array.getElem?_eq_some_iff.1 ho).1)).grown HG7.out (fun r e => by cases e; exact ⟨_, hblk6, rfl⟩))
          · subst hbn
            by_cases hB : ((cycF ns.length es k).length : Int) ≤ ln + 1
            · have hBd : decide (((cycF ns.length es k).length : Int) ≤ ln + 1) = true := decide_eq_true hB
              gi_wp2_with fail
              all_goals first | (rename_i hu _; simp only [undef, Option.some.injEq, reduceCtorEq] at hu; done) | skip
              have hcs : cycF ns.length es (k + 1) = cycF ns.length es k := by
                rw [cycF_succ]
                unfold cycStep
                rw [← HFE.out, ← HST.out]
                simp only
                by_cases h0 : cycF ns.length es k = []
                · have := HNIL.out h0
                  cases this
                · rw [if_pos (Or.inr ⟨h0, hB⟩)]
              have hjj := HJ.out
              refine ⟨ns.length - (k + 1), by omega, ?_⟩
              repeat apply Exists.intro
              refine ⟨⟨⟨rfl, hlt⟩, ?_, ?_, ?_, ?_, ?_⟩, ?_⟩
              rotate_left 5
              · repeat' (first | exact rfl | apply And.intro)
              · rw [hcs]; exact HW2.out.o
              · rw [hcs]; exact HNIL.out
              · rw [hcs]; exact HBL.out
              · exact HW2.out.b
              · exact HMP.out
            · have hBd : decide (((cycF ns.length es k).length : Int) ≤ ln + 1) = false := decide_eq_false hB
              have hcx2 : (W2.alloc (.cells #[.int .i64 (k : Int)] 3)).cell? ⟨w5.heap.size + 1, 0, none⟩ = some (intC (m : Int)) := (HW2.out.x.alloc _).cell
              have hcl2 : (W2.alloc (.cells #[.int .i64 (k : Int)] 3)).cell? ⟨w5.heap.size + 1 + 1, 0, none⟩ = some (intC ln) := (HW2.out.l.alloc _).cell
              have hcf2 : (W2.alloc (.cells #[.int .i64 (k : Int)] 3)).cell? ⟨w5.heap.size, 0, none⟩ = some (.slice (some ⟨gf, 0, none⟩) ns.length ns.length) := (HW2.out.f.alloc _).cell
              by_cases hE : (m : Int) = (k : Int)
              · have hEd : decide ((m : Int) = (k : Int)) = true := decide_eq_true hE
                gi_wp2_with fail
                all_goals first | (rename_i hu _; simp only [undef, Option.some.injEq, reduceCtorEq] at hu; done) | skip
                have hcs : cycF ns.length es (k + 1) = [k] := by
                  rw [cycF_succ]
                  unfold cycStep
                  rw [← HFE.out, ← HST.out]
                  simp only
                  rw [if_neg (by rintro (h | ⟨h, h9⟩); omega; omega), if_pos hE]
                have hjj := HJ.out
                refine ⟨ns.length - (k + 1), by omega, ?_⟩
                repeat apply Exists.intro
                refine ⟨⟨⟨rfl, hlt⟩, ?_, ?_, ?_, ?_, ?_⟩, ?_⟩
                rotate_left 5
                · repeat' (first | exact rfl | apply And.intro)
                · rw [hcs]
                  exact own_made _ _ 1 [natC k] W2 (by have := HB.out.size; have := HB5.out.size; have := HS2.out; omega) (by decide) rfl
                · rw [hcs]; intro h; cases h
                · rw [hcs]; simp
                · exact HW2.out.b.alloc (by have := HB.out.size; have := HB5.out.size; have := HS2.out; omega) _
                · exact HMP.out.grown (World.grownBy_alloc _ _ none) (fun r e => by cases e)
              · have hEd : decide ((m : Int) = (k : Int)) = false := decide_eq_false hE
                gi_wp2_with fail
                all_goals first | (rename_i hu _; simp only [undef, Option.some.injEq, reduceCtorEq] at hu; done) | skip
                refine ⟨trivial, ?_⟩
                refine (callsIn_wide.2 HDE.out).mono ?_
                rintro e w6 ⟨v6, rfl, ho6, hb6⟩
                have hs6 := hb6.size
                obtain ⟨dn, hdn⟩ : ∃ dn, dp.length = dn + 1 := ⟨dp.length - 1, by have := HDL.out; omega⟩
                rw [hdn] at ho6
                obtain ⟨g6, c6, rfl, hg6a, hg6b, hg6c⟩ := own_shape ho6 (by omega)
                have HO6 := Lib.hid ho6
                have HB6 := Lib.hid hb6
                have hdx : dn ≤ 1000000 := by have := HDL.out; omega
                have hsi : (W2.alloc (.cells #[.int .i64 (k : Int)] 3)).heap.size = W2.heap.size + 1 := by simp
                have HOB : Hid (w6.ownsRow w4.heap.size 3 1 (.slice (some ⟨W2.heap.size, 0, none⟩) 1 1) 1 [natC k]) := Lib.hid (own_far (own_made _ _ 1 [natC k] W2 hw4 (by decide) rfl) (fun j hj => HB6.out.block j (by
                  have e : W2.heap.size = j := by simpa [Value.ownBlock] using hj
                  omega)))
                have HNW : Hid (∀ j u, (dp.dropLast.map natC)[j]? = some u → w6.cell? ((⟨g6, 0, none⟩ : Addr).add j) = some u) := Lib.hid (fun j u hu => by
                  rw [Addr.add_lit, Nat.zero_add]
                  refine own_cell HO6.out j u ?_
                  have hjl := (List.getElem?_eq_some_iff.1 hu).1
                  rw [List.length_map, List.length_dropLast] at hjl
                  rw [List.getElem?_map, List.getElem?_dropLast, if_pos hjl] at hu
                  rw [List.getElem?_map]; exact hu)
                have hwl : IntKind.i64.wrap ((dn : Int) + 1 - 1) = (dn : Int) := by rw [Int.add_sub_cancel]; exact IntWalk.i64_in _ (by omega)
                have hwm : IntKind.i64.wrap (((dn + 1 : Nat) : Int) - 1) = (dn : Int) := by rw [Int.natCast_add, Int.natCast_one]; exact hwl
                obtain ⟨i0, hi0', hz0, hz1, hz2⟩ := info_parts info_ints
                gi_wp2_with (gi_at_builtin; go_loud (refine wpListIn_append_own _ rfl _ _ 86 rfl w4.heap.size 3 i0 (.int .i64 0) 1 8 Tryz.underlying86 hi0' hz0 hz1 hz2 rfl (by decide) _ 1 _ (by rfl) HOB.out ⟨g6, 0, none⟩ dn _ (dp.dropLast.map natC) (by rfl) ?n1 HNW.out ?n3 ?n4 ?n5 ?n6 ?n7))
                case n1 => rw [List.length_map, List.length_dropLast, hdn]; omega
                case n3 => intro u hu; obtain ⟨x, _, rfl⟩ := List.mem_map.1 hu; rfl
                case n4 => unfold maxLen; omega
                case n5 => omega
                case n6 => have := HB6.out.size; omega
                case n7 =>
                  intro v' w7 ho7 hg7 hv7
                  have HO7 := Lib.hid ho7
                  have HG7 := Lib.hid hg7
                  clear ho7 hg7 hv7
                  gi_wp2_with fail
                  have hcs : cycF ns.length es (k + 1) = k :: dp.dropLast := by
                    rw [cycF_succ]
                    unfold cycStep
                    rw [← HFE.out, ← HST.out]
                    simp only
                    rw [if_neg (by rintro (h | ⟨h, h9⟩); omega; omega), if_neg hE, HDP.out]
                    rfl
                  have hll : (k :: dp.dropLast).length = 1 + dn := by rw [List.length_cons, List.length_dropLast, hdn]; omega
                  have hjj := HJ.out
                  have hblk6 := (HB6.out.block W2.heap.size (by omega)).trans (World.alloc_heap_new W2 _)
                  refine ⟨ns.length - (k + 1), by omega, ?_⟩
                  repeat apply Exists.intro
                  refine ⟨⟨⟨rfl, hlt⟩, ?_, ?_, ?_, ?_, ?_⟩, ?_⟩
                  rotate_left 5
                  · repeat' (first | exact rfl | apply And.intro)
                  · rw [hcs, hll, List.map_cons, List.map_dropLast]
                    exact HO7.out
                  · rw [hcs]; intro h; cases h
                  · rw [hcs, hll]; have := HDL.out; omega
                  · exact (((HW2.out.b.alloc hw4 _).trans (HB6.out.mono (by omega))).grown HG7.out (by omega) (fun j e => by cases e; exact hw4))
                  · exact (((HMP.out.grown (World.grownBy_alloc _ _ none) (fun r e => by cases e)).keep (fun j hj ⟨o, ho, hc⟩ => HB6.out.block j (Array.getElem?_eq_some_iff.1 ho).1)).grown HG7.out (fun r e => by cases e; exact ⟨_, hblk6, rfl⟩))
      case stop =>
        rintro D c pre W2 hD _ h _
        exact h.elim
    · have hkk : k = ns.length := by omega
      subst hkk
      gi_wp2_with fail
      refine leave_marks HM.out (Shut.refl _ _) fun W' hs => ⟨_, results_tmp rfl _ _ _, bv, rfl, ?_, HW4.out.trans ((HB.out.trans (hs.below (Nat.le_refl _))).mono (by omega)), HNIL.out⟩
      have h1 : W'.ownsRow w4.heap.size 3 1 bv (cycF ns.length es ns.length).length ((cycF ns.length es ns.length).map natC) := own_far HO.out fun j hj => by
        rcases HO.out.2 with ⟨h, _⟩ | ⟨g, cap, cur, h, _, hg, _⟩
        · rw [h] at hj; simp [Value.ownBlock] at hj
        · rw [h] at hj; simp [Value.ownBlock] at hj; subst hj
          exact (hs.blk hg).trans hg.symm
      exact ⟨h1.1, h1.2.imp id fun ⟨g, cap, cur, h1, h2, h3⟩ => ⟨g, cap, cur, h1, by omega, h3⟩⟩

end Go.Proofs.YtbbnoloploklkaaGreatDoor
