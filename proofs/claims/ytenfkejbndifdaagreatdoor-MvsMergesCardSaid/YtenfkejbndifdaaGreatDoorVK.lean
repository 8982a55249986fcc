/- Contracts of the reference's Complement, Intersect, Minus, Subset. -/
import Derived.Test.YtenfkejbndifdaaGreatDoorVC
namespace Go.Proofs.YtenfkejbndifdaaGreatDoor
set_option linter.unusedVariables false
set_option linter.unusedSimpArgs false
open Go Go.RowKit

theorem wpList_app_span {w : World} {ops : Array Oper} {rest : List Oper} {o : Oper} {a : Act} {Q : Exit → Act → World → Prop} (hgd : o.guard = none) (s x : Operand)
    (ho : o.op = .call { callee := .builtin .append, args := #[s, x], argTypes := #[56, 56] })
    (base : Nat) (v : Value) (n : Nat) (L : List (Int × Int)) (hs : a.eval s = v) (hown : w.ownsRow base 133 2 v n (spanCells L)) (p q : Int) (hx : a.eval x = .slice (some ⟨w.heap.size, 0, none⟩) 1 1)
    (hb : n + 1 ≤ 100000000) (hbase : base ≤ w.heap.size)
    (h : ∀ g cap w', w'.ownsRow base 133 2 (.slice (some ⟨g, 0, none⟩) (n + 1) cap) (n + 1) (spanCells (L ++ [(p, q)])) → Below base w w' → wpList Tryz.prog ops Q rest (a.put o.dst (.slice (some ⟨g, 0, none⟩) (n + 1) cap)) w') : wpList Tryz.prog ops Q (o :: rest) a (w.alloc (.cells #[.int .i64 p, .int .i64 q] 133)) := by
  obtain ⟨i0, hi, hz0, hz1, hz2⟩ := info_parts info_spans
  refine wpList_append_own _ hgd s x 56 ho base 133 i0 _ 2 16 Tryz.underlying56 hi hz0 hz1 hz2 rfl (by decide) v n _ hs (hown.alloc _) ⟨w.heap.size, 0, none⟩ 1 1 [intC p, intC q] hx rfl
    (World.news_of_block (cs := #[intC p, intC q]) (t := 133) (fr := (0, 0)) (heap_alloc_new w _)) (by simp [Value.oneCell']) (by unfold maxLen; omega) (by omega) (by simp; omega) (fun v' w' h2 h3 _ => ?_)
  have hbel : Below base w w' := ((Below.refl base w).alloc hbase _).grown h3 (by simp; omega) (fun k hk => (hown.lt k hk).1)
  obtain ⟨g, cap, rfl⟩ := ownsRow_succ h2
  exact h g cap w' (by rw [spanCells_snoc]; exact h2) hbel
theorem info_sets : (Tryz.prog.info? 56).map (fun i => (i.zero, i.size, i.bytes)) = some (some (.slice none 0 0), 1, 24) := by kernel_rfl
theorem wpList_app_set {w : World} {ops : Array Oper} {rest : List Oper} {o : Oper} {a : Act} {Q : Exit → Act → World → Prop} (hgd : o.guard = none) (s x : Operand)
    (ho : o.op = .call { callee := .builtin .append, args := #[s, x], argTypes := #[119, 119] })
    (base : Nat) (v : Value) (n : Nat) (L : List Value) (hs : a.eval s = v) (hown : w.ownsRow base 56 1 v n L) (ao : Option Addr) (m c : Nat) (hx : a.eval x = .slice (some ⟨w.heap.size, 0, none⟩) 1 1)
    (hb : n + 1 ≤ 100000000) (hbase : base ≤ w.heap.size)
    (h : ∀ g cap w', w'.ownsRow base 56 1 (.slice (some ⟨g, 0, none⟩) (n + 1) cap) (n + 1) (L ++ [.slice ao m c]) → w.grownBy w' v.ownBlock → wpList Tryz.prog ops Q rest (a.put o.dst (.slice (some ⟨g, 0, none⟩) (n + 1) cap)) w') : wpList Tryz.prog ops Q (o :: rest) a (w.alloc (.cells #[.slice ao m c] 56)) := by
  obtain ⟨i0, hi, hz0, hz1, hz2⟩ := info_parts info_sets
  refine wpList_append_own _ hgd s x 119 ho base 56 i0 _ 1 24 Tryz.underlying119 hi hz0 hz1 hz2 rfl (by decide) v n _ hs (hown.alloc _) ⟨w.heap.size, 0, none⟩ 1 1 [.slice ao m c] hx rfl
    (World.news_of_block (cs := #[.slice ao m c]) (t := 56) (fr := (0, 0)) (heap_alloc_new w _)) (by simp [Value.oneCell']) (by unfold maxLen; omega) (by omega) (by simp; omega) (fun v' w' h2 h3 _ => ?_)
  obtain ⟨g, cap, rfl⟩ := ownsRow_succ h2
  refine h g cap w' h2 ⟨h3.os, h3.tape, h3.output, Nat.le_trans (by simp) h3.size, fun i hi hne => ?_⟩
  exact (h3.block i (by simp; omega) hne).trans (Below.heap_alloc w _ i hi)
theorem sets_own {W : World} {B : Nat} {v : Value} {vs : List Value} {l : List (List (Int × Int))} (hl : vs.length = l.length) (h : W.ownsRow B 56 1 v l.length vs) (hE : ∀ (i : Nat) (s : List (Int × Int)) (x : Value), l[i]? = some s → vs[i]? = some x → SpansOf W.heap.size x s W) : SetsOf W.heap.size v l W := by
  rcases h.2 with ⟨rfl, h0⟩ | ⟨g, cap, cur, rfl, hb, hg, hc, _⟩
  · exact ⟨none, 0, by rw [h0], fun i s hs => by
      have := (List.getElem?_eq_some_iff.1 hs).1
      omega⟩
  · refine ⟨_, cap, rfl, fun i s hs => ?_⟩
    have hi := (List.getElem?_eq_some_iff.1 hs).1
    have hx : vs[i]? = some vs[i] := by simp [hl, hi]
    refine ⟨g, 0, vs[i], rfl, (Array.getElem?_eq_some_iff.1 hg).1, ?_, hE i s _ hs hx⟩
    rw [Nat.zero_add, h.cellAt i (by omega)]
    exact hx
theorem own_apartC {W : World} {B e s n B' e' s' n' : Nat} {v v' : Value} {xs xs' : List Value} (h : W.ownsRow B e s v n xs) (h' : W.ownsRow B' e' s' v' n' xs') (hne : e ≠ e') : ∀ k, v.ownBlock = some k → v'.ownBlock ≠ some k := by
  intro k hk hk'
  rcases h.2 with ⟨rfl, _⟩ | ⟨g, cap, cur, rfl, _, hg, _⟩
  · cases hk
  · rcases h'.2 with ⟨rfl, _⟩ | ⟨g', cap', cur', rfl, _, hg', _⟩
    · cases hk'
    · have e1 : g = k := by simpa [Value.ownBlock] using hk
      have e2 : g' = k := by simpa [Value.ownBlock] using hk'
      subst e1
      subst e2
      rw [hg] at hg'
      injection hg' with hg'
      injection hg' with _ ht
      exact hne ht
theorem gap_take {c : List (Int × Int)} {k : Nat} (hk : k < c.length) : (c.take (k + 1)).foldl gapSt ([], 0) = gapSt ((c.take k).foldl gapSt ([], 0)) c[k] := by
  rw [List.take_succ_eq_append_getElem hk, List.foldl_append]
  rfl
set_option maxRecDepth 100000 in
set_option maxHeartbeats 4000000 in
theorem rComplement_own (v : Value) (s : List (Int × Int)) (w : World) (hs : s.length ≤ 1000000) (hE : SpansOf w.heap.size v s w) :
    Calls Tryz.prog 130 #[v] w fun e w' => ∃ v', e = .returned v' ∧ w'.ownsRow w.heap.size 133 2 v' (complS s).length (spanCells (complS s)) ∧ Below w.heap.size w w' := by
  have HC := Lib.hid (rCanonical_any v s w hs hE)
  have HR := Lib.hid (gaps_compl s)
  have hcl := canon_len s
  obtain ⟨ao, ec, rfl, _⟩ := hE
  generalize complS s = r at *
  generalize canon s = c at *
  go_enter Tryz.func130, Tryz.ntmps130
  go_wp2_with fail
  (with_reducible refine HC.out.mono ?_)
  rintro e w1 ⟨v1, rfl, hE1, hb1⟩
  obtain ⟨ao1, ec1, rfl, hE1⟩ := hE1
  have HE1 := Lib.hid hE1
  have HB1 := Lib.hid hb1
  clear hE1 hb1
  go_wp2_with fail
  go_loopw [4, 5, 6] (fun o a p wr => ∃ (k : Nat) (L : List (Int × Int)) (q : Int), k ≤ c.length ∧ p = .int .i64 k ∧ a = .int .i64 q ∧ Hid ((c.take k).foldl gapSt ([], 0) = (L, q)) ∧ Hid (wr.ownsRow w1.heap.size 133 2 o L.length (spanCells L)) ∧ Hid (Below w1.heap.size w1 wr)) (fun _ _ p _ => c.length - (intOf p).toNat)
  case atStart => exact ⟨0, [], 0, by omega, rfl, rfl, Lib.hid rfl, Lib.hid (World.ownsRow_made w1 #[] 0 (Nat.le_refl _) (by decide) rfl), Lib.hid ((Below.refl _ _).alloc (Nat.le_refl _) _)⟩
  case round =>
    obtain ⟨k, L, q, hk, rfl, rfl, HG, HO, HB⟩ := hrel
    have hszr := HB.out.size
    have hll : L.length ≤ k := by have := gap_len (c.take k) ([], 0); rw [HG.out, List.length_take, Nat.min_eq_left hk] at this; simpa using this
    by_cases hlt : k < c.length
    · obtain ⟨b, off, rfl, hb, hc1, hc2⟩ := HE1.out k c[k] (by simp [hlt])
      have hc1 := (HB.out.cell (p := ⟨b, off + k * 2, none⟩) hb).trans hc1
      have hc2 := (HB.out.cell (p := ⟨b, off + k * 2 + 1, none⟩) hb).trans hc2
      have HT := Lib.hid (gap_take hlt)
      rw [HG.out] at HT
      obtain ⟨⟨x1, x2⟩, hx⟩ : ∃ x, x = c[k] := ⟨_, rfl⟩
      rw [← hx] at hc1 hc2 HT
      clear hx
      simp only at hc1 hc2
      by_cases hq : q < x1
      · have HT2 := Lib.hid (HT.out.trans (show gapSt (L, q) (x1, x2) = (L ++ [(q, x1)], x2) by unfold gapSt; simp only; rw [if_pos hq]))
        have hc3 := fun W (hW : Below w1.heap.size wr W) => (hW.cell (p := ⟨b, off + k * 2 + 1, none⟩) hb).trans hc2
        have HC3 := Lib.hid hc3
        clear hc3 HT
        go_wp2_with (at_builtin; refine wpList_app_span rfl _ _ rfl w1.heap.size u4 L.length L (by rfl) HO.out q x1 (by rfl) (by omega) hszr ?_; intro g cap w3 hown' hbel; have HOW := Lib.hid hown'; have hc4 := HC3.out w3 hbel; have HBW := Lib.hid (HB.out.trans hbel); clear hown' hbel)
        go_roundw
        case rel =>
          refine ⟨k + 1, L ++ [(q, x1)], x2, by omega, by go_num, rfl, HT2, Lib.hid ?_, HBW⟩
          rw [List.length_append]
          exact HOW.out
        case measure => simp [intOf]; omega
      · have HT2 := Lib.hid (HT.out.trans (show gapSt (L, q) (x1, x2) = (L, x2) by unfold gapSt; simp only; rw [if_neg hq]))
        clear HT
        go_wp2_with fail
        go_roundw
        case rel => exact ⟨k + 1, L, x2, by omega, by go_num, rfl, HT2, HO, HB⟩
        case measure => simp [intOf]; omega
    · have hkk : k = c.length := by omega
      subst hkk
      rw [List.take_length] at HG
      rw [HG.out] at HR
      by_cases hq : q < 1000000
      · have HR2 := Lib.hid (show L ++ [(q, 1000000)] = r by rw [← HR.out]; unfold gapEnd; simp only; rw [if_pos hq])
        clear HR
        go_wp2_with (at_builtin; refine wpList_app_span rfl _ _ rfl w1.heap.size u4 L.length L (by rfl) HO.out q 1000000 (by rfl) (by omega) hszr ?_; intro g cap w3 hown' hbel; have HOW := Lib.hid hown'; have HBW := Lib.hid (HB.out.trans hbel); clear hown' hbel)
        go_ret
        refine ⟨_, rfl, ?_, HB1.out.trans (HBW.out.mono HB1.out.size)⟩
        rw [← HR2.out, List.length_append]
        exact own_low HOW.out HB1.out.size
      · have HR2 := Lib.hid (show L = r by rw [← HR.out]; unfold gapEnd; simp only; rw [if_neg hq])
        clear HR
        go_wp2_with fail
        go_ret
        refine ⟨_, rfl, ?_, HB1.out.trans (HB.out.mono HB1.out.size)⟩
        rw [← HR2.out]
        exact own_low HO.out HB1.out.size
theorem union_len (l : List (List (Int × Int))) (C : Nat) (h : ∀ s ∈ l, s.length ≤ C) : (unionS l).length ≤ l.length * C := by
  rw [← flat_union]
  exact Nat.le_trans (canon_len _) (flat_len l C h)
set_option maxRecDepth 100000 in
set_option maxHeartbeats 4000000 in
theorem rIntersect_own (v : Value) (l : List (List (Int × Int))) (w : World) (hl : l.length ≤ 100) (hs : ∀ s ∈ l, s.length ≤ 400) (hS : SetsOf w.heap.size v l w) :
    Calls Tryz.prog 83 #[v] w fun e w' => ∃ v', e = .returned v' ∧ w'.ownsRow w.heap.size 133 2 v' (interS l).length (spanCells (interS l)) ∧ Below w.heap.size w w' := by
  obtain ⟨ao, ec, rfl, hS⟩ := hS
  have HS := Lib.hid hS
  have HL := Lib.hid hs
  have HR := Lib.hid (de_morgan l)
  generalize interS l = r at *
  clear hS hs
  go_enter Tryz.func83, Tryz.ntmps83
  go_wp2_with fail
  go_loopw [3, 4] (fun o p wr => ∃ (k : Nat) (vs : List Value), k ≤ l.length ∧ p = .int .i64 k ∧ Hid (vs.length = k) ∧ Hid (wr.ownsRow w.heap.size 56 1 o k vs) ∧ Hid (∀ (i : Nat) (s : List (Int × Int)) (x : Value), l[i]? = some s → vs[i]? = some x → wr.ownsRow w.heap.size 133 2 x (complS s).length (spanCells (complS s))) ∧ Hid (Below w.heap.size w wr)) (fun _ p _ => l.length - (intOf p).toNat)
  case atStart => exact ⟨0, [], by omega, rfl, Lib.hid rfl, Lib.hid (World.ownsRow_made w #[] 0 (Nat.le_refl _) (by decide) rfl), Lib.hid (fun i s x _ hx => by simp at hx), Lib.hid ((Below.refl _ _).alloc (Nat.le_refl _) _)⟩
  case round =>
    obtain ⟨k, vs, hk, rfl, HV, HO, HX, HB⟩ := hrel
    have hszr := HB.out.size
    by_cases hlt : k < l.length
    · obtain ⟨b, off, r1, rfl, hb, hc1, hE1⟩ := HS.out k l[k] (by simp [hlt])
      have hc1 := (HB.out.cell (p := ⟨b, off + k, none⟩) hb).trans hc1
      have hx := HL.out l[k] (List.getElem_mem hlt)
      have HC := Lib.hid (rComplement_own r1 l[k] wr (by omega) ((hE1.below HB.out (Nat.le_refl _)).mono hszr))
      have HK : Hid (l[k]? = some l[k]) := Lib.hid (by simp [hlt])
      generalize l[k] = x at *
      obtain ⟨cs, hcs⟩ : ∃ cs, complS x = cs := ⟨_, rfl⟩
      rw [hcs] at HC
      have HCS := Lib.hid hcs
      obtain ⟨ra, rc, rfl, _⟩ := hE1
      clear hcs
      go_wp2_with fail
      (with_reducible refine HC.out.mono ?_)
      rintro e w2 ⟨v2, rfl, hO2, hb2⟩
      have HO2 := Lib.hid (own_far HO.out (fun j hj => hb2.block j (HO.out.lt j hj).2))
      have HX2 : Hid (∀ (i : Nat) (s : List (Int × Int)) (x : Value), l[i]? = some s → (vs ++ [v2])[i]? = some x → w2.ownsRow w.heap.size 133 2 x (complS s).length (spanCells (complS s))) := Lib.hid (fun i s y hs hy => by
        rcases Nat.lt_trichotomy i k with hi | hi | hi
        · rw [List.getElem?_append_left (by rw [HV.out]; exact hi)] at hy
          have := HX.out i s y hs hy
          exact own_far this (fun j hj => hb2.block j (this.lt j hj).2)
        · subst hi
          rw [List.getElem?_append_right (by rw [HV.out]; exact Nat.le_refl _), HV.out, Nat.sub_self] at hy
          cases hy
          rw [HK.out] at hs
          cases hs
          rw [HCS.out]
          exact own_low hO2 hszr
        · have := (List.getElem?_eq_some_iff.1 hy).1
          rw [List.length_append, HV.out] at this
          simp at this
          omega)
      have HB2 := Lib.hid (HB.out.trans (hb2.mono hszr))
      obtain ⟨a2, c2, rfl⟩ := own_form hO2
      have hz2 := HB2.out.size
      clear hO2 hb2
      generalize cs.length = m at *
      go_wp2_with (at_builtin; refine wpList_app_set rfl _ _ rfl w.heap.size u3 k vs (by rfl) HO2.out a2 m c2 (by rfl) (by omega) hz2 ?_; intro g cap w3 hown' hgrow; have HOW := Lib.hid hown'; have HGR := Lib.hid hgrow; clear hown' hgrow)
      go_roundw
      case rel =>
        refine ⟨k + 1, vs ++ [.slice a2 m c2], by omega, by go_num, Lib.hid (by rw [List.length_append, HV.out]; rfl), HOW, Lib.hid (fun i s y hs hy => ?_), Lib.hid (HB2.out.grown HGR.out hz2 (fun b hb => (HO2.out.lt b hb).1))⟩
        have hy2 := HX2.out i s y hs hy
        refine own_far hy2 (fun j hj => HGR.out.block j (hy2.lt j hj).2 (fun e => own_apartC hy2 HO2.out (by decide) j hj e.symm))
      case measure => simp [intOf]; omega
    · have hkk : k = l.length := by omega
      subst hkk
      have hc1 : ∀ s ∈ l.map complS, s.length ≤ 1000 := fun s hs => by
        obtain ⟨t, ht, rfl⟩ := List.mem_map.1 hs
        have := complS_len t
        have := HL.out t ht
        omega
      have hul := union_len (l.map complS) 1000 hc1
      rw [List.length_map] at hul
      have hS2 : SetsOf wr.heap.size u3 (l.map complS) wr := sets_own (by rw [HV.out, List.length_map]) (by rw [List.length_map]; exact HO.out) (fun i s x hs hx => by
        rw [List.getElem?_map] at hs
        cases hi : l[i]? with
        | none => rw [hi] at hs; cases hs
        | some t =>
          rw [hi] at hs
          cases hs
          exact own_spans (HX.out i t x hi hx))
      have HU := Lib.hid (rUnion_any u3 (l.map complS) wr (by rw [List.length_map]; exact hl) hc1 hS2)
      have HR2 := Lib.hid (fun (w2 : World) (x : Value) (h : SpansOf w2.heap.size x (unionS (l.map complS)) w2) => rComplement_own x (unionS (l.map complS)) w2 (by omega) h)
      rw [HR.out] at HR2
      generalize unionS (l.map complS) = uu at *
      obtain ⟨ua, uc, rfl, _⟩ := hS2
      rw [List.length_map] at HU
      clear hc1 hul HR
      go_wp2_with fail
      (with_reducible refine HU.out.mono ?_)
      rintro e w1 ⟨v1, rfl, hE1, hb1⟩
      have HC := Lib.hid (HR2.out w1 v1 hE1)
      have HB1 := Lib.hid (HB.out.trans (hb1.mono hszr))
      obtain ⟨a1, c1, rfl, _⟩ := hE1
      clear hb1
      go_wp2_with fail
      (with_reducible refine HC.out.mono ?_)
      rintro e w2 ⟨v2, rfl, hE2, hb2⟩
      have HE2 := Lib.hid (own_low hE2 HB1.out.size)
      have HB2 := Lib.hid (HB1.out.trans (hb2.mono HB1.out.size))
      clear hE2 hb2
      go_wp2_with fail
      go_ret
      exact ⟨_, rfl, HE2.out, HB2.out⟩
end Go.Proofs.YtenfkejbndifdaaGreatDoor
