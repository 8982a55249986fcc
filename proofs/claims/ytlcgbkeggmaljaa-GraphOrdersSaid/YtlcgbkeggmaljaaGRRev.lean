/- Contract of the reference's Reverse. -/
import Derived.Test.YtlcgbkeggmaljaaPJ
namespace Go.Proofs.Ytlcgbkeggmaljaa
set_option linter.unusedVariables false
set_option linter.unusedSimpArgs false
open Go Go.RowKit

theorem run_append_zero {P : Program} {w : World} (base : Nat) (t ty e : TypeId) (i : TypeInfo) (size : Nat) (ht : P.underlying t = some (.slice e)) (hi : P.info? e = some i)
    (v : Value) (n : Nat) (xs : List Value) (hown : w.ownsRow base e size v n xs) (na : Option Addr) (nc : Nat) :
    (Builtin.append_ #[t, t] ty #[v, .slice na 0 nc]).run P w = .ok v w := by
  rcases hown.2 with ⟨rfl, rfl⟩ | ⟨g, cap, cur, rfl, _, _, hnc, _⟩ <;> cases na
  all_goals simp [Builtin.append_, run_underlying ht, sizeOf, typeInfo, hi, Builtin.lenOf, Builtin.firstCells, storeCells, *]
  all_goals simp [loadCells, loadCellsFrom, storeCells]
/-- append of a row of strings to an empty one of the call's own. -/
theorem wpList_append_names {w : World} {ops : Array Oper} {rest : List Oper} {o : Oper} {a : Act} {Q : Exit → Act → World → Prop} (hgd : o.guard = none) (s x : Operand)
    (ho : o.op = .call { callee := .builtin .append, args := #[s, x], argTypes := #[22, 22] })
    (base : Nat) (v : Value) (hs : a.eval s = v) (hown : w.ownsRow base 9 1 v 0 []) (na : Option Addr) (nc : Nat) (ns : List ByteArray) (hx : a.eval x = .slice na ns.length nc) (hn : RowOf Value.string w.heap.size (.slice na ns.length nc) ns w)
    (hl : ns.length ≤ 1000000) (hbase : base ≤ w.heap.size)
    (h : ∀ v' w', w'.ownsRow base 9 1 v' ns.length (ns.map Value.string) → w.grownBy w' v.ownBlock → wpList Try.prog ops Q rest (a.put o.dst v') w') : wpList Try.prog ops Q (o :: rest) a w := by
  obtain ⟨i0, hi0', hz0, hz1, hz2⟩ := info_parts info_strs
  rcases hn with ⟨rfl, a', c', e⟩ | ⟨b, off, cap, e, hb, hc⟩
  · refine wpList_plain hgd fun K hK => ?_
    have hrun := run_append_zero (P := Try.prog) (w := w) base 22 o.type 9 i0 1 Try.underlying22 hi0' v 0 [] hown na nc
    unfold Oper.wp
    have hx' : a.eval x = .slice na 0 nc := hx
    simp [execOp, ho, resolve, invoke, builtin, hs, hx', hrun, Result.andThen]
    exact hK _ _ (h v w hown ⟨rfl, rfl, rfl, Nat.le_refl _, fun _ _ _ => rfl⟩)
  · cases e
    refine wpList_append_own w hgd s x 22 ho base 9 i0 (.string ⟨#[]⟩) 1 16 Try.underlying22 hi0' hz0 hz1 hz2 rfl (by decide) v 0 [] hs hown ⟨b, off, none⟩ ns.length nc (ns.map Value.string) hx (by simp) (fun j u hu => ?_) (fun u hu => ?_) (by unfold maxLen; omega) (by omega) hbase (fun v' w' h1 h2 _ => ?_)
    · rw [List.getElem?_map, Option.map_eq_some_iff] at hu
      obtain ⟨y, hy, rfl⟩ := hu
      rw [Addr.add_lit]
      exact hc j y hy
    · obtain ⟨y, _, rfl⟩ := List.mem_map.1 hu
      rfl
    · rw [Nat.zero_add, List.nil_append] at h1
      exact h v' w' h1 h2

set_option maxRecDepth 100000 in
set_option maxHeartbeats 4000000 in
theorem rReverse_yes (na : Option Addr) (nc : Nat) (ev : Value) (ns : List ByteArray) (es : List (Int × Int)) (w : World) (hE : EdgesOf w.heap.size ev es w) (hN : RowOf Value.string w.heap.size (.slice na ns.length nc) ns w) (hval : validG ns.length es = true) :
    Calls Try.prog 18 #[.agg #[.slice na ns.length nc, ev]] w fun e w' => ∃ a c v', e = .returned (.agg #[.slice a ns.length c, v']) ∧ RowOf Value.string w'.heap.size (.slice a ns.length c) ns w' ∧ EdgesOf w'.heap.size v' (es.map swapE) w' ∧ Below w.heap.size w w' := by
  have hb1 : Below w.heap.size w ((w.alloc (.cells #[.slice na ns.length nc, ev] 25)).alloc (.cells #[.slice none 0 0, .slice none 0 0] 25)) := ((Below.refl _ _).alloc (Nat.le_refl _) _).alloc (by simp) _
  obtain ⟨hNn, hNe⟩ := validG_n hval
  have hv := rValid_any na ns.length nc ev es _ (by omega) (by omega) ((hE.below hb1 (Nat.le_refl _)).mono hb1.size)
  rw [hval] at hv
  have hnew : ((w.alloc (.cells #[.slice na ns.length nc, ev] 25)).alloc (.cells #[.slice none 0 0, .slice none 0 0] 25)).heap[w.heap.size + 1]? = some (.cells #[.slice none 0 0, .slice none 0 0] 25 (0, 0)) := by
    have := World.alloc_heap_new (w.alloc (.cells #[.slice na ns.length nc, ev] 25)) (.cells #[.slice none 0 0, .slice none 0 0] 25)
    rw [World.size_alloc] at this
    exact this
  obtain ⟨ao, ec, rfl, hE⟩ := hE
  have hgold : ((w.alloc (.cells #[.slice na ns.length nc, .slice ao es.length ec] 25)).alloc (.cells #[.slice none 0 0, .slice none 0 0] 25)).heap[w.heap.size]? = some (.cells #[.slice na ns.length nc, .slice ao es.length ec] 25 (0, 0)) := (Below.heap_alloc _ _ _ (by simp)).trans (World.alloc_heap_new w _)
  have HNEW := Lib.hid hnew
  have HGOLD := Lib.hid hgold
  have HV := Lib.hid hv
  have HB1 := Lib.hid hb1
  have HE := Lib.hid hE
  have HN := Lib.hid hN
  clear hv hb1 hE hN hval hnew hgold
  go_enter Try.func18, Try.ntmps18
  go_wp2_with fail
  refine HV.out.mono ?_
  rintro e w1 ⟨rfl, hb⟩
  have hs1 := hb.size
  simp only [World.size_alloc] at hs1
  have HG1 := Lib.hid ((hb.block w.heap.size (by simp; omega)).trans HGOLD.out)
  have HR1 := Lib.hid ((hb.block (w.heap.size + 1) (by simp)).trans HNEW.out)
  have HW1 := Lib.hid (HB1.out.trans (hb.mono (by simp; omega)))
  have hg0 := cellA (.cells #[] 9) (show w1.cell? ⟨w.heap.size, 0, none⟩ = some (.slice na ns.length nc) from cell_of_row _ _ 0 _ _ _ HG1.out)
  have HO1 := Lib.hid (own_made w1.heap.size 9 0 [] w1 (Nat.le_refl _) (by decide) rfl)
  have HN1 : Hid (RowOf Value.string (w1.alloc (.cells #[] 9)).heap.size (.slice na ns.length nc) ns (w1.alloc (.cells #[] 9))) := Lib.hid ((HN.out.below (HW1.out.alloc (by omega) _) (Nat.le_refl _)).mono (by simp; omega))
  clear hb HV HB1 HNEW HGOLD
  go_wp2_with (at_builtin; refine wpList_append_names (by rfl) _ _ (by rfl) w1.heap.size _ (by rfl) HO1.out na nc ns (by rfl) HN1.out (by omega) (by simp) ?_; intro v2 w3 ho3 hg3; have HO3 := Lib.hid ho3; have HB3 := Lib.hid (((Below.refl w1.heap.size w1).alloc (Nat.le_refl _) (.cells #[] 9)).grown hg3 (by simp) (fun b hb => (HO1.out.lt b hb).1)); clear ho3 hg3; obtain ⟨a', c', rfl⟩ := own_any HO3.out)
  have hs3 := HB3.out.size
  have HRN : Hid (RowOf Value.string w3.heap.size (.slice a' ns.length c') ns w3) := Lib.hid (own_row HO3.out).2
  have HG3 := Lib.hid ((HB3.out.block w.heap.size (by omega)).trans HG1.out)
  have HR3 := Lib.hid ((HB3.out.block (w.heap.size + 1) (by omega)).trans HR1.out)
  have HW3 := Lib.hid (HW1.out.trans (HB3.out.mono (by omega)))
  clear HO1 HN1 hg0 HO3
  obtain ⟨i0, hi0', hz0, hz1, hz2⟩ := info_parts info_edges
  have HL0 : Hid ((w3.alloc (.cells #[.slice a' ns.length c', .slice none 0 0] 25)).heap[w3.heap.size]? = some (.cells #[.slice a' ns.length c', .slice none 0 0] 25 (0, 0))) := Lib.hid (World.alloc_heap_new w3 _)
  have HL1 : Hid (Below w3.heap.size w3 (w3.alloc (.cells #[.slice a' ns.length c', .slice none 0 0] 25))) := Lib.hid ((Below.refl _ _).alloc (Nat.le_refl _) _)
  go_wp2_with fail
  go_loopw [4] (fun p wr => ∃ (k : Nat) (v : Value), k ≤ es.length ∧ p = .int .i64 k ∧ Hid (wr.heap[w3.heap.size]? = some (.cells #[.slice a' ns.length c', v] 25 (0, 0))) ∧ Hid (wr.ownsRow w3.heap.size 39 2 v k (edgeCells ((es.take k).map swapE))) ∧ Hid (Below w3.heap.size w3 wr)) (fun p _ => es.length - (intOf p).toNat)
  case atStart => exact ⟨0, .slice none 0 0, by omega, rfl, HL0, Lib.hid (World.ownsRow_nil _ _ _ _), HL1⟩
  case round =>
    clear HL0 HL1
    obtain ⟨k, v, hk, rfl, HBX, HO, HB⟩ := hrel
    have hszr := HB.out.size
    have hg1 : wr.cell? ⟨w.heap.size, 1, none⟩ = some (.slice ao es.length ec) := cell_of_row _ _ 1 _ _ _ ((HB.out.block _ (by omega)).trans HG3.out)
    by_cases hlt : k < es.length
    · have hk0 : (0 : Int) ≤ (k : Int) := by omega
      have hk1 : (k : Int) < (es.length : Int) := by omega
      obtain ⟨b, off, rfl, hb, hc1, hc2⟩ := HE.out k es[k] (by simp [hlt])
      have HT : Hid ((es.take (k + 1)).map swapE = (es.take k).map swapE ++ [swapE es[k]]) := Lib.hid (by rw [List.take_succ_eq_append_getElem hlt, List.map_append]; rfl)
      obtain ⟨⟨x1, x2⟩, hx⟩ : ∃ x, x = es[k] := ⟨_, rfl⟩
      rw [← hx] at hc1 hc2 HT
      clear hx
      simp only at hc1 hc2
      have HBXL := (Array.getElem?_eq_some_iff.1 HBX.out).1
      have HSS : Hid (∀ W, Below w3.heap.size w3 W → W.heap[w3.heap.size]? = some (.cells #[.slice a' ns.length c', v] 25 (0, 0)) → HeldT ⟨w3.heap.size, 1, none⟩ ⟨w.heap.size, 1, none⟩ ⟨b, off + k * 2, none⟩ ⟨b, off + k * 2 + 1, none⟩ v (.slice (some ⟨b, off, none⟩) es.length ec) (.int .i64 x1) (.int .i64 x2) W) := Lib.hid fun W hW hbx => ⟨cell_of_row _ _ 1 _ _ _ hbx, cell_of_row _ _ 1 _ _ _ ((hW.block _ (by omega)).trans HG3.out), ((HW3.out.trans (hW.mono (by omega))).cell (p := ⟨b, off + k * 2, none⟩) hb).trans hc1, ((HW3.out.trans (hW.mono (by omega))).cell (p := ⟨b, off + k * 2 + 1, none⟩) hb).trans hc2⟩
      have HN2 : Hid (∀ W1, ((wr.alloc (.cells #[intC x2, intC x1] 39)).drew).grownBy W1 v.ownBlock → W1.heap[w3.heap.size]? = some (.cells #[.slice a' ns.length c', v] 25 (0, 0)) ∧ Below w3.heap.size w3 W1) := Lib.hid (fun W1 hg => by
        refine ⟨(hg.block _ (by simp; omega) (blk_ne HBX.out HO.out (by decide))).trans ((Below.heap_alloc _ _ _ HBXL).trans HBX.out), ?_⟩
        exact ((HB.out.alloc hszr _).drew).grown hg (by simp; omega) (fun b hb => (HO.out.lt b hb).1))
      clear hc1 hc2
      go_wp2_with fail
      refine wp_region_noPanic ?_
      refine region_plain_split (S := HeldT ⟨w3.heap.size, 1, none⟩ ⟨w.heap.size, 1, none⟩ ⟨b, off + k * 2, none⟩ ⟨b, off + k * 2 + 1, none⟩ v (.slice (some ⟨b, off, none⟩) es.length ec) (.int .i64 x1) (.int .i64 x2)) 17 (by kernel_rfl) (by kernel_rfl) ?_
      simp only [List.take_succ_cons, List.take_zero]
      have hS0 := HSS.out wr.drew HB.out.drew HBX.out
      (refine wpAnyH_take (i := 0) (v := ?_) rfl (by kernel_rfl) (by kernel_rfl) (by kernel_rfl) (fun _ _ _ h => h) (Or.inl ⟨by rfl, ?_⟩) (by assumption) ?_; rotate_left; (· (intro w hSw; obtain ⟨c0, c1, c2, c3⟩ := hSw; go_simp; try with_reducible rfl)); (try simp only [List.getElem_toArray, List.getElem_cons_zero, List.getElem_cons_succ, Act.put, List.setIfInBounds_toArray, List.set_cons_zero, List.set_cons_succ]))
      (refine wpAnyH_take (i := 1) (v := ?_) rfl (by kernel_rfl) (by kernel_rfl) (by kernel_rfl) (fun _ _ _ h => h) (Or.inl ⟨by rfl, ?_⟩) (by assumption) ?_; rotate_left; (· (intro w hSw; obtain ⟨c0, c1, c2, c3⟩ := hSw; go_simp; try with_reducible rfl)); (try simp only [List.getElem_toArray, List.getElem_cons_zero, List.getElem_cons_succ, Act.put, List.setIfInBounds_toArray, List.set_cons_zero, List.set_cons_succ]))
      (refine wpAnyH_take (i := 2) (v := ?_) rfl (by kernel_rfl) (by kernel_rfl) (by kernel_rfl) (fun _ _ _ h => h) (Or.inl ⟨by rfl, ?_⟩) (by assumption) ?_; rotate_left; (· (intro w hSw; obtain ⟨c0, c1, c2, c3⟩ := hSw; go_simp; try with_reducible rfl)); (try simp only [List.getElem_toArray, List.getElem_cons_zero, List.getElem_cons_succ, Act.put, List.setIfInBounds_toArray, List.set_cons_zero, List.set_cons_succ]))
      (refine wpAnyH_take (i := 3) (v := ?_) rfl (by kernel_rfl) (by kernel_rfl) (by kernel_rfl) (fun _ _ _ h => h) (Or.inl ⟨by rfl, ?_⟩) (by assumption) ?_; rotate_left; (· (intro w hSw; obtain ⟨c0, c1, c2, c3⟩ := hSw; go_simp; try with_reducible rfl)); (try simp only [List.getElem_toArray, List.getElem_cons_zero, List.getElem_cons_succ, Act.put, List.setIfInBounds_toArray, List.set_cons_zero, List.set_cons_succ]))
      (refine wpAnyH_take (i := 4) (v := ?_) rfl (by kernel_rfl) (by kernel_rfl) (by kernel_rfl) (fun _ _ _ h => h) (Or.inl ⟨by rfl, ?_⟩) (by assumption) ?_; rotate_left; (· (intro w hSw; obtain ⟨c0, c1, c2, c3⟩ := hSw; go_simp; try with_reducible rfl)); (try simp only [List.getElem_toArray, List.getElem_cons_zero, List.getElem_cons_succ, Act.put, List.setIfInBounds_toArray, List.set_cons_zero, List.set_cons_succ]))
      (refine wpAnyH_take (i := 5) (v := ?_) rfl (by kernel_rfl) (by kernel_rfl) (by kernel_rfl) (fun _ _ _ h => h) (Or.inl ⟨by rfl, ?_⟩) (by assumption) ?_; rotate_left; (· (intro w hSw; obtain ⟨c0, c1, c2, c3⟩ := hSw; go_simp; try with_reducible rfl)); (try simp only [List.getElem_toArray, List.getElem_cons_zero, List.getElem_cons_succ, Act.put, List.setIfInBounds_toArray, List.set_cons_zero, List.set_cons_succ]))
      (refine wpAnyH_take (i := 6) (v := ?_) rfl (by kernel_rfl) (by kernel_rfl) (by kernel_rfl) (fun _ _ _ h => h) (Or.inl ⟨by rfl, ?_⟩) (by assumption) ?_; rotate_left; (· (intro w hSw; obtain ⟨c0, c1, c2, c3⟩ := hSw; go_simp; try with_reducible rfl)); (try simp only [List.getElem_toArray, List.getElem_cons_zero, List.getElem_cons_succ, Act.put, List.setIfInBounds_toArray, List.set_cons_zero, List.set_cons_succ]))
      (refine wpAnyH_take (i := 7) (v := ?_) rfl (by kernel_rfl) (by kernel_rfl) (by kernel_rfl) (fun _ _ _ h => h) (Or.inl ⟨by rfl, ?_⟩) (by assumption) ?_; rotate_left; (· (intro w hSw; obtain ⟨c0, c1, c2, c3⟩ := hSw; go_simp; try with_reducible rfl)); (try simp only [List.getElem_toArray, List.getElem_cons_zero, List.getElem_cons_succ, Act.put, List.setIfInBounds_toArray, List.set_cons_zero, List.set_cons_succ]))
      (refine wpAnyH_take (i := 8) (v := ?_) rfl (by kernel_rfl) (by kernel_rfl) (by kernel_rfl) (fun _ _ _ h => h) (Or.inl ⟨by rfl, ?_⟩) (by assumption) ?_; rotate_left; (· (intro w hSw; obtain ⟨c0, c1, c2, c3⟩ := hSw; go_simp; try with_reducible rfl)); (try simp only [List.getElem_toArray, List.getElem_cons_zero, List.getElem_cons_succ, Act.put, List.setIfInBounds_toArray, List.set_cons_zero, List.set_cons_succ]))
      (refine wpAnyH_take (i := 9) (v := ?_) rfl (by kernel_rfl) (by kernel_rfl) (by kernel_rfl) (fun _ _ _ h => h) (Or.inl ⟨by rfl, ?_⟩) (by assumption) ?_; rotate_left; (· (intro w hSw; obtain ⟨c0, c1, c2, c3⟩ := hSw; go_simp; try with_reducible rfl)); (try simp only [List.getElem_toArray, List.getElem_cons_zero, List.getElem_cons_succ, Act.put, List.setIfInBounds_toArray, List.set_cons_zero, List.set_cons_succ]))
      (refine wpAnyH_take (i := 10) (v := ?_) rfl (by kernel_rfl) (by kernel_rfl) (by kernel_rfl) (fun _ _ _ h => h) (Or.inl ⟨by rfl, ?_⟩) (by assumption) ?_; rotate_left; (· (intro w hSw; obtain ⟨c0, c1, c2, c3⟩ := hSw; go_simp; try with_reducible rfl)); (try simp only [List.getElem_toArray, List.getElem_cons_zero, List.getElem_cons_succ, Act.put, List.setIfInBounds_toArray, List.set_cons_zero, List.set_cons_succ]))
      (refine wpAnyH_take (i := 11) (v := ?_) rfl (by kernel_rfl) (by kernel_rfl) (by kernel_rfl) (fun _ _ _ h => h) (Or.inl ⟨by rfl, ?_⟩) (by assumption) ?_; rotate_left; (· (intro w hSw; obtain ⟨c0, c1, c2, c3⟩ := hSw; go_simp; try with_reducible rfl)); (try simp only [List.getElem_toArray, List.getElem_cons_zero, List.getElem_cons_succ, Act.put, List.setIfInBounds_toArray, List.set_cons_zero, List.set_cons_succ]))
      (refine wpAnyH_take (i := 12) (v := ?_) rfl (by kernel_rfl) (by kernel_rfl) (by kernel_rfl) (fun _ _ _ h => h) (Or.inl ⟨by rfl, ?_⟩) (by assumption) ?_; rotate_left; (· (intro w hSw; obtain ⟨c0, c1, c2, c3⟩ := hSw; go_simp; try with_reducible rfl)); (try simp only [List.getElem_toArray, List.getElem_cons_zero, List.getElem_cons_succ, Act.put, List.setIfInBounds_toArray, List.set_cons_zero, List.set_cons_succ]))
      (refine wpAnyH_take (i := 13) (v := ?_) rfl (by kernel_rfl) (by kernel_rfl) (by kernel_rfl) (fun _ _ _ h => h) (Or.inl ⟨by rfl, ?_⟩) (by assumption) ?_; rotate_left; (· (intro w hSw; obtain ⟨c0, c1, c2, c3⟩ := hSw; go_simp; try with_reducible rfl)); (try simp only [List.getElem_toArray, List.getElem_cons_zero, List.getElem_cons_succ, Act.put, List.setIfInBounds_toArray, List.set_cons_zero, List.set_cons_succ]))
      (refine wpAnyH_take (i := 14) (v := ?_) rfl (by kernel_rfl) (by kernel_rfl) (by kernel_rfl) (fun _ _ _ h => h) (Or.inl ⟨by rfl, ?_⟩) (by assumption) ?_; rotate_left; (· (intro w hSw; obtain ⟨c0, c1, c2, c3⟩ := hSw; go_simp; try with_reducible rfl)); (try simp only [List.getElem_toArray, List.getElem_cons_zero, List.getElem_cons_succ, Act.put, List.setIfInBounds_toArray, List.set_cons_zero, List.set_cons_succ]))
      have hS1 := HSS.out (wr.drew.alloc (.cells #[intC x2, intC x1] 39)) (HB.out.drew.alloc hszr _) ((Below.heap_alloc _ _ _ HBXL).trans HBX.out)
      refine wpAnyH_ready (rs := [15]) (by kernel_rfl) (by simp) (AllReadyH.cons rfl (fun K hK => ?_) AllReadyH.nil)
      go_simp
      refine hK.out _ _ hS1 (fun _ => ?_)
      clear hK K hS0 hS1
      (try simp only [List.getElem_toArray, List.getElem_cons_zero, List.getElem_cons_succ, Act.put, List.setIfInBounds_toArray, List.set_cons_zero, List.set_cons_succ])
      refine wpAnyH_ready (rs := [16]) (by kernel_rfl) (by simp) (AllReadyH.cons rfl (fun K hK => ?_) AllReadyH.nil)
      refine step_append_lies _ (by rfl) _ _ _ (by rfl) w3.heap.size 39 i0 _ 2 16 Try.underlying23 hi0' hz0 hz1 hz2 rfl (by decide) v k _ (by rfl) ((HO.out.alloc _).drew)
            ⟨wr.heap.size, 0, none⟩ 1 1 [intC x2, intC x1] (by rfl) (by rfl) (World.news_of_block (cs := #[intC x2, intC x1]) (t := 39) (fr := (0, 0)) (heap_alloc_new wr _)) (by simp [Value.oneCell'])
            (by decide) (by unfold maxLen; omega) (by omega) (by simp; omega) (wr.heap.size + 1) (by simp) ?_
      intro gg cap w5 hown5 hgrow5 hat5 hlt5
      obtain ⟨hbx5, hbb5⟩ := HN2.out _ hgrow5
      have hS5 := HSS.out w5 hbb5 hbx5
      have HBX5 := Lib.hid hbx5
      have HBB5 := Lib.hid hbb5
      have HOW5 := Lib.hid hown5
      have hfz := frozen_of_row _ _ 1 _ _ hbx5
      have hcx : w5.cell? ⟨w3.heap.size, 1, none⟩ = some v := cell_of_row _ _ 1 _ _ _ hbx5
      clear hbx5 hbb5 hown5 hgrow5 hat5
      refine hK.out _ _ hS5 (fun _ => ?_)
      clear hK K hS5
      (try simp only [List.getElem_toArray, List.getElem_cons_zero, List.getElem_cons_succ, Act.put, List.setIfInBounds_toArray, List.set_cons_zero, List.set_cons_succ])
      refine wpAnyH_done (by kernel_rfl) ?_ _
      show wpList _ _ _ _ _ _
      simp only [List.drop_succ_cons, List.drop_zero]
      go_wp2_with fail
      refine NoPanic.normal ?_
      all_goals go_wp2_with fail
      all_goals
        go_roundw
        case rel =>
          refine ⟨k + 1, .slice (some ⟨gg, 0, none⟩) (k + 1) cap, by omega, by go_num, Lib.hid ?_, Lib.hid ?_, Lib.hid ?_⟩
          · exact heap_setCell_same _ w3.heap.size 1 _ _ _ HBX5.out
          · rw [HT.out, edgeCells_snoc]
            refine HOW5.out.kept (row := some w3.heap.size) ⟨rfl, rfl, rfl, by simp, fun k' _ hk' => heap_setCell_other _ ⟨w3.heap.size, 1, none⟩ k' _ (fun e => hk' (by rw [e]))⟩ ?_
            exact .inr (Ne.symm (blk_ne HBX5.out HOW5.out (by decide)))
          · exact HBB5.out.setCell (Nat.le_refl _) _
        case measure => simp [intOf]; omega
    · have hkk : k = es.length := by omega
      subst hkk
      rw [List.take_length] at HO
      have hc0 : wr.cell? ⟨w3.heap.size, 0, none⟩ = some (.slice a' ns.length c') := cell_of_row _ _ 0 _ _ _ HBX.out
      have hc1 : wr.cell? ⟨w3.heap.size, 1, none⟩ = some v := cell_of_row _ _ 1 _ _ _ HBX.out
      have hrb := (HB.out.block (w.heap.size + 1) (by omega)).trans HR3.out
      have hr0 : wr.cell? ⟨w.heap.size + 1, 0, none⟩ = some (.slice none 0 0) := cell_of_row _ _ 0 _ _ _ hrb
      have hr1 : wr.cell? ⟨w.heap.size + 1, 1, none⟩ = some (.slice none 0 0) := cell_of_row _ _ 1 _ _ _ hrb
      have hf0 := frozen_of_row _ _ 0 _ _ hrb
      have hf1 := frozen_of_row _ _ 1 _ _ hrb
      obtain ⟨va, vn, vc, rfl⟩ : ∃ a n c, v = .slice a n c := by
        rcases HO.out.2 with ⟨rfl, _⟩ | ⟨g, cap, cur, rfl, _⟩
        · exact ⟨_, _, _, rfl⟩
        · exact ⟨_, _, _, rfl⟩
      have HRB := Lib.hid hrb
      clear hrb
      go_wp2_with fail
      have HR9 := set_two (x' := .slice a' ns.length c') (y' := .slice va vn vc) HRB.out
      have z0 : ((wr.setCell ⟨w.heap.size + 1, 0, none⟩ (.slice a' ns.length c')).setCell ⟨w.heap.size + 1, 1, none⟩ (.slice va vn vc)).cell? ⟨w.heap.size + 1, 0, none⟩ = some (.slice a' ns.length c') := cell_of_row _ _ 0 _ _ _ HR9
      have z1 : ((wr.setCell ⟨w.heap.size + 1, 0, none⟩ (.slice a' ns.length c')).setCell ⟨w.heap.size + 1, 1, none⟩ (.slice va vn vc)).cell? ⟨w.heap.size + 1, 1, none⟩ = some (.slice va vn vc) := cell_of_row _ _ 1 _ _ _ HR9
      clear HR9 hc0 hc1 hr0 hr1 hf0 hf1
      refine bodyPost_ret (v := .agg #[.slice a' ns.length c', .slice va vn vc]) (by simp [results, Try.results18, go_sem, z0, z1]) rfl ⟨a', c', .slice va vn vc, rfl, ?_, ?_, ?_⟩
      · have hr4 : RowOf Value.string wr.heap.size (.slice a' ns.length c') ns wr := (HRN.out.below HB.out (Nat.le_refl _)).mono hszr
        rcases hr4 with ⟨h1, h2⟩ | ⟨rb, ro, rc, h1, h2, h3⟩
        · exact .inl ⟨h1, h2⟩
        · refine .inr ⟨rb, ro, rc, h1, by simpa using h2, fun i x hx => ?_⟩
          have h4 := h3 i x hx
          have hne : rb ≠ w.heap.size + 1 := fun e => by
            rw [e, cell_of_row _ _ _ _ _ _ HRB.out] at h4
            match ro + i, h4 with
            | 0, h4 => cases h4
            | 1, h4 => cases h4
            | j + 2, h4 => simp at h4
          rw [World.cell?_setCell_far _ _ _ _ (by exact Ne.symm hne), World.cell?_setCell_far _ _ _ _ (by exact Ne.symm hne)]
          exact h4
      · refine own_edges (B := w3.heap.size) (n := es.length) (own_far HO.out fun k' hk' => ?_)
        have := (HO.out.lt k' hk').1
        rw [Below.heap_setCell _ _ _ _ (by show k' ≠ w.heap.size + 1; omega), Below.heap_setCell _ _ _ _ (by show k' ≠ w.heap.size + 1; omega)]
      · exact ((HW3.out.trans (HB.out.mono (by omega))).setCell (by show w.heap.size ≤ w.heap.size + 1; omega) _).setCell (by show w.heap.size ≤ w.heap.size + 1; omega) _
end Go.Proofs.Ytlcgbkeggmaljaa
