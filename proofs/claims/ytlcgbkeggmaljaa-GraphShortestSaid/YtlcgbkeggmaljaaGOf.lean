/- Contract of the graph's iterator over the successors of a node. -/
import Derived.Test.YtlcgbkeggmaljaaGBase
namespace Go.Proofs.Ytlcgbkeggmaljaa
set_option linter.unusedVariables false
set_option linter.unusedSimpArgs false
open Go Go.RowKit

/-- a successor that is yielded. -/
abbrev OfT (S : List (List Nat)) (node least : Nat) := { k : Nat // k ∈ ofL S node least }
/-- the nodes of some that have been yielded. -/
def valsOf {S : List (List Nat)} {node least : Nat} (l : List (OfT S node least)) : List Nat := l.map (·.1)
theorem valsOf_snoc {S : List (List Nat)} {node least : Nat} (l : List (OfT S node least)) (x : OfT S node least) : valsOf (l ++ [x]) = valsOf l ++ [x.1] := by simp [valsOf]
theorem valsOf_length {S : List (List Nat)} {node least : Nat} (l : List (OfT S node least)) : (valsOf l).length = l.length := by simp [valsOf]
theorem pref_cast {a a' b b' : List Nat} (h : a <+: b) (ha : a = a') (hb : b = b') : a' <+: b' := by subst ha hb; exact h
theorem len_cast {b b' : List Nat} {n : Nat} (h : n < b.length) (hb : b = b') : n < b'.length := by subst hb; exact h
theorem mem_cast {b b' : List Nat} {n : Nat} (h : n ∈ b) (hb : b = b') : n ∈ b' := by subst hb; exact h
def encOf {S : List (List Nat)} {node least : Nat} (x : OfT S node least) : Array Value := #[natC x.1]
theorem filter_take (p : Nat → Bool) (l : List Nat) (k : Nat) (h : k < l.length) : (l.take (k + 1)).filter p = if p l[k] then (l.take k).filter p ++ [l[k]] else (l.take k).filter p := by
  rw [List.take_succ_eq_append_getElem h, List.filter_append]
  by_cases hp : p l[k] <;> simp [hp]
theorem filter_pref (p : Nat → Bool) (l : List Nat) (k : Nat) : (l.take k).filter p <+: l.filter p := by
  obtain ⟨t, ht⟩ := List.take_prefix k l
  refine ⟨t.filter p, ?_⟩
  conv => rhs; rw [← ht]
  rw [List.filter_append]

attribute [local go_sem] Oper.semAt_some

set_option maxRecDepth 100000 in
set_option maxHeartbeats 4000000 in
theorem of1_in (n : Nat) (hn : 1 ≤ n) (l Bs B0 : Nat) (v : Value) (S : List (List Nat)) (node least : Nat) (J Jx : List (OfT S node least) → World → Prop) (W0 : World) (hnode : node < S.length) (hS63 : S.length ≤ 1000000000) (hl63 : (S.getD node []).length ≤ 1000000000)
    (hJ : AbidesFrom W0.heap.size J)
    (hY : ∀ pre x W, J pre W → pre.length < (ofL S node least).length → YieldAt Fence.wide (n - 1) Try.prog l (encOf x) W fun e W' =>
      (e = .returned (.bool true) ∧ J (pre ++ [x]) W' ∧ KpB (Bs + 1 + 1) B0 W W') ∨ (e = .returned (.bool false) ∧ Jx (pre ++ [x]) W'))
    (h0b : Boxed W0 Bs 53 v) (h1b : Boxed W0 (Bs + 1) 3 (natC node)) (h2b : Boxed W0 (Bs + 1 + 1) 3 (natC least)) (hR : RowsOf B0 v S W0) (h0 : J [] W0) :
    CallsIn Fence.wide n Try.prog 64 #[.func (.yield l) #[] #[], .pointer (some ⟨Bs, 0, none⟩), .pointer (some ⟨Bs + 1, 0, none⟩), .pointer (some ⟨Bs + 1 + 1, 0, none⟩)] W0 fun e W' => (∃ v, e = .returned v) ∧
      ((∃ ys : List (OfT S node least), valsOf ys = ofL S node least ∧ J ys W') ∨ (∃ pre : List (OfT S node least), valsOf pre <+: ofL S node least ∧ Jx pre W')) := by
  rcases hR with ⟨rfl, _⟩ | ⟨b, off, cap, rfl, hbB, hR⟩
  · simp at hnode
  obtain ⟨r, hr, hrow⟩ := hR node (S[node]) (by simp [hnode])
  have hg : S.getD node [] = S[node] := by simp [hnode]
  generalize S[node] = L at *
  have hc0 := h0b.cell
  have hc1 := h1b.cell
  have hc2 := h2b.cell
  have hlt2 := h2b.lt
  have hx0 : (0 : Int) ≤ (node : Int) := Int.natCast_nonneg _
  have hx1 : (node : Int) < (S.length : Int) := by omega
  have HB2 := Lib.hid h2b
  have HY := Lib.hid hY
  have HJ := Lib.hid hJ
  have HO : Hid (ofL S node least = L.filter (fun k => decide (least ≤ k))) := Lib.hid (by unfold ofL; rw [hg])
  have HG := Lib.hid hg
  clear hY hJ h2b hR hg
  refine callsIn_of_wp Try.func64 rfl trivial ?_ rfl
  simp only [Try.ntmps64, List.size_toArray, List.length_cons, List.length_nil, Nat.reduceAdd, Nat.reduceSub, Array.replicate_succ, Array.replicate_zero, List.push_toArray, List.append_toArray, List.nil_append, List.cons_append]
  rcases hrow with ⟨rfl, a', c', rfl⟩ | ⟨b', off', cap', rfl, hbB', hrow⟩
  · gi_wp2
    gi_loopw [12] (fun p wr => p = .int .i64 0 ∧ Hid (J [] wr)) (fun _ _ => 0)
    case atStart => exact ⟨rfl, Lib.hid h0⟩
    case round =>
      clear h0
      obtain ⟨rfl, HJ0⟩ := hrel
      gi_wp2
      go_end0
      exact ⟨⟨_, rfl⟩, .inl ⟨[], Eq.trans rfl HO.out.symm, HJ0.out⟩⟩
  · rw [HG.out] at hl63
    have HROW := Lib.hid hrow
    clear hrow
    gi_wp2
    gi_loopw [12] (fun p wr => ∃ (k : Nat) (ys : List (OfT S node least)), k ≤ L.length ∧ p = .int .i64 k ∧ Hid (valsOf ys = (L.take k).filter (fun k => decide (least ≤ k))) ∧ Hid (J ys wr) ∧ Hid (Boxed wr (Bs + 1 + 1) 3 (natC least)) ∧ Hid (Below B0 W0 wr)) (fun p _ => L.length - (intOf p).toNat)
    case atStart => exact ⟨0, [], by omega, rfl, Lib.hid rfl, Lib.hid h0, HB2, Lib.hid (Below.refl _ _)⟩
    case round =>
      clear h0 HB2 hc0 hc1 hc2
      obtain ⟨k, ys, hk, rfl, HYS, HJy, HB2, HBW⟩ := hrel
      by_cases hlt : k < L.length
      · have hcl := (HBW.out.cell (p := ⟨b', off' + k, none⟩) (by simp; omega)).trans (HROW.out k L[k] (by simp [hlt]))
        have hc2 := HB2.out.cell
        have HFT := Lib.hid (filter_take (fun k => decide (least ≤ k)) L k hlt)
        have HMEM : Hid (L[k] ∈ L) := Lib.hid (List.getElem_mem hlt)
        generalize L[k] = x at *
        by_cases hge : least ≤ x
        · have hge2 : (least : Int) ≤ (x : Int) := by omega
          have HX : Hid (x ∈ ofL S node least) := Lib.hid (mem_cast (List.mem_filter.2 ⟨HMEM.out, by simpa using hge⟩) HO.out.symm)
          have HL : Hid (ys.length < (ofL S node least).length) := Lib.hid (len_cast (by
            have e := congrArg List.length HYS.out
            rw [valsOf_length] at e
            have e2 := (filter_pref (fun k => decide (least ≤ k)) L (k + 1)).length_le
            rw [HFT.out, if_pos (by simpa using hge), List.length_append] at e2
            simp at e e2 ⊢
            omega) HO.out.symm)
          obtain ⟨fn, tmps, assign, body, hy, hR⟩ := HY.out ys ⟨x, HX.out⟩ wr HJy.out HL.out
          unfold encOf at hy
          dsimp only at hy
          gi_wp2_with fail
          refine hR.mono ?_
          rintro e W' (⟨rfl, hJ', hk'⟩ | ⟨rfl, hJx'⟩)
          · have HB3 : Hid (Boxed W' (Bs + 1 + 1) 3 (natC least)) := Lib.hid (hk'.1.trans HB2.out)
            have HBW3 : Hid (Below B0 W0 W') := Lib.hid (HBW.out.trans hk'.2)
            have HJ3 := Lib.hid hJ'
            clear hJ' hk' hR hy
            gi_wp2_with fail
            go_roundw
            case rel => exact ⟨k + 1, ys ++ [⟨x, HX.out⟩], by omega, by go_num, Lib.hid (by rw [HFT.out, if_pos (by simpa using hge), valsOf_snoc, HYS.out]), HJ3, HB3, HBW3⟩
            case measure => simp [intOf]; omega
          · have HJ3 := Lib.hid hJx'
            clear hJx' hR hy
            gi_wp2_with fail
            refine bodyPost_ret (results_none rfl _ _ _) rfl ?_
            refine ⟨⟨_, rfl⟩, .inr ⟨ys ++ [⟨x, HX.out⟩], ?_, HJ3.out⟩⟩
            have e2 := filter_pref (fun k => decide (least ≤ k)) L (k + 1)
            rw [HFT.out, if_pos (by simpa using hge), ← HYS.out] at e2
            exact pref_cast e2 (valsOf_snoc ys ⟨x, HX.out⟩).symm HO.out.symm
        · have hge2 : ¬ (least : Int) ≤ (x : Int) := by omega
          gi_wp2_with fail
          refine ⟨fun _ h => (by cases h), ?_⟩
          gi_wp2_with fail
          go_roundw
          case rel => exact ⟨k + 1, ys, by omega, by go_num, Lib.hid (by rw [HFT.out, if_neg (by simpa using hge)]; exact HYS.out), HJy, HB2, HBW⟩
          case measure => simp [intOf]; omega
      · have hkk : k = L.length := by omega
        subst hkk
        gi_wp2
        go_end0
        refine ⟨⟨_, rfl⟩, .inl ⟨ys, ?_, HJy.out⟩⟩
        have := HYS.out
        rw [List.take_length] at this
        exact this.trans HO.out.symm

theorem of_stops (n : Nat) (hn : 1 ≤ n) (Bs B0 : Nat) (v : Value) (S : List (List Nat)) (node least : Nat) (hnode : node < S.length) (hS63 : S.length ≤ 1000000000) (hl63 : (S.getD node []).length ≤ 1000000000) (w : World)
    (h0 : Boxed w Bs 53 v) (h1 : Boxed w (Bs + 1) 3 (natC node)) (h2 : Boxed w (Bs + 1 + 1) 3 (natC least)) (hR : RowsOf B0 v S w) (hB0 : B0 ≤ w.heap.size) :
    SeqStopsK Fence.wide n Try.prog 64 #[.pointer (some ⟨Bs, 0, none⟩), .pointer (some ⟨Bs + 1, 0, none⟩), .pointer (some ⟨Bs + 1 + 1, 0, none⟩)] (encOf (S := S) (node := node) (least := least)) (KpB (Bs + 1 + 1) B0)
      (fun ys => valsOf ys = ofL S node least) (fun pre => valsOf pre <+: ofL S node least) (ofL S node least).length w := fun l J Jx W hW hJ _ hY hj =>
  of1_in n hn l Bs B0 v S node least J Jx W hnode hS63 hl63 hJ hY ((hW.block _ h0.lt).trans h0) ((hW.block _ h1.lt).trans h1) ((hW.block _ h2.lt).trans h2) (hR.below hW hB0) hj
end Go.Proofs.Ytlcgbkeggmaljaa
