/- Contract of the reference's Components. -/
import Derived.Test.YtlcgbkeggmaljaaGPlainRComp
namespace Go.Proofs.Ytlcgbkeggmaljaa
set_option linter.unusedVariables false
set_option linter.unusedSimpArgs false
open Go Go.RowKit

/-- a slice of slices in rows of the call's own. -/
structure Rowed (B : Nat) (v : Value) (vs : List Value) (L : List (List Nat)) (W : World) : Prop where
  top : W.ownsRow B 26 1 v L.length vs
  row : ∀ (i : Nat) (u : Value) (l : List Nat), vs[i]? = some u → L[i]? = some l → W.ownsRow B 3 1 u l.length (l.map natC)
theorem Rowed.far {B : Nat} {v : Value} {vs : List Value} {L : List (List Nat)} {W W' : World} (h : Rowed B v vs L W) (hk : ∀ b, B ≤ b → b < W.heap.size → W'.heap[b]? = W.heap[b]?) : Rowed B v vs L W' :=
  ⟨own_far h.top (fun j hj => hk j (h.top.lt j hj).1 (h.top.lt j hj).2), fun i u l hu hl => own_far (h.row i u l hu hl) (fun j hj => hk j ((h.row i u l hu hl).lt j hj).1 ((h.row i u l hu hl).lt j hj).2)⟩
theorem Rowed.push {B : Nat} {v v' u : Value} {vs : List Value} {L : List (List Nat)} {l : List Nat} {W W1 : World} (h : Rowed B v vs L W) (hu : W.ownsRow B 3 1 u l.length (l.map natC)) (hg : W.grownBy W1 v.ownBlock) (ho : W1.ownsRow B 26 1 v' (L.length + 1) (vs ++ [u])) : Rowed B v' (vs ++ [u]) (L ++ [l]) W1 := by
  have hvl : vs.length = L.length := by have := h.top.1; omega
  refine ⟨by rw [List.length_append, List.length_singleton]; exact ho, fun i x m hx hm => ?_⟩
  rw [List.getElem?_append] at hx hm
  by_cases hi : i < vs.length
  · rw [if_pos hi] at hx
    rw [if_pos (by omega)] at hm
    have hr := h.row i x m hx hm
    exact hr.kept hg (own_ne hr h.top (by decide))
  · rw [if_neg hi] at hx
    rw [if_neg (by omega)] at hm
    have e : i - vs.length = 0 := by have := (List.getElem?_eq_some_iff.1 hx).1; simp at this; omega
    have e2 : i - L.length = 0 := by omega
    rw [e] at hx
    rw [e2] at hm
    cases hx
    cases hm
    exact hu.kept hg (own_ne hu h.top (by decide))
theorem Rowed.rows {B : Nat} {v : Value} {vs : List Value} {L : List (List Nat)} {W : World} (h : Rowed B v vs L W) : RowsOf W.heap.size v L W := by
  have hvl : vs.length = L.length := by have := h.top.1; omega
  rcases h.top.2 with ⟨rfl, h0⟩ | ⟨g, cap, cur, rfl, hb, hg, hc, _⟩
  · exact .inl ⟨List.length_eq_zero_iff.1 h0, _, _, rfl⟩
  · refine .inr ⟨g, 0, cap, rfl, (Array.getElem?_eq_some_iff.1 hg).1, fun i l hl => ?_⟩
    have hi : i < vs.length := by have := (List.getElem?_eq_some_iff.1 hl).1; omega
    refine ⟨vs[i], ?_, (own_row (h.row i vs[i] l (by simp [hi]) hl)).2⟩
    rw [Nat.zero_add]
    exact own_cell h.top i _ (by simp [hi])
/-- one edge of the test whether a group can come next. -/
def rdyP (N : Nat) (es : List (Int × Int)) (fl : List Bool) (i : Nat) (x : Int × Int) : Bool := decide (grpN N es x.1.toNat ≠ i) || (decide (grpN N es x.2.toNat = i) || bD fl (grpN N es x.2.toNat))
theorem rdyN_eq (N : Nat) (es : List (Int × Int)) (fl : List Bool) (i : Nat) : rdyN N es fl i = ((grpN N es i == i && !bD fl i) && es.all (rdyP N es fl i)) := rfl
/-- a search from above. -/
def nxtK (N : Nat) (es : List (Int × Int)) (fl : List Bool) (j : Nat) : Option Nat := (List.range' j (N - j)).find? (rdyN N es fl)
theorem nxtK_top (N : Nat) (es : List (Int × Int)) (fl : List Bool) : nxtK N es fl N = none := by unfold nxtK; rw [Nat.sub_self]; rfl
theorem nxtK_zero (N : Nat) (es : List (Int × Int)) (fl : List Bool) : nxtK N es fl 0 = (List.range N).find? (rdyN N es fl) := by unfold nxtK; rw [Nat.sub_zero, ← List.range_eq_range']
theorem nxtK_step {N : Nat} {es : List (Int × Int)} {fl : List Bool} {j : Nat} (h : j < N) : nxtK N es fl j = if rdyN N es fl j = true then some j else nxtK N es fl (j + 1) := by
  unfold nxtK
  rw [show N - j = (N - (j + 1)) + 1 by omega, List.range'_succ, List.find?_cons]
  cases rdyN N es fl j <;> rfl
def nxtV : Option Nat → Value
  | none => .int .i64 (-1)
  | some n => .int .i64 (n : Int)
def lenOf : Value → Nat
  | .slice _ n _ => n
  | _ => 0
theorem grpN_lt {N : Nat} {es : List (Int × Int)} {i : Nat} (hi : i < N) : grpN N es i < N := by rw [← grpK_zero]; exact grpK_lt hi 0

set_option maxRecDepth 100000 in
set_option maxHeartbeats 8000000 in
theorem rComponents_yes (a : Option Addr) (ns : List ByteArray) (N c : Nat) (ev : Value) (es : List (Int × Int)) (w : World) (hNN : N = ns.length) (hE : EdgesOf w.heap.size ev es w) (hR : RowOf Value.string w.heap.size (.slice a N c) ns w) (hval : validG N es = true) :
    Calls Try.prog 29 #[.agg #[.slice a N c, ev]] w fun e w' => ∃ v, e = .returned v ∧ RowsOf w'.heap.size v (compsG N es) w' ∧ Below w.heap.size w w' := by
  obtain ⟨hNn, hNe⟩ := validG_n hval
  have hb1 : Below w.heap.size w (w.alloc (.cells #[.slice a N c, ev] 25)) := bel_alloc _ _
  have hv := rValid_any a N c ev es _ (by omega) (by omega) ((hE.below hb1 (Nat.le_refl _)).mono hb1.size)
  rw [hval] at hv
  have hE0 := hE
  obtain ⟨ao, ec, rfl, hE2⟩ := hE
  have HGOLD := Lib.hid (World.alloc_heap_new w (.cells #[.slice a N c, .slice ao es.length ec] 25))
  have HVC := Lib.hid hv
  have HV := Lib.hid hval
  have HB1 := Lib.hid hb1
  have HE := Lib.hid hE2
  have HE0 := Lib.hid hE0
  have HR := Lib.hid hR
  have HNN := Lib.hid hNN
  obtain ⟨j0, hj0', hy0, hy1, hy2⟩ := info_parts info_ints
  obtain ⟨i1, hi1', hz0, hz1, hz2⟩ := info_parts info_rows
  obtain ⟨M, hM⟩ : ∃ M, M = (nodesG N es).length := ⟨_, rfl⟩
  have hMN : M ≤ N := by rw [hM]; exact (nodesG_len (numbered N es)).1
  have HMM := Lib.hid hM
  clear hv hb1 hE2 hE0 hR hval hM hNN
  go_enter Try.func29, Try.ntmps29
  go_wp2_with fail
  refine HVC.out.mono ?_
  rintro e w1 ⟨rfl, hb⟩
  have hs1 := hb.size
  simp only [World.size_alloc] at hs1
  have HG1 := Lib.hid ((hb.block w.heap.size (by simp)).trans HGOLD.out)
  have HW1 := Lib.hid (HB1.out.trans (hb.mono (by simp)))
  have hg0 : w1.cell? ⟨w.heap.size, 0, none⟩ = some (.slice a N c) := cell_of_row _ _ 0 _ _ _ HG1.out
  have hg1 : w1.cell? ⟨w.heap.size, 1, none⟩ = some (.slice ao es.length ec) := cell_of_row _ _ 1 _ _ _ HG1.out
  have HGC := Lib.hid (groups_any a ns N c (.slice ao es.length ec) es w1 HNN.out ((HE0.out.below HW1.out (Nat.le_refl _)).mono (by omega)) ((HR.out.below HW1.out (Nat.le_refl _)).mono (by omega)) HV.out)
  clear hb HVC HB1 HGOLD
  go_wp2_with fail
  refine HGC.out.mono ?_
  rintro e w2 ⟨gv, rfl, hgo, hb2⟩
  have hs2 := hb2.size
  have HG2 := Lib.hid ((hb2.block w.heap.size (by omega)).trans HG1.out)
  have HW2 := Lib.hid (HW1.out.trans (hb2.mono (by omega)))
  obtain ⟨ga, gc, rfl⟩ := own_any hgo
  have hgr : RowOf natC w2.heap.size (.slice ga N gc) ((List.range N).map (grpN N es)) w2 := by
    have := (own_row (l := (List.range N).map (grpN N es)) hgo).2
    exact this
  have HGR : Hid (∀ i, i < N → ∃ b off, ga = some ⟨b, off, none⟩ ∧ b < w2.heap.size ∧ w2.cell? ⟨b, off + i, none⟩ = some (.int .i64 (grpN N es i : Int))) := Lib.hid (fun i hi => by
    rcases hgr with ⟨h, _⟩ | ⟨b, off, cap, e, hb, h⟩
    · have := congrArg List.length h; simp at this; omega
    · obtain ⟨e1, _, _⟩ := Value.slice.inj e
      exact ⟨b, off, e1, hb, h i _ (by rw [List.getElem?_map, List.getElem?_range hi]; rfl)⟩)
  have hg0 : w2.cell? ⟨w.heap.size, 0, none⟩ = some (.slice a N c) := cell_of_row _ _ 0 _ _ _ HG2.out
  have hmk := make_bools N (by omega) w2
  obtain ⟨W4, hW4⟩ : ∃ W, W = (w2.alloc (.cells (Array.replicate N (.bool false)) 4)).alloc (.cells #[] 26) := ⟨_, rfl⟩
  have hs4 : W4.heap.size = w2.heap.size + 1 + 1 := by rw [hW4]; simp
  have HB4 : Hid (Below w2.heap.size w2 W4) := Lib.hid (by rw [hW4]; exact ((Below.refl _ _).alloc (Nat.le_refl _) _).alloc (by simp) _)
  have HF4 : Hid (Flags W4 w2.heap.size (List.replicate N false)) := Lib.hid (by
    rw [hW4]
    exact (Below.heap_alloc _ _ _ (by simp)).trans ((World.alloc_heap_new w2 _).trans (by simp)))
  have HO4 : Hid (Rowed (w2.heap.size + 1) (.slice (some ⟨w2.heap.size + 1, 0, none⟩) 0 0) [] [] W4) := Lib.hid ⟨by
    rw [hW4]
    have := own_made (w2.heap.size + 1) 26 0 [] (w2.alloc (.cells (Array.replicate N (.bool false)) 4)) (by simp) (by decide) rfl
    rw [World.size_alloc] at this
    exact this, fun i u l hu => by simp at hu⟩
  clear hb2 hgo hgr HGC hg1
  go_wp2_with fail
  rw [← hW4]
  clear hW4 hmk hg0
  go_loopw [5] (fun o wr => ∃ (k : Nat) (vs : List Value), k ≤ M ∧ lenOf o = k ∧ Hid (Rowed (w2.heap.size + 1) o vs (rcRunN N es k).2 wr) ∧ Hid ((rcRunN N es k).2.length = k) ∧ Hid (Flags wr w2.heap.size (rcRunN N es k).1) ∧ Hid (Below w2.heap.size w2 wr)) (fun o _ => M - lenOf o)
  case atStart => exact ⟨0, [], by omega, rfl, HO4, Lib.hid rfl, HF4, HB4⟩
  case round =>
    clear HO4 HF4 HB4
    obtain ⟨k0, vs, hk0, hlo, HO, HLN, HF, HBO⟩ := hrel
    have htop := HO.out.top
    rw [HLN.out] at htop
    obtain ⟨oa, oc, hov⟩ := own_any htop
    subst hov
    clear hlo htop
    obtain ⟨Wo, hWo⟩ : ∃ W : World, W = wr := ⟨_, rfl⟩
    subst hWo
    have hso := HBO.out.size
    have hgl : w2.heap.size < Wo.heap.size := (Array.getElem?_eq_some_iff.1 HF.out).1
    have hok := rcRunN_ok HV.out k0 (by rw [← HMM.out]; exact hk0)
    obtain ⟨fl, hfl⟩ : ∃ fl, fl = (rcRunN N es k0).1 := ⟨_, rfl⟩
    have hfll : fl.length = N := by rw [hfl]; exact hok.1
    have HFL := Lib.hid hfl
    rw [← hfl] at HF
    clear hok hfl
    have hg0 : Wo.cell? ⟨w.heap.size, 0, none⟩ = some (.slice a N c) := cell_of_row _ _ 0 _ _ _ ((HBO.out.block _ (by omega)).trans HG2.out)
    have hwN : IntKind.i64.wrap ((N : Int) - 1) = (N : Int) - 1 := IntWalk.i64_in _ (by omega)
    go_wp2_with fail
    clear hg0
    go_loopw [6, 7] (fun s q wr => ∃ j : Nat, j ≤ N ∧ q = .int .i64 ((j : Int) - 1) ∧ s = nxtV (nxtK N es fl j) ∧ Hid (Below Wo.heap.size Wo wr)) (fun _ q _ => (intOf q + 1).toNat)
    case atStart => exact ⟨N, Nat.le_refl _, rfl, by rw [nxtK_top]; rfl, Lib.hid (Below.refl _ _)⟩
    case round =>
      obtain ⟨j, hj, hq, rfl, HBJ⟩ := hrel
      have hsj := HBJ.out.size
      cases j with
      | zero =>
        rw [show ((0 : Nat) : Int) - 1 = -1 from by decide] at hq
        subst hq
        have HNF := Lib.hid (nxtK_zero N es fl)
        cases hf : nxtK N es fl 0 with
        | none =>
          have HKM : Hid (k0 = M) := Lib.hid (by
            refine Classical.byContradiction fun hne => ?_
            have hlt : k0 + 1 ≤ M := by omega
            have h1 := (rcRunN_ok HV.out (k0 + 1) (by rw [← HMM.out]; exact hlt)).2.2.1
            have h2 : (rcRunN N es (k0 + 1)).2 = (rcRunN N es k0).2 := by
              show (rcStepN N es (rcRunN N es k0)).2 = _
              unfold rcStepN
              rw [← HFL.out, ← HNF.out, hf]
            rw [h2] at h1
            have h3 := congrArg List.length h1
            rw [HLN.out, List.length_map, List.length_take, listF_length, (condG_len N es).1, ← HMM.out] at h3
            omega)
          have HOE : Hid ((rcRunN N es k0).2 = compsG N es) := Lib.hid (by rw [HKM.out, HMM.out]; exact (rcRunN_end HV.out).1)
          have HOW := Lib.hid (HO.out.far (W' := wr) (fun b _ hb => HBJ.out.block b hb))
          unfold nxtV
          clear hf HNF
          go_wp2_with fail
          go_ret
          exact ⟨_, rfl, by rw [← HOE.out]; exact HOW.out.rows, HW2.out.trans ((HBO.out.trans (HBJ.out.mono hso)).mono (by omega))⟩
        | some n =>
          have hnN : n < N := by rw [HNF.out] at hf; exact List.mem_range.1 (List.mem_of_find?_eq_some hf)
          have hrd : rdyN N es fl n = true := by rw [HNF.out] at hf; exact List.find?_some hf
          have HKM : Hid (k0 + 1 ≤ M) := Lib.hid (by
            refine Classical.byContradiction fun hne => ?_
            have hk : k0 = M := by omega
            have h1 := (rcRunN_end HV.out).2 n hnN
            rw [← HMM.out, ← hk, ← HFL.out, hrd] at h1
            cases h1)
          have HNX : Hid (rcRunN N es (k0 + 1) = (fl.set n true, (rcRunN N es k0).2 ++ [(List.range N).filter fun i => grpN N es i == n])) := Lib.hid (by
            show rcStepN N es (rcRunN N es k0) = _
            unfold rcStepN
            rw [← HFL.out, ← HNF.out, hf])
          have hn0 : (0 : Int) ≤ (n : Int) := by omega
          have hn1 : (n : Int) < (N : Int) := by omega
          have HFW : Hid (Flags wr w2.heap.size fl) := Lib.hid ((HBJ.out.block _ hgl).trans HF.out)
          have hbd : fl[n]? = some (bD fl n) := by
            unfold bD
            rw [List.getD_eq_getElem?_getD, List.getElem?_eq_getElem (by omega)]
            rfl
          have hcn := HFW.out.cell n _ hbd
          have hfz := frozen_of_row _ _ n _ _ HFW.out
          have HOW := Lib.hid (HO.out.far (W' := wr.setCell ⟨w2.heap.size, n, none⟩ (.bool true)) (fun b hb1 hb => (heap_setCell_other _ _ _ _ (fun e => by have e : b = w2.heap.size := e; omega)).trans (HBJ.out.block b hb)))
          have HFS := Lib.hid (HFW.out.set n true)
          have HBS : Hid (Below w2.heap.size w2 (wr.setCell ⟨w2.heap.size, n, none⟩ (.bool true))) := Lib.hid ((HBO.out.trans (HBJ.out.mono hso)).setCell (by exact Nat.le_refl _) _)
          obtain ⟨W6, hW6⟩ : ∃ W, W = wr.setCell ⟨w2.heap.size, n, none⟩ (.bool true) := ⟨_, rfl⟩
          have hs6 : W6.heap.size = wr.heap.size := by rw [hW6]; exact World.size_setCell _ _ _
          rw [← hW6] at HOW HFS HBS
          have HC0 : Hid ((W6.alloc (.cells #[] 3)).ownsRow W6.heap.size 3 1 (.slice (some ⟨W6.heap.size, 0, none⟩) 0 0) 0 []) := Lib.hid (own_made W6.heap.size 3 0 [] W6 (Nat.le_refl _) (by decide) rfl)
          have HCB : Hid (Below W6.heap.size W6 (W6.alloc (.cells #[] 3))) := Lib.hid (bel_alloc _ _)
          unfold nxtV
          clear hf HNF hrd hbd
          go_wp2_with fail
          rw [← hW6]
          rw [← hs6]
          have hs6a : W6.heap.size ≤ wr.heap.size := by omega
          have hs6b : wr.heap.size ≤ W6.heap.size := by omega
          clear hcn hfz hW6 hs6
          go_loopw [11, 12] (fun cv q wr => ∃ m : Nat, m ≤ N ∧ q = .int .i64 m ∧ Hid (wr.ownsRow W6.heap.size 3 1 cv ((List.range m).filter fun i => grpN N es i == n).length (((List.range m).filter fun i => grpN N es i == n).map natC)) ∧ Hid (Below W6.heap.size W6 wr)) (fun _ q _ => N - (intOf q).toNat)
          case atStart => exact ⟨0, by omega, rfl, HC0, HCB⟩
          case round =>
            clear HC0 HCB
            obtain ⟨m, hm, rfl, HC, HBC⟩ := hrel
            have hsc := HBC.out.size
            obtain ⟨ca, cc, rfl⟩ := own_any HC.out
            have hg0 : wr.cell? ⟨w.heap.size, 0, none⟩ = some (.slice a N c) := cell_of_row _ _ 0 _ _ _ ((HBC.out.block _ (by omega)).trans ((HBS.out.block _ (by omega)).trans HG2.out))
            have hfl2 : ((List.range m).filter fun i => grpN N es i == n).length ≤ m := by
              have := List.length_filter_le (fun i => grpN N es i == n) (List.range m)
              rwa [List.length_range] at this
            by_cases hlt2 : m < N
            case pos =>
              have hm0 : (0 : Int) ≤ (m : Int) := by omega
              have hm1 : (m : Int) < (N : Int) := by omega
              obtain ⟨gb, go, rfl, hgb, hgk⟩ := HGR.out m hlt2
              have hgk := ((HBS.out.trans (HBC.out.mono (by omega))).cell (p := ⟨gb, go + m, none⟩) hgb).trans hgk
              have HT : Hid ((List.range (m + 1)).filter (fun i => grpN N es i == n) = (List.range m).filter (fun i => grpN N es i == n) ++ if (grpN N es m == n) = true then [m] else []) := Lib.hid (by rw [List.range_succ, List.filter_append]; congr 1; rw [List.filter_cons]; rfl)
              obtain ⟨gm, hgm⟩ : ∃ gm, gm = grpN N es m := ⟨_, rfl⟩
              rw [← hgm] at hgk HT
              clear hgm
              by_cases hq2 : gm = n
              case pos =>
                rw [if_pos (by simpa using hq2)] at HT
                have r1 : (gm : Int) = (n : Int) := by omega
                have r2 : decide ((gm : Int) = (n : Int)) = true := decide_eq_true r1
                have r3 : ((gm : Int) == (n : Int)) = true := by simpa using r1
                have r4 : (gm == n) = true := by simpa using hq2
                clear hq2 r1
                go_wp2_with (at_builtin; refine wpList_append_own _ rfl _ _ 26 rfl W6.heap.size 3 j0 (.int .i64 0) 1 8 Try.underlying26 hj0' hy0 hy1 hy2 rfl (by decide) _ _ _ (by rfl) (HC.out.alloc _) ⟨wr.heap.size, 0, none⟩ 1 1 [natC m] (by rfl) (by rfl) (World.news_of_block (cs := #[natC m]) (t := 3) (fr := (0, 0)) (heap_alloc_new wr _)) (by simp [Value.oneCell']) (by unfold maxLen; omega) (by omega) (by simp; omega) ?_; intro v' w5 hown' hgrow _)
                go_roundw
                case rel => exact ⟨m + 1, by omega, by go_num, Lib.hid (by rw [HT.out, List.length_append, List.map_append]; exact hown'), Lib.hid ((HBC.out.alloc hsc _).grown hgrow (by simp; omega) (fun b hb => (HC.out.lt b hb).1))⟩
                case measure => simp [intOf]; omega
              case neg =>
                have r1 : ¬ (gm : Int) = (n : Int) := by omega
                have r2 : decide ((gm : Int) = (n : Int)) = false := decide_eq_false r1
                have r3 : ((gm : Int) == (n : Int)) = false := by simpa using r1
                have r4 : (gm == n) = false := by simpa using hq2
                rw [if_neg (by simpa using hq2), List.append_nil] at HT
                go_wp2_with fail
                go_roundw
                case rel => exact ⟨m + 1, by omega, by go_num, Lib.hid (by rw [HT.out]; exact HC.out), HBC⟩
                case measure => simp [intOf]; omega
            case neg =>
              have hmN : m = N := by omega
              have hce := HC.out
              rw [hmN] at hce
              have HCW : Hid (wr.ownsRow (w2.heap.size + 1) 3 1 (.slice ca ((List.range m).filter fun i => grpN N es i == n).length cc) ((List.range N).filter fun i => grpN N es i == n).length (((List.range N).filter fun i => grpN N es i == n).map natC)) := Lib.hid (by
                rw [hmN]
                exact ⟨hce.1, hce.2.imp id fun ⟨g, cap, cur, h1, h2, h3⟩ => ⟨g, cap, cur, h1, by omega, h3⟩⟩)
              have HOV := Lib.hid (HOW.out.far (W' := wr) (fun b _ hb => HBC.out.block b hb))
              have htv := HOV.out.top
              rw [HLN.out] at htv
              have HTV := Lib.hid htv
              have HFV : Hid (Flags wr w2.heap.size (fl.set n true)) := Lib.hid ((HBC.out.block _ (by omega)).trans HFS.out)
              have HBV : Hid (Below w2.heap.size w2 wr) := Lib.hid (HBS.out.trans (HBC.out.mono (by omega)))
              have hVg : w2.heap.size < wr.heap.size := by omega
              have hk0N : k0 ≤ 1024 := by omega
              generalize ((List.range m).filter fun i => grpN N es i == n).length = cl at *
              clear hce htv
              go_wp2_with (at_builtin; refine wpList_append_own _ rfl _ _ 43 rfl (w2.heap.size + 1) 26 i1 (.slice none 0 0) 1 24 Try.underlying43 hi1' hz0 hz1 hz2 rfl (by decide) _ k0 vs (by rfl) (HTV.out.alloc _) ⟨wr.heap.size, 0, none⟩ 1 1 [.slice ca cl cc] (by rfl) (by rfl) (World.news_of_block (cs := #[.slice ca cl cc]) (t := 26) (fr := (0, 0)) (heap_alloc_new wr _)) (by simp [Value.oneCell']) (by unfold maxLen; omega) (by omega) (by simp; omega) ?_; intro v' w5 hown' hgrow _; have HOW5 := Lib.hid hown'; have HGR5 := Lib.hid hgrow; clear hown' hgrow; obtain ⟨a5, c5, rfl⟩ := own_any HOW5.out)
              go_roundw
              case rel =>
                refine ⟨k0 + 1, vs ++ [.slice ca cl cc], HKM.out, rfl, Lib.hid ?_, Lib.hid (by rw [HNX.out, List.length_append, HLN.out]; rfl), Lib.hid ?_, Lib.hid ?_⟩
                · rw [HNX.out]
                  have hal := HOV.out.far (W' := wr.alloc (.cells #[.slice ca cl cc] 26)) (fun b _ hb => Below.heap_alloc _ _ _ hb)
                  exact hal.push (HCW.out.alloc _) HGR5.out (by rw [HLN.out]; exact HOW5.out)
                · rw [HNX.out]
                  exact (HGR5.out.block _ (by rw [World.size_alloc]; omega) (fun e => by have := (HTV.out.lt _ e.symm).1; omega)).trans ((Below.heap_alloc _ _ _ hVg).trans HFV.out)
                · exact (HBV.out.alloc (by omega) _).grown HGR5.out (by simp; omega) (fun b hb => by have := (HTV.out.lt b hb).1; omega)
              case measure => (show M - (k0 + 1) < M - k0; have := HKM.out; omega)
      | succ k =>
        rw [show ((k + 1 : Nat) : Int) - 1 = (k : Int) from by omega] at hq
        subst hq
        have hkN : k < N := by omega
        have hk0 : (0 : Int) ≤ (k : Int) := by omega
        have hk1 : (k : Int) < (N : Int) := by omega
        have hwk : IntKind.i64.wrap ((k : Int) - 1) = (k : Int) - 1 := IntWalk.i64_in _ (by omega)
        obtain ⟨gb, go, rfl, hgb, hgk⟩ := HGR.out k hkN
        have HBW2 : Hid (Below w2.heap.size w2 wr) := Lib.hid (HBO.out.trans (HBJ.out.mono hso))
        have hgk := (HBW2.out.cell (p := ⟨gb, go + k, none⟩) hgb).trans hgk
        have hbd : fl[k]? = some (bD fl k) := by
          unfold bD
          rw [List.getD_eq_getElem?_getD, List.getElem?_eq_getElem (by omega)]
          rfl
        have hfk := Flags.cell (show Flags wr w2.heap.size fl from (HBJ.out.block _ hgl).trans HF.out) k _ hbd
        obtain ⟨gk, hgkk⟩ : ∃ gk, gk = grpN N es k := ⟨_, rfl⟩
        rw [← hgkk] at hgk
        obtain ⟨bk, hbk⟩ : ∃ bk, bk = bD fl k := ⟨_, rfl⟩
        rw [← hbk] at hfk
        have HR0 : Hid ((grpN N es k == k && !bD fl k) = (decide (gk = k) && !bk)) := Lib.hid (by rw [hgkk, hbk]; congr 1)
        have HST := Lib.hid (nxtK_step (es := es) (fl := fl) hkN)
        clear hgkk hbk hbd
        obtain ⟨Wk, hWk⟩ : ∃ W : World, W = wr := ⟨_, rfl⟩
        subst hWk
        by_cases hgq : gk = k
        case neg =>
          have e1 : ¬ (gk : Int) = (k : Int) := by omega
          have e2 : decide ((gk : Int) = (k : Int)) = false := decide_eq_false e1
          have e3 : ((gk : Int) == (k : Int)) = false := by simpa using e1
          have e4 : (gk == k) = false := by simpa using hgq
          have HRD : Hid (rdyN N es fl k = false) := Lib.hid (by rw [rdyN_eq, HR0.out, Bool.and_eq_false_iff]; exact .inl (by rw [decide_eq_false hgq]; rfl))
          clear HR0
          go_wp2_with fail
          go_loopw [8, 9] (fun s q wr => s = .bool false ∧ q = .int .i64 0 ∧ wr = Wk) (fun _ _ _ => 0)
          case atStart => exact ⟨rfl, rfl, rfl⟩
          case round =>
            obtain ⟨rfl, rfl, rfl⟩ := hrel
            have hg1 : wr.cell? ⟨w.heap.size, 1, none⟩ = some (.slice ao es.length ec) := cell_of_row _ _ 1 _ _ _ ((HBJ.out.block _ (by omega)).trans ((HBO.out.block _ (by omega)).trans HG2.out))
            by_cases hz : 0 < es.length
            case pos =>
              have z1 : (0 : Int) < (es.length : Int) := by omega
              have z2 : decide ((0 : Int) < (es.length : Int)) = true := decide_eq_true z1
              go_wp2_with fail
              go_roundw
              case rel => exact ⟨k, by omega, rfl, by rw [HST.out, HRD.out]; rfl, HBJ⟩
              case measure => (show ((k : Int) - 1 + 1).toNat < ((k : Int) + 1).toNat; omega)
            case neg =>
              have z1 : ¬ (0 : Int) < (es.length : Int) := by omega
              have z2 : decide ((0 : Int) < (es.length : Int)) = false := decide_eq_false z1
              go_wp2_with fail
              go_roundw
              case rel => exact ⟨k, by omega, rfl, by rw [HST.out, HRD.out]; rfl, HBJ⟩
              case measure => (show ((k : Int) - 1 + 1).toNat < ((k : Int) + 1).toNat; omega)
        case pos =>
          have hbkc : bk = true ∨ bk = false := by cases bk <;> simp
          cases bk with
          | true =>
            have e1 : (gk : Int) = (k : Int) := by omega
            have e2 : decide ((gk : Int) = (k : Int)) = true := decide_eq_true e1
            have e3 : ((gk : Int) == (k : Int)) = true := by simpa using e1
            have e4 : (gk == k) = true := by simpa using hgq
            have HRD : Hid (rdyN N es fl k = false) := Lib.hid (by rw [rdyN_eq, HR0.out, Bool.and_eq_false_iff]; exact .inl (by simp))
            clear HR0
            go_wp2_with fail
            go_loopw [8, 9] (fun s q wr => s = .bool false ∧ q = .int .i64 0 ∧ wr = Wk) (fun _ _ _ => 0)
            case atStart => exact ⟨rfl, rfl, rfl⟩
            case round =>
              obtain ⟨rfl, rfl, rfl⟩ := hrel
              have hg1 : wr.cell? ⟨w.heap.size, 1, none⟩ = some (.slice ao es.length ec) := cell_of_row _ _ 1 _ _ _ ((HBJ.out.block _ (by omega)).trans ((HBO.out.block _ (by omega)).trans HG2.out))
              by_cases hz : 0 < es.length
              case pos =>
                have z1 : (0 : Int) < (es.length : Int) := by omega
                have z2 : decide ((0 : Int) < (es.length : Int)) = true := decide_eq_true z1
                go_wp2_with fail
                go_roundw
                case rel => exact ⟨k, by omega, rfl, by rw [HST.out, HRD.out]; rfl, HBJ⟩
                case measure => (show ((k : Int) - 1 + 1).toNat < ((k : Int) + 1).toNat; omega)
              case neg =>
                have z1 : ¬ (0 : Int) < (es.length : Int) := by omega
                have z2 : decide ((0 : Int) < (es.length : Int)) = false := decide_eq_false z1
                go_wp2_with fail
                go_roundw
                case rel => exact ⟨k, by omega, rfl, by rw [HST.out, HRD.out]; rfl, HBJ⟩
                case measure => (show ((k : Int) - 1 + 1).toNat < ((k : Int) + 1).toNat; omega)
          | false =>
            have HR1 : Hid (rdyN N es fl k = es.all (rdyP N es fl k)) := Lib.hid (by rw [rdyN_eq, HR0.out]; simp [hgq])
            have e1 : (gk : Int) = (k : Int) := by omega
            have e2 : decide ((gk : Int) = (k : Int)) = true := decide_eq_true e1
            have e3 : ((gk : Int) == (k : Int)) = true := by simpa using e1
            have e4 : (gk == k) = true := by simpa using hgq
            clear HR0
            go_wp2_with fail
            clear e1 e2 e3 e4
            go_loopw [8, 9] (fun s q wr => ∃ (m : Nat) (v : Bool), m ≤ es.length ∧ q = .int .i64 m ∧ s = .bool v ∧ Hid ((es.take m).all (rdyP N es fl k) = v) ∧ Hid (Below Wk.heap.size Wk wr)) (fun _ q _ => es.length - (intOf q).toNat)
            case atStart => exact ⟨0, true, by omega, rfl, rfl, Lib.hid rfl, Lib.hid (Below.refl _ _)⟩
            case round =>
              obtain ⟨m, v, hm, rfl, rfl, HVV, HBM⟩ := hrel
              have hsm := HBM.out.size
              have HBX : Hid (Below Wo.heap.size Wo wr) := Lib.hid (HBJ.out.trans (HBM.out.mono hsj))
              have hg1 : wr.cell? ⟨w.heap.size, 1, none⟩ = some (.slice ao es.length ec) := cell_of_row _ _ 1 _ _ _ ((HBX.out.block _ (by omega)).trans ((HBO.out.block _ (by omega)).trans HG2.out))
              by_cases hlt2 : m < es.length
              case neg =>
                have hmm : m = es.length := by omega
                subst hmm
                have hvv := HVV.out
                rw [List.take_length] at hvv
                have HRD : Hid (rdyN N es fl k = v) := Lib.hid (by rw [HR1.out]; exact hvv)
                clear hvv
                cases v
                all_goals
                  go_wp2_with fail
                  go_roundw
                  case rel => exact ⟨k, by omega, rfl, by rw [HST.out, HRD.out]; rfl, HBX⟩
                  case measure => (show ((k : Int) - 1 + 1).toNat < ((k : Int) + 1).toNat; omega)
              case pos =>
                have hm0 : (0 : Int) ≤ (m : Int) := by omega
                have hm1 : (m : Int) < (es.length : Int) := by omega
                cases v with
                | false =>
                  have HRD : Hid (rdyN N es fl k = false) := Lib.hid (by
                    rw [HR1.out]
                    have h := HVV.out
                    have h2 : es.all (rdyP N es fl k) = ((es.take m).all (rdyP N es fl k) && (es.drop m).all (rdyP N es fl k)) := by rw [← List.all_append, List.take_append_drop]
                    rw [h2, h]
                    rfl)
                  go_wp2_with fail
                  go_roundw
                  case rel => exact ⟨k, by omega, rfl, by rw [HST.out, HRD.out]; rfl, HBX⟩
                  case measure => (show ((k : Int) - 1 + 1).toNat < ((k : Int) + 1).toNat; omega)
                | true =>
                  obtain ⟨b, off, hao, hb, hc1, hc2⟩ := HE.out m es[m] (by simp [hlt2])
                  subst hao
                  have HBW : Hid (Below w.heap.size w wr) := Lib.hid (HW2.out.trans ((HBO.out.trans (HBX.out.mono hso)).mono (by omega)))
                  have hc1 := (HBW.out.cell (p := ⟨b, off + m * 2, none⟩) hb).trans hc1
                  have hc2 := (HBW.out.cell (p := ⟨b, off + m * 2 + 1, none⟩) hb).trans hc2
                  have hed := validG_edge HV.out (List.getElem_mem hlt2)
                  have HT : Hid ((es.take (m + 1)).all (rdyP N es fl k) = ((es.take m).all (rdyP N es fl k) && rdyP N es fl k es[m])) := Lib.hid (by rw [List.take_succ_eq_append_getElem hlt2, List.all_append]; simp)
                  obtain ⟨⟨x1, x2⟩, hx⟩ : ∃ x, x = es[m] := ⟨_, rfl⟩
                  rw [← hx] at hc1 hc2 hed HT
                  clear hx
                  obtain ⟨i, rfl⟩ : ∃ i : Nat, x1 = (i : Int) := ⟨x1.toNat, by simp at hed; omega⟩
                  obtain ⟨j, rfl⟩ : ∃ j : Nat, x2 = (j : Int) := ⟨x2.toNat, by simp at hed; omega⟩
                  simp only at hc1 hc2 hed
                  obtain ⟨hi0, hi1, hj0, hj1⟩ := hed
                  have hiN : i < N := by omega
                  have hjN : j < N := by omega
                  obtain ⟨gb2, go2, hge, _, hgi⟩ := HGR.out i hiN
                  cases hge
                  obtain ⟨gb3, go3, hge, _, hgj⟩ := HGR.out j hjN
                  cases hge
                  have HBW3 : Below w2.heap.size w2 wr := HBO.out.trans (HBX.out.mono hso)
                  have hgi := (HBW3.cell (p := ⟨gb, go + i, none⟩) hgb).trans hgi
                  have hgj := (HBW3.cell (p := ⟨gb, go + j, none⟩) hgb).trans hgj
                  have hgjN := grpN_lt (es := es) hjN
                  have HPP : Hid (rdyP N es fl k ((i : Int), (j : Int)) = (decide (grpN N es i ≠ k) || (decide (grpN N es j = k) || bD fl (grpN N es j)))) := Lib.hid (by unfold rdyP; simp only [Int.toNat_natCast])
                  have hfj0 : fl[grpN N es j]? = some (bD fl (grpN N es j)) := by
                    unfold bD
                    rw [List.getD_eq_getElem?_getD, List.getElem?_eq_getElem (by omega)]
                    rfl
                  have hfj := Flags.cell (show Flags wr w2.heap.size fl from (HBX.out.block _ hgl).trans HF.out) _ _ hfj0
                  generalize bD fl (grpN N es j) = bj at *
                  generalize grpN N es i = gi at *
                  generalize grpN N es j = gj at *
                  have hci := cellA (.cells #[.int .i64 (i : Int), .int .i64 (j : Int)] 39) hgi
                  have hcj := cellA (.cells #[.int .i64 (i : Int), .int .i64 (j : Int)] 39) hgj
                  have hcf := cellA (.cells #[.int .i64 (i : Int), .int .i64 (j : Int)] 39) hfj
                  have hgj0 : (0 : Int) ≤ (gj : Int) := by omega
                  have hgj1 : (gj : Int) < (N : Int) := by omega
                  have HBA : Hid (Below Wk.heap.size Wk (wr.alloc (.cells #[.int .i64 (i : Int), .int .i64 (j : Int)] 39))) := Lib.hid (HBM.out.alloc hsm _)
                  clear hfj0 hgi hgj hfj HBW3
                  by_cases q1 : gi = k
                  case neg =>
                    have r1 : ¬ (gi : Int) = (k : Int) := by omega
                    have r2 : decide ((gi : Int) = (k : Int)) = false := decide_eq_false r1
                    have r3 : ((gi : Int) == (k : Int)) = false := by simpa using r1
                    have r4 : (gi == k) = false := by simpa using q1
                    have HP : Hid (rdyP N es fl k ((i : Int), (j : Int)) = true) := Lib.hid (by rw [HPP.out, decide_eq_true q1]; rfl)
                    go_wp2_with fail
                    go_roundw
                    case rel => exact ⟨m + 1, true, by omega, by go_num, rfl, Lib.hid (by rw [HT.out, HP.out, HVV.out]; rfl), HBA⟩
                    case measure => simp [intOf]; omega
                  case pos =>
                    by_cases q2 : gj = k
                    case pos =>
                      have HP : Hid (rdyP N es fl k ((i : Int), (j : Int)) = true) := Lib.hid (by rw [HPP.out, decide_eq_true q2]; simp)
                      subst q1
                      subst q2
                      go_wp2_with fail
                      go_roundw
                      case rel => exact ⟨m + 1, true, by omega, by go_num, rfl, Lib.hid (by rw [HT.out, HP.out, HVV.out]; rfl), HBA⟩
                      case measure => simp [intOf]; omega
                    case neg =>
                      have r1 : ¬ (gj : Int) = (k : Int) := by omega
                      have r2 : decide ((gj : Int) = (k : Int)) = false := decide_eq_false r1
                      have r3 : ((gj : Int) == (k : Int)) = false := by simpa using r1
                      have r4 : (gj == k) = false := by simpa using q2
                      have s1 : (gi : Int) = (k : Int) := by omega
                      have s2 : decide ((gi : Int) = (k : Int)) = true := decide_eq_true s1
                      have s3 : ((gi : Int) == (k : Int)) = true := by simpa using s1
                      have s4 : (gi == k) = true := by simpa using q1
                      have HP : Hid (rdyP N es fl k ((i : Int), (j : Int)) = bj) := Lib.hid (by rw [HPP.out, decide_eq_false q2, decide_eq_false (by simpa using q1)]; rfl)
                      go_wp2_with fail
                      go_roundw
                      case rel => exact ⟨m + 1, bj, by omega, by go_num, rfl, Lib.hid (by rw [HT.out, HP.out, HVV.out]; rfl), HBA⟩
                      case measure => simp [intOf]; omega
end Go.Proofs.Ytlcgbkeggmaljaa
