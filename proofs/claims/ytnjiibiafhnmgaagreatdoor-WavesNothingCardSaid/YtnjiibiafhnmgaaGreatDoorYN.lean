/- The table of an index: newTable. slices.Clone at sets and requirements; an owned row as a queue. -/
import Derived.Test.YtnjiibiafhnmgaaGreatDoorYK
import Derived.Shelf.SlicesE.Clone
namespace Go.Proofs.YtnjiibiafhnmgaaGreatDoor
set_option linter.unusedVariables false
set_option linter.unusedSimpArgs false
open Go Go.RowKit Go.Maps

structure TabJ (w : World) (X : List RelL) (rv : Nat → Value) (v iv : Value) (k : Nat) (W : World) : Prop where
  bel : RowKit.Below w.heap.size w W
  size : w.heap.size + 1 + 1 + 1 + 1 < W.heap.size
  idx : W.heap[w.heap.size]? = some (.cells #[v, iv] 25 (0, 0))
  res : W.heap[w.heap.size + 1]? = some (.cells #[.map none, .map none] 196 (0, 0))
  tab : W.heap[w.heap.size + 1 + 1 + 1 + 1]? = some (.cells #[.map (some (w.heap.size + 1 + 1)), .map (some (w.heap.size + 1 + 1 + 1))] 196 (0, 0))
  rels : ∃ f, MapF Tryz.prog 53 W (w.heap.size + 1 + 1) k f ∧ TabF X rv k f
def PathJ (w : World) (k : Nat) (f : Lit → Option Value) (W : World) : Prop := MapF Tryz.prog 9 W (w.heap.size + 1 + 1 + 1) k f ∧ PathsI W (w.heap.size + 1 + 1 + 1 + 1 + 1) 9 k f
theorem PathJ.below {w W W' : World} {k : Nat} {f : Lit → Option Value} (h : PathJ w k f W) (hb : RowKit.Below W.heap.size W W') : PathJ w k f W' := ⟨h.1.below hb, h.2.below hb⟩
theorem TabJ.below {w : World} {X : List RelL} {rv : Nat → Value} {v iv : Value} {k : Nat} {W W' : World} (h : TabJ w X rv v iv k W) (hb : RowKit.Below W.heap.size W W') : TabJ w X rv v iv k W' := by
  obtain ⟨h1, h2, h3, h4, h5, f, h6, h7⟩ := h
  exact ⟨h1.trans (hb.mono h1.size), Nat.lt_of_lt_of_le h2 hb.size, (hb.block _ (by omega)).trans h3, (hb.block _ (by omega)).trans h4, (hb.block _ h2).trans h5, f, h6.below hb, h7⟩
theorem TabJ.grown {w : World} {X : List RelL} {rv : Nat → Value} {v iv : Value} {k k' : Nat} {W W' : World} {row : Option Nat} (h : TabJ w X rv v iv k W) (hg : W.grownBy W' row) (hr : ∀ b, row = some b → w.heap.size + 1 < b ∧ b ≠ w.heap.size + 1 + 1 + 1 + 1)
    (hf : ∃ f, MapF Tryz.prog 53 W' (w.heap.size + 1 + 1) k' f ∧ TabF X rv k' f) : TabJ w X rv v iv k' W' := by
  obtain ⟨h1, h2, h3, h4, h5, _⟩ := h
  have ne : ∀ b, b ≤ w.heap.size + 1 ∨ b = w.heap.size + 1 + 1 + 1 + 1 → some b ≠ row := fun b hb e => by
    have := hr b e.symm
    omega
  exact ⟨h1.grown hg (by omega) (fun b hb => by have := hr b hb; omega), Nat.lt_of_lt_of_le h2 hg.size, (hg.block _ (by omega) (ne _ (by omega))).trans h3, (hg.block _ (by omega) (ne _ (by omega))).trans h4, (hg.block _ h2 (ne _ (by omega))).trans h5, hf⟩
theorem TabJ.start (w : World) (X : List RelL) (rv : Nat → Value) (v iv : Value) :
    TabJ w X rv v iv 0 (((((w.alloc (.cells #[v, iv] 25)).alloc (.cells #[.map none, .map none] 196)).alloc (.map #[] 0)).alloc (.map #[] 0)).alloc (.cells #[.map (some (w.heap.size + 1 + 1)), .map (some (w.heap.size + 1 + 1 + 1))] 196)) := by
  have hget : ∀ (w : World) (o : Obj) (k : Nat), (w.alloc o).heap[k]? = if k = w.heap.size then some o else w.heap[k]? := fun w o k => by
    show (w.heap.push o)[k]? = _
    rw [Array.getElem?_push]
  refine ⟨(by repeat (first | exact Below.refl _ _ | refine Below.drew ?_ | refine Below.alloc ?_ (by simp <;> omega) _ | refine Below.setCell ?_ (by simp <;> omega) _)), by simp only [World.size_alloc]; omega, ?_, ?_, ?_, _, ?_, TabF.start X rv⟩
  · simp only [hget, World.size_alloc]; repeat (first | rw [if_pos trivial] | rw [if_neg (by omega)] | rw [if_pos (by omega)])
  · simp only [hget, World.size_alloc]; repeat (first | rw [if_pos trivial] | rw [if_neg (by omega)] | rw [if_pos (by omega)])
  · simp only [hget, World.size_alloc]; repeat (first | rw [if_pos trivial] | rw [if_neg (by omega)] | rw [if_pos (by omega)])
  · have := ((MapF.made Tryz.prog 53 ((w.alloc (.cells #[v, iv] 25)).alloc (.cells #[.map none, .map none] 196))).alloc (.map #[] 0)).alloc (.cells #[.map (some (w.heap.size + 1 + 1)), .map (some (w.heap.size + 1 + 1 + 1))] 196)
    simpa only [World.size_alloc] using this
theorem PathJ.start (w : World) (v iv : Value) :
    PathJ w 0 (fun _ => none) (((((w.alloc (.cells #[v, iv] 25)).alloc (.cells #[.map none, .map none] 196)).alloc (.map #[] 0)).alloc (.map #[] 0)).alloc (.cells #[.map (some (w.heap.size + 1 + 1)), .map (some (w.heap.size + 1 + 1 + 1))] 196)) := by
  refine ⟨?_, PathsI.start _ _ _⟩
  · have := (MapF.made Tryz.prog 9 (((w.alloc (.cells #[v, iv] 25)).alloc (.cells #[.map none, .map none] 196)).alloc (.map #[] 0))).alloc (.cells #[.map (some (w.heap.size + 1 + 1)), .map (some (w.heap.size + 1 + 1 + 1))] 196)
    simpa only [World.size_alloc] using this
theorem TabJ.shut {w : World} {X : List RelL} {rv : Nat → Value} {v iv : Value} {k : Nat} {W : World} (h : TabJ w X rv v iv k W) :
    ((W.setCell ⟨w.heap.size + 1, 0, none⟩ (.map (some (w.heap.size + 1 + 1)))).setCell ⟨w.heap.size + 1, 1, none⟩ (.map (some (w.heap.size + 1 + 1 + 1)))).heap[w.heap.size + 1]? = some (.cells #[.map (some (w.heap.size + 1 + 1)), .map (some (w.heap.size + 1 + 1 + 1))] 196 (0, 0)) ∧
      RowKit.Below w.heap.size w ((W.setCell ⟨w.heap.size + 1, 0, none⟩ (.map (some (w.heap.size + 1 + 1)))).setCell ⟨w.heap.size + 1, 1, none⟩ (.map (some (w.heap.size + 1 + 1 + 1)))) ∧
      ∃ f, MapF Tryz.prog 53 ((W.setCell ⟨w.heap.size + 1, 0, none⟩ (.map (some (w.heap.size + 1 + 1)))).setCell ⟨w.heap.size + 1, 1, none⟩ (.map (some (w.heap.size + 1 + 1 + 1)))) (w.heap.size + 1 + 1) k f ∧ TabF X rv k f := by
  obtain ⟨h1, h2, h3, h4, h5, f, h6, h7⟩ := h
  refine ⟨setTwo _ _ _ _ _ _ _ h4, (h1.setCell (by simp) _).setCell (by simp) _, f, ?_, h7⟩
  exact (h6.setCell (by simp) _).setCell (by simp) _
def TabR (w : World) (X : List RelL) (e : Ending) (w' : World) : Prop := ∃ m1 m2, e = .returned (.tuple #[.agg #[.map (some m1), .map (some m2)], .int .i64 (checkX X)]) ∧ RowKit.Below w.heap.size w w' ∧ w.heap.size ≤ m1 ∧ TabOf w' w.heap.size m1 (if checkX X = 0 then X else [])
def HeldB (t g : Nat) (m : Value) (x : RelL) (r : Value) (W : World) : Prop := W.cell? ⟨t, 0, none⟩ = some m ∧
  W.cell? ⟨g, 0, none⟩ = some (.string x.path) ∧ W.cell? ⟨g, 1, none⟩ = some (.int .i64 x.ver.1) ∧ W.cell? ⟨g, 2, none⟩ = some (.int .i64 x.ver.2.1) ∧ W.cell? ⟨g, 3, none⟩ = some (.int .i64 x.ver.2.2) ∧ W.cell? ⟨g, 4, none⟩ = some r ∧
      W.cell? ⟨g, 5, none⟩ = some (.string x.ar) ∧ W.cell? ⟨g, 6, none⟩ = some (.string x.ifc) ∧ W.cell? ⟨g, 7, none⟩ = some (.string x.cert) ∧ W.cell? ⟨g, 8, none⟩ = some (.bool x.yk)
set_option maxRecDepth 100000 in
set_option maxHeartbeats 8000000 in
theorem newTable_any (v iv : Value) (X : List RelL) (w : World) (hm : MaxOk w) (hX : X.length ≤ 1000000) (hq : ∀ x ∈ X, RelBd x) (hR : RelsOf w.heap.size v X w) :
    Calls Tryz.prog 155 #[.agg #[v, iv]] w (TabR w X) := by
  obtain ⟨ao, cap, rv, rfl, hrv⟩ := hR.rv
  have HRV := Lib.hid hrv
  clear hrv
  obtain ⟨E, hE⟩ : ∃ E, checkX X = E := ⟨_, rfl⟩
  have HE := Lib.hid hE
  clear hE
  have hmm := @run_makeMap Tryz.prog
  go_enter Tryz.func155, Tryz.ntmps155
  go_upto_region 2 with fail
  have HJ := Lib.hid (TabJ.start w X rv (.slice ao X.length cap) iv)
  have HP0 := Lib.hid (PathJ.start w (.slice ao X.length cap) iv)
  generalize ((((w.alloc (.cells #[.slice ao X.length cap, iv] 25)).alloc (.cells #[.map none, .map none] 196)).alloc (.map #[] 0)).alloc (.map #[] 0)).alloc (.cells #[.map (some (w.heap.size + 1 + 1)), .map (some (w.heap.size + 1 + 1 + 1))] 196) = W at *
  have c0 : W.cell? ⟨w.heap.size, 0, none⟩ = some (.slice ao X.length cap) := cell_of_row _ _ 0 _ _ _ HJ.out.idx
  have c1 : W.cell? ⟨w.heap.size, 1, none⟩ = some iv := cell_of_row _ _ 1 _ _ _ HJ.out.idx
  have HC := Lib.hid (IdxCheck_any (.slice ao X.length cap) iv X W (hm.below HJ.out.bel hm.pos) hX hq ((hR.below HJ.out.bel (Nat.le_refl _)).mono HJ.out.bel.size))
  clear hm hR
  go_wp2_with fail
  refine HC.out.mono ?_
  rw [HE.out]
  rintro e w1 ⟨rfl, hb1⟩
  have HJ1 := Lib.hid (HJ.out.below hb1)
  have HP1 := Lib.hid (HP0.out.below hb1)
  clear hb1 HC c0 c1 HJ
  have t0 : w1.cell? ⟨w.heap.size + 1 + 1 + 1 + 1, 0, none⟩ = some (.map (some (w.heap.size + 1 + 1))) := cell_of_row _ _ 0 _ _ _ HJ1.out.tab
  have t1 : w1.cell? ⟨w.heap.size + 1 + 1 + 1 + 1, 1, none⟩ = some (.map (some (w.heap.size + 1 + 1 + 1))) := cell_of_row _ _ 1 _ _ _ HJ1.out.tab
  have r0 : w1.cell? ⟨w.heap.size + 1, 0, none⟩ = some (.map none) := cell_of_row _ _ 0 _ _ _ HJ1.out.res
  have r1 : w1.cell? ⟨w.heap.size + 1, 1, none⟩ = some (.map none) := cell_of_row _ _ 1 _ _ _ HJ1.out.res
  have q0 := frozen_of_row _ _ 0 _ _ HJ1.out.res
  have q1 := frozen_of_row _ _ 1 _ _ HJ1.out.res
  by_cases h0 : E = 0
  case neg =>
    have h0b : (E != 0) = true := by simpa using h0
    obtain ⟨s1, s2, f, s3, s4⟩ := HJ1.out.shut
    have HS1 := Lib.hid s1
    have HS2 := Lib.hid s2
    have HS3 := Lib.hid s3
    clear s1 s2 s3
    go_wp2_with fail
    refine bodyPost_ret (results_cell_tmp rfl _ _ (w.heap.size + 1) _ _ _ _ rfl HS1.out Tryz.underlying196 rfl (by kernel_rfl)) rfl ?_
    exact ⟨w.heap.size + 1 + 1, w.heap.size + 1 + 1 + 1, by rw [HE.out]; rfl, HS2.out, by omega, by rw [if_neg (by rw [HE.out]; exact h0)]; exact ⟨f, rv, 0, HS3.out, fun y hy => by rw [s4 y hy]; rfl, fun i hi => absurd hi (by simp)⟩⟩
  subst h0
  have HX := idx_ok HE.out
  have HXO := Lib.hid HX
  have HQ := Lib.hid hq
  have hXl := HX.len
  clear HX hq r0 r1 q0 q1
  have c0 : w1.cell? ⟨w.heap.size, 0, none⟩ = some (.slice ao X.length cap) := cell_of_row _ _ 0 _ _ _ HJ1.out.idx
  go_wp2_with fail
  clear t0 t1 c0
  go_loopw [20] (fun p wr => ∃ k : Nat, k ≤ X.length ∧ p = .int .i64 k ∧ Hid (TabJ w X rv (.slice ao X.length cap) iv k wr) ∧ Hid (∃ f2, PathJ w k f2 wr)) (fun p _ => X.length - (intOf p).toNat)
  case atStart => exact ⟨0, Nat.zero_le _, rfl, HJ1, Lib.hid ⟨_, HP1.out⟩⟩
  case round =>
    obtain ⟨k, hk, rfl, HJ, HPE⟩ := hrel
    obtain ⟨f2, hp2⟩ := HPE.out
    have HP := Lib.hid hp2
    clear hp2 HPE
    have t0 : wr.cell? ⟨w.heap.size + 1 + 1 + 1 + 1, 0, none⟩ = some (.map (some (w.heap.size + 1 + 1))) := cell_of_row _ _ 0 _ _ _ HJ.out.tab
    have t1 : wr.cell? ⟨w.heap.size + 1 + 1 + 1 + 1, 1, none⟩ = some (.map (some (w.heap.size + 1 + 1 + 1))) := cell_of_row _ _ 1 _ _ _ HJ.out.tab
    by_cases hlt : k < X.length
    case neg =>
      have hk2 : k = X.length := by omega
      subst hk2
      have r0 : wr.cell? ⟨w.heap.size + 1, 0, none⟩ = some (.map none) := cell_of_row _ _ 0 _ _ _ HJ.out.res
      have r1 : wr.cell? ⟨w.heap.size + 1, 1, none⟩ = some (.map none) := cell_of_row _ _ 1 _ _ _ HJ.out.res
      have q0 := frozen_of_row _ _ 0 _ _ HJ.out.res
      have q1 := frozen_of_row _ _ 1 _ _ HJ.out.res
      obtain ⟨s1, s2, f, s3, s4⟩ := HJ.out.shut
      have HS1 := Lib.hid s1
      have HS2 := Lib.hid s2
      have HS3 := Lib.hid s3
      have HS4 := Lib.hid s4
      clear s1 s2 s3 s4
      go_wp2_with fail
      refine bodyPost_ret (results_cell_tmp rfl _ _ (w.heap.size + 1) _ _ _ _ rfl HS1.out Tryz.underlying196 rfl (by kernel_rfl)) rfl ?_
      refine ⟨w.heap.size + 1 + 1, w.heap.size + 1 + 1 + 1, by rw [HE.out]; rfl, HS2.out, by omega, ?_⟩
      rw [if_pos HE.out]
      refine ⟨f, rv, _, HS3.out, HS4.out, fun i hi => ?_⟩
      obtain ⟨_, _, _, _, _, h⟩ := HRV.out i X[i] (by simp [hi])
      rw [List.getD_eq_getElem?_getD, List.getElem?_eq_getElem hi]
      exact h.below HS2.out (Nat.le_refl _)
    case pos =>
      obtain ⟨b, off, rfl, hbl, hcs, hrq⟩ := HRV.out k X[k] (by simp [hlt])
      have hgd : X.getD k default = X[k] := by rw [List.getD_eq_getElem?_getD, List.getElem?_eq_getElem hlt]; rfl
      have hbd := HQ.out X[k] (List.getElem_mem hlt)
      have hok := HXO.out.rel k hlt
      have hsb : SelBd (keyL (X.getD k default)) := by
        have h1 := (validB_iff _ _ _).1 hok.val
        refine ⟨?_, ?_, ?_, ?_⟩
        · rw [hgd]; exact Nat.le_trans hbd.path (by decide)
        all_goals
          unfold IntOk keyL
          simp only
          omega
      have HSB := Lib.hid hsb
      have hps : (X.getD k default).path.size ≤ maxLen := hsb.path
      obtain ⟨x, hx⟩ : ∃ x, X[k] = x := ⟨_, rfl⟩
      have HXK := Lib.hid (hgd.trans hx)
      rw [hx] at hcs hrq
      rw [hgd, hx] at hps
      clear hx hgd hbd hok hsb
      obtain ⟨r, hr⟩ : ∃ r, rv k = r := ⟨_, rfl⟩
      have HRK := Lib.hid hr
      rw [hr] at hcs hrq
      clear hr
      obtain ⟨ra, rc, rfl, _⟩ := hrq
      have hbw : b < wr.heap.size := Nat.lt_of_lt_of_le hbl HJ.out.bel.size
      obtain ⟨d0, d1, d2, d3, d4, d5, d6, d7, d8⟩ := hcs.below HJ.out.bel hbl
      clear hcs t0 t1
      go_upto_region 8 with fail
      have HJ7 := Lib.hid (HJ.out.below (belQ wr (.cells (relC x (.slice ra x.reqs.length rc)) 69)))
      have HG7 : Hid (BoxR (wr.alloc (.cells (relC x (.slice ra x.reqs.length rc)) 69)) wr.heap.size x (.slice ra x.reqs.length rc)) := Lib.hid (BoxR.made _ _ _)
      obtain ⟨sv, hsv⟩ : ∃ sv, (f2 (.string x.path.data.toList)).getD (.slice none 0 0) = sv := ⟨_, rfl⟩
      have HSV := Lib.hid hsv
      obtain ⟨sn, sxs, hseg, hsn⟩ := HP.out.2.get (.string x.path.data.toList)
      rw [hsv] at hseg
      have HLT := Lib.hid hseg.lt
      have HSG := Lib.hid (hseg.far (by simp) (fun b hb => (belQ wr (.cells (relC x (.slice ra x.reqs.length rc)) 69)).block b (hseg.lt b hb).2))
      have HP7 := Lib.hid (HP.out.below (belQ wr (.cells (relC x (.slice ra x.reqs.length rc)) 69)))
      clear hsv hseg HP
      have HH : Hid (w.heap.size + 1 + 1 + 1 + 1 + 1 ≤ wr.heap.size) := Lib.hid HJ.out.size
      clear HJ d0 d1 d2 d3 d4 d5 d6 d7 d8 hbw hbl
      simp only [relC] at HJ7 HG7 HSG HP7
      generalize wr.heap.size = g at *
      generalize wr.alloc (.cells #[.string x.path, intC x.ver.1, intC x.ver.2.1, intC x.ver.2.2, .slice ra x.reqs.length rc, .string x.ar, .string x.ifc, .string x.cert, .bool x.yk] 69) = W at *
      have HK := Lib.hid (fun W => key_any x (.slice ra x.reqs.length rc) W)
      simp only [relC] at HK
      have HS : Hid (∀ W', RowKit.Below W.heap.size W W' → HeldB (w.heap.size + 1 + 1 + 1 + 1) g (.map (some (w.heap.size + 1 + 1))) x (.slice ra x.reqs.length rc) W') := Lib.hid (fun W' hb => ⟨cell_of_row _ _ 0 _ _ _ (HJ7.out.below hb).tab, (HG7.out.on hb).cells⟩)
      refine wp_region_noPanic ?_
      refine region_plain_split (S := HeldB (w.heap.size + 1 + 1 + 1 + 1) g (.map (some (w.heap.size + 1 + 1))) x (.slice ra x.reqs.length rc)) 5 (by kernel_rfl) (by kernel_rfl) ?_
      simp only [List.take_succ_cons, List.take_zero]
      have hS0 := HS.out W.drew (RowKit.Below.refl _ _).drew
      (refine zl3 0 ?_ rfl ?_ ?_; rotate_left; (· (rintro w ⟨ct, c0, c1, c2, c3, c4, c5, c6, c7, c8⟩; go_simp; try with_reducible rfl)); (try simp only [zl1]))
      (refine zl3 1 ?_ rfl ?_ ?_; rotate_left; (· (rintro w ⟨ct, c0, c1, c2, c3, c4, c5, c6, c7, c8⟩; go_simp; try with_reducible rfl)); (try simp only [zl1]))
      (refine zl3 2 ?_ rfl ?_ ?_; rotate_left; (· (rintro w ⟨ct, c0, c1, c2, c3, c4, c5, c6, c7, c8⟩; go_simp; try with_reducible rfl)); (try simp only [zl1]))
      (refine zl3 4 ?_ rfl ?_ ?_; rotate_left; (· (rintro w ⟨ct, c0, c1, c2, c3, c4, c5, c6, c7, c8⟩; go_simp; try with_reducible rfl)); (try simp only [zl1]))
      refine wpAnyH_ready (rs := [3]) (by kernel_rfl) (by simp) (AllReadyH.cons rfl (fun K hK => ?_) AllReadyH.nil)
      go_simp
      refine (HK.out _).mono ?_
      rintro e wq ⟨rfl, hbc⟩
      have HBC := Lib.hid ((RowKit.Below.refl W.heap.size W).drew.trans hbc)
      refine hK.out _ _ (HS.out _ HBC.out) (fun _ => ?_)
      clear hK K hS0 hbc
      (try simp only [zl1])
      refine wpAnyH_done (by kernel_rfl) ?_ _
      show wpList _ _ _ _ _ _
      simp only [List.drop_succ_cons, List.drop_zero]
      obtain ⟨f1, hf1, hft⟩ := (HJ7.out.below HBC.out).rels
      have HFT := Lib.hid hft
      have HKY : Hid (keyOf Tryz.prog 53 (.agg #[.string x.path, intC x.ver.1, intC x.ver.2.1, intC x.ver.2.2]) = some (keyS (keyL (X.getD k default)))) := Lib.hid (by have := keyS_of HSB.out; rw [HXK.out] at this ⊢; exact this)
      refine wpList_put_F rfl _ _ _ _ rfl 53 69 lawSel Tryz.underlying193 (w.heap.size + 1 + 1) k f1 (by rfl) hf1 (by unfold maxLen; omega) _ _ (keyS (keyL (X.getD k default))) rfl rfl HKY.out ?_
      intro W8 h8 g8
      have HJ8 : Hid (TabJ w X rv (.slice (some ⟨b, off, none⟩) X.length cap) iv (k + 1) W8) := Lib.hid ((HJ7.out.below HBC.out).grown g8 (fun b hb => by cases hb; omega) ⟨_, h8, by have := HFT.out.step HXO.out hlt HSB.out; rw [HRK.out] at this; rw [HXK.out] at this ⊢; exact this⟩)
      have HG8 : Hid (BoxR W8 g x (.slice ra x.reqs.length rc)) := Lib.hid ((g8.block g (HG7.out.on HBC.out).lt (by intro e; cases e; have := HH.out; omega)).trans (HG7.out.on HBC.out))
      have HP8 : Hid (PathJ w k f2 W8) := Lib.hid ⟨(HP7.out.below HBC.out).1.kept g8 (by simp), (HP7.out.below HBC.out).2.far g8.size (fun b hb hb2 => g8.block b hb2 (by intro e; cases e; omega))⟩
      have HSG8 : Hid (SegC W8 (w.heap.size + 1 + 1 + 1 + 1 + 1) 9 sv sn sxs) := Lib.hid (HSG.out.far (Nat.le_trans HBC.out.size g8.size) (fun b hb => (g8.block b (Nat.lt_of_lt_of_le (HSG.out.lt b hb).2 HBC.out.size) (by intro e; cases e; have := (HLT.out _ hb).1; omega)).trans (HBC.out.block b (HSG.out.lt b hb).2)))
      clear hf1 hft h8 g8 HS HK HFT HJ7 HG7 HP7 HSG HBC HKY
      refine NoPanic.normal ?_
      go_upto_region 9 with fail
      have HS : Hid (∀ W', RowKit.Below W8.heap.size W8 W' → HeldB (w.heap.size + 1 + 1 + 1 + 1) g (.map (some (w.heap.size + 1 + 1))) x (.slice ra x.reqs.length rc) W' ∧ W'.cell? ⟨w.heap.size + 1 + 1 + 1 + 1, 1, none⟩ = some (.map (some (w.heap.size + 1 + 1 + 1))) ∧ MapF Tryz.prog 9 W' (w.heap.size + 1 + 1 + 1) k f2) :=
        Lib.hid (fun W' hb => ⟨⟨cell_of_row _ _ 0 _ _ _ (HJ8.out.below hb).tab, (HG8.out.on hb).cells⟩, cell_of_row _ _ 1 _ _ _ (HJ8.out.below hb).tab, (HP8.out.below hb).1⟩)
      refine wp_region_noPanic ?_
      refine region_plain_split (S := fun W' => HeldB (w.heap.size + 1 + 1 + 1 + 1) g (.map (some (w.heap.size + 1 + 1))) x (.slice ra x.reqs.length rc) W' ∧ W'.cell? ⟨w.heap.size + 1 + 1 + 1 + 1, 1, none⟩ = some (.map (some (w.heap.size + 1 + 1 + 1))) ∧ MapF Tryz.prog 9 W' (w.heap.size + 1 + 1 + 1) k f2) 12 (by kernel_rfl) (by kernel_rfl) ?_
      simp only [List.take_succ_cons, List.take_zero]
      have hS0 := HS.out W8.drew (RowKit.Below.refl _ _).drew
      (refine zl3 0 ?_ rfl ?_ ?_; rotate_left; (· (rintro w ⟨⟨ct, c0, c1, c2, c3, c4, c5, c6, c7, c8⟩, cu, _⟩; go_simp; try with_reducible rfl)); (try simp only [zl1]))
      (refine zl3 1 ?_ rfl ?_ ?_; rotate_left; (· (rintro w ⟨⟨ct, c0, c1, c2, c3, c4, c5, c6, c7, c8⟩, cu, _⟩; go_simp; try with_reducible rfl)); (try simp only [zl1]))
      (refine zl3 2 ?_ rfl ?_ ?_; rotate_left; (· (rintro w ⟨⟨ct, c0, c1, c2, c3, c4, c5, c6, c7, c8⟩, cu, _⟩; go_simp; try with_reducible rfl)); (try simp only [zl1]))
      (refine zl3 3 ?_ rfl ?_ ?_; rotate_left; (· (rintro w ⟨⟨ct, c0, c1, c2, c3, c4, c5, c6, c7, c8⟩, cu, _⟩; go_simp; try with_reducible rfl)); (try simp only [zl1]))
      (refine zl3 4 ?_ rfl ?_ ?_; rotate_left; (· (rintro w ⟨⟨ct, c0, c1, c2, c3, c4, c5, c6, c7, c8⟩, cu, _⟩; go_simp; try with_reducible rfl)); (try simp only [zl1]))
      (refine zl3 5 ?_ rfl ?_ ?_; rotate_left; (· (rintro w ⟨⟨ct, c0, c1, c2, c3, c4, c5, c6, c7, c8⟩, cu, _⟩; go_simp; try with_reducible rfl)); (try simp only [zl1]))
      (refine zl3 6 ?_ rfl ?_ ?_; rotate_left; (· (rintro w ⟨⟨ct, c0, c1, c2, c3, c4, c5, c6, c7, c8⟩, cu, _⟩; go_simp; try with_reducible rfl)); (try simp only [zl1]))
      (refine zl3 7 ?_ rfl ?_ ?_; rotate_left; (· (rintro w ⟨⟨ct, c0, c1, c2, c3, c4, c5, c6, c7, c8⟩, cu, _⟩; go_simp; try with_reducible rfl)); (try simp only [zl1]))
      refine wpAnyH_take (i := 8) (v := sv) rfl (by kernel_rfl) (by kernel_rfl) (by kernel_rfl) (fun _ _ _ h => h) ?look hS0 ?_
      case look =>
        rw [← HSV.out]
        exact yields_look_F rfl _ _ _ rfl 9 22 lawStr Tryz.underlying194 (fun W => Tryz.zeroValue22 W) (w.heap.size + 1 + 1 + 1) k f2 (by rfl) (fun W h => h.2.2) (.string x.path) (.string x.path.data.toList) (by rfl) (keyStr hps)
      (try simp only [zl1])
      (refine zl3 9 ?_ rfl ?_ ?_; rotate_left; (· (rintro w ⟨⟨ct, c0, c1, c2, c3, c4, c5, c6, c7, c8⟩, cu, _⟩; go_simp; try with_reducible rfl)); (try simp only [zl1]))
      obtain ⟨ki, hki, hkj⟩ := Option.map_eq_some_iff.1 info_rels
      simp only [Prod.mk.injEq] at hkj
      obtain ⟨hk1, hk2, hk3⟩ := hkj
      have HBS : Hid (RowKit.Below W8.heap.size W8 ((W8.alloc (.cells #[.string x.path, intC x.ver.1, intC x.ver.2.1, intC x.ver.2.2, .slice ra x.reqs.length rc, .string x.ar, .string x.ifc, .string x.cert, .bool x.yk] 69)).drew)) := Lib.hid ((RowKit.Below.refl _ _).alloc (Nat.le_refl _) _).drew
      refine wpAnyH_ready (rs := [10]) (by kernel_rfl) (by simp) (AllReadyH.cons rfl (fun K hK => ?_) AllReadyH.nil)
      go_simp
      refine hK.out _ _ (HS.out _ HBS.out) (fun _ => ?_)
      clear hK K hS0
      (try simp only [zl1])
      have HSG9 : Hid (SegC ((W8.alloc (.cells #[.string x.path, intC x.ver.1, intC x.ver.2.1, intC x.ver.2.2, .slice ra x.reqs.length rc, .string x.ar, .string x.ifc, .string x.cert, .bool x.yk] 69)).drew) (w.heap.size + 1 + 1 + 1 + 1 + 1) 9 sv sn sxs) :=
        Lib.hid (HSG8.out.far HBS.out.size (fun b hb => HBS.out.block b (HSG8.out.lt b hb).2))
      have HN9 : Hid (((W8.alloc (.cells #[.string x.path, intC x.ver.1, intC x.ver.2.1, intC x.ver.2.2, .slice ra x.reqs.length rc, .string x.ar, .string x.ifc, .string x.cert, .bool x.yk] 69)).drew).heap[W8.heap.size]? = some (.cells #[.string x.path, intC x.ver.1, intC x.ver.2.1, intC x.ver.2.2, .slice ra x.reqs.length rc, .string x.ar, .string x.ifc, .string x.cert, .bool x.yk] 69)) := Lib.hid (World.alloc_heap_new W8 _)
      have HJ9 := Lib.hid (HJ8.out.below HBS.out)
      have HG9 := Lib.hid (HG8.out.on HBS.out)
      have HP9 := Lib.hid (HP8.out.below HBS.out)
      have hz9 : w.heap.size + 1 + 1 + 1 + 1 + 1 ≤ (W8.alloc (.cells #[.string x.path, intC x.ver.1, intC x.ver.2.1, intC x.ver.2.2, .slice ra x.reqs.length rc, .string x.ar, .string x.ifc, .string x.cert, .bool x.yk] 69)).drew.heap.size := HJ9.out.size
      clear HS HJ8 HG8 HP8 HSG8
      generalize (W8.alloc (.cells #[.string x.path, intC x.ver.1, intC x.ver.2.1, intC x.ver.2.2, .slice ra x.reqs.length rc, .string x.ar, .string x.ifc, .string x.cert, .bool x.yk] 69)).drew = W9 at *
      refine wpAnyH_ready (rs := [11]) (by kernel_rfl) (by simp) (AllReadyH.cons rfl (fun K hK => ?_) AllReadyH.nil)
      refine step_append_segC (by rfl) _ _ _ _ (by rfl) 69 ki _ 120 9 Tryz.underlying22 hki hk1 hk2 hk3 rfl (w.heap.size + 1 + 1 + 1 + 1 + 1) sv sn sxs (by rfl) HSG9.out hz9 1 [.string x.path, intC x.ver.1, intC x.ver.2.1, intC x.ver.2.2, .slice ra x.reqs.length rc, .string x.ar, .string x.ifc, .string x.cert, .bool x.yk]
        (Src.ofSlice _ Tryz.underlying22 ⟨W8.heap.size, 0, none⟩ 1 1 _ rfl (World.news_of_block HN9.out) (by simp [Value.oneCell'])) (by unfold maxLen; omega) (by omega) ?_
      intro v10 W10 hs10 g10 hb10
      have hne : ∀ b, segK sv = some b → w.heap.size + 1 + 1 + 1 + 1 < b ∧ b < g := fun b hb => by have := HLT.out b hb; omega
      have HJ10 : Hid (TabJ w X rv (.slice (some ⟨b, off, none⟩) X.length cap) iv (k + 1) W10) := Lib.hid (HJ9.out.grown g10 (fun b hb => by have := hne b hb; omega) (by
        obtain ⟨f, h1, h2⟩ := HJ9.out.rels
        exact ⟨f, h1.kept g10 (fun e => by have := hne _ e.symm; omega), h2⟩))
      have HG10 : Hid (BoxR W10 g x (.slice ra x.reqs.length rc)) := Lib.hid ((g10.block g HG9.out.lt (fun e => by have := hne _ e.symm; omega)).trans HG9.out)
      have hm10 : MapF Tryz.prog 9 W10 (w.heap.size + 1 + 1 + 1) k f2 := HP9.out.1.kept g10 (fun e => by have := hne _ e.symm; omega)
      have HP10 : Hid (PathsI W10 (w.heap.size + 1 + 1 + 1 + 1 + 1) 9 (k + 1) (putF f2 (.string x.path.data.toList) v10)) := Lib.hid (HP9.out.2.put hs10 hsn (by rw [HSV.out]; exact g10) (by rw [HSV.out]; exact hb10))
      refine hK.out _ _ ⟨⟨cell_of_row _ _ 0 _ _ _ HJ10.out.tab, HG10.out.cells⟩, cell_of_row _ _ 1 _ _ _ HJ10.out.tab, hm10⟩ (fun _ => ?_)
      clear hK K hs10 g10 hb10 hne HJ9 HG9 HP9 HSG9 HN9
      (try simp only [zl1])
      refine wpAnyH_done (by kernel_rfl) ?_ _
      show wpList _ _ _ _ _ _
      simp only [List.drop_succ_cons, List.drop_zero]
      refine wpList_put_F rfl _ _ _ _ rfl 9 22 lawStr Tryz.underlying194 (w.heap.size + 1 + 1 + 1) k f2 (by rfl) hm10 (by unfold maxLen; omega) _ _ (.string x.path.data.toList) rfl rfl (keyStr hps) ?_
      intro W11 h11 g11
      have HJ11 : Hid (TabJ w X rv (.slice (some ⟨b, off, none⟩) X.length cap) iv (k + 1) W11) := Lib.hid (HJ10.out.grown g11 (fun b hb => by cases hb; omega) (by
        obtain ⟨f, h1, h2⟩ := HJ10.out.rels
        exact ⟨f, h1.kept g11 (by simp), h2⟩))
      have HP11 : Hid (∃ f2, PathJ w (k + 1) f2 W11) := Lib.hid ⟨_, h11, HP10.out.far g11.size (fun b hb hb2 => g11.block b hb2 (by intro e; cases e; omega))⟩
      clear h11 g11 hm10 HJ10 HP10
      refine NoPanic.normal ?_
      go_wp2_with fail
      go_roundw
      case rel => exact ⟨k + 1, by omega, by go_num, HJ11, HP11⟩
      case measure => simp [intOf]; omega
end Go.Proofs.YtnjiibiafhnmgaaGreatDoor

namespace Go.Proofs.YtnjiibiafhnmgaaGreatDoor
set_option linter.unusedVariables false
set_option linter.unusedSimpArgs false
open Go Go.RowKit Go.Shelf Go.Lib

def cloRenS : Ren := ⟨fun _ => 187, fun x => if x = 22 then 98 else if x = 23 then 111 else 4, fun x => x⟩
theorem cloLaysS : SlLaysE0.n41 Tryz.prog cloRenS := {
  mixed := by kernel_rfl
  f41 := ⟨Tryz.f187.name, by decide, Tryz.func187.trans (congrArg some (by kernel_rfl))⟩
  t4 := Tryz.underlying4
  a4 := Tryz.isAgg4
  z4 := Tryz.sizeOf4
  v4 := Tryz.zeroValue4
  t22 := Tryz.underlying98
  a22 := Tryz.isAgg98
  z22 := Tryz.sizeOf98
  v22 := Tryz.zeroValue98 }
theorem info_reqs : (Tryz.prog.info? 100).map (fun i => (i.zero, i.size, i.bytes)) = some (some (.agg #[.string ⟨#[]⟩, .slice none 0 0]), 2, 40) := by kernel_rfl
set_option maxRecDepth 100000 in
theorem CloneS_any (v : Value) (s : List (Int × Int)) (w : World) (hs : s.length ≤ 1000000) (hS : SpansOf w.heap.size v s w) :
    Calls Tryz.prog 187 #[v] w fun e w' => ∃ v', e = .returned v' ∧ w'.ownsRow w.heap.size 111 2 v' s.length (spanCells s) ∧ Below w.heap.size w w' := by
  obtain ⟨ao, cap, rfl, h⟩ := hS
  by_cases h0 : s = []
  · subst h0
    clear h hs
    cases ao with
    | none =>
      refine (AnyE.slices_Clone_nil cloLaysS 0 cap w).mono ?_
      rintro e w' ⟨rfl, rfl⟩
      exact ⟨_, rfl, World.ownsRow_nil _ _ _ _, Below.refl _ _⟩
    | some a =>
      have hq : (binOp .eql 98 (.slice (some a) 0 cap) (.slice none 0 0)).run Tryz.prog w = .ok (.bool false) w := Lib.run_eql_slice_nil w _ _ (some a) 0 cap 0 0 Tryz.underlying98
      go_enter Tryz.func187, Tryz.ntmps187
      go_wp2_with fail
      go_ret
      exact ⟨_, rfl, ⟨rfl, .inr ⟨w.heap.size, 0, #[], rfl, Nat.le_refl _, World.alloc_heap_new _ _, Nat.le_refl _, by decide, rfl, rfl⟩⟩, belQ _ _⟩
  · have hp : 0 < s.length := List.length_pos_iff.2 h0
    obtain ⟨b, off, rfl, _⟩ := h 0 s[0] (by simp [hp])
    obtain ⟨i0, hi, hz0, hz1, hz2⟩ := info_parts info_spans
    refine AnyE.slices_Clone cloLaysS i0 _ 2 16 hi hz0 hz1 hz2 rfl (by decide) Tryz.sizeOf111 b off s.length cap (spanCells s) w (spanCells_length s) (by unfold maxLen; omega) (by omega) (fun j u hu => ?_) (fun u hu => ?_) |>.mono ?_
    · have hj := (List.getElem?_eq_some_iff.1 hu).1
      rw [spanCells_length] at hj
      obtain ⟨b', off', e, _, h1, h2⟩ := h (j / 2) s[j / 2] (by simp <;> omega)
      cases e
      obtain ⟨g1, g2⟩ := spanCells_get s (j / 2) s[j / 2] (by simp <;> omega)
      rcases Nat.mod_two_eq_zero_or_one j with hm | hm
      · have e2 : j = j / 2 * 2 := by omega
        rw [e2, g1] at hu
        rw [e2, h1, hu]
      · have e2 : j = j / 2 * 2 + 1 := by omega
        rw [e2, g2] at hu
        rw [e2, ← Nat.add_assoc, h2, hu]
    · obtain ⟨x, _, hx⟩ := List.mem_flatMap.1 hu
      rcases List.mem_cons.1 hx with rfl | hx
      · rfl
      · rw [List.mem_singleton.1 hx]; rfl
    · rintro e w' ⟨v', rfl, h1, _, h2⟩
      exact ⟨v', rfl, h1, h2⟩
def ReqXs (B : Nat) (l : List ReqL) (xs : List Value) (W : World) : Prop := ∀ i q, l[i]? = some q → ∃ r, xs[i * 2]? = some (.string q.1) ∧ xs[i * 2 + 1]? = some r ∧ SpansOf B r q.2 W
end Go.Proofs.YtnjiibiafhnmgaaGreatDoor
