/- Contracts of mvs: selection, Select, Newest. Contracts of mvs.Select and mvs.Newest. Contract of the world's edges. -/
import Derived.Test.YtenfkejbndifdaaGreatDoorUP
import Derived.Test.YtenfkejbndifdaaGreatDoorUH
import Derived.Test.YtenfkejbndifdaaGreatDoorUQ
import Derived.Test.YtenfkejbndifdaaGreatDoorUJ
namespace Go.Proofs.YtenfkejbndifdaaGreatDoor
set_option linter.unusedVariables false
set_option linter.unusedSimpArgs false
open Go Go.RowKit Go.Maps

def SelR (nw : Bool) (X : List RelL) (roots : List ReqL) (w : World) (e : Ending) (w' : World) : Prop := Below w.heap.size w w' ∧ ∃ v, e = .returned (.tuple #[v, .int .i64 (selM nw X roots).2]) ∧ SelsOf w'.heap.size v (selM nw X roots).1 w'
theorem selM_arg {nw : Bool} {X : List RelL} {roots : List ReqL} (h : ¬ PlainP X roots) : selM nw X roots = ([], 1) := by unfold selM; rw [if_pos h]
theorem selM_not {nw : Bool} {X : List RelL} {roots : List ReqL} (h : PlainP X roots) (h2 : ¬ AllM nw X roots) : selM nw X roots = ([], 6) := by unfold selM; rw [if_neg (fun e => e h), if_pos h2]
def selCells (l : List SelL) : List Value := l.flatMap selC
theorem selCells_len : ∀ l : List SelL, (selCells l).length = l.length * 4
  | [] => rfl
  | y :: l => by
    have ih := selCells_len l
    unfold selCells at ih ⊢
    rw [List.flatMap_cons, List.length_append, ih, List.length_cons]
    simp [selC]
    omega
theorem selCells_at : ∀ {l : List SelL} {i j : Nat}, i < l.length → j < 4 → (selCells l)[i * 4 + j]? = (selC (l.getD i default))[j]?
  | y :: l, 0, j, hi, hj => by
    unfold selCells
    rw [List.flatMap_cons, Nat.zero_mul, Nat.zero_add, List.getElem?_append_left (by simp [selC]; omega)]
    rfl
  | y :: l, i + 1, j, hi, hj => by
    have ih := selCells_at (l := l) (i := i) (j := j) (by simpa using hi) hj
    unfold selCells at ih ⊢
    rw [List.flatMap_cons, List.getElem?_append_right (by simp [selC]; omega), show (i + 1) * 4 + j - (selC y).length = i * 4 + j by simp [selC]; omega, ih]
    rfl
theorem selCells_snoc (l : List SelL) (y : SelL) : selCells (l ++ [y]) = selCells l ++ selC y := by
  unfold selCells
  rw [List.flatMap_append]
  simp
theorem own_sels {W : World} {B : Nat} {v : Value} {l : List SelL} (h : W.ownsRow B 43 4 v l.length (selCells l)) : SelsOf W.heap.size v l W := by
  have hxl := selCells_len l
  have hat := @selCells_at l
  generalize selCells l = xs at *
  obtain ⟨hl, ⟨rfl, h0⟩ | ⟨g, cap, cur, rfl, h1, h2, h3, h4, h5, h6⟩⟩ := h
  · obtain rfl := List.length_eq_zero_iff.1 h0
    exact ⟨none, 0, rfl, fun i q hq => by simp at hq⟩
  · refine ⟨_, cap, rfl, fun i q hq => ?_⟩
    have hi := (List.getElem?_eq_some_iff.1 hq).1
    have hqd : l.getD i default = q := by rw [List.getD_eq_getElem?_getD, hq]; rfl
    have key : ∀ j u, j < 4 → (selC q)[j]? = some u → W.cell? ⟨g, 0 + i * 4 + j, none⟩ = some u := fun j u hj hu => by
      have hu2 := hat hi hj
      rw [hqd, hu] at hu2
      have hj2 := (List.getElem?_eq_some_iff.1 hu2).1
      rw [cell_of_row _ _ _ _ _ _ h2, ← hu2, ← h6, List.getElem?_take, if_pos (by omega)]
      simp
    exact ⟨g, 0, rfl, (Array.getElem?_eq_some_iff.1 h2).1, key 0 _ (by omega) rfl, key 1 _ (by omega) rfl, key 2 _ (by omega) rfl, key 3 _ (by omega) rfl⟩
theorem info_sel : (Tryz.prog.info? 43).map (fun i => (i.zero, i.size, i.bytes)) = some (some (.agg #[.string ⟨#[]⟩, .int .i64 0, .int .i64 0, .int .i64 0]), 4, 40) := by kernel_rfl
set_option maxRecDepth 100000 in
set_option maxHeartbeats 8000000 in
theorem selection_any (nw : Bool) (fid : Nat) (eg : ∀ args w, (callFunc fid args).run Tryz.prog w = .ok (.enter fid args) w) (v iv rov : Value) (X : List RelL) (roots : List ReqL) (w : World) (hby : ValidX X → BySpec nw fid X) (hm : MaxOk w) (hX : X.length ≤ 1000000) (hq : ∀ x ∈ X, RelBd x) (hR : RelsOf w.heap.size v X w)
    (hro : roots.length ≤ 1000000) (hrq : ReqsBd roots) (hRo : ReqsOf w.heap.size rov roots w) :
    Calls Tryz.prog 68 #[.agg #[v, iv], .func (.func fid) #[] #[], rov] w (SelR nw X roots w) := by
  have HPL := Lib.hid (fun W (hb : RowKit.Below w.heap.size w W) => MPlain_any v iv rov X roots W (hm.below hb hm.pos) hX hq (hR.on hb) hro hrq (hRo.on hb))
  have HNW := Lib.hid (fun W (hb : RowKit.Below w.heap.size w W) => newWorld_any v iv X W hX hq (hR.on hb))
  have HCH := Lib.hid (fun (hp : PlainP X roots) W g a c m n f (hw : WorldOf W g X a c m n f) (hb : RowKit.Below w.heap.size w W) => choose_any nw fid eg g X a c m n f (hby (validX (idx_ok hp.idx))) hX hq roots rov hp hro hrq W hw (hRo.on hb))
  obtain ⟨va, vn, vc, rfl⟩ : ∃ a n c, v = .slice a n c := by obtain ⟨a, c, _, e, _⟩ := hR.rv; exact ⟨_, _, _, e⟩
  obtain ⟨ra, rc, rfl⟩ : ∃ ra rc, rov = .slice ra roots.length rc := by obtain ⟨a, c, e, _⟩ := hRo; exact ⟨a, c, e⟩
  clear hby hm hq hR hrq hRo
  have HB0 : Hid (Below w.heap.size w (w.alloc (.cells #[.slice va vn vc, iv] 25))) := Lib.hid (belQ _ _)
  have HI0 : Hid ((w.alloc (.cells #[.slice va vn vc, iv] 25)).heap[w.heap.size]? = some (.cells #[.slice va vn vc, iv] 25 (0, 0))) := Lib.hid (World.alloc_heap_new w _)
  have hw0 : w.heap.size < (w.alloc (.cells #[.slice va vn vc, iv] 25)).heap.size := by simp
  go_enter Tryz.func68, Tryz.ntmps68
  go_upto_region 1 with fail
  generalize w.alloc (.cells #[.slice va vn vc, iv] 25) = W at *
  have HT := Lib.hid (fun W' (h : Below W.heap.size W W') => HB0.out.trans (h.mono HB0.out.size))
  have HI := Lib.hid (fun W' (h : Below W.heap.size W W') => (h.block w.heap.size hw0).trans HI0.out)
  have c0 : W.cell? ⟨w.heap.size, 0, none⟩ = some (.slice va vn vc) := cell_of_row _ _ 0 _ _ _ HI0.out
  have c1 : W.cell? ⟨w.heap.size, 1, none⟩ = some iv := cell_of_row _ _ 1 _ _ _ HI0.out
  go_wp2_with fail
  refine (HPL.out _ HB0.out).mono ?_
  rintro e w1 ⟨hb1, bp, rfl, hbp⟩
  have HB1 := Lib.hid (hb1.mono (show W.heap.size ≤ W.heap.size from Nat.le_refl _))
  have HBP := Lib.hid hbp
  clear hb1 c0 c1 hbp HPL
  cases bp with
  | false =>
    have HS := Lib.hid (selM_arg (nw := nw) (fun h => by have := HBP.out.2 h; cases this))
    go_wp2_with fail
    go_ret2
    exact ⟨HT.out _ HB1.out, _, by rw [HS.out]; rfl, by rw [HS.out]; exact ⟨_, _, rfl, fun i y hy => by simp at hy⟩⟩
  | true =>
    have HP := Lib.hid (HBP.out.1 rfl)
    clear HBP
    have c0 : w1.cell? ⟨w.heap.size, 0, none⟩ = some (.slice va vn vc) := cell_of_row _ _ 0 _ _ _ (HI.out _ HB1.out)
    have c1 : w1.cell? ⟨w.heap.size, 1, none⟩ = some iv := cell_of_row _ _ 1 _ _ _ (HI.out _ HB1.out)
    go_wp2_with fail
    refine (HNW.out _ (HT.out _ HB1.out)).mono ?_
    rintro e w2 ⟨g, a, c, m, n, f, rfl, hw, hb2⟩
    have HB2 := Lib.hid (HB1.out.trans (hb2.mono HB1.out.size))
    have HW := Lib.hid hw
    clear hb2 hw c0 c1 HNW
    go_wp2_with fail
    refine (HCH.out HP.out _ _ _ _ _ _ _ HW.out (HT.out _ HB2.out)).mono ?_
    rintro e w3 ⟨hb3, h3⟩
    have HB3 := Lib.hid (HB2.out.trans (hb3.mono HB2.out.size))
    have HW3 := Lib.hid (HW.out.below hb3)
    clear hb3 HCH HW
    rcases h3 with ⟨hall, v3, rfl, how⟩ | ⟨hno, rfl⟩
    case inr =>
      have HS := Lib.hid (selM_not HP.out hno)
      clear hno
      go_wp2_with fail
      go_ret2
      exact ⟨HT.out _ HB3.out, _, by rw [HS.out]; rfl, by rw [HS.out]; exact ⟨_, _, rfl, fun i y hy => by simp at hy⟩⟩
    have HS := Lib.hid (selM_ok HP.out hall)
    have HRO := Lib.hid (own_row how).2
    obtain ⟨oa, oc, rfl⟩ := own_any how
    clear hall how
    obtain ⟨T, hT⟩ : ∃ T, topM nw X roots = T := ⟨_, rfl⟩
    have HTM : Hid (∀ i ∈ T, i < X.length) := Lib.hid (fun i hi => by rw [← hT] at hi; exact (topM_mem.1 hi).1.lt.1)
    have HSL : Hid (selL nw X roots = T.map fun i => keyL (X.getD i default)) := Lib.hid (by unfold selL; rw [hT])
    have HTL : Hid (T.length ≤ X.length) := Lib.hid (by
      have := sub_length (l := T) (m := List.range X.length) (by rw [← hT]; exact (topM_sorted nw X roots).imp Nat.ne_of_lt) (fun i hi => List.mem_range.2 (HTM.out i hi))
      simpa using this)
    rw [hT] at HRO ⊢
    clear hT
    have htl := HTL.out
    obtain ⟨i0, hi0', hz0, hz1, hz2⟩ := info_parts info_sel
    obtain ⟨oa2, oc2, eo, hat⟩ := rowOf_open HRO.out
    injection eo with e1 e2 e3
    subst e1
    subst e3
    have HAT := Lib.hid hat
    clear e2 hat
    have hs3 := HB3.out.size
    go_wp2_with fail
    go_loopw [11, 32] (fun ov p wr => ∃ k : Nat, k ≤ T.length ∧ p = .int .i64 k ∧ Hid (wr.ownsRow w3.heap.size 43 4 ov k (selCells ((T.take k).map fun i => keyL (X.getD i default)))) ∧ Hid (Below w3.heap.size w3 wr)) (fun _ p _ => T.length - (intOf p).toNat)
    case atStart => exact ⟨0, Nat.zero_le _, rfl, Lib.hid (World.ownsRow_nil _ _ _ _), Lib.hid (Below.refl _ _)⟩
    case round =>
      obtain ⟨k, hk, rfl, HO, HB⟩ := hrel
      obtain ⟨xa, xc, rfl⟩ := own_any HO.out
      have hs8 := HB.out.size
      by_cases hlt : k < T.length
      case neg =>
        have hk2 : k = T.length := by omega
        subst hk2
        rw [List.take_length] at HO
        have HBF := Lib.hid (HT.out _ (HB3.out.trans (HB.out.mono hs3)))
        go_wp2_with fail
        go_ret2
        refine ⟨HBF.out, _, by rw [HS.out]; rfl, ?_⟩
        rw [HS.out]
        show SelsOf _ _ (selL nw X roots) _
        rw [HSL.out]
        have h7 := own_sels (l := T.map fun i => keyL (X.getD i default)) (by rw [List.length_map]; exact HO.out)
        exact h7
      case pos =>
        obtain ⟨b, off, rfl, hbl, hcl⟩ := HAT.out k T[k] (by simp [hlt])
        have e0 := (HB.out.cell (p := ⟨b, off + k, none⟩) hbl).trans hcl
        have HTK : Hid (T.take (k + 1) = T.take k ++ [T[k]]) := Lib.hid (List.take_succ_eq_append_getElem hlt)
        have hix := HTM.out T[k] (List.getElem_mem hlt)
        generalize T[k] = i at *
        have HW4 := Lib.hid (HW3.out.below HB.out)
        obtain ⟨rb, roff, rra, rrc, rfl, hrb, hcs, _⟩ := HW4.out.rel hix
        obtain ⟨d0, d1, d2, d3, d4, d5, d6, d7, d8⟩ := hcs
        have f0 := HW4.out.c0
        have hix2 : (i : Int) < (X.length : Int) := by omega
        have HKL : Hid (selCells ((T.take (k + 1)).map fun i => keyL (X.getD i default)) = selCells ((T.take k).map fun i => keyL (X.getD i default)) ++ selC (keyL (X.getD i default))) := Lib.hid (by rw [HTK.out, List.map_append]; exact selCells_snoc _ _)
        have HSE := Lib.hid (fun W => mselected_any (X.getD i default) (.slice rra (X.getD i default).reqs.length rrc) W)
        clear hcl hbl HW4
        generalize X.getD i default = x at *
        simp only [relC] at HSE
        go_wp2_with fail
        refine (HSE.out _).mono ?_
        rintro e w5 ⟨rfl, hb5⟩
        have HB5 := Lib.hid (HB.out.trans (hb5.mono hs8))
        have HO5 := Lib.hid (own_far HO.out (fun j hj => hb5.block j (HO.out.lt j hj).2))
        have hs5 := HB5.out.size
        clear hb5 HSE HO HB e0 f0 d0 d1 d2 d3 d4 d5 d6 d7 d8
        have HN9 : Hid ((w5.alloc (.cells #[.string x.path, intC x.ver.1, intC x.ver.2.1, intC x.ver.2.2] 43)).heap[w5.heap.size]? = some (.cells #[.string x.path, intC x.ver.1, intC x.ver.2.1, intC x.ver.2.2] 43)) := Lib.hid (heap_alloc_new w5 _)
        go_wp2_with (at_builtin; refine wpList_append_own _ rfl _ _ 27 rfl w3.heap.size 43 i0 _ 4 40 Tryz.underlying27 hi0' hz0 hz1 hz2 rfl (by decide) (.slice xa k xc) _ _ (by rfl) (HO5.out.alloc _) ⟨w5.heap.size, 0, none⟩ 1 1 [.string x.path, intC x.ver.1, intC x.ver.2.1, intC x.ver.2.2] (by rfl) (by rfl) (World.news_of_block HN9.out) (by simp [Value.oneCell']) (by unfold maxLen; omega) (by omega) (by simp; omega) ?_; intro v' wB hown' hgrow _; have HOW := Lib.hid hown'; have HGR := Lib.hid hgrow; clear hown' hgrow; obtain ⟨g3, gc3, rfl⟩ := ownsRow_succ HOW.out)
        go_roundw
        case rel => exact ⟨k + 1, by omega, by go_num, Lib.hid (by rw [HKL.out]; exact HOW.out), Lib.hid ((HB5.out.alloc hs5 _).grown HGR.out (by simp; omega) (fun b hb => (HO5.out.lt b hb).1))⟩
        case measure => simp [intOf]; omega
end Go.Proofs.YtenfkejbndifdaaGreatDoor

namespace Go.Proofs.YtenfkejbndifdaaGreatDoor
set_option linter.unusedVariables false
set_option linter.unusedSimpArgs false
open Go Go.RowKit Go.Maps

set_option maxRecDepth 100000 in
theorem MSelect_any (v iv rov : Value) (X : List RelL) (roots : List ReqL) (w : World) (hm : MaxOk w) (hX : X.length ≤ 1000000) (hq : ∀ x ∈ X, RelBd x) (hR : RelsOf w.heap.size v X w)
    (hro : roots.length ≤ 1000000) (hrq : ReqsBd roots) (hRo : ReqsOf w.heap.size rov roots w) :
    Calls Tryz.prog 18 #[.agg #[v, iv], rov] w (SelR false X roots w) := by
  have HS := Lib.hid (fun W (hb : RowKit.Below w.heap.size w W) => selection_any false 51 (enters_of Tryz.func51 (by kernel_rfl) rfl) v iv rov X roots W (fun hv => by_old hv hX) (hm.below hb hm.pos) hX hq (hR.on hb) hro hrq (hRo.on hb))
  obtain ⟨va, vn, vc, rfl⟩ : ∃ a n c, v = .slice a n c := by obtain ⟨a, c, _, e, _⟩ := hR.rv; exact ⟨_, _, _, e⟩
  obtain ⟨ra, rc, rfl⟩ : ∃ ra rc, rov = .slice ra roots.length rc := by obtain ⟨a, c, e, _⟩ := hRo; exact ⟨a, c, e⟩
  clear hm hq hR hrq hRo
  have HB0 : Hid (Below w.heap.size w (w.alloc (.cells #[.slice va vn vc, iv] 25))) := Lib.hid (belQ _ _)
  have HI0 : Hid ((w.alloc (.cells #[.slice va vn vc, iv] 25)).heap[w.heap.size]? = some (.cells #[.slice va vn vc, iv] 25 (0, 0))) := Lib.hid (World.alloc_heap_new w _)
  go_enter Tryz.func18, Tryz.ntmps18
  go_upto_region 1 with fail
  generalize w.alloc (.cells #[.slice va vn vc, iv] 25) = W at *
  have c0 : W.cell? ⟨w.heap.size, 0, none⟩ = some (.slice va vn vc) := cell_of_row _ _ 0 _ _ _ HI0.out
  have c1 : W.cell? ⟨w.heap.size, 1, none⟩ = some iv := cell_of_row _ _ 1 _ _ _ HI0.out
  go_wp2_with fail
  refine (HS.out _ HB0.out).mono ?_
  rintro e w1 ⟨hb1, sv, rfl, hs1⟩
  have HB1 := Lib.hid (HB0.out.trans (hb1.mono HB0.out.size))
  have HS1 := Lib.hid hs1
  clear hb1 hs1 HS c0 c1
  go_wp2_with fail
  go_ret2
  exact ⟨HB1.out, sv, rfl, HS1.out⟩
end Go.Proofs.YtenfkejbndifdaaGreatDoor

namespace Go.Proofs.YtenfkejbndifdaaGreatDoor
set_option linter.unusedVariables false
set_option linter.unusedSimpArgs false
open Go Go.RowKit Go.Maps

theorem Clone_nats (v : Value) (l : List Nat) (w : World) (hl : l.length ≤ 1000000000) (h : RowOf natC w.heap.size v l w) :
    Calls Tryz.prog 106 #[v] w fun e w' => ∃ v', e = .returned v' ∧ w'.ownsRow w.heap.size 3 1 v' l.length (l.map natC) ∧ Below w.heap.size w w' := by
  rcases h with ⟨rfl, a, c, rfl⟩ | ⟨b, off, cap, rfl, _, hc⟩
  · cases a with
    | none =>
      refine (Tryz.slices_Clone_int_nil 0 c w).mono ?_
      rintro e w' ⟨rfl, rfl⟩
      exact ⟨_, rfl, World.ownsRow_nil _ _ _ _, Below.refl _ _⟩
    | some a =>
      refine (Tryz.slices_Clone_int_zero a c w).mono ?_
      rintro e w' ⟨v', rfl, h1, _, h2⟩
      exact ⟨_, rfl, h1, h2⟩
  · refine (Tryz.slices_Clone_int b off l.length cap (l.map fun n : Nat => (n : Int)) w (by simp) (by omega) (fun j hj => ?_)).mono ?_
    · rw [List.length_map] at hj
      rw [hc j l[j] (List.getElem?_eq_getElem hj), List.getD_eq_getElem?_getD, List.getElem?_map, List.getElem?_eq_getElem hj]
      rfl
    · rintro e w' ⟨v', rfl, h1, _, h2⟩
      refine ⟨_, rfl, ?_, h2⟩
      rw [List.take_of_length_le (by simp), List.map_map] at h1
      exact h1
def srtN (l : List Nat) : List Nat := l.mergeSort fun a b => decide (a ≤ b)
theorem srtN_perm (l : List Nat) : (srtN l).Perm l := List.mergeSort_perm _ _
theorem srtN_len (l : List Nat) : (srtN l).length = l.length := (srtN_perm l).length_eq
theorem srtN_sorted (l : List Nat) : (srtN l).Pairwise (· ≤ ·) := (List.pairwise_mergeSort (le := fun a b : Nat => decide (a ≤ b)) (fun a b c h1 h2 => by simp at h1 h2 ⊢; omega) (fun a b => by simp; omega) l).imp fun h => by simpa using h
theorem srt_int (l : List Nat) : (l.map fun n : Nat => (n : Int)).mergeSort (fun x y => decide (x ≤ y)) = (srtN l).map fun n : Nat => (n : Int) := by
  refine List.Perm.eq_of_pairwise (le := fun a b : Int => a ≤ b) (fun a b _ _ h1 h2 => Int.le_antisymm h1 h2) ?_ ?_ ((List.mergeSort_perm _ _).trans ((srtN_perm l).symm.map _))
  · have := List.pairwise_mergeSort (le := fun x y : Int => decide (x ≤ y)) (fun a b c h1 h2 => by simp at h1 h2 ⊢; omega) (fun a b => by simp; omega) (l.map fun n : Nat => (n : Int))
    exact this.imp fun h => by simpa using h
  · rw [List.pairwise_map]
    exact (srtN_sorted l).imp fun h => by omega
theorem sort_nats (B : Nat) (v : Value) (l : List Nat) (w : World) (h : w.ownsRow B 3 1 v l.length (l.map natC)) (hl : l.length ≤ 1000000000) :
    Calls Tryz.prog 104 #[v] w fun e w' => e = .returned (.tuple #[]) ∧ w.grownBy w' v.ownBlock ∧ w'.ownsRow B 3 1 v l.length ((srtN l).map natC) := by
  have hs := sort_row B v (l.map fun n : Nat => (n : Int)) w (by rw [List.length_map, List.map_map]; exact h) (by rw [List.length_map]; omega)
  rw [srt_int] at hs
  refine hs.mono ?_
  rintro e w' ⟨rfl, h1, h2⟩
  rw [List.length_map, List.map_map, srtN_len] at h2
  exact ⟨rfl, h1, h2⟩
def edgN (X : List RelL) (i : Nat) : List Nat := srtN (namesL false X (X.getD i default).reqs)
structure EdgF (X : List RelL) (gm gx : Nat) (s : List Nat) (f : Lit → Option Value) (D : Nat → Prop) (W : World) : Prop where
  rows : ∀ i ∈ s, ∃ v, f (keyN i) = some v ∧ W.ownsRow 0 3 1 v (edgN X i).length ((edgN X i).map natC) ∧ ∀ b, v.ownBlock = some b → D b
  none : ∀ q, (∀ i ∈ s, keyN i ≠ q) → f q = Option.none
  lo : ∀ b, D b → gm < b ∧ gx < b
  hi : ∀ b, D b → b < W.heap.size
theorem EdgF.start (X : List RelL) (gm gx : Nat) (W : World) : EdgF X gm gx [] (fun _ => Option.none) (fun _ => False) W := ⟨fun i hi => (by cases hi), fun _ _ => rfl, fun _ h => h.elim, fun _ h => h.elim⟩
theorem EdgF.far {X : List RelL} {gm gx : Nat} {s : List Nat} {f : Lit → Option Value} {D : Nat → Prop} {W W' : World} (h : EdgF X gm gx s f D W) (hs : W.heap.size ≤ W'.heap.size) (hk : ∀ b, D b → W'.heap[b]? = W.heap[b]?) : EdgF X gm gx s f D W' :=
  ⟨fun i hi => by
    obtain ⟨v, h1, h2, h3⟩ := h.rows i hi
    exact ⟨v, h1, own_far h2 (fun b hb => hk b (h3 b hb)), h3⟩, h.none, h.lo, fun b hb => Nat.lt_of_lt_of_le (h.hi b hb) hs⟩
theorem EdgF.put {X : List RelL} {gm gx : Nat} {s : List Nat} {f : Lit → Option Value} {D : Nat → Prop} {W : World} (h : EdgF X gm gx s f D W) {i : Nat} {v : Value} (hv : W.ownsRow 0 3 1 v (edgN X i).length ((edgN X i).map natC)) (hb : ∀ b, v.ownBlock = some b → gm < b ∧ gx < b) :
    EdgF X gm gx (i :: s) (putF f (.int .i64 (i : Int)) v) (fun b => D b ∨ v.ownBlock = some b) W := by
  refine ⟨fun j hj => ?_, fun q hq => ?_, fun b hb2 => hb2.elim (h.lo b) (hb b), fun b hb2 => hb2.elim (h.hi b) (fun e => (hv.lt b e).2)⟩
  · by_cases e : j = i
    · subst e
      exact ⟨v, putF_same _ _ _, hv, fun b hb => .inr hb⟩
    · obtain ⟨u, h1, h2, h3⟩ := h.rows j ((List.mem_cons.1 hj).resolve_left e)
      refine ⟨u, ?_, h2, fun b hb => .inl (h3 b hb)⟩
      show putF f (keyN i) v (keyN j) = _
      rw [putF_other _ _ (fun e2 => e (keyN_inj e2)), h1]
  · have e : q ≠ .int .i64 (i : Int) := fun e => hq i (by simp) e.symm
    rw [putF_other _ _ e]
    exact h.none q fun r hr => hq r (by simp [hr])
structure EdgJ (X : List RelL) (gm gx : Nat) (s : List Nat) (D : Nat → Prop) (W : World) : Prop where
  mb : W.heap[gx]? = some (.cells #[.map (some gm)] 88 (0, 0))
  map : ∃ f, MapF Tryz.prog 3 W gm s.length f ∧ EdgF X gm gx s f D W
theorem EdgJ.kept {w : World} {X : List RelL} {gm gx : Nat} (h1 : gm < w.heap.size) (h2 : gx < w.heap.size) : JKept w (EdgJ X gm gx) := fun s D W W' row h hs hg hr => by
  obtain ⟨b, f, c, d⟩ := h
  have ne : ∀ x, x < w.heap.size → some x ≠ row := fun x hx e => by have := (hr x e.symm).1; omega
  refine ⟨(hg.block gx (by omega) (ne gx h2)).trans b, f, c.kept hg (ne gm h1), ?_⟩
  exact d.far hg.size fun b hb => hg.block b (d.hi b hb) (fun e => (hr b e.symm).2 hb)
set_option maxRecDepth 100000 in
set_option maxHeartbeats 4000000 in
theorem edges1_any (X : List RelL) (gm gx : Nat) (s : List Nat) (D : Nat → Prop) (W : World) (i : Nat) (nv : Value) (hXl : X.length ≤ 1000000) (hJ : EdgJ X gm gx s D W) (hgx : gx ≠ gm) (hi : i < X.length) (hs : s.length < X.length) (hr : RowOf natC W.heap.size nv (namesL false X (X.getD i default).reqs) W) (hrl : (X.getD i default).reqs.length ≤ 1000000) (hgl : gm < W.heap.size) :
    Calls Tryz.prog 105 #[.int .i64 (i : Int), nv, .pointer (some ⟨gx, 0, none⟩)] W fun e w' => e = .returned (.tuple #[]) ∧ W.grownBy w' (some gm) ∧ ∃ D', EdgJ X gm gx (i :: s) D' w' ∧ (∀ b, D' b → b < w'.heap.size) ∧ ∀ b, D' b → D b ∨ W.heap.size ≤ b := by
  have hnl : (namesL false X (X.getD i default).reqs).length ≤ 1000000 := Nat.le_trans namesL_len hrl
  have HCL := Lib.hid (fun W' (hb : Below W.heap.size W W') => Clone_nats nv (namesL false X (X.getD i default).reqs) W' (by omega) ((hr.below hb (Nat.le_refl _)).mono hb.size))
  have HEN : Hid (edgN X i = srtN (namesL false X (X.getD i default).reqs)) := Lib.hid rfl
  obtain ⟨va, vc, rfl, _⟩ := rowOf_open hr
  obtain ⟨hb0, f, hmf, hef⟩ := hJ
  have HB0 := Lib.hid hb0
  have HMF := Lib.hid hmf
  have HEF := Lib.hid hef
  have hgxl := (Array.getElem?_eq_some_iff.1 hb0).1
  have HKY := Lib.hid (keyI (a := (i : Int)) (by omega) (by omega))
  generalize namesL false X (X.getD i default).reqs = l at *
  clear hr hb0 hmf hef hrl
  have HS : Hid (∀ W', Below W.heap.size W W' → HeldC ⟨gx, 0, none⟩ ⟨gx, 0, none⟩ (.map (some gm)) (.map (some gm)) W') := Lib.hid (fun W' hb => ⟨cell_of_row _ _ 0 _ _ _ ((hb.block gx hgxl).trans HB0.out), cell_of_row _ _ 0 _ _ _ ((hb.block gx hgxl).trans HB0.out)⟩)
  go_enter Tryz.func105, Tryz.ntmps105
  go_upto_region 0 with fail
  refine wp_region_noPanic ?_
  refine region_plain_split (S := HeldC ⟨gx, 0, none⟩ ⟨gx, 0, none⟩ (.map (some gm)) (.map (some gm))) 4 (by kernel_rfl) (by kernel_rfl) ?_
  simp only [List.take_succ_cons, List.take_zero]
  have hS0 := HS.out W.drew (Below.refl _ _).drew
  (refine zl3 0 ?_ rfl ?_ ?_; rotate_left; (· (rintro w ⟨c0, c1⟩; go_simp; try with_reducible rfl)); (try simp only [zl1]))
  (refine zl3 1 ?_ rfl ?_ ?_; rotate_left; (· (rintro w ⟨c0, c1⟩; go_simp; try with_reducible rfl)); (try simp only [zl1]))
  (refine zl3 2 ?_ rfl ?_ ?_; rotate_left; (· (rintro w ⟨c0, c1⟩; go_simp; try with_reducible rfl)); (try simp only [zl1]))
  refine wpAnyH_ready (rs := [3]) (by kernel_rfl) (by simp) (AllReadyH.cons rfl (fun K hK => ?_) AllReadyH.nil)
  go_simp
  refine (HCL.out _ (Below.refl _ _).drew).mono ?_
  rintro e w2 ⟨v2, rfl, ho2, hb2⟩
  have HB2 := Lib.hid ((Below.refl W.heap.size W).drew.trans hb2)
  have HO2 : Hid (w2.ownsRow W.heap.size 3 1 v2 l.length (l.map natC)) := Lib.hid ho2
  refine hK.out _ _ (HS.out _ HB2.out) (fun _ => ?_)
  clear hK K hS0 hb2 ho2
  (try simp only [zl1])
  refine wpAnyH_done (by kernel_rfl) ?_ _
  show wpList _ _ _ _ _ _
  simp only [List.drop_succ_cons, List.drop_zero]
  refine wpList_put_F rfl _ _ _ _ rfl 3 79 lawI Tryz.underlying88 gm s.length f (by rfl) (HMF.out.below HB2.out) (by unfold maxLen; omega) _ _ (.int .i64 (i : Int)) rfl rfl HKY.out ?_
  intro W3 h3 g3
  have HM3 := Lib.hid h3
  have HG3 := Lib.hid g3
  have HE3 : Hid (EdgF X gm gx s f D W3) := Lib.hid (HEF.out.far (Nat.le_trans HB2.out.size g3.size) (fun b hb => (g3.block b (Nat.lt_of_lt_of_le (HEF.out.hi b hb) HB2.out.size) (by intro e; injection e with e; have := (HEF.out.lo b hb).1; omega)).trans (HB2.out.block b (HEF.out.hi b hb))))
  have HO3 : Hid (W3.ownsRow W.heap.size 3 1 v2 l.length (l.map natC)) := Lib.hid (own_far HO2.out (fun b hb => g3.block b (HO2.out.lt b hb).2 (by intro e; injection e with e; have := (HO2.out.lt b hb).1; omega)))
  have HX3 := Lib.hid ((g3.block gx (Nat.lt_of_lt_of_le hgxl HB2.out.size) (by intro e; injection e with e; exact hgx e)).trans ((HB2.out.block gx hgxl).trans HB0.out))
  clear h3 g3 HS HCL
  refine NoPanic.normal ?_
  have HSO := Lib.hid (sort_nats W.heap.size v2 l W3 HO3.out (by omega))
  have e0 : W3.cell? ⟨gx, 0, none⟩ = some (.map (some gm)) := cell_of_row _ _ 0 _ _ _ HX3.out
  obtain ⟨oa, oc, rfl⟩ := own_any HO3.out
  go_wp2_with (at_lookup; refine wpList_look_F rfl _ _ 88 rfl 3 79 lawI Tryz.underlying88 (Tryz.zeroValue79 _) gm (s.length + 1) _ (by rfl) HM3.out _ (.int .i64 (i : Int)) rfl HKY.out ?_; rw [putF_same])
  refine HSO.out.mono ?_
  rintro e w4 ⟨rfl, hg4, ho4⟩
  have hgf : W.grownBy w4 (some gm) := ⟨hg4.os.trans (HG3.out.os.trans HB2.out.os), hg4.tape.trans (HG3.out.tape.trans HB2.out.tape), hg4.output.trans (HG3.out.output.trans HB2.out.output), Nat.le_trans HB2.out.size (Nat.le_trans HG3.out.size hg4.size), fun j hj hne =>
    (hg4.block j (Nat.lt_of_lt_of_le hj (Nat.le_trans HB2.out.size HG3.out.size)) (fun e => by have := (HO3.out.lt j e.symm).1; omega)).trans ((HG3.out.block j (Nat.lt_of_lt_of_le hj HB2.out.size) hne).trans (HB2.out.block j hj))⟩
  have hef4 : EdgF X gm gx s f D w4 := HE3.out.far hg4.size (fun b hb => hg4.block b (HE3.out.hi b hb) (fun e => by have h1 := (HO3.out.lt b e.symm).1; have h2 := HEF.out.hi b hb; omega))
  have hrow : w4.ownsRow 0 3 1 (.slice oa l.length oc) (edgN X i).length ((edgN X i).map natC) := by
    rw [HEN.out, srtN_len]
    exact own_lower ho4 (Nat.zero_le _)
  have hput := hef4.put hrow (fun b hb => by have := (HO3.out.lt b hb).1; omega)
  have HGF := Lib.hid hgf
  have HPUT := Lib.hid hput
  have HM4 := Lib.hid (HM3.out.kept hg4 (fun e => by have := (HO3.out.lt gm e.symm).1; omega))
  have HX4 := Lib.hid ((hg4.block gx (Array.getElem?_eq_some_iff.1 HX3.out).1 (fun e => by have := (HO3.out.lt gx e.symm).1; omega)).trans HX3.out)
  have HLO : Hid (∀ b, (.slice oa l.length oc : Value).ownBlock = some b → W.heap.size ≤ b) := Lib.hid (fun b hb => (HO3.out.lt b hb).1)
  clear hg4 ho4 hgf hef4 hrow hput HSO e0
  go_wp2_with fail
  go_end0
  exact ⟨rfl, HGF.out, _, ⟨HX4.out, _, HM4.out, HPUT.out⟩, HPUT.out.hi, fun b hb => hb.imp id (HLO.out b)⟩
def EdgesR (X : List RelL) (roots : List ReqL) (w : World) (e : Ending) (w' : World) : Prop := Below w.heap.size w w' ∧ ∃ (m : Nat) (f : Lit → Option Value) (s : List Nat), e = .returned (.map (some m)) ∧ MapF Tryz.prog 3 w' m s.length f ∧ s.Nodup ∧ (∀ i, RchM false X roots i ↔ i ∈ s) ∧ (∀ i ∈ s, ∃ v, f (keyN i) = some v ∧ RowOf natC w'.heap.size v (edgN X i) w') ∧ ∀ q, (∀ i ∈ s, keyN i ≠ q) → f q = none
set_option maxRecDepth 100000 in
set_option maxHeartbeats 8000000 in
theorem edges_any (g : Nat) (X : List RelL) (a : Option Addr) (c m n : Nat) (f : Lit → Option Value) (hXl : X.length ≤ 1000000) (hXb : ∀ x ∈ X, RelBd x)
    (roots : List ReqL) (lv : Value) (hp : PlainP X roots) (ha : AllM false X roots) (hll : roots.length ≤ 1000000) (hq : ReqsBd roots) (w : World) (hw : WorldOf w g X a c m n f) (hL : ReqsOf w.heap.size lv roots w) :
    Calls Tryz.prog 54 #[.pointer (some ⟨g, 0, none⟩), lv] w (EdgesR X roots w) := by
  have hmm := @run_makeMap Tryz.prog
  obtain ⟨la, lc, rfl⟩ : ∃ la lc, lv = .slice la roots.length lc := by obtain ⟨a, c, e, _⟩ := hL; exact ⟨a, c, e⟩
  have HB1 : Hid (Below w.heap.size w ((w.alloc (.map #[] 0)).alloc (.cells #[.map (some w.heap.size)] 88))) := Lib.hid (by repeat (first | exact Below.refl _ _ | refine Below.drew ?_ | refine Below.alloc ?_ (by simp <;> omega) _ | refine Below.setCell ?_ (by simp <;> omega) _))
  have HJ0 : Hid (EdgJ X w.heap.size (w.heap.size + 1) [] (fun _ => False) ((w.alloc (.map #[] 0)).alloc (.cells #[.map (some w.heap.size)] 88))) := Lib.hid (by
    refine ⟨?_, _, (MapF.made Tryz.prog 3 w).alloc _, EdgF.start X _ _ _⟩
    have := World.alloc_heap_new (w.alloc (.map #[] 0)) (.cells #[.map (some w.heap.size)] 88)
    rwa [World.size_alloc] at this)
  go_enter Tryz.func54, Tryz.ntmps54
  go_upto_region 2 with fail
  have hz : ((w.alloc (.map #[] 0)).alloc (.cells #[.map (some w.heap.size)] 88)).heap.size = w.heap.size + 1 + 1 := by simp
  generalize (w.alloc (.map #[] 0)).alloc (.cells #[.map (some w.heap.size)] 88) = W at *
  clear hmm
  have hzl : w.heap.size + 1 < W.heap.size := by omega
  clear hz
  have HR := Lib.hid (reach_any false 51 105 #[.pointer (some ⟨w.heap.size + 1, 0, none⟩)] (enters_of Tryz.func51 (by kernel_rfl) rfl) (enters_of Tryz.func105 (by kernel_rfl) rfl) g X a c m n f (by_old (validX (idx_ok hp.idx)) hXl) hXl hXb roots (.slice la roots.length lc) hp hll hq w W w.heap.size
    (EdgJ X w.heap.size (w.heap.size + 1)) hw HB1.out (by omega) (by omega) (hL.on HB1.out) HJ0.out (EdgJ.kept (by omega) (by omega))
    (fun s D W2 i nv hJ hd hb hi _ hs _ hr => edges1_any X _ _ s D W2 i nv hXl hJ (by omega) hi hs hr (by have := (hXb _ (List.getElem_mem hi)).len; rw [List.getD_eq_getElem?_getD, List.getElem?_eq_getElem hi]; exact this) (by obtain ⟨_, _, h, _⟩ := hJ; exact h.lt)))
  clear hw hL hq hXb
  go_wp2_with fail
  refine HR.out.mono ?_
  rintro e w2 ⟨hb2, h2⟩
  have HB2 := Lib.hid hb2
  clear hb2 HR HJ0 HB1
  rcases h2 with ⟨s, D, rfl, hri, hj⟩ | ⟨rfl, hno⟩
  case inr => exact absurd ha hno
  obtain ⟨hx, f2, hmf, hef⟩ := hj
  have HMF := Lib.hid hmf
  have HEF := Lib.hid hef
  have HRI := Lib.hid hri
  have e0 : w2.cell? ⟨w.heap.size + 1, 0, none⟩ = some (.map (some w.heap.size)) := cell_of_row _ _ 0 _ _ _ hx
  clear hx hmf hef hri ha
  go_wp2_with fail
  go_ret
  refine ⟨HB2.out, _, f2, s, rfl, HMF.out, HRI.out.nodup, HRI.out.done.2, fun i hi => ?_, HEF.out.none⟩
  obtain ⟨v, h1, h2, _⟩ := HEF.out.rows i hi
  exact ⟨v, h1, (own_row h2).2⟩
end Go.Proofs.YtenfkejbndifdaaGreatDoor

namespace Go.Proofs.YtenfkejbndifdaaGreatDoor
set_option linter.unusedVariables false
set_option linter.unusedSimpArgs false
open Go Go.Maps

abbrev dD (X : List RelL) (t i : Nat) : Int := gD (dT X t) i
theorem swap_dT {X : List RelL} {t : Nat} (ht : t < X.length) : DistR (sucs X.length ((relEs X).map swapE)) 0 t (dT X t) := swap_dist X.length (relEs X) t ht
theorem edgN_mem {X : List RelL} {i j : Nat} : j ∈ edgN X i ↔ ∃ q ∈ (X.getD i default).reqs, namedI false X q = some j := by
  unfold edgN
  rw [(srtN_perm _).mem_iff, namesL_mem]
theorem dD_lo {X : List RelL} {t : Nat} (ht : t < X.length) (i : Nat) : -1 ≤ dD X t i := (swap_dT ht).lo i
theorem dD_zero {X : List RelL} {t : Nat} (ht : t < X.length) {i : Nat} : dD X t i = 0 ↔ i = t := ⟨(swap_dT ht).zero i, fun e => by rw [e]; exact (swap_dT ht).t0⟩
theorem dD_near {X : List RelL} {t : Nat} (ht : t < X.length) {i j : Nat} (hi : i < X.length) (hj : j ∈ edgN X i) (h : 0 ≤ dD X t j) : 0 ≤ dD X t i ∧ dD X t i ≤ dD X t j + 1 := by
  refine (swap_dT ht).near j h i ?_
  unfold ofP
  rw [List.mem_filter]
  refine ⟨?_, by simp⟩
  have h1 := rel_suc.2 ⟨hi, edgN_mem.1 hj⟩
  rw [mem_sucs] at h1 ⊢
  obtain ⟨a, b, c⟩ := h1
  exact ⟨b, a, List.mem_map.2 ⟨_, c, rfl⟩⟩
theorem dD_desc {X : List RelL} {t : Nat} (ht : t < X.length) {i m : Nat} (h : dD X t i = (m : Int) + 1) : ∃ j ∈ edgN X i, dD X t j = (m : Int) := by
  obtain ⟨k, hk, hm⟩ := (swap_dT ht).desc i m h
  exact ⟨k, edgN_mem.2 (rel_suc.1 hk).2, hm⟩
theorem dD_bound {X : List RelL} {t : Nat} (ht : t < X.length) (i : Nat) : dD X t i ≤ X.length := by
  have h := (swap_dT ht).bound sucs_lt (by rw [sucs_length]; exact ht) i
  rwa [sucs_length] at h
structure FarAt (X : List RelL) (t n : Nat) (s : List Nat) (done : Nat → Bool) (f : Lit → Option Value) : Prop where
  yes : ∀ i ∈ s, (0 ≤ dD X t i ∧ dD X t i ≤ n) ∨ (dD X t i = (n : Int) + 1 ∧ done i = true) → f (keyN i) = some (.int .i64 (dD X t i))
  no : ∀ i ∈ s, ¬ ((0 ≤ dD X t i ∧ dD X t i ≤ n) ∨ (dD X t i = (n : Int) + 1 ∧ done i = true)) → f (keyN i) = none
  out : ∀ q, (∀ i ∈ s, keyN i ≠ q) → f q = none
variable {X : List RelL} {t n : Nat} {s : List Nat} {done : Nat → Bool} {f : Lit → Option Value}
theorem FarAt.start (ht : t < X.length) (hs : t ∈ s) : FarAt X t 0 s (fun _ => false) (putF (fun _ => none) (.int .i64 (t : Int)) (.int .i64 0)) := by
  have key : ∀ i, (0 ≤ dD X t i ∧ dD X t i ≤ ((0 : Nat) : Int)) ∨ (dD X t i = ((0 : Nat) : Int) + 1 ∧ (fun _ => false) i = true) ↔ i = t := fun i => by
    rw [← dD_zero ht]
    constructor
    · rintro (h | ⟨_, h⟩)
      · omega
      · cases h
    · intro h; left; omega
  refine ⟨fun i hi h => ?_, fun i hi h => ?_, fun q hq => ?_⟩
  · have := (key i).1 h
    subst this
    rw [(dD_zero ht).2 rfl]
    exact putF_same _ _ _
  · exact putF_other _ _ (fun e => h ((key i).2 (keyN_inj (p := i) (q := t) e)))
  · exact putF_other _ _ (fun e => hq t hs e.symm)
def farB (f : Lit → Option Value) (n : Int) (j : Nat) : Bool := match f (keyN j) with
  | some (.int .i64 d) => decide (d = n)
  | _ => false
theorem farB_iff {f : Lit → Option Value} {n : Int} {j : Nat} : farB f n j = true ↔ f (keyN j) = some (.int .i64 n) := by
  unfold farB
  constructor
  · intro h
    split at h
    · rename_i d e
      rw [e, of_decide_eq_true h]
    · cases h
  · intro h
    rw [h]
    simp
theorem FarAt.test (h : FarAt X t n s done f) (ht : t < X.length) {i : Nat} (hi : i ∈ s) (hix : i < X.length) (hsub : ∀ j ∈ edgN X i, j ∈ s) (hd : done i = false) (hn : f (keyN i) = none) :
    ((edgN X i).any fun j => farB f (n : Int) j) = true ↔ dD X t i = (n : Int) + 1 := by
  have hni : ¬ (0 ≤ dD X t i ∧ dD X t i ≤ n) := fun h2 => by
    have := h.yes i hi (.inl h2)
    rw [hn] at this
    cases this
  have key : ∀ j ∈ s, f (keyN j) = some (.int .i64 (n : Int)) ↔ dD X t j = n := fun j hj => by
    constructor
    · intro e
      by_cases hc : (0 ≤ dD X t j ∧ dD X t j ≤ n) ∨ (dD X t j = (n : Int) + 1 ∧ done j = true)
      · have := h.yes j hj hc
        rw [e] at this
        injection this with this
        injection this with _ this
        exact this.symm
      · have := h.no j hj hc
        rw [e] at this
        cases this
    · intro e
      have := h.yes j hj (.inl (by omega))
      rwa [e] at this
  rw [List.any_eq_true]
  constructor
  · rintro ⟨j, hj, h2⟩
    have h3 := (key j (hsub j hj)).1 (farB_iff.1 h2)
    have h4 := dD_near ht hix hj (by omega)
    have := dD_lo ht i
    omega
  · intro h2
    obtain ⟨j, hj, h3⟩ := dD_desc ht h2
    exact ⟨j, hj, farB_iff.2 ((key j (hsub j hj)).2 h3)⟩
theorem FarAt.put (h : FarAt X t n s done f) {i : Nat} (hi : i ∈ s) (hd : dD X t i = (n : Int) + 1) : FarAt X t n s (fun j => done j || decide (j = i)) (putF f (.int .i64 (i : Int)) (.int .i64 ((n : Int) + 1))) := by
  have key : ∀ j, j ≠ i → putF f (.int .i64 (i : Int)) (.int .i64 ((n : Int) + 1)) (keyN j) = f (keyN j) := fun j e => putF_other _ _ (fun e2 => e (keyN_inj (p := j) (q := i) e2))
  refine ⟨fun j hj h2 => ?_, fun j hj h2 => ?_, fun q hq => ?_⟩
  · by_cases e : j = i
    · subst e
      rw [hd]
      exact putF_same _ _ _
    · rw [key j e]
      exact h.yes j hj (h2.imp id fun ⟨a, b⟩ => ⟨a, by simpa [e] using b⟩)
  · by_cases e : j = i
    · subst e
      exact absurd (.inr ⟨hd, by simp⟩) h2
    · rw [key j e]
      exact h.no j hj fun h3 => h2 (h3.imp id fun ⟨a, b⟩ => ⟨a, by simp [b]⟩)
  · have e : q ≠ .int .i64 (i : Int) := fun e => hq i hi e.symm
    rw [putF_other _ _ e]
    exact h.out q hq
theorem FarAt.skip (h : FarAt X t n s done f) {i : Nat} (hd : dD X t i ≠ (n : Int) + 1) : FarAt X t n s (fun j => done j || decide (j = i)) f := by
  refine ⟨fun j hj h2 => h.yes j hj (h2.imp id fun ⟨a, b⟩ => ⟨a, ?_⟩), fun j hj h2 => h.no j hj fun h3 => h2 (h3.imp id fun ⟨a, b⟩ => ⟨a, by simp [b]⟩), h.out⟩
  by_cases e : j = i
  · subst e; exact absurd a hd
  · simpa [e] using b
theorem FarAt.next (h : FarAt X t n s done f) (hd : ∀ i ∈ s, done i = true) : FarAt X t (n + 1) s (fun _ => false) f := by
  refine ⟨fun i hi h2 => h.yes i hi ?_, fun i hi h2 => h.no i hi fun h3 => h2 ?_, h.out⟩
  · rcases h2 with h2 | ⟨_, h2⟩
    · by_cases e : dD X t i = (n : Int) + 1
      · exact .inr ⟨e, hd i hi⟩
      · exact .inl (by omega)
    · cases h2
  · left
    rcases h3 with h3 | ⟨h3, _⟩ <;> omega
theorem FarAt.all (h : FarAt X t n s (fun _ => false) f) (ht : t < X.length) (hx : ∀ i ∈ s, i < X.length) (hsub : ∀ i ∈ s, ∀ j ∈ edgN X i, j ∈ s) (hn : ∀ i ∈ s, dD X t i ≠ n) (h0 : 0 < n) : ∀ i ∈ s, f (keyN i) = if 0 ≤ dD X t i then some (.int .i64 (dD X t i)) else none := by
  have key : ∀ m : Nat, ∀ i ∈ s, dD X t i = (n : Int) + m → False := by
    intro m
    induction m with
    | zero => exact fun i hi e => hn i hi (by simpa using e)
    | succ m ih =>
      intro i hi e
      obtain ⟨j, hj, h2⟩ := dD_desc (m := n + m) ht (i := i) (by push_cast; rw [e]; push_cast; omega)
      exact ih j (hsub i hi j hj) (by rw [h2]; push_cast; omega)
  intro i hi
  by_cases h1 : 0 ≤ dD X t i
  · rw [if_pos h1]
    refine h.yes i hi (.inl ⟨h1, ?_⟩)
    by_cases h2 : dD X t i ≤ n
    · exact h2
    · exact (key (dD X t i - n).toNat i hi (by omega)).elim
  · rw [if_neg h1]
    exact h.no i hi (by rintro (h2 | ⟨_, h2⟩) <;> first | omega | cases h2)
end Go.Proofs.YtenfkejbndifdaaGreatDoor

namespace Go.Proofs.YtenfkejbndifdaaGreatDoor
set_option linter.unusedVariables false
set_option linter.unusedSimpArgs false
open Go Go.RowKit Go.Maps

def PredN (g : Nat) (lb : Array Value) (es : List Nat) (p : Nat → Bool) (w : World) : Prop :=
  ∀ (W : World) (x : Nat), x ∈ es → Below w.heap.size w W → Calls Tryz.prog g (#[.int .i64 (x : Int)] ++ lb) W fun e w' => e = .returned (.bool (p x)) ∧ Below w.heap.size w w'
set_option maxRecDepth 100000 in
set_option maxHeartbeats 4000000 in
theorem idx_nat (g : Nat) (lb : Array Value) (eg : ∀ args w, (callFunc g args).run Tryz.prog w = .ok (.enter g args) w) (p : Nat → Bool) (v : Value) (es : List Nat) (w : World) (hes : es.length ≤ 1000000000) (hE : RowOf natC w.heap.size v es w) (hp : PredN g lb es p w) :
    Calls Tryz.prog 52 #[v, .func (.func g) #[] lb] w fun e w' => e = .returned (.int .i64 (firstI p es)) ∧ Below w.heap.size w w' := by
  obtain ⟨ao, ec, rfl, hat⟩ := rowOf_open hE
  have HE := Lib.hid hat
  clear hat
  have HP := Lib.hid hp
  obtain ⟨R, hR⟩ : ∃ R, firstI p es = R := ⟨_, rfl⟩
  have HR := Lib.hid hR
  rw [hR]
  clear hE hp hR
  go_enter Tryz.func52, Tryz.ntmps52
  go_wp2_with fail
  go_loopw [8] (fun s wr => ∃ k : Nat, k ≤ es.length ∧ s = .int .i64 k ∧ Hid (Below w.heap.size w wr) ∧ Hid (∀ x ∈ es.take k, p x = false)) (fun s _ => es.length - (intOf s).toNat)
  case atStart => exact ⟨0, by omega, rfl, Lib.hid (Below.refl _ _), Lib.hid (by simp)⟩
  case round =>
    obtain ⟨k, hk, rfl, HB, HA⟩ := hrel
    by_cases hlt : k < es.length
    · have hlt2 : (k : Int) < (es.length : Int) := by omega
      obtain ⟨b, off, rfl, hb, hc1⟩ := HE.out k es[k] (by simp [hlt])
      have hd1 := (HB.out.cell (p := ⟨b, off + k, none⟩) hb).trans hc1
      have HT : Hid (es.take (k + 1) = es.take k ++ [es[k]]) := Lib.hid (List.take_succ_eq_append_getElem hlt)
      have HF : Hid (p es[k] = true → R = (k : Int)) := Lib.hid (fun h => by rw [← HR.out]; exact firstI_at hlt HA.out h)
      have HCALL := Lib.hid (HP.out wr es[k] (List.getElem_mem hlt) HB.out)
      generalize es[k] = x at *
      cases hq : p x with
      | true =>
        rw [hq] at HCALL
        have HQ := Lib.hid (HF.out hq)
        clear hq
        go_wp2_with (go_at_fn g; refine HCALL.out.mono ?_; rintro e w' ⟨rfl, hb'⟩)
        go_ret
        exact ⟨by rw [HQ.out]; rfl, hb'⟩
      | false =>
        rw [hq] at HCALL
        have HQ := Lib.hid hq
        clear hq
        go_wp2_with (go_at_fn g; refine HCALL.out.mono ?_; rintro e w' ⟨rfl, hb'⟩)
        go_roundw
        case rel =>
          refine ⟨k + 1, by omega, by go_num, Lib.hid hb', Lib.hid ?_⟩
          rw [HT.out]
          intro y hy
          rcases List.mem_append.1 hy with hy | hy
          · exact HA.out y hy
          · rw [List.mem_singleton] at hy; rw [hy]; exact HQ.out
        case measure => simp [intOf]; omega
    · have hkk : k = es.length := by omega
      subst hkk
      rw [List.take_length] at HA
      have HN := Lib.hid (show R = -1 by rw [← HR.out]; exact firstI_none HA.out)
      go_wp2_with fail
      go_ret
      exact ⟨by rw [HN.out]; rfl, HB.out⟩
theorem has_nat (g : Nat) (lb : Array Value) (eg : ∀ args w, (callFunc g args).run Tryz.prog w = .ok (.enter g args) w) (p : Nat → Bool) (v : Value) (es : List Nat) (w : World) (hes : es.length ≤ 1000000000) (hE : RowOf natC w.heap.size v es w) (hp : PredN g lb es p w) :
    Calls Tryz.prog 55 #[v, .func (.func g) #[] lb] w fun e w' => e = .returned (.bool (es.any p)) ∧ Below w.heap.size w w' := by
  have HI := Lib.hid (idx_nat g lb eg p v es w hes hE hp)
  obtain ⟨f1, f2⟩ := firstI_any p es
  generalize firstI p es = r at HI f1 f2
  generalize es.any p = q at f1 f2 ⊢
  have HF := Lib.hid (And.intro f1 f2)
  obtain ⟨ao, ec, rfl, _⟩ := rowOf_open hE
  clear hp eg f1 f2
  go_enter Tryz.func55, Tryz.ntmps55
  go_wp2_with fail
  refine HI.out.mono ?_
  rintro e w' ⟨rfl, hb⟩
  cases q with
  | true =>
    have h0 : 0 ≤ r := HF.out.1.2 rfl
    go_wp2_with fail
    go_ret
    exact ⟨rfl, hb⟩
  | false =>
    have h2 : r < 0 := HF.out.2.2 rfl
    have h0 : ¬ 0 ≤ r := by omega
    have h1 : decide (0 ≤ r) = false := decide_eq_false h0
    go_wp2_with fail
    go_ret
    exact ⟨rfl, hb⟩
theorem run_look_F {P : Program} {k e t : TypeId} (K : Keyed P k) (ht : P.underlying t = some (.map k e)) {W : World} {z : Value} (hz : (zeroValue e).run P W = .ok z W) {b n : Nat} {f : Lit → Option Value} (hown : MapF P k W b n f) {key : Value} {kl : Lit} (hkey : keyOf P k key = some kl) : (Instr.lookup t (.map (some b)) key false).run P W = .ok ((f kl).getD z) W := by
  obtain ⟨D, h1, h2, h3, h4⟩ := hown
  obtain ⟨v, ps, hrun, hv⟩ := h1.lookup K ht hz (zd := .held z) (zp := []) rfl hkey
  rw [h4] at hv
  have e : v = (f kl).getD z := by
    unfold RV at hv
    cases hf : f kl with
    | none => rw [hf] at hv; injection hv with hv; injection hv with hv _; injection hv
    | some u => rw [hf] at hv; injection hv with hv; injection hv with hv _; injection hv
  rw [hrun, e]
def HeldP (gw g b o gp : Nat) (xv : Value) (p q : ByteArray) (W : World) : Prop := W.cell? ⟨gw, 0, none⟩ = some (.pointer (some ⟨g, 0, none⟩)) ∧ W.cell? ⟨g, 0, none⟩ = some xv ∧ W.cell? ⟨b, o, none⟩ = some (.string p) ∧ W.cell? ⟨gp, 0, none⟩ = some (.string q)
set_option maxRecDepth 100000 in
set_option maxHeartbeats 4000000 in
theorem why1_any (g gw gp : Nat) (X : List RelL) (a : Option Addr) (c m n : Nat) (f : Lit → Option Value) (i : Nat) (p : ByteArray) (W : World) (hw : WorldOf W g X a c m n f) (hi : i < X.length) (hXl : X.length ≤ 1000000) (h1 : W.cell? ⟨gw, 0, none⟩ = some (.pointer (some ⟨g, 0, none⟩))) (h2 : W.cell? ⟨gp, 0, none⟩ = some (.string p)) :
    Calls Tryz.prog 53 #[.int .i64 (i : Int), .pointer (some ⟨gw, 0, none⟩), .pointer (some ⟨gp, 0, none⟩)] W fun e w' => e = .returned (.bool (decide ((X.getD i default).path = p))) ∧ Below W.heap.size W w' := by
  obtain ⟨b, off, ra, rc, rfl, hbl, hcs, _⟩ := hw.rel hi
  have HS0 : Hid (HeldP gw g b (off + i * 9) gp (.slice (some ⟨b, off, none⟩) X.length c) (X.getD i default).path p W) := Lib.hid ⟨h1, hw.c0, hcs.1, h2⟩
  have HE : Hid (((X.getD i default).path.toList == p.toList) = decide ((X.getD i default).path = p)) := Lib.hid (eqs_dec _ _)
  generalize (X.getD i default).path = q at *
  have hi1 : (0 : Int) ≤ (i : Int) := by omega
  have hi2 : (i : Int) < (X.length : Int) := by omega
  clear hw hcs h1 h2
  go_enter Tryz.func53, Tryz.ntmps53
  go_upto_region 1 with fail
  refine wp_region_noPanic ?_
  refine wp_region_held_drew (S := HeldP gw g b (off + i * 9) gp (.slice (some ⟨b, off, none⟩) X.length c) q p) (by kernel_rfl) HS0.out (fun hS0 => ?_)
  (refine zl3 0 ?_ rfl ?_ ?_; rotate_left; (· (rintro w ⟨c0, c1, c2, c3⟩; go_simp; try with_reducible rfl)); (try simp only [zl1]))
  (refine zl3 1 ?_ rfl ?_ ?_; rotate_left; (· (rintro w ⟨c0, c1, c2, c3⟩; go_simp; try with_reducible rfl)); (try simp only [zl1]))
  (refine zl3 2 ?_ rfl ?_ ?_; rotate_left; (· (rintro w ⟨c0, c1, c2, c3⟩; go_simp; try with_reducible rfl)); (try simp only [zl1]))
  (refine zl3 3 ?_ rfl ?_ ?_; rotate_left; (· (rintro w ⟨c0, c1, c2, c3⟩; go_simp; try with_reducible rfl)); (try simp only [zl1]))
  (refine zl3 4 ?_ rfl ?_ ?_; rotate_left; (· (rintro w ⟨c0, c1, c2, c3⟩; go_simp; try with_reducible rfl)); (try simp only [zl1]))
  (refine zl3 5 ?_ rfl ?_ ?_; rotate_left; (· (rintro w ⟨c0, c1, c2, c3⟩; go_simp; try with_reducible rfl)); (try simp only [zl1]))
  (refine zl3 6 ?_ rfl ?_ ?_; rotate_left; (· (rintro w ⟨c0, c1, c2, c3⟩; go_simp; try with_reducible rfl)); (try simp only [zl1]))
  (refine zl3 7 ?_ rfl ?_ ?_; rotate_left; (· (rintro w ⟨c0, c1, c2, c3⟩; go_simp; try with_reducible rfl)); (try simp only [zl1]))
  (refine zl3 8 ?_ rfl ?_ ?_; rotate_left; (· (rintro w ⟨c0, c1, c2, c3⟩; go_simp; try with_reducible rfl)); (try simp only [zl1]))
  (refine zl3 9 ?_ rfl ?_ ?_; rotate_left; (· (rintro w ⟨c0, c1, c2, c3⟩; go_simp; try with_reducible rfl)); (try simp only [zl1]))
  (refine zl3 10 ?_ rfl ?_ ?_; rotate_left; (· (rintro w ⟨c0, c1, c2, c3⟩; go_simp; try with_reducible rfl)); (try simp only [zl1]))
  refine wpAnyH_done (by kernel_rfl) ?_ _
  refine NoPanic.normal ?_
  go_wp2_with fail
  go_ret
  exact ⟨congrArg (fun b => Ending.returned (.bool b)) HE.out, (Below.refl _ _).drew⟩
set_option maxRecDepth 100000 in
set_option maxHeartbeats 4000000 in
theorem why2_any (gf gn mf cnt : Nat) (f : Lit → Option Value) (n : Int) (j : Nat) (W : World) (hm : MapF Tryz.prog 3 W mf cnt f) (hj : j ≤ 1000000) (h1 : W.cell? ⟨gf, 0, none⟩ = some (.map (some mf))) (h2 : W.cell? ⟨gn, 0, none⟩ = some (.int .i64 n)) (hv : f (keyN j) = none ∨ ∃ d, f (keyN j) = some (.int .i64 d)) :
    Calls Tryz.prog 56 #[.int .i64 (j : Int), .pointer (some ⟨gf, 0, none⟩), .pointer (some ⟨gn, 0, none⟩)] W fun e w' => e = .returned (.bool (farB f n j)) ∧ Below W.heap.size W w' := by
  have HM := Lib.hid hm
  have HKY := Lib.hid (keyI (a := (j : Int)) (by omega) (by omega))
  have hztd : ∀ W, (zeroValue 3).run Tryz.prog W = .ok (.int .i64 0) W := Tryz.zeroValue3
  have HZ := Lib.hid hztd
  clear hm hztd
  rcases hv with hv | ⟨d, hv⟩
  · have HB : Hid (farB f n j = false) := Lib.hid (by unfold farB; rw [hv])
    have HL : Hid (f (.int .i64 (j : Int)) = none) := Lib.hid hv
    rw [HB.out]
    clear hv
    go_enter Tryz.func56, Tryz.ntmps56
    go_wp2_with (at_lookup; refine wpList_look_ok_F rfl _ _ 90 rfl 3 3 lawI Tryz.underlying90 (HZ.out _) mf cnt f (by rfl) HM.out _ (.int .i64 (j : Int)) rfl HKY.out ?_; rw [HL.out])
    go_ret
    exact ⟨rfl, Below.refl _ _⟩
  · have HB : Hid (farB f n j = decide (d = n)) := Lib.hid (by unfold farB; rw [hv])
    have HL : Hid (f (.int .i64 (j : Int)) = some (.int .i64 d)) := Lib.hid hv
    rw [HB.out]
    clear hv
    by_cases hd : d = n
    · subst hd
      go_enter Tryz.func56, Tryz.ntmps56
      go_wp2_with (at_lookup; refine wpList_look_ok_F rfl _ _ 90 rfl 3 3 lawI Tryz.underlying90 (HZ.out _) mf cnt f (by rfl) HM.out _ (.int .i64 (j : Int)) rfl HKY.out ?_; rw [HL.out])
      go_ret
      exact ⟨by simp, Below.refl _ _⟩
    · have hd2 : (d == n) = false := by simpa using hd
      have hd3 : decide (d = n) = false := decide_eq_false hd
      rw [hd3]
      go_enter Tryz.func56, Tryz.ntmps56
      go_wp2_with (at_lookup; refine wpList_look_ok_F rfl _ _ 90 rfl 3 3 lawI Tryz.underlying90 (HZ.out _) mf cnt f (by rfl) HM.out _ (.int .i64 (j : Int)) rfl HKY.out ?_; rw [HL.out])
      go_ret
      exact ⟨rfl, Below.refl _ _⟩
set_option maxRecDepth 100000 in
set_option maxHeartbeats 4000000 in
theorem why3_any (gf gi mf cnt : Nat) (f : Lit → Option Value) (i : Nat) (m : Nat) (j : Nat) (W : World) (hm : MapF Tryz.prog 3 W mf cnt f) (hj : j ≤ 1000000) (hi : i ≤ 1000000) (h1 : W.cell? ⟨gf, 0, none⟩ = some (.map (some mf))) (h2 : W.cell? ⟨gi, 0, none⟩ = some (.int .i64 (i : Int)))
    (hd0 : f (keyN i) = some (.int .i64 ((m : Int) + 1))) (hmm : m ≤ 1000000000) (hv : f (keyN j) = none ∨ ∃ d, f (keyN j) = some (.int .i64 d)) :
    Calls Tryz.prog 59 #[.int .i64 (j : Int), .pointer (some ⟨gf, 0, none⟩), .pointer (some ⟨gi, 0, none⟩)] W fun e w' => e = .returned (.bool (farB f m j)) ∧ Below W.heap.size W w' := by
  have HM := Lib.hid hm
  have HKY := Lib.hid (keyI (a := (j : Int)) (by omega) (by omega))
  have HKI := Lib.hid (keyI (a := (i : Int)) (by omega) (by omega))
  have hztd : ∀ W, (zeroValue 3).run Tryz.prog W = .ok (.int .i64 0) W := Tryz.zeroValue3
  have HZ := Lib.hid hztd
  have HDI : Hid (f (.int .i64 (i : Int)) = some (.int .i64 ((m : Int) + 1))) := Lib.hid hd0
  clear hm hztd hd0
  rcases hv with hv | ⟨d, hv⟩
  · have HB : Hid (farB f m j = false) := Lib.hid (by unfold farB; rw [hv])
    have HL : Hid (f (.int .i64 (j : Int)) = none) := Lib.hid hv
    rw [HB.out]
    clear hv
    go_enter Tryz.func59, Tryz.ntmps59
    go_wp2_with (at_lookup; refine wpList_look_ok_F rfl _ _ 90 rfl 3 3 lawI Tryz.underlying90 (HZ.out _) mf cnt f (by rfl) HM.out _ (.int .i64 (j : Int)) rfl HKY.out ?_; rw [HL.out])
    go_ret
    exact ⟨rfl, Below.refl _ _⟩
  · have HB : Hid (farB f m j = decide (d = m)) := Lib.hid (by unfold farB; rw [hv])
    have HL : Hid (f (.int .i64 (j : Int)) = some (.int .i64 d)) := Lib.hid hv
    rw [HB.out]
    clear hv
    have hrun := run_look_F (t := 90) lawI Tryz.underlying90 (HZ.out W) HM.out HKI.out
    rw [HDI.out] at hrun
    simp only [Option.getD_some] at hrun
    have hw1 : IntKind.i64.wrap ((m : Int) + 1 - 1) = (m : Int) := by rw [IntWalk.i64_in _ (by omega)]; omega
    have hw2 : IntKind.i64.wrap (m : Int) = (m : Int) := IntWalk.i64_in _ (by omega)
    by_cases hd : d = m
    · subst hd
      go_enter Tryz.func59, Tryz.ntmps59
      go_upto_region 2 with (at_lookup; refine wpList_look_ok_F rfl _ _ 90 rfl 3 3 lawI Tryz.underlying90 (HZ.out _) mf cnt f (by rfl) HM.out _ (.int .i64 (j : Int)) rfl HKY.out ?_; rw [HL.out])
      go_wp2_with fail
      go_ret
      exact ⟨by simp, Below.refl _ _⟩
    · have hd2 : (d == (m : Int)) = false := by simpa using hd
      have hd3 : decide (d = (m : Int)) = false := decide_eq_false hd
      rw [hd3]
      go_enter Tryz.func59, Tryz.ntmps59
      go_upto_region 2 with (at_lookup; refine wpList_look_ok_F rfl _ _ 90 rfl 3 3 lawI Tryz.underlying90 (HZ.out _) mf cnt f (by rfl) HM.out _ (.int .i64 (j : Int)) rfl HKY.out ?_; rw [HL.out])
      go_wp2_with fail
      go_ret
      exact ⟨rfl, Below.refl _ _⟩
end Go.Proofs.YtenfkejbndifdaaGreatDoor
