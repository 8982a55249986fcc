/- Contracts of mvs.Select and mvs.Newest. Contract of the world's edges. Plain: the distances that Why finds, round by round. -/
import Derived.Test.YtenfkejbndifdaaGreatDoorQZ
import Derived.Test.YtenfkejbndifdaaGreatDoorQP
namespace Go.Proofs.YtenfkejbndifdaaGreatDoor
set_option linter.unusedVariables false
set_option linter.unusedSimpArgs false
open Go Go.RowKit Go.Maps

set_option maxRecDepth 100000 in
theorem MSelect_any (v iv rov : Value) (X : List RelL) (roots : List ReqL) (w : World) (hm : MaxOk w) (hX : X.length ≤ 1000000) (hq : ∀ x ∈ X, RelBd x) (hR : RelsOf w.heap.size v X w)
    (hro : roots.length ≤ 1000000) (hrq : ReqsBd roots) (hRo : ReqsOf w.heap.size rov roots w) :
    Calls Tryz.prog 18 #[.agg #[v, iv], rov] w (SelR false X roots w) := by
  have HS := Lib.hid (fun W (hb : RowKit.Below w.heap.size w W) => selection_any false 51 (enters_of Tryz.func51 (by kernel_rfl) rfl) v iv rov X roots W (fun hv => by_old hv hX) (hm.below hb hm.pos) hX hq (hR.on hb) hro hrq (hRo.on hb))
  obtain ⟨va, vn, vc, rfl⟩ : ∃ a n c, v = .slice a n c := by obtain ⟨a, c, _, e, _⟩ := hR.rv; exact ⟨_, _, _, e⟩
  obtain ⟨ra, rc, rfl⟩ : ∃ ra rc, rov = .slice ra roots.length rc := by obtain ⟨a, c, e, _⟩ := hRo; exact ⟨a, c, e⟩
  clear hm hq hR hrq hRo
  have HB0 : Hid (Below w.heap.size w (w.alloc (.cells #[.slice va vn vc, iv] 25))) := Lib.hid (belQ _ _)
  have HI0 : Hid ((w.alloc (.cells #[.slice va vn vc, iv] 25)).heap[w.heap.size]? = some (.cells #[.slice va vn vc, iv] 25 (0, 0))) := Lib.hid (World.alloc_heap_new w _)
  go_enter Tryz.func18, Tryz.ntmps18
  go_upto_region 1 with fail
  generalize w.alloc (.cells #[.slice va vn vc, iv] 25) = W at *
  have c0 : W.cell? ⟨w.heap.size, 0, none⟩ = some (.slice va vn vc) := cell_of_row _ _ 0 _ _ _ HI0.out
  have c1 : W.cell? ⟨w.heap.size, 1, none⟩ = some iv := cell_of_row _ _ 1 _ _ _ HI0.out
  go_wp2_with fail
  refine (HS.out _ HB0.out).mono ?_
  rintro e w1 ⟨hb1, sv, rfl, hs1⟩
  have HB1 := Lib.hid (HB0.out.trans (hb1.mono HB0.out.size))
  have HS1 := Lib.hid hs1
  clear hb1 hs1 HS c0 c1
  go_wp2_with fail
  go_ret2
  exact ⟨HB1.out, sv, rfl, HS1.out⟩
end Go.Proofs.YtenfkejbndifdaaGreatDoor

namespace Go.Proofs.YtenfkejbndifdaaGreatDoor
set_option linter.unusedVariables false
set_option linter.unusedSimpArgs false
open Go Go.RowKit Go.Maps

theorem Clone_nats (v : Value) (l : List Nat) (w : World) (hl : l.length ≤ 1000000000) (h : RowOf natC w.heap.size v l w) :
    Calls Tryz.prog 106 #[v] w fun e w' => ∃ v', e = .returned v' ∧ w'.ownsRow w.heap.size 3 1 v' l.length (l.map natC) ∧ Below w.heap.size w w' := by
  rcases h with ⟨rfl, a, c, rfl⟩ | ⟨b, off, cap, rfl, _, hc⟩
  · cases a with
    | none =>
      refine (Tryz.slices_Clone_int_nil 0 c w).mono ?_
      rintro e w' ⟨rfl, rfl⟩
      exact ⟨_, rfl, World.ownsRow_nil _ _ _ _, Below.refl _ _⟩
    | some a =>
      refine (Tryz.slices_Clone_int_zero a c w).mono ?_
      rintro e w' ⟨v', rfl, h1, _, h2⟩
      exact ⟨_, rfl, h1, h2⟩
  · refine (Tryz.slices_Clone_int b off l.length cap (l.map fun n : Nat => (n : Int)) w (by simp) (by omega) (fun j hj => ?_)).mono ?_
    · rw [List.length_map] at hj
      rw [hc j l[j] (List.getElem?_eq_getElem hj), List.getD_eq_getElem?_getD, List.getElem?_map, List.getElem?_eq_getElem hj]
      rfl
    · rintro e w' ⟨v', rfl, h1, _, h2⟩
      refine ⟨_, rfl, ?_, h2⟩
      rw [List.take_of_length_le (by simp), List.map_map] at h1
      exact h1
def srtN (l : List Nat) : List Nat := l.mergeSort fun a b => decide (a ≤ b)
theorem srtN_perm (l : List Nat) : (srtN l).Perm l := List.mergeSort_perm _ _
theorem srtN_len (l : List Nat) : (srtN l).length = l.length := (srtN_perm l).length_eq
theorem srtN_sorted (l : List Nat) : (srtN l).Pairwise (· ≤ ·) := (List.pairwise_mergeSort (le := fun a b : Nat => decide (a ≤ b)) (fun a b c h1 h2 => by simp at h1 h2 ⊢; omega) (fun a b => by simp; omega) l).imp fun h => by simpa using h
theorem srt_int (l : List Nat) : (l.map fun n : Nat => (n : Int)).mergeSort (fun x y => decide (x ≤ y)) = (srtN l).map fun n : Nat => (n : Int) := by
  refine List.Perm.eq_of_pairwise (le := fun a b : Int => a ≤ b) (fun a b _ _ h1 h2 => Int.le_antisymm h1 h2) ?_ ?_ ((List.mergeSort_perm _ _).trans ((srtN_perm l).symm.map _))
  · have := List.pairwise_mergeSort (le := fun x y : Int => decide (x ≤ y)) (fun a b c h1 h2 => by simp at h1 h2 ⊢; omega) (fun a b => by simp; omega) (l.map fun n : Nat => (n : Int))
    exact this.imp fun h => by simpa using h
  · rw [List.pairwise_map]
    exact (srtN_sorted l).imp fun h => by omega
theorem sort_nats (B : Nat) (v : Value) (l : List Nat) (w : World) (h : w.ownsRow B 3 1 v l.length (l.map natC)) (hl : l.length ≤ 1000000000) :
    Calls Tryz.prog 104 #[v] w fun e w' => e = .returned (.tuple #[]) ∧ w.grownBy w' v.ownBlock ∧ w'.ownsRow B 3 1 v l.length ((srtN l).map natC) := by
  have hs := sort_row B v (l.map fun n : Nat => (n : Int)) w (by rw [List.length_map, List.map_map]; exact h) (by rw [List.length_map]; omega)
  rw [srt_int] at hs
  refine hs.mono ?_
  rintro e w' ⟨rfl, h1, h2⟩
  rw [List.length_map, List.map_map, srtN_len] at h2
  exact ⟨rfl, h1, h2⟩
def edgN (X : List RelL) (i : Nat) : List Nat := srtN (namesL false X (X.getD i default).reqs)
structure EdgF (X : List RelL) (gm gx : Nat) (s : List Nat) (f : Lit → Option Value) (D : Nat → Prop) (W : World) : Prop where
  rows : ∀ i ∈ s, ∃ v, f (keyN i) = some v ∧ W.ownsRow 0 3 1 v (edgN X i).length ((edgN X i).map natC) ∧ ∀ b, v.ownBlock = some b → D b
  none : ∀ q, (∀ i ∈ s, keyN i ≠ q) → f q = Option.none
  lo : ∀ b, D b → gm < b ∧ gx < b
  hi : ∀ b, D b → b < W.heap.size
theorem EdgF.start (X : List RelL) (gm gx : Nat) (W : World) : EdgF X gm gx [] (fun _ => Option.none) (fun _ => False) W := ⟨fun i hi => (by cases hi), fun _ _ => rfl, fun _ h => h.elim, fun _ h => h.elim⟩
theorem EdgF.far {X : List RelL} {gm gx : Nat} {s : List Nat} {f : Lit → Option Value} {D : Nat → Prop} {W W' : World} (h : EdgF X gm gx s f D W) (hs : W.heap.size ≤ W'.heap.size) (hk : ∀ b, D b → W'.heap[b]? = W.heap[b]?) : EdgF X gm gx s f D W' :=
  ⟨fun i hi => by
    obtain ⟨v, h1, h2, h3⟩ := h.rows i hi
    exact ⟨v, h1, own_far h2 (fun b hb => hk b (h3 b hb)), h3⟩, h.none, h.lo, fun b hb => Nat.lt_of_lt_of_le (h.hi b hb) hs⟩
theorem EdgF.put {X : List RelL} {gm gx : Nat} {s : List Nat} {f : Lit → Option Value} {D : Nat → Prop} {W : World} (h : EdgF X gm gx s f D W) {i : Nat} {v : Value} (hv : W.ownsRow 0 3 1 v (edgN X i).length ((edgN X i).map natC)) (hb : ∀ b, v.ownBlock = some b → gm < b ∧ gx < b) :
    EdgF X gm gx (i :: s) (putF f (.int .i64 (i : Int)) v) (fun b => D b ∨ v.ownBlock = some b) W := by
  refine ⟨fun j hj => ?_, fun q hq => ?_, fun b hb2 => hb2.elim (h.lo b) (hb b), fun b hb2 => hb2.elim (h.hi b) (fun e => (hv.lt b e).2)⟩
  · by_cases e : j = i
    · subst e
      exact ⟨v, putF_same _ _ _, hv, fun b hb => .inr hb⟩
    · obtain ⟨u, h1, h2, h3⟩ := h.rows j ((List.mem_cons.1 hj).resolve_left e)
      refine ⟨u, ?_, h2, fun b hb => .inl (h3 b hb)⟩
      show putF f (keyN i) v (keyN j) = _
      rw [putF_other _ _ (fun e2 => e (keyN_inj e2)), h1]
  · have e : q ≠ .int .i64 (i : Int) := fun e => hq i (by simp) e.symm
    rw [putF_other _ _ e]
    exact h.none q fun r hr => hq r (by simp [hr])
structure EdgJ (X : List RelL) (gm gx : Nat) (s : List Nat) (D : Nat → Prop) (W : World) : Prop where
  mb : W.heap[gx]? = some (.cells #[.map (some gm)] 88 (0, 0))
  map : ∃ f, MapF Tryz.prog 3 W gm s.length f ∧ EdgF X gm gx s f D W
theorem EdgJ.kept {w : World} {X : List RelL} {gm gx : Nat} (h1 : gm < w.heap.size) (h2 : gx < w.heap.size) : JKept w (EdgJ X gm gx) := fun s D W W' row h hs hg hr => by
  obtain ⟨b, f, c, d⟩ := h
  have ne : ∀ x, x < w.heap.size → some x ≠ row := fun x hx e => by have := (hr x e.symm).1; omega
  refine ⟨(hg.block gx (by omega) (ne gx h2)).trans b, f, c.kept hg (ne gm h1), ?_⟩
  exact d.far hg.size fun b hb => hg.block b (d.hi b hb) (fun e => (hr b e.symm).2 hb)
set_option maxRecDepth 100000 in
set_option maxHeartbeats 4000000 in
theorem edges1_any (X : List RelL) (gm gx : Nat) (s : List Nat) (D : Nat → Prop) (W : World) (i : Nat) (nv : Value) (hXl : X.length ≤ 1000000) (hJ : EdgJ X gm gx s D W) (hgx : gx ≠ gm) (hi : i < X.length) (hs : s.length < X.length) (hr : RowOf natC W.heap.size nv (namesL false X (X.getD i default).reqs) W) (hrl : (X.getD i default).reqs.length ≤ 1000000) (hgl : gm < W.heap.size) :
    Calls Tryz.prog 105 #[.int .i64 (i : Int), nv, .pointer (some ⟨gx, 0, none⟩)] W fun e w' => e = .returned (.tuple #[]) ∧ W.grownBy w' (some gm) ∧ ∃ D', EdgJ X gm gx (i :: s) D' w' ∧ (∀ b, D' b → b < w'.heap.size) ∧ ∀ b, D' b → D b ∨ W.heap.size ≤ b := by
  have hnl : (namesL false X (X.getD i default).reqs).length ≤ 1000000 := Nat.le_trans namesL_len hrl
  have HCL := Lib.hid (fun W' (hb : Below W.heap.size W W') => Clone_nats nv (namesL false X (X.getD i default).reqs) W' (by omega) ((hr.below hb (Nat.le_refl _)).mono hb.size))
  have HEN : Hid (edgN X i = srtN (namesL false X (X.getD i default).reqs)) := Lib.hid rfl
  obtain ⟨va, vc, rfl, _⟩ := rowOf_open hr
  obtain ⟨hb0, f, hmf, hef⟩ := hJ
  have HB0 := Lib.hid hb0
  have HMF := Lib.hid hmf
  have HEF := Lib.hid hef
  have hgxl := (Array.getElem?_eq_some_iff.1 hb0).1
  have HKY := Lib.hid (keyI (a := (i : Int)) (by omega) (by omega))
  generalize namesL false X (X.getD i default).reqs = l at *
  clear hr hb0 hmf hef hrl
  have HS : Hid (∀ W', Below W.heap.size W W' → HeldC ⟨gx, 0, none⟩ ⟨gx, 0, none⟩ (.map (some gm)) (.map (some gm)) W') := Lib.hid (fun W' hb => ⟨cell_of_row _ _ 0 _ _ _ ((hb.block gx hgxl).trans HB0.out), cell_of_row _ _ 0 _ _ _ ((hb.block gx hgxl).trans HB0.out)⟩)
  go_enter Tryz.func105, Tryz.ntmps105
  go_upto_region 0 with fail
  refine wp_region_noPanic ?_
  refine region_plain_split (S := HeldC ⟨gx, 0, none⟩ ⟨gx, 0, none⟩ (.map (some gm)) (.map (some gm))) 4 (by kernel_rfl) (by kernel_rfl) ?_
  simp only [List.take_succ_cons, List.take_zero]
  have hS0 := HS.out W.drew (Below.refl _ _).drew
  (refine wpAnyH_take (i := 0) (v := ?_) rfl (by kernel_rfl) (by kernel_rfl) (by kernel_rfl) (fun _ _ _ h => h) (Or.inl ⟨by rfl, ?_⟩) (by assumption) ?_; rotate_left; (· (intro w hSw; obtain ⟨c0, c1⟩ := hSw; go_simp; try with_reducible rfl)); (try simp only [zl1, zl2, zl3, Act.put, zl4, zl5, zl6]))
  (refine wpAnyH_take (i := 1) (v := ?_) rfl (by kernel_rfl) (by kernel_rfl) (by kernel_rfl) (fun _ _ _ h => h) (Or.inl ⟨by rfl, ?_⟩) (by assumption) ?_; rotate_left; (· (intro w hSw; obtain ⟨c0, c1⟩ := hSw; go_simp; try with_reducible rfl)); (try simp only [zl1, zl2, zl3, Act.put, zl4, zl5, zl6]))
  (refine wpAnyH_take (i := 2) (v := ?_) rfl (by kernel_rfl) (by kernel_rfl) (by kernel_rfl) (fun _ _ _ h => h) (Or.inl ⟨by rfl, ?_⟩) (by assumption) ?_; rotate_left; (· (intro w hSw; obtain ⟨c0, c1⟩ := hSw; go_simp; try with_reducible rfl)); (try simp only [zl1, zl2, zl3, Act.put, zl4, zl5, zl6]))
  refine wpAnyH_ready (rs := [3]) (by kernel_rfl) (by simp) (AllReadyH.cons rfl (fun K hK => ?_) AllReadyH.nil)
  go_simp
  refine (HCL.out _ (Below.refl _ _).drew).mono ?_
  rintro e w2 ⟨v2, rfl, ho2, hb2⟩
  have HB2 := Lib.hid ((Below.refl W.heap.size W).drew.trans hb2)
  have HO2 : Hid (w2.ownsRow W.heap.size 3 1 v2 l.length (l.map natC)) := Lib.hid ho2
  refine hK.out _ _ (HS.out _ HB2.out) (fun _ => ?_)
  clear hK K hS0 hb2 ho2
  (try simp only [zl1, zl2, zl3, Act.put, zl4, zl5, zl6])
  refine wpAnyH_done (by kernel_rfl) ?_ _
  show wpList _ _ _ _ _ _
  simp only [List.drop_succ_cons, List.drop_zero]
  refine wpList_put_F rfl _ _ _ _ rfl 3 79 lawI Tryz.underlying88 gm s.length f (by rfl) (HMF.out.below HB2.out) (by unfold maxLen; omega) _ _ (.int .i64 (i : Int)) rfl rfl HKY.out ?_
  intro W3 h3 g3
  have HM3 := Lib.hid h3
  have HG3 := Lib.hid g3
  have HE3 : Hid (EdgF X gm gx s f D W3) := Lib.hid (HEF.out.far (Nat.le_trans HB2.out.size g3.size) (fun b hb => (g3.block b (Nat.lt_of_lt_of_le (HEF.out.hi b hb) HB2.out.size) (by intro e; injection e with e; have := (HEF.out.lo b hb).1; omega)).trans (HB2.out.block b (HEF.out.hi b hb))))
  have HO3 : Hid (W3.ownsRow W.heap.size 3 1 v2 l.length (l.map natC)) := Lib.hid (own_far HO2.out (fun b hb => g3.block b (HO2.out.lt b hb).2 (by intro e; injection e with e; have := (HO2.out.lt b hb).1; omega)))
  have HX3 := Lib.hid ((g3.block gx (Nat.lt_of_lt_of_le hgxl HB2.out.size) (by intro e; injection e with e; exact hgx e)).trans ((HB2.out.block gx hgxl).trans HB0.out))
  clear h3 g3 HS HCL
  refine NoPanic.normal ?_
  have HSO := Lib.hid (sort_nats W.heap.size v2 l W3 HO3.out (by omega))
  have e0 : W3.cell? ⟨gx, 0, none⟩ = some (.map (some gm)) := cell_of_row _ _ 0 _ _ _ HX3.out
  obtain ⟨oa, oc, rfl⟩ := own_any HO3.out
  go_wp2_with (at_lookup; refine wpList_look_F rfl _ _ 88 rfl 3 79 lawI Tryz.underlying88 (Tryz.zeroValue79 _) gm (s.length + 1) _ (by rfl) HM3.out _ (.int .i64 (i : Int)) rfl HKY.out ?_; rw [putF_same])
  refine HSO.out.mono ?_
  rintro e w4 ⟨rfl, hg4, ho4⟩
  have hgf : W.grownBy w4 (some gm) := ⟨hg4.os.trans (HG3.out.os.trans HB2.out.os), hg4.tape.trans (HG3.out.tape.trans HB2.out.tape), hg4.output.trans (HG3.out.output.trans HB2.out.output), Nat.le_trans HB2.out.size (Nat.le_trans HG3.out.size hg4.size), fun j hj hne =>
    (hg4.block j (Nat.lt_of_lt_of_le hj (Nat.le_trans HB2.out.size HG3.out.size)) (fun e => by have := (HO3.out.lt j e.symm).1; omega)).trans ((HG3.out.block j (Nat.lt_of_lt_of_le hj HB2.out.size) hne).trans (HB2.out.block j hj))⟩
  have hef4 : EdgF X gm gx s f D w4 := HE3.out.far hg4.size (fun b hb => hg4.block b (HE3.out.hi b hb) (fun e => by have h1 := (HO3.out.lt b e.symm).1; have h2 := HEF.out.hi b hb; omega))
  have hrow : w4.ownsRow 0 3 1 (.slice oa l.length oc) (edgN X i).length ((edgN X i).map natC) := by
    rw [HEN.out, srtN_len]
    exact own_lower ho4 (Nat.zero_le _)
  have hput := hef4.put hrow (fun b hb => by have := (HO3.out.lt b hb).1; omega)
  have HGF := Lib.hid hgf
  have HPUT := Lib.hid hput
  have HM4 := Lib.hid (HM3.out.kept hg4 (fun e => by have := (HO3.out.lt gm e.symm).1; omega))
  have HX4 := Lib.hid ((hg4.block gx (Array.getElem?_eq_some_iff.1 HX3.out).1 (fun e => by have := (HO3.out.lt gx e.symm).1; omega)).trans HX3.out)
  have HLO : Hid (∀ b, (.slice oa l.length oc : Value).ownBlock = some b → W.heap.size ≤ b) := Lib.hid (fun b hb => (HO3.out.lt b hb).1)
  clear hg4 ho4 hgf hef4 hrow hput HSO e0
  go_wp2_with fail
  go_end0
  exact ⟨rfl, HGF.out, _, ⟨HX4.out, _, HM4.out, HPUT.out⟩, HPUT.out.hi, fun b hb => hb.imp id (HLO.out b)⟩
def EdgesR (X : List RelL) (roots : List ReqL) (w : World) (e : Ending) (w' : World) : Prop := Below w.heap.size w w' ∧ ∃ (m : Nat) (f : Lit → Option Value) (s : List Nat), e = .returned (.map (some m)) ∧ MapF Tryz.prog 3 w' m s.length f ∧ s.Nodup ∧ (∀ i, RchM false X roots i ↔ i ∈ s) ∧ (∀ i ∈ s, ∃ v, f (keyN i) = some v ∧ RowOf natC w'.heap.size v (edgN X i) w') ∧ ∀ q, (∀ i ∈ s, keyN i ≠ q) → f q = none
set_option maxRecDepth 100000 in
set_option maxHeartbeats 8000000 in
theorem edges_any (g : Nat) (X : List RelL) (a : Option Addr) (c m n : Nat) (f : Lit → Option Value) (hXl : X.length ≤ 1000000) (hXb : ∀ x ∈ X, RelBd x)
    (roots : List ReqL) (lv : Value) (hp : PlainP X roots) (ha : AllM false X roots) (hll : roots.length ≤ 1000000) (hq : ReqsBd roots) (w : World) (hw : WorldOf w g X a c m n f) (hL : ReqsOf w.heap.size lv roots w) :
    Calls Tryz.prog 54 #[.pointer (some ⟨g, 0, none⟩), lv] w (EdgesR X roots w) := by
  have hmm := @run_makeMap Tryz.prog
  obtain ⟨la, lc, rfl⟩ : ∃ la lc, lv = .slice la roots.length lc := by obtain ⟨a, c, e, _⟩ := hL; exact ⟨a, c, e⟩
  have HB1 : Hid (Below w.heap.size w ((w.alloc (.map #[] 0)).alloc (.cells #[.map (some w.heap.size)] 88))) := Lib.hid (by repeat (first | exact Below.refl _ _ | refine Below.drew ?_ | refine Below.alloc ?_ (by simp <;> omega) _ | refine Below.setCell ?_ (by simp <;> omega) _))
  have HJ0 : Hid (EdgJ X w.heap.size (w.heap.size + 1) [] (fun _ => False) ((w.alloc (.map #[] 0)).alloc (.cells #[.map (some w.heap.size)] 88))) := Lib.hid (by
    refine ⟨?_, _, (MapF.made Tryz.prog 3 w).alloc _, EdgF.start X _ _ _⟩
    have := World.alloc_heap_new (w.alloc (.map #[] 0)) (.cells #[.map (some w.heap.size)] 88)
    rwa [World.size_alloc] at this)
  go_enter Tryz.func54, Tryz.ntmps54
  go_upto_region 2 with fail
  have hz : ((w.alloc (.map #[] 0)).alloc (.cells #[.map (some w.heap.size)] 88)).heap.size = w.heap.size + 1 + 1 := by simp
  generalize (w.alloc (.map #[] 0)).alloc (.cells #[.map (some w.heap.size)] 88) = W at *
  clear hmm
  have hzl : w.heap.size + 1 < W.heap.size := by omega
  clear hz
  have HR := Lib.hid (reach_any false 51 105 #[.pointer (some ⟨w.heap.size + 1, 0, none⟩)] (enters_of Tryz.func51 (by kernel_rfl) rfl) (enters_of Tryz.func105 (by kernel_rfl) rfl) g X a c m n f (by_old (validX (idx_ok hp.idx)) hXl) hXl hXb roots (.slice la roots.length lc) hp hll hq w W w.heap.size
    (EdgJ X w.heap.size (w.heap.size + 1)) hw HB1.out (by omega) (by omega) (hL.on HB1.out) HJ0.out (EdgJ.kept (by omega) (by omega))
    (fun s D W2 i nv hJ hd hb hi _ hs _ hr => edges1_any X _ _ s D W2 i nv hXl hJ (by omega) hi hs hr (by have := (hXb _ (List.getElem_mem hi)).len; rw [List.getD_eq_getElem?_getD, List.getElem?_eq_getElem hi]; exact this) (by obtain ⟨_, _, h, _⟩ := hJ; exact h.lt)))
  clear hw hL hq hXb
  go_wp2_with fail
  refine HR.out.mono ?_
  rintro e w2 ⟨hb2, h2⟩
  have HB2 := Lib.hid hb2
  clear hb2 HR HJ0 HB1
  rcases h2 with ⟨s, D, rfl, hri, hj⟩ | ⟨rfl, hno⟩
  case inr => exact absurd ha hno
  obtain ⟨hx, f2, hmf, hef⟩ := hj
  have HMF := Lib.hid hmf
  have HEF := Lib.hid hef
  have HRI := Lib.hid hri
  have e0 : w2.cell? ⟨w.heap.size + 1, 0, none⟩ = some (.map (some w.heap.size)) := cell_of_row _ _ 0 _ _ _ hx
  clear hx hmf hef hri ha
  go_wp2_with fail
  go_ret
  refine ⟨HB2.out, _, f2, s, rfl, HMF.out, HRI.out.nodup, HRI.out.done.2, fun i hi => ?_, HEF.out.none⟩
  obtain ⟨v, h1, h2, _⟩ := HEF.out.rows i hi
  exact ⟨v, h1, (own_row h2).2⟩
end Go.Proofs.YtenfkejbndifdaaGreatDoor

namespace Go.Proofs.YtenfkejbndifdaaGreatDoor
set_option linter.unusedVariables false
set_option linter.unusedSimpArgs false
open Go Go.Maps

abbrev dD (X : List RelL) (t i : Nat) : Int := gD (dT X t) i
theorem swap_dT {X : List RelL} {t : Nat} (ht : t < X.length) : DistR (sucs X.length ((relEs X).map swapE)) 0 t (dT X t) := swap_dist X.length (relEs X) t ht
theorem edgN_mem {X : List RelL} {i j : Nat} : j ∈ edgN X i ↔ ∃ q ∈ (X.getD i default).reqs, namedI false X q = some j := by
  unfold edgN
  rw [(srtN_perm _).mem_iff, namesL_mem]
theorem dD_lo {X : List RelL} {t : Nat} (ht : t < X.length) (i : Nat) : -1 ≤ dD X t i := (swap_dT ht).lo i
theorem dD_zero {X : List RelL} {t : Nat} (ht : t < X.length) {i : Nat} : dD X t i = 0 ↔ i = t := ⟨(swap_dT ht).zero i, fun e => by rw [e]; exact (swap_dT ht).t0⟩
theorem dD_near {X : List RelL} {t : Nat} (ht : t < X.length) {i j : Nat} (hi : i < X.length) (hj : j ∈ edgN X i) (h : 0 ≤ dD X t j) : 0 ≤ dD X t i ∧ dD X t i ≤ dD X t j + 1 := by
  refine (swap_dT ht).near j h i ?_
  unfold ofP
  rw [List.mem_filter]
  refine ⟨?_, by simp⟩
  have h1 := rel_suc.2 ⟨hi, edgN_mem.1 hj⟩
  rw [mem_sucs] at h1 ⊢
  obtain ⟨a, b, c⟩ := h1
  exact ⟨b, a, List.mem_map.2 ⟨_, c, rfl⟩⟩
theorem dD_desc {X : List RelL} {t : Nat} (ht : t < X.length) {i m : Nat} (h : dD X t i = (m : Int) + 1) : ∃ j ∈ edgN X i, dD X t j = (m : Int) := by
  obtain ⟨k, hk, hm⟩ := (swap_dT ht).desc i m h
  exact ⟨k, edgN_mem.2 (rel_suc.1 hk).2, hm⟩
theorem dD_bound {X : List RelL} {t : Nat} (ht : t < X.length) (i : Nat) : dD X t i ≤ X.length := by
  have h := (swap_dT ht).bound sucs_lt (by rw [sucs_length]; exact ht) i
  rwa [sucs_length] at h
structure FarAt (X : List RelL) (t n : Nat) (s : List Nat) (done : Nat → Bool) (f : Lit → Option Value) : Prop where
  yes : ∀ i ∈ s, (0 ≤ dD X t i ∧ dD X t i ≤ n) ∨ (dD X t i = (n : Int) + 1 ∧ done i = true) → f (keyN i) = some (.int .i64 (dD X t i))
  no : ∀ i ∈ s, ¬ ((0 ≤ dD X t i ∧ dD X t i ≤ n) ∨ (dD X t i = (n : Int) + 1 ∧ done i = true)) → f (keyN i) = none
  out : ∀ q, (∀ i ∈ s, keyN i ≠ q) → f q = none
variable {X : List RelL} {t n : Nat} {s : List Nat} {done : Nat → Bool} {f : Lit → Option Value}
theorem FarAt.start (ht : t < X.length) (hs : t ∈ s) : FarAt X t 0 s (fun _ => false) (putF (fun _ => none) (.int .i64 (t : Int)) (.int .i64 0)) := by
  have key : ∀ i, (0 ≤ dD X t i ∧ dD X t i ≤ ((0 : Nat) : Int)) ∨ (dD X t i = ((0 : Nat) : Int) + 1 ∧ (fun _ => false) i = true) ↔ i = t := fun i => by
    rw [← dD_zero ht]
    constructor
    · rintro (h | ⟨_, h⟩)
      · omega
      · cases h
    · intro h; left; omega
  refine ⟨fun i hi h => ?_, fun i hi h => ?_, fun q hq => ?_⟩
  · have := (key i).1 h
    subst this
    rw [(dD_zero ht).2 rfl]
    exact putF_same _ _ _
  · exact putF_other _ _ (fun e => h ((key i).2 (keyN_inj (p := i) (q := t) e)))
  · exact putF_other _ _ (fun e => hq t hs e.symm)
def farB (f : Lit → Option Value) (n : Int) (j : Nat) : Bool := match f (keyN j) with
  | some (.int .i64 d) => decide (d = n)
  | _ => false
theorem farB_iff {f : Lit → Option Value} {n : Int} {j : Nat} : farB f n j = true ↔ f (keyN j) = some (.int .i64 n) := by
  unfold farB
  constructor
  · intro h
    split at h
    · rename_i d e
      rw [e, of_decide_eq_true h]
    · cases h
  · intro h
    rw [h]
    simp
theorem FarAt.test (h : FarAt X t n s done f) (ht : t < X.length) {i : Nat} (hi : i ∈ s) (hix : i < X.length) (hsub : ∀ j ∈ edgN X i, j ∈ s) (hd : done i = false) (hn : f (keyN i) = none) :
    ((edgN X i).any fun j => farB f (n : Int) j) = true ↔ dD X t i = (n : Int) + 1 := by
  have hni : ¬ (0 ≤ dD X t i ∧ dD X t i ≤ n) := fun h2 => by
    have := h.yes i hi (.inl h2)
    rw [hn] at this
    cases this
  have key : ∀ j ∈ s, f (keyN j) = some (.int .i64 (n : Int)) ↔ dD X t j = n := fun j hj => by
    constructor
    · intro e
      by_cases hc : (0 ≤ dD X t j ∧ dD X t j ≤ n) ∨ (dD X t j = (n : Int) + 1 ∧ done j = true)
      · have := h.yes j hj hc
        rw [e] at this
        injection this with this
        injection this with _ this
        exact this.symm
      · have := h.no j hj hc
        rw [e] at this
        cases this
    · intro e
      have := h.yes j hj (.inl (by omega))
      rwa [e] at this
  rw [List.any_eq_true]
  constructor
  · rintro ⟨j, hj, h2⟩
    have h3 := (key j (hsub j hj)).1 (farB_iff.1 h2)
    have h4 := dD_near ht hix hj (by omega)
    have := dD_lo ht i
    omega
  · intro h2
    obtain ⟨j, hj, h3⟩ := dD_desc ht h2
    exact ⟨j, hj, farB_iff.2 ((key j (hsub j hj)).2 h3)⟩
theorem FarAt.put (h : FarAt X t n s done f) {i : Nat} (hi : i ∈ s) (hd : dD X t i = (n : Int) + 1) : FarAt X t n s (fun j => done j || decide (j = i)) (putF f (.int .i64 (i : Int)) (.int .i64 ((n : Int) + 1))) := by
  have key : ∀ j, j ≠ i → putF f (.int .i64 (i : Int)) (.int .i64 ((n : Int) + 1)) (keyN j) = f (keyN j) := fun j e => putF_other _ _ (fun e2 => e (keyN_inj (p := j) (q := i) e2))
  refine ⟨fun j hj h2 => ?_, fun j hj h2 => ?_, fun q hq => ?_⟩
  · by_cases e : j = i
    · subst e
      rw [hd]
      exact putF_same _ _ _
    · rw [key j e]
      exact h.yes j hj (h2.imp id fun ⟨a, b⟩ => ⟨a, by simpa [e] using b⟩)
  · by_cases e : j = i
    · subst e
      exact absurd (.inr ⟨hd, by simp⟩) h2
    · rw [key j e]
      exact h.no j hj fun h3 => h2 (h3.imp id fun ⟨a, b⟩ => ⟨a, by simp [b]⟩)
  · have e : q ≠ .int .i64 (i : Int) := fun e => hq i hi e.symm
    rw [putF_other _ _ e]
    exact h.out q hq
theorem FarAt.skip (h : FarAt X t n s done f) {i : Nat} (hd : dD X t i ≠ (n : Int) + 1) : FarAt X t n s (fun j => done j || decide (j = i)) f := by
  refine ⟨fun j hj h2 => h.yes j hj (h2.imp id fun ⟨a, b⟩ => ⟨a, ?_⟩), fun j hj h2 => h.no j hj fun h3 => h2 (h3.imp id fun ⟨a, b⟩ => ⟨a, by simp [b]⟩), h.out⟩
  by_cases e : j = i
  · subst e; exact absurd a hd
  · simpa [e] using b
theorem FarAt.next (h : FarAt X t n s done f) (hd : ∀ i ∈ s, done i = true) : FarAt X t (n + 1) s (fun _ => false) f := by
  refine ⟨fun i hi h2 => h.yes i hi ?_, fun i hi h2 => h.no i hi fun h3 => h2 ?_, h.out⟩
  · rcases h2 with h2 | ⟨_, h2⟩
    · by_cases e : dD X t i = (n : Int) + 1
      · exact .inr ⟨e, hd i hi⟩
      · exact .inl (by omega)
    · cases h2
  · left
    rcases h3 with h3 | ⟨h3, _⟩ <;> omega
theorem FarAt.all (h : FarAt X t n s (fun _ => false) f) (ht : t < X.length) (hx : ∀ i ∈ s, i < X.length) (hsub : ∀ i ∈ s, ∀ j ∈ edgN X i, j ∈ s) (hn : ∀ i ∈ s, dD X t i ≠ n) (h0 : 0 < n) : ∀ i ∈ s, f (keyN i) = if 0 ≤ dD X t i then some (.int .i64 (dD X t i)) else none := by
  have key : ∀ m : Nat, ∀ i ∈ s, dD X t i = (n : Int) + m → False := by
    intro m
    induction m with
    | zero => exact fun i hi e => hn i hi (by simpa using e)
    | succ m ih =>
      intro i hi e
      obtain ⟨j, hj, h2⟩ := dD_desc (m := n + m) ht (i := i) (by push_cast; rw [e]; push_cast; omega)
      exact ih j (hsub i hi j hj) (by rw [h2]; push_cast; omega)
  intro i hi
  by_cases h1 : 0 ≤ dD X t i
  · rw [if_pos h1]
    refine h.yes i hi (.inl ⟨h1, ?_⟩)
    by_cases h2 : dD X t i ≤ n
    · exact h2
    · exact (key (dD X t i - n).toNat i hi (by omega)).elim
  · rw [if_neg h1]
    exact h.no i hi (by rintro (h2 | ⟨_, h2⟩) <;> first | omega | cases h2)
end Go.Proofs.YtenfkejbndifdaaGreatDoor
