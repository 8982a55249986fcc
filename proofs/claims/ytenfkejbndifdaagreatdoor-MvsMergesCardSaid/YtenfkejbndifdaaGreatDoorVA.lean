/- Contract of mvs.Why. -/
import Derived.Test.YtenfkejbndifdaaGreatDoorUR
import Derived.Test.YtenfkejbndifdaaGreatDoorUS
namespace Go.Proofs.YtenfkejbndifdaaGreatDoor
set_option linter.unusedVariables false
set_option linter.unusedSimpArgs false
open Go Go.RowKit Go.Maps

def WhyR (X : List RelL) (roots : List ReqL) (p : ByteArray) (w : World) (e : Ending) (w' : World) : Prop := Below w.heap.size w w' ∧
  ∃ v, e = .returned (.tuple #[.agg #[.string (whyV X roots p).1.1, .int .i64 (whyV X roots p).1.2.1, v], .int .i64 (whyV X roots p).2]) ∧ SelsOf w'.heap.size v (whyV X roots p).1.2.2 w' ∧ CapOk v
theorem setThree (W : World) (g : Nat) (x y z : Value) (t : TypeId) (x' y' z' : Value) (h : W.heap[g]? = some (.cells #[x, y, z] t (0, 0))) : (((W.setCell ⟨g, 0, none⟩ x').setCell ⟨g, 1, none⟩ y').setCell ⟨g, 2, none⟩ z').heap[g]? = some (.cells #[x', y', z'] t (0, 0)) := by
  have h1 := heap_setCell_same W g 0 #[x, y, z] t x' h
  have h2 := heap_setCell_same _ g 1 _ t y' h1
  exact heap_setCell_same _ g 2 _ t z' h2
structure WhyB (w : World) (p : ByteArray) (v iv : Value) (W : World) : Prop where
  bel : Below w.heap.size w W
  idx : W.heap[w.heap.size]? = some (.cells #[v, iv] 25 (0, 0))
  pth : W.heap[w.heap.size + 1]? = some (.cells #[.string p] 9 (0, 0))
  res : W.heap[w.heap.size + 1 + 1]? = some (.cells #[.string ⟨#[]⟩, .int .i64 0, .slice none 0 0] 29 (0, 0))
theorem WhyB.lt {w : World} {p : ByteArray} {v iv : Value} {W : World} (h : WhyB w p v iv W) : w.heap.size + 1 + 1 < W.heap.size := (Array.getElem?_eq_some_iff.1 h.res).1
theorem WhyB.below {w : World} {p : ByteArray} {v iv : Value} {W W' : World} (h : WhyB w p v iv W) (hb : Below W.heap.size W W') : WhyB w p v iv W' := by
  have hl := h.lt
  exact ⟨h.bel.trans (hb.mono h.bel.size), (hb.block _ (by omega)).trans h.idx, (hb.block _ (by omega)).trans h.pth, (hb.block _ hl).trans h.res⟩
theorem WhyB.start (w : World) (p : ByteArray) (v iv : Value) : WhyB w p v iv (((w.alloc (.cells #[v, iv] 25)).alloc (.cells #[.string p] 9)).alloc (.cells #[.string ⟨#[]⟩, .int .i64 0, .slice none 0 0] 29)) := by
  have hget : ∀ (w : World) (o : Obj) (k : Nat), (w.alloc o).heap[k]? = if k = w.heap.size then some o else w.heap[k]? := fun w o k => by
    show (w.heap.push o)[k]? = _
    rw [Array.getElem?_push]
  refine ⟨(by repeat (first | exact Below.refl _ _ | refine Below.drew ?_ | refine Below.alloc ?_ (by simp <;> omega) _ | refine Below.setCell ?_ (by simp <;> omega) _)), ?_, ?_, ?_⟩
  · simp only [hget, World.size_alloc]; repeat (first | rw [if_pos trivial] | rw [if_neg (by omega)] | rw [if_pos (by omega)])
  · simp only [hget, World.size_alloc]; repeat (first | rw [if_pos trivial] | rw [if_neg (by omega)] | rw [if_pos (by omega)])
  · simp only [hget, World.size_alloc]; repeat (first | rw [if_pos trivial] | rw [if_neg (by omega)] | rw [if_pos (by omega)])
theorem wpList_insert_F {P : Program} {k : TypeId} {W : World} {ops : Array Oper} {rest : List Oper} {o : Oper} {a : Act} {Q : Exit → Act → World → Prop}
    (hg : o.guard = none) (m x v : Operand) (t : TypeId) (hop : o.op = Op.insert t m x v)
    (e : TypeId) (K : Keyed P k) (ht : P.underlying t = some (.map k e)) (b n : Nat) (f : Lit → Option Value)
    (hm : a.eval m = .map (some b)) (hown : MapF P k W b n f) (hn : n < maxLen) (key val : Value) (kl : Lit) (hx : a.eval x = key) (hv : a.eval v = val) (hkey : keyOf P k key = some kl)
    (hK : ∀ W', MapF P k W' b (n + 1) (putF f kl val) → W.grownBy W' (some b) → wpList P ops Q rest (a.put o.dst undef) W') :
    wpList P ops Q (o :: rest) a W := by
  obtain ⟨D, h1, h2, h3, h4⟩ := hown
  have hkl := K.key hkey
  refine wpList_plain hg fun K' hK' => ?_
  obtain ⟨w', hrun, r1, r2⟩ := h1.update K ht hn hkey (val := val) (d := .held val) (ps := []) rfl
  unfold Oper.wp
  simp [execOp, hop, hm, hx, hv, hrun, Result.andThen]
  refine hK' _ _ (hK w' ⟨_, r1, h2.put hkl _, fun q => ?_, fun q z => ?_⟩ r2)
  · by_cases hq : q = kl
    · subst hq
      rw [has_put_same h2.isMap hkl, putF_same]
      rfl
    · rw [has_put_other hq, h3, putF_other f val hq]
  · by_cases hq : q = kl
    · subst hq
      rw [atKey_put_same h2.isMap hkl, putF_same]
    · rw [atKey_put_other hq, h4, putF_other f val hq]
def boxN (q : Value) (W : World) : Nat := match q with
  | .pointer (some a) => (match W.cell? a with
    | some (.int _ x) => x.toNat
    | _ => 0)
  | _ => 0
structure WhyO (X : List RelL) (t : Nat) (s : List Nat) (mf gf : Nat) (w6 W : World) (nn : Nat) (b : Bool) : Prop where
  bel : Below w6.heap.size w6 W
  fx : W.heap[gf]? = some (.cells #[.map (some mf)] 90 (0, 0))
  far : ∃ cnt f3, MapF Tryz.prog 3 W mf cnt f3 ∧ FarAt X t nn s (fun _ => false) f3 ∧ cnt ≤ 1 + nn * X.length
  fin : b = false → 0 < nn ∧ ∀ i ∈ s, dD X t i ≠ nn
  go : b = true → 0 < nn → ∃ i ∈ s, dD X t i = nn
structure WhyP (X : List RelL) (t : Nat) (s : List Nat) (mf gf gn me ri : Nat) (fe : Lit → Option Value) (w6 W : World) (nn : Nat) (l : List Nat) : Prop where
  bel : Below w6.heap.size w6 W
  fx : W.heap[gf]? = some (.cells #[.map (some mf)] 90 (0, 0))
  nx : W.heap[gn]? = some (.cells #[.int .i64 nn] 3 (0, 0))
  far : ∃ cnt f3, MapF Tryz.prog 3 W mf cnt f3 ∧ FarAt X t nn s (fun i => decide (i ∈ l)) f3 ∧ cnt ≤ 1 + nn * X.length + l.length
  rng : ∃ left cnt, RangesF Tryz.prog 3 W me ri s.length fe left cnt ∧ ∀ i ∈ s, left (keyN i) = !decide (i ∈ l)
  nod : l.Nodup
  sub : ∀ i ∈ l, i ∈ s
theorem done_snoc (l : List Nat) (i : Nat) : (fun j => decide (j ∈ l) || decide (j = i)) = fun j => decide (j ∈ l ++ [i]) := by
  funext j
  rw [Bool.eq_iff_iff]
  simp
theorem left_snoc {s l : List Nat} {left : Lit → Bool} {i : Nat} (h : ∀ j ∈ s, left (keyN j) = !decide (j ∈ l)) : ∀ j ∈ s, (fun z => left z && !z.sameKey (.int .i64 (i : Int))) (keyN j) = !decide (j ∈ l ++ [i]) := fun j hj => by
  show (left (keyN j) && !(keyN j).sameKey (keyN i)) = _
  rw [h j hj]
  have : (keyN j).sameKey (keyN i) = decide (j = i) := by
    by_cases e : j = i
    · subst e; simp [keyN, Lit.sameKey]
    · rw [decide_eq_false e]
      cases hs : (keyN j).sameKey (keyN i) with
      | false => rfl
      | true => exact absurd (keyN_inj (WideAt.sameKey_eq hs)) e
  rw [this]
  rw [Bool.eq_iff_iff]
  simp
theorem any_snoc (l : List Nat) (P : Nat → Bool) (i : Nat) : (l ++ [i]).any P = (l.any P || P i) := by simp
theorem namesL_at : ∀ {nw : Bool} {X : List RelL} {l : List ReqL}, AllN nw X l → ∀ {k : Nat} (hk : k < l.length) (hk2 : k < (namesL nw X l).length), namedI nw X l[k] = some (namesL nw X l)[k]
  | nw, X, q :: l, h, k, hk, hk2 => by
    obtain ⟨i, hi⟩ := Option.isSome_iff_exists.1 (h q (by simp))
    have e : namesL nw X (q :: l) = i :: namesL nw X l := by unfold namesL; rw [List.filterMap_cons, hi]
    have h2 : AllN nw X l := fun p hp => h p (by simp [hp])
    cases k with
    | zero => simp only [e]; exact hi
    | succ k =>
      simp only [e] at hk2 ⊢
      exact namesL_at h2 (by simpa using hk) (by simpa using hk2)
theorem rootD_at {X : List RelL} {roots : List ReqL} {t : Nat} (h : AllN false X roots) {k : Nat} (hk : k < roots.length) (hk2 : k < (namesL false X roots).length) : (rootD X roots t).getD k (-1) = dD X t (namesL false X roots)[k] := by
  unfold rootD
  rw [List.getD_eq_getElem?_getD, List.getElem?_map, List.getElem?_eq_getElem hk]
  simp only [Option.map_some, Option.getD_some, namesL_at h hk hk2]
def BestV (ds : List Int) (k : Nat) (root best : Int) : Prop := match bestK ds k with
  | none => root = -1
  | some r => root = (r : Int) ∧ best = ds.getD r (-1)
theorem BestV.skip {ds : List Int} {k : Nat} {root best : Int} (h : BestV ds k root best) (hd : ds.getD k (-1) < 0) : BestV ds (k + 1) root best := by
  unfold BestV at h ⊢
  show (match (match bestK ds k with
    | none => if 0 ≤ ds.getD k (-1) then some k else none
    | some r => if 0 ≤ ds.getD k (-1) ∧ ds.getD k (-1) < ds.getD r (-1) then some k else some r) with
    | none => root = -1
    | some r => root = (r : Int) ∧ best = ds.getD r (-1))
  cases hb : bestK ds k with
  | none => rw [hb] at h; simp only; rw [if_neg (by omega)]; exact h
  | some r => rw [hb] at h; simp only; rw [if_neg (by omega)]; exact h
theorem BestV.keep {ds : List Int} {k : Nat} {root best : Int} (h : BestV ds k root best) (hr : 0 ≤ root) (hd : ¬ ds.getD k (-1) < best) : BestV ds (k + 1) root best := by
  unfold BestV at h ⊢
  show (match (match bestK ds k with
    | none => if 0 ≤ ds.getD k (-1) then some k else none
    | some r => if 0 ≤ ds.getD k (-1) ∧ ds.getD k (-1) < ds.getD r (-1) then some k else some r) with
    | none => root = -1
    | some r => root = (r : Int) ∧ best = ds.getD r (-1))
  cases hb : bestK ds k with
  | none => rw [hb] at h; simp only at h; omega
  | some r => rw [hb] at h; simp only at h ⊢; rw [if_neg (by omega)]; exact h
theorem BestV.put {ds : List Int} {k : Nat} {root best : Int} (h : BestV ds k root best) (h0 : 0 ≤ ds.getD k (-1)) (hd : root < 0 ∨ ds.getD k (-1) < best) : BestV ds (k + 1) (k : Int) (ds.getD k (-1)) := by
  unfold BestV at h ⊢
  show (match (match bestK ds k with
    | none => if 0 ≤ ds.getD k (-1) then some k else none
    | some r => if 0 ≤ ds.getD k (-1) ∧ ds.getD k (-1) < ds.getD r (-1) then some k else some r) with
    | none => (k : Int) = -1
    | some r => (k : Int) = (r : Int) ∧ ds.getD k (-1) = ds.getD r (-1))
  cases hb : bestK ds k with
  | none => rw [hb] at h; simp only; rw [if_pos h0]; exact ⟨rfl, rfl⟩
  | some r => rw [hb] at h; simp only at h ⊢; rw [if_pos ⟨h0, by omega⟩]; exact ⟨rfl, rfl⟩
theorem BestV.root {ds : List Int} {k : Nat} {root best : Int} (h : BestV ds k root best) : -1 ≤ root ∧ root < k ∨ root = -1 := by
  unfold BestV at h
  cases hb : bestK ds k with
  | none => rw [hb] at h; simp only at h; omega
  | some r => rw [hb] at h; simp only at h; have := (bestK_some hb).1; omega
def HeldY (gw g gi b o i : Nat) (xv : Value) (x : RelL) (r : Value) (W : World) : Prop := W.cell? ⟨gw, 0, none⟩ = some (.pointer (some ⟨g, 0, none⟩)) ∧ W.cell? ⟨g, 0, none⟩ = some xv ∧ W.cell? ⟨gi, 0, none⟩ = some (.int .i64 (i : Int)) ∧ CellsAt W b o x r
theorem HeldY.below {gw g gi b o i : Nat} {xv : Value} {x : RelL} {r : Value} {W W' : World} (h : HeldY gw g gi b o i xv x r W) (h1 : gw < W.heap.size) (h2 : g < W.heap.size) (h3 : gi < W.heap.size) (h4 : b < W.heap.size) (hb : Below W.heap.size W W') : HeldY gw g gi b o i xv x r W' :=
  ⟨(hb.cell (p := ⟨gw, 0, none⟩) h1).trans h.1, (hb.cell (p := ⟨g, 0, none⟩) h2).trans h.2.1, (hb.cell (p := ⟨gi, 0, none⟩) h3).trans h.2.2.1, h.2.2.2.below hb h4⟩
structure WhyC (X : List RelL) (t : Nat) (s : List Nat) (p : ByteArray) (r0 mf gf gi go B : Nat) (f3 : Lit → Option Value) (full : List SelL) (w6 W : World) (i m : Nat) : Prop where
  bel : Below w6.heap.size w6 W
  fx : W.heap[gf]? = some (.cells #[.map (some mf)] 90 (0, 0))
  far : ∃ cnt, MapF Tryz.prog 3 W mf cnt f3
  ix : W.heap[gi]? = some (.cells #[.int .i64 (i : Int)] 3 (0, 0))
  out : ∃ cv ch, W.heap[go]? = some (.cells #[.string p, .int .i64 (r0 : Int), cv] 29 (0, 0)) ∧ W.ownsRow B 43 4 cv ch.length (selCells ch) ∧ ch ++ ((descP (sucs X.length (relEs X)) (dT X t) m i).tail.map fun i => keyL (X.getD i default)) = full
  mem : i ∈ s
  dist : dD X t i = (m : Int)
  sz : B ≤ W.heap.size
theorem descP_head (S : List (List Nat)) (far : List Int) : ∀ m n, descP S far m n = n :: (descP S far m n).tail
  | 0, n => rfl
  | m + 1, n => rfl
theorem whyV_err {X : List RelL} {roots : List ReqL} {p : ByteArray} (h : (selM false X roots).2 ≠ 0) : whyV X roots p = ((⟨#[]⟩, 0, []), (selM false X roots).2) := by unfold whyV; rw [if_pos h]
theorem whyV_none {X : List RelL} {roots : List ReqL} {p : ByteArray} (hp : PlainP X roots) (ha : AllM false X roots) (h : tgtM X roots p = none) : whyV X roots p = ((⟨#[]⟩, 0, []), 6) := by
  unfold whyV
  rw [selM_ok hp ha, if_neg (by simp), h]
set_option maxRecDepth 100000 in
set_option maxHeartbeats 16000000 in
theorem Why_any (v iv rov : Value) (X : List RelL) (roots : List ReqL) (p : ByteArray) (w : World) (hm : MaxOk w) (hX : X.length ≤ 1000000) (hq : ∀ x ∈ X, RelBd x) (hR : RelsOf w.heap.size v X w)
    (hro : roots.length ≤ 1000000) (hrq : ReqsBd roots) (hRo : ReqsOf w.heap.size rov roots w) :
    Calls Tryz.prog 13 #[.agg #[v, iv], rov, .string p] w (WhyR X roots p w) := by
  have HSE := Lib.hid (fun W (hb : RowKit.Below w.heap.size w W) => MSelect_any v iv rov X roots W (hm.below hb hm.pos) hX hq (hR.on hb) hro hrq (hRo.on hb))
  have HNW := Lib.hid (fun W (hb : RowKit.Below w.heap.size w W) => newWorld_any v iv X W hX hq (hR.on hb))
  have HCH := Lib.hid (fun (hp : PlainP X roots) W g a c m n f (hw : WorldOf W g X a c m n f) (hb : RowKit.Below w.heap.size w W) => choose_any false 51 (enters_of Tryz.func51 (by kernel_rfl) rfl) g X a c m n f (by_old (validX (idx_ok hp.idx)) hX) hX hq roots rov hp hro hrq W hw (hRo.on hb))
  have HED := Lib.hid (fun (hp : PlainP X roots) (ha : AllM false X roots) W g a c m n f (hw : WorldOf W g X a c m n f) (hb : RowKit.Below w.heap.size w W) => edges_any g X a c m n f hX hq roots rov hp ha hro hrq W hw (hRo.on hb))
  have HNA := Lib.hid (fun (hp : PlainP X roots) W g a c m n f (hw : WorldOf W g X a c m n f) (hb : RowKit.Below w.heap.size w W) => names_any false 51 (enters_of Tryz.func51 (by kernel_rfl) rfl) g X a c m n f (by_old (validX (idx_ok hp.idx)) hX) (idx_ok hp.idx) hX roots rov W hw (fun q hq2 => hp.roots.q hq2) hro hrq (hRo.on hb))
  obtain ⟨va, vn, vc, rfl⟩ : ∃ a n c, v = .slice a n c := by obtain ⟨a, c, _, e, _⟩ := hR.rv; exact ⟨_, _, _, e⟩
  obtain ⟨ra, rc, rfl⟩ : ∃ ra rc, rov = .slice ra roots.length rc := by obtain ⟨a, c, e, _⟩ := hRo; exact ⟨a, c, e⟩
  clear hm hq hR hrq hRo
  have HB0 := Lib.hid (WhyB.start w p (.slice va vn vc) iv)
  go_enter Tryz.func13, Tryz.ntmps13
  go_upto_region 1 with fail
  generalize ((w.alloc (.cells #[.slice va vn vc, iv] 25)).alloc (.cells #[.string p] 9)).alloc (.cells #[.string ⟨#[]⟩, .int .i64 0, .slice none 0 0] 29) = W at *
  have c0 : W.cell? ⟨w.heap.size, 0, none⟩ = some (.slice va vn vc) := cell_of_row _ _ 0 _ _ _ HB0.out.idx
  have c1 : W.cell? ⟨w.heap.size, 1, none⟩ = some iv := cell_of_row _ _ 1 _ _ _ HB0.out.idx
  go_wp2_with fail
  refine (HSE.out _ HB0.out.bel).mono ?_
  rintro e w1 ⟨hb1, sv, rfl, hs1⟩
  have HB1 := Lib.hid (HB0.out.below hb1)
  obtain ⟨sa, sn, sc, rfl⟩ : ∃ sa sn sc, sv = .slice sa sn sc := by obtain ⟨a, c, e, _⟩ := hs1; exact ⟨a, _, c, e⟩
  obtain ⟨E, hE⟩ : ∃ E, (selM false X roots).2 = E := ⟨_, rfl⟩
  have HEE := Lib.hid hE
  rw [hE]
  clear hb1 hs1 HSE c0 c1 hE
  have r0 : w1.cell? ⟨w.heap.size + 1 + 1, 0, none⟩ = some (.string ⟨#[]⟩) := cell_of_row _ _ 0 _ _ _ HB1.out.res
  have r1 : w1.cell? ⟨w.heap.size + 1 + 1, 1, none⟩ = some (.int .i64 0) := cell_of_row _ _ 1 _ _ _ HB1.out.res
  have r2 : w1.cell? ⟨w.heap.size + 1 + 1, 2, none⟩ = some (.slice none 0 0) := cell_of_row _ _ 2 _ _ _ HB1.out.res
  have q0 := frozen_of_row _ _ 0 _ _ HB1.out.res
  have q1 := frozen_of_row _ _ 1 _ _ HB1.out.res
  have q2 := frozen_of_row _ _ 2 _ _ HB1.out.res
  by_cases hE0 : E = 0
  case neg =>
    have hE1 : (E != 0) = true := by simpa using hE0
    have HWV := Lib.hid (whyV_err (p := p) (show (selM false X roots).2 ≠ 0 from fun e => hE0 (HEE.out.symm.trans e)))
    have HR3 := Lib.hid (setThree w1 (w.heap.size + 1 + 1) _ _ _ _ (.string ⟨#[]⟩) (.int .i64 0) (.slice none 0 0) HB1.out.res)
    have HBF : Hid (Below w.heap.size w (((w1.setCell ⟨w.heap.size + 1 + 1, 0, none⟩ (.string ⟨#[]⟩)).setCell ⟨w.heap.size + 1 + 1, 1, none⟩ (.int .i64 0)).setCell ⟨w.heap.size + 1 + 1, 2, none⟩ (.slice none 0 0))) := Lib.hid (((HB1.out.bel.setCell (by simp; omega) _).setCell (by simp; omega) _).setCell (by simp; omega) _)
    go_wp2_with fail
    refine bodyPost_ret (results_cell_tmp rfl _ _ (w.heap.size + 1 + 1) _ _ _ _ rfl HR3.out Tryz.underlying29 rfl (by kernel_rfl)) rfl ?_
    refine ⟨HBF.out, .slice none 0 0, by rw [HWV.out, HEE.out]; rfl, by rw [HWV.out]; exact ⟨_, _, rfl, fun i y hy => by simp at hy⟩, ⟨_, _, _, rfl, Nat.le_refl _⟩⟩
  subst hE0
  have hpa : PlainP X roots ∧ AllM false X roots := by
    have h := HEE.out
    by_cases hp : PlainP X roots
    · by_cases ha : AllM false X roots
      · exact ⟨hp, ha⟩
      · rw [selM_not hp ha] at h; cases h
    · rw [selM_arg hp] at h; cases h
  have HP := Lib.hid hpa.1
  have HA := Lib.hid hpa.2
  clear hpa r0 r1 r2 q0 q1 q2 HEE
  have c0 : w1.cell? ⟨w.heap.size, 0, none⟩ = some (.slice va vn vc) := cell_of_row _ _ 0 _ _ _ HB1.out.idx
  have c1 : w1.cell? ⟨w.heap.size, 1, none⟩ = some iv := cell_of_row _ _ 1 _ _ _ HB1.out.idx
  go_wp2_with fail
  refine (HNW.out _ HB1.out.bel).mono ?_
  rintro e w2 ⟨g, a, c, m, n, f, rfl, hw, hb2⟩
  have HB2 := Lib.hid (HB1.out.below hb2)
  have HW2 := Lib.hid hw
  clear hb2 hw c0 c1 HNW
  have HB3 := Lib.hid (HB2.out.below (belQ w2 (.cells #[.pointer (some ⟨g, 0, none⟩)] 77)))
  have HW3 := Lib.hid (HW2.out.below (belQ w2 (.cells #[.pointer (some ⟨g, 0, none⟩)] 77)))
  have HX3 : Hid ((w2.alloc (.cells #[.pointer (some ⟨g, 0, none⟩)] 77)).heap[w2.heap.size]? = some (.cells #[.pointer (some ⟨g, 0, none⟩)] 77 (0, 0))) := Lib.hid (World.alloc_heap_new w2 _)
  have hz2 : w.heap.size + 1 + 1 < w2.heap.size := HB2.out.lt
  go_upto_region 5 with fail
  generalize hW3 : w2.alloc (.cells #[.pointer (some ⟨g, 0, none⟩)] 77) = W3 at *
  generalize w2.heap.size = gw at *
  clear hW3 HW2 HB2
  have e0 : W3.cell? ⟨gw, 0, none⟩ = some (.pointer (some ⟨g, 0, none⟩)) := cell_of_row _ _ 0 _ _ _ HX3.out
  go_wp2_with fail
  refine (HCH.out HP.out _ _ _ _ _ _ _ HW3.out HB3.out.bel).mono ?_
  rintro e w4 ⟨hb4, h4⟩
  have hgw : gw < W3.heap.size := (Array.getElem?_eq_some_iff.1 HX3.out).1
  have HB4 := Lib.hid (HB3.out.below hb4)
  have HW4 := Lib.hid (HW3.out.below hb4)
  have HX4 := Lib.hid ((hb4.block gw hgw).trans HX3.out)
  clear hb4 HCH HB3 HW3 HX3 e0 hgw
  rcases h4 with ⟨_, v4, rfl, how⟩ | ⟨hno, rfl⟩
  case inr => exact absurd HA.out hno
  obtain ⟨oa, oc, rfl⟩ := own_any how
  have HRO := Lib.hid (own_row how).2
  clear how
  obtain ⟨T, hT⟩ : ∃ T, topM false X roots = T := ⟨_, rfl⟩
  have HTT := Lib.hid hT
  have HTM : Hid (∀ i ∈ T, i < X.length) := Lib.hid (fun i hi => by rw [← hT] at hi; exact (topM_mem.1 hi).1.lt.1)
  have HTL : Hid (T.length ≤ X.length) := Lib.hid (by
    have := sub_length (l := T) (m := List.range X.length) (by rw [← hT]; exact (topM_sorted false X roots).imp Nat.ne_of_lt) (fun i hi => List.mem_range.2 (HTM.out i hi))
    simpa using this)
  rw [hT] at HRO
  rw [hT]
  have htl := HTL.out
  clear hT
  have HID := Lib.hid (idx_nat 53 #[.pointer (some ⟨gw, 0, none⟩), .pointer (some ⟨w.heap.size + 1, 0, none⟩)] (enters_of Tryz.func53 (by kernel_rfl) rfl) (fun i => decide ((X.getD i default).path = p)) (.slice oa T.length oc) T w4 (by omega) HRO.out
    (fun W2 x hx hb => (why1_any g gw (w.heap.size + 1) X a c m n f x p W2 (HW4.out.below hb) (HTM.out x hx) hX (cell_of_row _ _ 0 _ _ _ ((hb.block gw (Array.getElem?_eq_some_iff.1 HX4.out).1).trans HX4.out)) (cell_of_row _ _ 0 _ _ _ (HB4.out.below hb).pth)).mono fun e w' h => ⟨h.1, hb.trans (h.2.mono hb.size)⟩))
  go_wp2_with fail
  refine HID.out.mono ?_
  rintro e w5 ⟨rfl, hb5⟩
  have HB5 := Lib.hid (HB4.out.below hb5)
  have HW5 := Lib.hid (HW4.out.below hb5)
  have HX5 := Lib.hid ((hb5.block gw (Array.getElem?_eq_some_iff.1 HX4.out).1).trans HX4.out)
  have HRO5 := Lib.hid ((HRO.out.below hb5 (Nat.le_refl _)).mono hb5.size)
  clear hb5 HB4 HW4 HX4 HRO HID
  rcases first_find (P := fun i => decide ((X.getD i default).path = p)) (l := T) with ⟨hk, hf⟩ | ⟨k, hk, he, hf⟩
  · have hk2 : decide (firstI (fun i => decide ((X.getD i default).path = p)) T < 0) = true := decide_eq_true hk
    have HWV := Lib.hid (whyV_none HP.out HA.out (show tgtM X roots p = none by unfold tgtM; rw [HTT.out]; exact hf))
    generalize firstI (fun i => decide ((X.getD i default).path = p)) T = kk at *
    have r0 : w5.cell? ⟨w.heap.size + 1 + 1, 0, none⟩ = some (.string ⟨#[]⟩) := cell_of_row _ _ 0 _ _ _ HB5.out.res
    have r1 : w5.cell? ⟨w.heap.size + 1 + 1, 1, none⟩ = some (.int .i64 0) := cell_of_row _ _ 1 _ _ _ HB5.out.res
    have r2 : w5.cell? ⟨w.heap.size + 1 + 1, 2, none⟩ = some (.slice none 0 0) := cell_of_row _ _ 2 _ _ _ HB5.out.res
    have q0 := frozen_of_row _ _ 0 _ _ HB5.out.res
    have q1 := frozen_of_row _ _ 1 _ _ HB5.out.res
    have q2 := frozen_of_row _ _ 2 _ _ HB5.out.res
    have HR3 := Lib.hid (setThree w5 (w.heap.size + 1 + 1) _ _ _ _ (.string ⟨#[]⟩) (.int .i64 0) (.slice none 0 0) HB5.out.res)
    have HBF : Hid (Below w.heap.size w (((w5.setCell ⟨w.heap.size + 1 + 1, 0, none⟩ (.string ⟨#[]⟩)).setCell ⟨w.heap.size + 1 + 1, 1, none⟩ (.int .i64 0)).setCell ⟨w.heap.size + 1 + 1, 2, none⟩ (.slice none 0 0))) := Lib.hid (((HB5.out.bel.setCell (by simp; omega) _).setCell (by simp; omega) _).setCell (by simp; omega) _)
    clear hf
    go_wp2_with fail
    refine bodyPost_ret (results_cell_tmp rfl _ _ (w.heap.size + 1 + 1) _ _ _ _ rfl HR3.out Tryz.underlying29 rfl (by kernel_rfl)) rfl ?_
    exact ⟨HBF.out, .slice none 0 0, by rw [HWV.out]; rfl, by rw [HWV.out]; exact ⟨_, _, rfl, fun i y hy => by simp at hy⟩, ⟨_, _, _, rfl, Nat.le_refl _⟩⟩
  have HTG : Hid (tgtM X roots p = some T[k]) := Lib.hid (by unfold tgtM; rw [HTT.out]; exact hf)
  rw [he]
  have hk1 : ¬ ((k : Int) < 0) := by omega
  have hk2 : decide ((k : Int) < 0) = false := decide_eq_false hk1
  have htx := HTM.out T[k] (List.getElem_mem hk)
  have HTR : Hid (RchM false X roots T[k]) := Lib.hid (by
    have h : T[k] ∈ topM false X roots := by rw [HTT.out]; exact List.getElem_mem hk
    exact (topM_mem.1 h).1)
  obtain ⟨la2, lc2, el, hat⟩ := rowOf_open HRO5.out
  injection el with e1 e2 e3
  subst e1
  subst e3
  obtain ⟨lb, lo, rfl, hlb, hlc⟩ := hat k T[k] (by simp [hk])
  clear hf he e2 hat HTM HRO5
  generalize T[k] = t at *
  have e0 : w5.cell? ⟨gw, 0, none⟩ = some (.pointer (some ⟨g, 0, none⟩)) := cell_of_row _ _ 0 _ _ _ HX5.out
  go_wp2_with fail
  refine (HED.out HP.out HA.out _ _ _ _ _ _ _ HW5.out HB5.out.bel).mono ?_
  rintro e w6 ⟨hb6, me, fe, s, rfl, hme, hsn, hsr, hse, hso⟩
  have HB6 := Lib.hid (HB5.out.below hb6)
  have HW6 := Lib.hid (HW5.out.below hb6)
  have HX6 := Lib.hid ((hb6.block gw (Array.getElem?_eq_some_iff.1 HX5.out).1).trans HX5.out)
  have d0 := (hb6.cell (p := ⟨lb, lo + k, none⟩) hlb).trans hlc
  have HME := Lib.hid hme
  have HSN := Lib.hid hsn
  have HSR := Lib.hid hsr
  have HSE6 := Lib.hid hse
  have HSO := Lib.hid hso
  have hlb6 : lb < w6.heap.size := Nat.lt_of_lt_of_le hlb hb6.size
  clear hb6 hme hsn hsr hse hso HB5 HW5 HX5 hlc HED e0
  have hz6 : w.heap.size + 1 + 1 < w6.heap.size := HB6.out.lt
  have hgw6 : gw < w6.heap.size := (Array.getElem?_eq_some_iff.1 HX6.out).1
  have hmm := @run_makeMap Tryz.prog
  have HM7 := Lib.hid (MapF.made Tryz.prog 3 w6)
  have hk0 : (0 : Int) ≤ (k : Int) := by omega
  have hk3 : (k : Int) < (T.length : Int) := by omega
  have d7 : (w6.alloc (.map #[] 0)).cell? ⟨lb, lo + k, none⟩ = some (.int .i64 (t : Int)) := ((belQ w6 (.map #[] 0)).cell (p := ⟨lb, lo + k, none⟩) hlb6).trans d0
  have HKT := Lib.hid (keyI (a := (t : Int)) (by omega) (by omega))
  have hme6 : me < w6.heap.size := HME.out.lt
  clear d0
  go_upto_region 11 with (refine wpList_insert_F rfl _ _ _ _ rfl 3 lawI Tryz.underlying90 w6.heap.size 0 _ (by rfl) HM7.out (by unfold maxLen; omega) _ _ (.int .i64 (t : Int)) rfl rfl HKT.out ?_; intro W8 h8 g8; have H8 := Lib.hid h8; have G8 := Lib.hid g8; clear h8 g8)
  clear hmm d7
  have hz7 : w6.heap.size + 1 ≤ W8.heap.size := by have := G8.out.size; simp at this; exact this
  have HB8 : Hid (Below w6.heap.size w6 W8) := Lib.hid ((belQ w6 (.map #[] 0)).grown G8.out (by simp) (fun b hb => by cases hb; exact Nat.le_refl _))
  have hts : t ∈ s := (HSR.out t).1 HTR.out
  have HFA := Lib.hid (FarAt.start (X := X) htx hts)
  have HM8 : Hid (MapF Tryz.prog 3 W8 w6.heap.size 1 (putF (fun _ => none) (.int .i64 (t : Int)) (.int .i64 0))) := H8
  have hsl : s.length ≤ X.length := by
    have := sub_length (l := s) (m := List.range X.length) HSN.out (fun i hi => List.mem_range.2 ((HSR.out i).2 hi).lt.1)
    simpa using this
  have HB9 : Hid (Below w6.heap.size w6 ((W8.alloc (.cells #[.map (some w6.heap.size)] 90)).alloc (.cells #[.int .i64 0] 3))) := Lib.hid ((HB8.out.alloc (by omega) _).alloc (by simp; omega) _)
  have HM9 := Lib.hid ((HM8.out.alloc (.cells #[.map (some w6.heap.size)] 90)).alloc (.cells #[.int .i64 0] 3))
  have HF9 : Hid (((W8.alloc (.cells #[.map (some w6.heap.size)] 90)).alloc (.cells #[.int .i64 0] 3)).heap[W8.heap.size]? = some (.cells #[.map (some w6.heap.size)] 90 (0, 0))) := Lib.hid ((Below.heap_alloc _ _ _ (by simp)).trans (World.alloc_heap_new W8 _))
  have HN9 : Hid (((W8.alloc (.cells #[.map (some w6.heap.size)] 90)).alloc (.cells #[.int .i64 0] 3)).heap[W8.heap.size + 1]? = some (.cells #[.int .i64 0] 3 (0, 0))) := Lib.hid (by
    have := World.alloc_heap_new (W8.alloc (.cells #[.map (some w6.heap.size)] 90)) (.cells #[.int .i64 0] 3)
    rwa [World.size_alloc] at this)
  have hz9 : ((W8.alloc (.cells #[.map (some w6.heap.size)] 90)).alloc (.cells #[.int .i64 0] 3)).heap.size = W8.heap.size + 1 + 1 := by simp
  go_wp2_with fail
  generalize hW9 : (W8.alloc (.cells #[.map (some w6.heap.size)] 90)).alloc (.cells #[.int .i64 0] 3) = W9 at *
  have HZ9 : Hid (W8.heap.size + 1 < W9.heap.size) := Lib.hid (by omega)
  clear hW9 hz9 H8 G8 HB8 HM8
  generalize W8.heap.size = gf at *
  have hmf : w6.heap.size < gf := by omega
  have HO9 : Hid (WhyO X t s w6.heap.size gf w6 W9 0 true) := Lib.hid ⟨HB9.out, HF9.out, ⟨1, _, HM9.out, HFA.out, by simp⟩, (fun h => by cases h), fun _ h => absurd h (by omega)⟩
  have HNB := Lib.hid (And.intro HN9.out HZ9.out)
  clear HB9 HF9 HM9 HFA HN9 HZ9 HM7
  go_loopw [16, 17] (fun b16 p17 wr => ∃ (b : Bool) (nn gn : Nat), b16 = .bool b ∧ p17 = .pointer (some ⟨gn, 0, none⟩) ∧ gf < gn ∧ Hid (wr.heap[gn]? = some (.cells #[.int .i64 (nn : Int)] 3 (0, 0))) ∧ Hid (WhyO X t s w6.heap.size gf w6 wr nn b)) (fun _ p17 wr => X.length + 2 - boxN p17 wr)
  case atStart => exact ⟨true, 0, gf + 1, rfl, rfl, by omega, Lib.hid HNB.out.1, HO9⟩
  case round =>
    obtain ⟨b, nn, gn, rfl, rfl, hgn, HN, HO⟩ := hrel
    clear HO9 HNB
    have hgnl : gn < wr.heap.size := (Array.getElem?_eq_some_iff.1 HN.out).1
    have HBX : Hid (boxN (.pointer (some ⟨gn, 0, none⟩)) wr = nn) := Lib.hid (by
      have := cell_of_row _ gn 0 _ _ _ HN.out
      unfold boxN
      simp only
      rw [this]
      simp)
    cases b with
    | false =>
      obtain ⟨hn0, hnn⟩ := HO.out.fin rfl
      obtain ⟨cnt3, f3, hm3, hfa3, _⟩ := HO.out.far
      have HM3 := Lib.hid hm3
      have HFAR := Lib.hid (hfa3.all htx (fun i hi => ((HSR.out i).2 hi).lt.1) (fun i hi j hj => by
        obtain ⟨q, hq, hn⟩ := edgN_mem.1 hj
        exact (HSR.out j).1 (.step ((HSR.out i).2 hi) hq hn)) hnn hn0)
      have HB10 := Lib.hid HO.out.bel
      have HF10 := Lib.hid HO.out.fx
      have hs10 := HO.out.bel.size
      clear hm3 hfa3 hnn hn0 HO HN HBX
      have e0 : wr.cell? ⟨gw, 0, none⟩ = some (.pointer (some ⟨g, 0, none⟩)) := cell_of_row _ _ 0 _ _ _ ((HB10.out.block gw hgw6).trans HX6.out)
      have HNM := Lib.hid (HNA.out HP.out wr g a c m n f (HW6.out.below HB10.out) (HB6.out.below HB10.out).bel)
      go_wp2_with fail
      refine HNM.out.mono ?_
      rintro e w11 ⟨hb11, h11⟩
      have HB11 := Lib.hid (HB10.out.trans (hb11.mono hs10))
      have HF11 := Lib.hid ((hb11.block gf (Array.getElem?_eq_some_iff.1 HF10.out).1).trans HF10.out)
      have HM11 := Lib.hid (HM3.out.below hb11)
      have hs11 := HB11.out.size
      have hgf11 := (Array.getElem?_eq_some_iff.1 HF11.out).1
      have HWW := Lib.hid hb11
      clear hb11 HNM HB10 HF10 HM3 e0
      rcases h11 with ⟨hall, v11, rfl, how⟩ | ⟨hno, rfl⟩
      case inr => exact absurd (fun q hq => by obtain ⟨i, hi⟩ := HA.out.1 q hq; rw [hi]; rfl) hno
      have HALL := Lib.hid hall
      have HR11 := Lib.hid (own_row how).2
      obtain ⟨fa, fc, rfl⟩ := own_any how
      have hnl : (namesL false X roots).length = roots.length := namesL_all hall
      clear how hall
      have p0 : w11.cell? ⟨w.heap.size + 1, 0, none⟩ = some (.string p) := cell_of_row _ _ 0 _ _ _ (HB6.out.below HB11.out).pth
      have HB12 : Hid (Below w6.heap.size w6 (w11.alloc (.cells #[.string p, .int .i64 (-1), .slice none 0 0] 29))) := Lib.hid (HB11.out.alloc hs11 _)
      have HO12 : Hid ((w11.alloc (.cells #[.string p, .int .i64 (-1), .slice none 0 0] 29)).heap[w11.heap.size]? = some (.cells #[.string p, .int .i64 (-1), .slice none 0 0] 29 (0, 0))) := Lib.hid (World.alloc_heap_new w11 _)
      have HF12 := Lib.hid (((belQ w11 (.cells #[.string p, .int .i64 (-1), .slice none 0 0] 29)).block gf hgf11).trans HF11.out)
      have HM12 := Lib.hid (HM11.out.below (belQ w11 (.cells #[.string p, .int .i64 (-1), .slice none 0 0] 29)))
      have HR12 := Lib.hid (HR11.out.below (belQ w11 (.cells #[.string p, .int .i64 (-1), .slice none 0 0] 29)) (Nat.le_refl _))
      go_wp2_with fail
      clear p0 HB11 HF11 HM11 HR11
      have hs12 : w11.heap.size < (w11.alloc (.cells #[.string p, .int .i64 (-1), .slice none 0 0] 29)).heap.size := by simp
      generalize w11.alloc (.cells #[.string p, .int .i64 (-1), .slice none 0 0] 29) = W12 at *
      generalize w11.heap.size = go at *
      obtain ⟨N, hN⟩ : ∃ N, namesL false X roots = N := ⟨_, rfl⟩
      have HDS : Hid (∀ k, (hk : k < N.length) → (rootD X roots t).getD k (-1) = dD X t N[k]) := Lib.hid (fun k hk => by subst hN; exact rootD_at HALL.out (by omega) hk)
      have HNS : Hid (∀ i ∈ N, i ∈ s) := Lib.hid (fun i hi => by
        rw [← hN] at hi
        obtain ⟨q, hq, hn⟩ := namesL_mem.1 hi
        exact (HSR.out i).1 (.root hq hn))
      have HNN := Lib.hid hN
      rw [hN] at hnl HR12
      have HNL := Lib.hid hnl
      clear hN hnl
      obtain ⟨ds, hds⟩ : ∃ ds, rootD X roots t = ds := ⟨_, rfl⟩
      have HDD := Lib.hid hds
      rw [hds] at HDS
      clear hds
      go_loopw [25, 100] (fun b25 q wx => ∃ (k : Nat) (best : Int), k ≤ roots.length ∧ q = .int .i64 (k : Int) ∧ b25 = .int .i64 best ∧ Hid (∃ root : Int, BestV ds k root best ∧ wx.heap[go]? = some (.cells #[.string p, .int .i64 root, .slice none 0 0] 29 (0, 0))) ∧ Hid (W12.grownBy wx (some go))) (fun _ q _ => roots.length - (intOf q).toNat)
      case atStart => exact ⟨0, 0, Nat.zero_le _, rfl, rfl, Lib.hid ⟨-1, rfl, HO12.out⟩, Lib.hid (World.grownBy.refl _ _)⟩
      case round =>
        obtain ⟨k3, best, hk3, rfl, rfl, HBV, HG⟩ := hrel
        obtain ⟨root, hbv, hob⟩ := HBV.out
        have HBE := Lib.hid hbv
        have HOB := Lib.hid hob
        have hrt := hbv.root
        clear HBV hbv hob
        have hmfgo : w6.heap.size ≤ go := hs11
        by_cases hlt0 : k3 < roots.length
        case neg =>
          obtain rfl : k3 = roots.length := by omega
          obtain ⟨r0, hr0, kk, m0, hb0, hk0, hm0, hwv⟩ := why_best HP.out HA.out HTR.out HTG.out
          have HWV := Lib.hid hwv
          have hroot : root = (r0 : Int) := by
            have h := HBE.out
            unfold BestV at h
            rw [← HDD.out, hb0] at h
            exact h.1
          subst hroot
          have hrN : r0 < N.length := by have := HNL.out; omega
          have hNk : N[r0] = kk := by
            have h1 := HNN.out
            subst h1
            have := namesL_at HALL.out hr0 hrN
            rw [hk0] at this
            exact (Option.some.inj this).symm
          have his : kk ∈ s := by rw [← hNk]; exact HNS.out _ (List.getElem_mem hrN)
          have hkX : kk < X.length := ((HSR.out kk).2 his).lt.1
          obtain ⟨fa2, fc2, efa, hfat⟩ := rowOf_open HR12.out
          injection efa with e1 e2 e3
          subst e1
          subst e3
          obtain ⟨fb, fo, rfl, hfb, hfc⟩ := hfat r0 N[r0] (by simp [hrN])
          rw [hNk] at hfc
          have d0 : wr.cell? ⟨fb, fo + r0, none⟩ = some (.int .i64 (kk : Int)) := (HG.out.cell_far ⟨fb, fo + r0, none⟩ (show fb < W12.heap.size from Nat.lt_trans hfb hs12) (fun e => absurd (Option.some.inj e) (Nat.ne_of_lt hfb))).trans hfc
          have hg12 : W12.heap.size ≤ wr.heap.size := HG.out.size
          have HBW : Hid (Below w6.heap.size w6 wr) := Lib.hid (HB12.out.grown HG.out HB12.out.size (fun b hb => by cases hb; exact hmfgo))
          have HMK := Lib.hid (HM12.out.kept HG.out (by intro e; injection e with e; omega))
          have HFK := Lib.hid ((HG.out.block gf (Nat.lt_trans hgf11 hs12) (fun e => absurd (Option.some.inj e) (Nat.ne_of_lt hgf11))).trans HF12.out)
          have o1 : wr.cell? ⟨go, 1, none⟩ = some (.int .i64 (r0 : Int)) := cell_of_row _ _ 1 _ _ _ HOB.out
          have hr1 : (0 : Int) ≤ (r0 : Int) := by omega
          have hr2 : (r0 : Int) < (roots.length : Int) := by omega
          have hr3 : (r0 : Int) < (N.length : Int) := by omega
          have hgo8 : go < wr.heap.size := Nat.lt_of_lt_of_le hs12 hg12
          clear e2 hfat hfc hfb hNk hk0 hb0 hwv HBE HR12 HB12 HM12 HF12 HG hrt
          go_upto_region 36 with fail
          have HB13 : Hid (Below w6.heap.size w6 (wr.alloc (.cells #[.int .i64 (kk : Int)] 3))) := Lib.hid (HBW.out.alloc HBW.out.size _)
          have HI13 : Hid ((wr.alloc (.cells #[.int .i64 (kk : Int)] 3)).heap[wr.heap.size]? = some (.cells #[.int .i64 (kk : Int)] 3 (0, 0))) := Lib.hid (World.alloc_heap_new wr _)
          have HO13 := Lib.hid (((belQ wr (.cells #[.int .i64 (kk : Int)] 3)).block go hgo8).trans HOB.out)
          have HM13 := Lib.hid (HMK.out.alloc (.cells #[.int .i64 (kk : Int)] 3))
          have hgf8 := (Array.getElem?_eq_some_iff.1 HFK.out).1
          have HF13 := Lib.hid (((belQ wr (.cells #[.int .i64 (kk : Int)] 3)).block gf hgf8).trans HFK.out)
          have hgi13 : wr.heap.size < (wr.alloc (.cells #[.int .i64 (kk : Int)] 3)).heap.size := by simp
          generalize wr.alloc (.cells #[.int .i64 (kk : Int)] 3) = W13 at *
          generalize wr.heap.size = gi at *
          clear d0 o1 HBW HMK HFK HOB
          obtain ⟨rb, roff, rra, rrc, era, hrb, hcs, _⟩ := (HW6.out.below HB13.out).rel hkX
          subst era
          have hs13 := HB13.out.size
          have hgw13 : gw < W13.heap.size := Nat.lt_of_lt_of_le hgw6 hs13
          have hg13 : g < W13.heap.size := (HW6.out.below HB13.out).lt
          have HS0 : Hid (HeldY gw g gi rb (roff + kk * 9) kk (.slice (some ⟨rb, roff, none⟩) X.length c) (X.getD kk default) (.slice rra (X.getD kk default).reqs.length rrc) W13) := Lib.hid ⟨cell_of_row _ _ 0 _ _ _ ((HB13.out.block gw hgw6).trans HX6.out), (HW6.out.below HB13.out).c0, cell_of_row _ _ 0 _ _ _ HI13.out, hcs⟩
          have HSL := Lib.hid (fun W => mselected_any (X.getD kk default) (.slice rra (X.getD kk default).reqs.length rrc) W)
          clear hcs
          generalize hxk : X.getD kk default = x at *
          have HXK := Lib.hid hxk
          clear hxk
          simp only [relC] at HSL
          have hk1 : (0 : Int) ≤ (kk : Int) := by omega
          have hk4 : (kk : Int) < (X.length : Int) := by omega
          refine wp_region_noPanic ?_
          refine region_plain_split (S := HeldY gw g gi rb (roff + kk * 9) kk (.slice (some ⟨rb, roff, none⟩) X.length c) x (.slice rra x.reqs.length rrc)) 10 (by kernel_rfl) (by kernel_rfl) ?_
          simp only [List.take_succ_cons, List.take_zero]
          have hS0 := HS0.out.below hgw13 hg13 hgi13 hrb (Below.refl W13.heap.size W13).drew
          (refine zl3 0 ?_ rfl ?_ ?_; rotate_left; (· (rintro w ⟨c0, c1, c2, d0, d1, d2, d3, d4, d5, d6, d7, d8⟩; go_simp; try with_reducible rfl)); (try simp only [zl1]))
          (refine zl3 1 ?_ rfl ?_ ?_; rotate_left; (· (rintro w ⟨c0, c1, c2, d0, d1, d2, d3, d4, d5, d6, d7, d8⟩; go_simp; try with_reducible rfl)); (try simp only [zl1]))
          (refine zl3 2 ?_ rfl ?_ ?_; rotate_left; (· (rintro w ⟨c0, c1, c2, d0, d1, d2, d3, d4, d5, d6, d7, d8⟩; go_simp; try with_reducible rfl)); (try simp only [zl1]))
          (refine zl3 3 ?_ rfl ?_ ?_; rotate_left; (· (rintro w ⟨c0, c1, c2, d0, d1, d2, d3, d4, d5, d6, d7, d8⟩; go_simp; try with_reducible rfl)); (try simp only [zl1]))
          (refine zl3 4 ?_ rfl ?_ ?_; rotate_left; (· (rintro w ⟨c0, c1, c2, d0, d1, d2, d3, d4, d5, d6, d7, d8⟩; go_simp; try with_reducible rfl)); (try simp only [zl1]))
          (refine zl3 5 ?_ rfl ?_ ?_; rotate_left; (· (rintro w ⟨c0, c1, c2, d0, d1, d2, d3, d4, d5, d6, d7, d8⟩; go_simp; try with_reducible rfl)); (try simp only [zl1]))
          (refine zl3 6 ?_ rfl ?_ ?_; rotate_left; (· (rintro w ⟨c0, c1, c2, d0, d1, d2, d3, d4, d5, d6, d7, d8⟩; go_simp; try with_reducible rfl)); (try simp only [zl1]))
          refine wpAnyH_ready (rs := [7]) (by kernel_rfl) (by simp) (AllReadyH.cons rfl (fun K hK => ?_) AllReadyH.nil)
          go_simp
          refine (HSL.out _).mono ?_
          rintro e w14 ⟨rfl, hb14⟩
          have HB14 := Lib.hid ((Below.refl W13.heap.size W13).drew.trans hb14)
          refine hK.out _ _ (HS0.out.below hgw13 hg13 hgi13 hrb HB14.out) (fun _ => ?_)
          clear hK K hS0 hb14
          (try simp only [zl1])
          have HBS : Hid (Below W13.heap.size W13 (w14.alloc (.cells #[.string x.path, intC x.ver.1, intC x.ver.2.1, intC x.ver.2.2] 43))) := Lib.hid (HB14.out.alloc HB14.out.size _)
          have HN15 : Hid ((w14.alloc (.cells #[.string x.path, intC x.ver.1, intC x.ver.2.1, intC x.ver.2.2] 43)).heap[w14.heap.size]? = some (.cells #[.string x.path, intC x.ver.1, intC x.ver.2.1, intC x.ver.2.2] 43)) := Lib.hid (heap_alloc_new w14 _)
          refine wpAnyH_ready (rs := [8]) (by kernel_rfl) (by simp) (AllReadyH.cons rfl (fun K hK => ?_) AllReadyH.nil)
          go_simp
          refine hK.out _ _ (HS0.out.below hgw13 hg13 hgi13 hrb HBS.out) (fun hS2 => ?_)
          clear hK K
          (try simp only [zl1])
          have hS0 := hS2
          (refine zl3 9 ?_ rfl ?_ ?_; rotate_left; (· (rintro w ⟨c0, c1, c2, d0, d1, d2, d3, d4, d5, d6, d7, d8⟩; go_simp; try with_reducible rfl)); (try simp only [zl1]))
          refine wpAnyH_done (by kernel_rfl) ?_ _
          show wpList _ _ _ _ _ _
          simp only [List.drop_succ_cons, List.drop_zero]
          have HO15 := Lib.hid ((HBS.out.block go (by have := (Array.getElem?_eq_some_iff.1 HO13.out).1; exact this)).trans HO13.out)
          have HI15 := Lib.hid ((HBS.out.block gi hgi13).trans HI13.out)
          have HM15 := Lib.hid (HM13.out.below HBS.out)
          have HF15 := Lib.hid ((HBS.out.block gf (by have := (Array.getElem?_eq_some_iff.1 HF13.out).1; exact this)).trans HF13.out)
          have HB15 := Lib.hid (HB13.out.trans (HBS.out.mono hs13))
          have hgi15 : gi < (w14.alloc (.cells #[.string x.path, intC x.ver.1, intC x.ver.2.1, intC x.ver.2.2] 43)).heap.size := Nat.lt_of_lt_of_le hgi13 HBS.out.size
          have HZ15 : Hid (W13.heap.size ≤ w14.heap.size) := Lib.hid HB14.out.size
          have HOW15 : Hid ((w14.alloc (.cells #[.string x.path, intC x.ver.1, intC x.ver.2.1, intC x.ver.2.2] 43)).ownsRow W13.heap.size 43 4 (.slice (some ⟨w14.heap.size, 0, none⟩) 1 1) 1 (selCells [keyL x])) := Lib.hid (World.ownsRow_lit (base := W13.heap.size) (e := 43) (size := 4) w14 #[.string x.path, intC x.ver.1, intC x.ver.2.1, intC x.ver.2.2] 1 HB14.out.size (by unfold maxLen; omega) (by simp))
          have o2 := cell_of_row _ go 2 _ _ _ HO15.out
          have q2 := frozen_of_row _ go 2 _ _ HO15.out
          generalize hW15 : w14.alloc (.cells #[.string x.path, intC x.ver.1, intC x.ver.2.1, intC x.ver.2.2] 43) = W15 at *
          have hgo13 : go < W13.heap.size := (Array.getElem?_eq_some_iff.1 HO13.out).1
          have hgf13 : gf < W13.heap.size := (Array.getElem?_eq_some_iff.1 HF13.out).1
          have hgigo : gi ≠ go := by omega
          have hgfgo : gf ≠ go := by omega
          have HC16 : Hid (WhyC X t s p r0 w6.heap.size gf gi go W13.heap.size f3 ((descP (sucs X.length (relEs X)) (dT X t) m0 kk).map fun i => keyL (X.getD i default)) w6 (W15.setCell ⟨go, 2, none⟩ (.slice (some ⟨w14.heap.size, 0, none⟩) 1 1)) kk m0) := Lib.hid (by
            have hset := grownBy_setC W15 go 2 (.slice (some ⟨w14.heap.size, 0, none⟩) 1 1)
            have hl : W13.heap.size ≤ W15.heap.size := by have := HZ15.out; rw [← hW15]; simp; omega
            refine ⟨HB15.out.grown hset HB15.out.size (fun b hb => by cases hb; exact hmfgo), (hset.block gf (by omega) (by intro e; injection e with e; exact hgfgo e)).trans HF15.out, ⟨_, HM15.out.kept hset (by intro e; injection e with e; omega)⟩, (hset.block gi hgi15 (by intro e; injection e with e; exact hgigo e)).trans HI15.out, ⟨_, [keyL x], heap_setCell_same W15 go 2 _ _ _ HO15.out, own_far HOW15.out (fun b hb => hset.block b (HOW15.out.lt b hb).2 (by intro e; injection e with e; have := (HOW15.out.lt b hb).1; omega)), ?_⟩, his, hm0, Nat.le_trans hl hset.size⟩
            have hh := congrArg (List.map fun i => keyL (X.getD i default)) (descP_head (sucs X.length (relEs X)) (dT X t) m0 kk)
            rw [List.map_cons, HXK.out] at hh
            exact hh.symm)
          clear hS0 hS2 HBS HB14 HSL hW15
          go_wp2_with fail
          refine NoPanic.normal ?_
          clear HO15 HI15 HM15 HF15 HB15 HOW15 o2 q2 HO13 HI13 HM13 HF13 HS0 HB13 HN15
          generalize W15.setCell ⟨go, 2, none⟩ (.slice (some ⟨w14.heap.size, 0, none⟩) 1 1) = W16 at *
          go_wp2_with fail
          go_loopw [31] (fun _ wx => Hid (∃ i m, WhyC X t s p r0 w6.heap.size gf gi go W13.heap.size f3 ((descP (sucs X.length (relEs X)) (dT X t) m0 kk).map fun i => keyL (X.getD i default)) w6 wx i m)) (fun _ wx => (dD X t (boxN (.pointer (some ⟨gi, 0, none⟩)) wx)).toNat)
          case atStart => exact Lib.hid ⟨kk, m0, HC16.out⟩
          case round =>
            obtain ⟨i, m, hc⟩ := hrel.out
            have HC := Lib.hid hc
            have his2 := hc.mem
            have hds := hc.dist
            clear hrel hc HC16
            have hiX : i < X.length := ((HSR.out i).2 his2).lt.1
            obtain ⟨cnt4, hm4⟩ := HC.out.far
            have HM4 := Lib.hid hm4
            clear hm4
            obtain ⟨cv, ch, hgo4, how4, hch⟩ := HC.out.out
            have HGO := Lib.hid hgo4
            have HOW4 := Lib.hid how4
            have HCH := Lib.hid hch
            obtain ⟨ca, cc, rfl⟩ := own_any how4
            clear hgo4 how4 hch
            have hsx := HC.out.bel.size
            have HBY := Lib.hid (HB6.out.below HC.out.bel)
            have HKI := Lib.hid (keyI (a := (i : Int)) (by omega) (by omega))
            have hztd : ∀ W, (zeroValue 3).run Tryz.prog W = .ok (.int .i64 0) W := Tryz.zeroValue3
            have HZ := Lib.hid hztd
            have HFI : Hid (f3 (.int .i64 (i : Int)) = some (.int .i64 (m : Int))) := Lib.hid (by
              have h := HFAR.out i his2
              rw [if_pos (by omega), hds] at h
              exact h)
            have f0 : wr.cell? ⟨gf, 0, none⟩ = some (.map (some w6.heap.size)) := cell_of_row _ _ 0 _ _ _ HC.out.fx
            have i0 : wr.cell? ⟨gi, 0, none⟩ = some (.int .i64 (i : Int)) := cell_of_row _ _ 0 _ _ _ HC.out.ix
            have HDS := Lib.hid hds
            clear hztd hds
            cases m with
            | zero =>
              have o0 : wr.cell? ⟨go, 0, none⟩ = some (.string p) := cell_of_row _ _ 0 _ _ _ HGO.out
              have o1 : wr.cell? ⟨go, 1, none⟩ = some (.int .i64 (r0 : Int)) := cell_of_row _ _ 1 _ _ _ HGO.out
              have o2 : wr.cell? ⟨go, 2, none⟩ = some (.slice ca ch.length cc) := cell_of_row _ _ 2 _ _ _ HGO.out
              have r0' : wr.cell? ⟨w.heap.size + 1 + 1, 0, none⟩ = some (.string ⟨#[]⟩) := cell_of_row _ _ 0 _ _ _ HBY.out.res
              have r1' : wr.cell? ⟨w.heap.size + 1 + 1, 1, none⟩ = some (.int .i64 0) := cell_of_row _ _ 1 _ _ _ HBY.out.res
              have r2' : wr.cell? ⟨w.heap.size + 1 + 1, 2, none⟩ = some (.slice none 0 0) := cell_of_row _ _ 2 _ _ _ HBY.out.res
              have q0 := frozen_of_row _ _ 0 _ _ HBY.out.res
              have q1 := frozen_of_row _ _ 1 _ _ HBY.out.res
              have q2 := frozen_of_row _ _ 2 _ _ HBY.out.res
              have HR3 := Lib.hid (setThree wr (w.heap.size + 1 + 1) _ _ _ _ (.string p) (.int .i64 (r0 : Int)) (.slice ca ch.length cc) HBY.out.res)
              have HBF : Hid (Below w.heap.size w (((wr.setCell ⟨w.heap.size + 1 + 1, 0, none⟩ (.string p)).setCell ⟨w.heap.size + 1 + 1, 1, none⟩ (.int .i64 (r0 : Int))).setCell ⟨w.heap.size + 1 + 1, 2, none⟩ (.slice ca ch.length cc))) := Lib.hid (((HBY.out.bel.setCell (by simp; omega) _).setCell (by simp; omega) _).setCell (by simp; omega) _)
              go_wp2_with (at_lookup; refine wpList_look_F rfl _ _ 90 rfl 3 3 lawI Tryz.underlying90 (HZ.out _) w6.heap.size cnt4 f3 (by rfl) HM4.out _ (.int .i64 (i : Int)) rfl HKI.out ?_; rw [HFI.out])
              have hw2 : w.heap.size + 1 + 1 < W13.heap.size := by omega
              have hg3 := ((grownBy_setC wr (w.heap.size + 1 + 1) 0 (.string p)).trans (grownBy_setC _ (w.heap.size + 1 + 1) 1 (.int .i64 (r0 : Int)))).trans (grownBy_setC _ (w.heap.size + 1 + 1) 2 (.slice ca ch.length cc))
              have hsf := own_sels (own_far HOW4.out (fun b hb => hg3.block b (HOW4.out.lt b hb).2 (by intro e; injection e with e; have := (HOW4.out.lt b hb).1; omega)))
              have hfull : (descP (sucs X.length (relEs X)) (dT X t) m0 kk).map (fun i => keyL (X.getD i default)) = ch := by
                rw [← HCH.out]
                simp [descP]
              have HSF := Lib.hid hsf
              have HFU := Lib.hid hfull
              clear hg3 hsf hfull
              refine bodyPost_ret (results_cell_tmp rfl _ _ (w.heap.size + 1 + 1) _ _ _ _ rfl HR3.out Tryz.underlying29 rfl (by kernel_rfl)) rfl ?_
              refine ⟨HBF.out, .slice ca ch.length cc, by rw [HWV.out]; rfl, ?_, own_cap HOW4.out⟩
              rw [HWV.out]
              show SelsOf _ _ ((descP (sucs X.length (relEs X)) (dT X t) m0 kk).map fun i => keyL (X.getD i default)) _
              rw [HFU.out]
              exact HSF.out
            | succ m =>
              obtain ⟨ev, hev, hrow⟩ := HSE6.out i his2
              have HEV := Lib.hid (show fe (.int .i64 (i : Int)) = some ev from hev)
              have HRW := Lib.hid ((hrow.below HC.out.bel (Nat.le_refl _)).mono hsx)
              obtain ⟨eva, evc, rfl, _⟩ := rowOf_open hrow
              have hel : (edgN X i).length ≤ 16 := by
                unfold edgN
                rw [srtN_len]
                exact Nat.le_trans namesL_len (reqs_ok (HP.out.up hiX).1).len
              have hsub : ∀ j ∈ edgN X i, j ∈ s := fun j hj => by
                obtain ⟨q, hq, hn⟩ := edgN_mem.1 hj
                exact (HSR.out j).1 (.step ((HSR.out i).2 his2) hq hn)
              have hmb : (m : Int) + 1 ≤ X.length := by have h1 := dD_bound htx i; have h2 := HDS.out; push_cast at h2; omega
              have HFI5 : Hid (f3 (keyN i) = some (.int .i64 ((m : Int) + 1))) := Lib.hid (by have := HFI.out; push_cast at this; exact this)
              have hHV : ∀ j ∈ s, f3 (keyN j) = none ∨ ∃ d, f3 (keyN j) = some (.int .i64 d) := fun j hj => by
                have h := HFAR.out j hj
                by_cases h0 : 0 ≤ dD X t j
                · rw [if_pos h0] at h; exact .inr ⟨_, h⟩
                · rw [if_neg h0] at h; exact .inl h
              have hP : ∀ j ∈ edgN X i, farB f3 (m : Int) j = decide (dD X t j = (m : Int)) := fun j hj => by
                rw [Bool.eq_iff_iff, farB_iff, decide_eq_true_iff]
                have h := HFAR.out j (hsub j hj)
                by_cases h0 : 0 ≤ dD X t j
                · rw [if_pos h0] at h
                  rw [h]
                  constructor
                  · intro e; injection e with e; injection e with _ e
                  · intro e; rw [e]
                · rw [if_neg h0] at h
                  rw [h]
                  constructor
                  · intro e; cases e
                  · intro e; omega
              obtain ⟨n8, hn8, hfi8, hd8, hdp8⟩ := desc_step htx hiX (by have h2 := HDS.out; push_cast at h2; exact h2) hP
              have HIX := Lib.hid (idx_nat 59 #[.pointer (some ⟨gf, 0, none⟩), .pointer (some ⟨gi, 0, none⟩)] (enters_of Tryz.func59 (by kernel_rfl) rfl) (fun j => farB f3 (m : Int) j) _ (edgN X i) wr (by omega) HRW.out
                (fun W2 x hx hb => (why3_any gf gi w6.heap.size cnt4 f3 i m x W2 (HM4.out.below hb) (by have := ((HSR.out x).2 (hsub x hx)).lt.1; omega) (by omega) (cell_of_row _ _ 0 _ _ _ ((hb.block gf (Array.getElem?_eq_some_iff.1 HC.out.fx).1).trans HC.out.fx)) (cell_of_row _ _ 0 _ _ _ ((hb.block gi (Array.getElem?_eq_some_iff.1 HC.out.ix).1).trans HC.out.ix)) HFI5.out (by omega) (hHV x (hsub x hx))).mono fun e w' h => ⟨h.1, hb.trans (h.2.mono hb.size)⟩))
              have HDP8 := Lib.hid hdp8
              have HD8 := Lib.hid hd8
              have HFI8 := Lib.hid hfi8
              have HSUB := Lib.hid hsub
              have hpos : (0 : Int) < ((m + 1 : Nat) : Int) := by omega
              have HMEr := Lib.hid (HME.out.below HC.out.bel)
              clear hdp8 hd8 hfi8 hsub hP hHV hev hrow
              go_upto_region 38 with (at_lookup; refine wpList_look_F rfl _ _ 90 rfl 3 3 lawI Tryz.underlying90 (HZ.out _) w6.heap.size cnt4 f3 (by rfl) HM4.out _ (.int .i64 (i : Int)) rfl HKI.out ?_; rw [HFI.out])
              go_wp2_with (at_lookup; refine wpList_look_F rfl _ _ 88 rfl 3 79 lawI Tryz.underlying88 (Tryz.zeroValue79 _) me s.length fe (by rfl) HMEr.out _ (.int .i64 (i : Int)) rfl HKI.out ?_; rw [HEV.out])
              refine HIX.out.mono ?_
              rintro e w20 ⟨rfl, hb20⟩
              rw [HFI8.out]
              have HB20 := Lib.hid (HC.out.bel.trans (hb20.mono hsx))
              have HI20 := Lib.hid ((hb20.block gi (Array.getElem?_eq_some_iff.1 HC.out.ix).1).trans HC.out.ix)
              have HME20 := Lib.hid (HME.out.below HB20.out)
              obtain ⟨eva2, evc2, eev, heat⟩ := rowOf_open (HRW.out.below hb20 (Nat.le_refl _))
              injection eev with e1 e2 e3
              subst e1
              subst e3
              obtain ⟨eb, eo, rfl, heb, hec⟩ := heat n8 (edgN X i)[n8] (by simp [hn8])
              have hmem8 := List.getElem_mem hn8
              generalize (edgN X i)[n8] = j8 at *
              have HMEM8 := Lib.hid (HSUB.out j8 hmem8)
              have HRWK := Lib.hid hb20
              have i0 : w20.cell? ⟨gi, 0, none⟩ = some (.int .i64 (i : Int)) := cell_of_row _ _ 0 _ _ _ HI20.out
              have qi := frozen_of_row _ gi 0 _ _ HI20.out
              have hn1 : (0 : Int) ≤ (n8 : Int) := by omega
              have hn2 : (n8 : Int) < ((edgN X i).length : Int) := by omega
              clear hb20 heat e2 HMEr HIX hmem8 f0
              go_upto_region 40 with (at_lookup; refine wpList_look_F rfl _ _ 88 rfl 3 79 lawI Tryz.underlying88 (Tryz.zeroValue79 _) me s.length fe (by rfl) HME20.out _ (.int .i64 (i : Int)) rfl HKI.out ?_; rw [HEV.out])
              have hw6go : w6.heap.size ≤ go := hs11
              have hgogi : go < gi := Nat.lt_of_lt_of_le hs12 hg12
              have hgi13' : gi < W13.heap.size := hgi13
              have hset := grownBy_setC w20 gi 0 (.int .i64 (j8 : Int))
              have HSET := Lib.hid hset
              have hgi20 : gi < w20.heap.size := (Array.getElem?_eq_some_iff.1 HI20.out).1
              have hgo20 : go < wr.heap.size := (Array.getElem?_eq_some_iff.1 HGO.out).1
              have hgfr : gf < wr.heap.size := (Array.getElem?_eq_some_iff.1 HC.out.fx).1
              have HGO21 := Lib.hid ((HSET.out.block go (Nat.lt_trans hgogi hgi20) (some_ne (Nat.ne_of_lt hgogi))).trans ((HRWK.out.block go hgo20).trans HGO.out))
              have HF21 := Lib.hid ((HSET.out.block gf (Nat.lt_of_lt_of_le hgfr HRWK.out.size) (some_ne (Nat.ne_of_lt (Nat.lt_trans hgf11 hgogi)))).trans ((HRWK.out.block gf hgfr).trans HC.out.fx))
              have HI21 := Lib.hid (heap_setCell_same w20 gi 0 _ _ (.int .i64 (j8 : Int)) HI20.out)
              have HM21 := Lib.hid ((HM4.out.below HRWK.out).kept HSET.out (some_ne (Nat.ne_of_lt (Nat.lt_of_le_of_lt hw6go hgogi))))
              have HB21 := Lib.hid (HB20.out.grown HSET.out HB20.out.size (fun b hb => by cases hb; exact Nat.le_trans hw6go (Nat.le_of_lt hgogi)))
              have HOW20 := Lib.hid (own_far HOW4.out (fun b hb => HRWK.out.block b (HOW4.out.lt b hb).2))
              have HOW21 := Lib.hid (own_far HOW20.out (fun b hb => HSET.out.block b (HOW20.out.lt b hb).2 (some_ne (Nat.ne_of_gt (Nat.lt_of_lt_of_le hgi13 (HOW20.out.lt b hb).1)))))
              have hj8X : j8 < X.length := ((HSR.out j8).2 HMEM8.out).lt.1
              have hm0b : m0 ≤ X.length := Int.ofNat_le.1 (hm0 ▸ dD_bound htx kk)
              have hcl : ch.length ≤ X.length + 1 := chain_le HCH.out (desc_len (sucs X.length (relEs X)) (dT X t) m0 kk) hm0b
              have hB21 : W13.heap.size ≤ (w20.setCell ⟨gi, 0, none⟩ (.int .i64 (j8 : Int))).heap.size := Nat.le_trans (Nat.le_trans HC.out.sz HRWK.out.size) HSET.out.size
              have HBXi : Hid (boxN (.pointer (some ⟨gi, 0, none⟩)) wr = i) := Lib.hid (by
                have := cell_of_row _ gi 0 _ _ _ HC.out.ix
                unfold boxN
                simp only
                rw [this]
                simp)
              clear hset HSET HRWK HOW20 HC HM4 HGO HOW4 HRW HI20 HME20 HB20 hgo20 hgfr qi i0 HBY
              generalize w20.setCell ⟨gi, 0, none⟩ (.int .i64 (j8 : Int)) = W21 at *
              obtain ⟨rb2, roff2, rra2, rrc2, era2, hrb2, hcs2, _⟩ := (HW6.out.below HB21.out).rel hj8X
              cases era2
              have hs21 := HB21.out.size
              have hgw21 : gw < W21.heap.size := Nat.lt_of_lt_of_le hgw6 hs21
              have hg21 : g < W21.heap.size := (HW6.out.below HB21.out).lt
              have hgi21 : gi < W21.heap.size := (Array.getElem?_eq_some_iff.1 HI21.out).1
              have hgo21 : go < W21.heap.size := (Array.getElem?_eq_some_iff.1 HGO21.out).1
              have HS0 : Hid (HeldY gw g gi rb (roff + j8 * 9) j8 (.slice (some ⟨rb, roff, none⟩) X.length c) (X.getD j8 default) (.slice rra2 (X.getD j8 default).reqs.length rrc2) W21 ∧ W21.cell? ⟨go, 2, none⟩ = some (.slice ca ch.length cc)) := Lib.hid ⟨⟨cell_of_row _ _ 0 _ _ _ ((HB21.out.block gw hgw6).trans HX6.out), (HW6.out.below HB21.out).c0, cell_of_row _ _ 0 _ _ _ HI21.out, hcs2⟩, cell_of_row _ _ 2 _ _ _ HGO21.out⟩
              have HSL := Lib.hid (fun W => mselected_any (X.getD j8 default) (.slice rra2 (X.getD j8 default).reqs.length rrc2) W)
              clear hcs2
              generalize hxk : X.getD j8 default = x at *
              have HXK := Lib.hid hxk
              clear hxk
              simp only [relC] at HSL
              have hk1 : (0 : Int) ≤ (j8 : Int) := Int.natCast_nonneg j8
              have hk4 : (j8 : Int) < (X.length : Int) := Int.ofNat_lt.2 hj8X
              have HSB : Hid (∀ W', Below W21.heap.size W21 W' → HeldY gw g gi rb (roff + j8 * 9) j8 (.slice (some ⟨rb, roff, none⟩) X.length c) x (.slice rra2 x.reqs.length rrc2) W' ∧ W'.cell? ⟨go, 2, none⟩ = some (.slice ca ch.length cc)) := Lib.hid (fun W' hb => ⟨HS0.out.1.below hgw21 hg21 hgi21 hrb2 hb, (hb.cell (p := ⟨go, 2, none⟩) hgo21).trans HS0.out.2⟩)
              refine wp_region_noPanic ?_
              refine region_plain_split (S := fun W => HeldY gw g gi rb (roff + j8 * 9) j8 (.slice (some ⟨rb, roff, none⟩) X.length c) x (.slice rra2 x.reqs.length rrc2) W ∧ W.cell? ⟨go, 2, none⟩ = some (.slice ca ch.length cc)) 12 (by kernel_rfl) (by kernel_rfl) ?_
              simp only [List.take_succ_cons, List.take_zero]
              have hS0 := HSB.out _ (Below.refl W21.heap.size W21).drew
              (refine zl3 0 ?_ rfl ?_ ?_; rotate_left; (· (rintro w ⟨⟨c0, c1, c2, d0, d1, d2, d3, d4, d5, d6, d7, d8⟩, o2⟩; go_simp; try with_reducible rfl)); (try simp only [zl1]))
              (refine zl3 1 ?_ rfl ?_ ?_; rotate_left; (· (rintro w ⟨⟨c0, c1, c2, d0, d1, d2, d3, d4, d5, d6, d7, d8⟩, o2⟩; go_simp; try with_reducible rfl)); (try simp only [zl1]))
              (refine zl3 2 ?_ rfl ?_ ?_; rotate_left; (· (rintro w ⟨⟨c0, c1, c2, d0, d1, d2, d3, d4, d5, d6, d7, d8⟩, o2⟩; go_simp; try with_reducible rfl)); (try simp only [zl1]))
              (refine zl3 3 ?_ rfl ?_ ?_; rotate_left; (· (rintro w ⟨⟨c0, c1, c2, d0, d1, d2, d3, d4, d5, d6, d7, d8⟩, o2⟩; go_simp; try with_reducible rfl)); (try simp only [zl1]))
              (refine zl3 4 ?_ rfl ?_ ?_; rotate_left; (· (rintro w ⟨⟨c0, c1, c2, d0, d1, d2, d3, d4, d5, d6, d7, d8⟩, o2⟩; go_simp; try with_reducible rfl)); (try simp only [zl1]))
              (refine zl3 5 ?_ rfl ?_ ?_; rotate_left; (· (rintro w ⟨⟨c0, c1, c2, d0, d1, d2, d3, d4, d5, d6, d7, d8⟩, o2⟩; go_simp; try with_reducible rfl)); (try simp only [zl1]))
              (refine zl3 6 ?_ rfl ?_ ?_; rotate_left; (· (rintro w ⟨⟨c0, c1, c2, d0, d1, d2, d3, d4, d5, d6, d7, d8⟩, o2⟩; go_simp; try with_reducible rfl)); (try simp only [zl1]))
              (refine zl3 7 ?_ rfl ?_ ?_; rotate_left; (· (rintro w ⟨⟨c0, c1, c2, d0, d1, d2, d3, d4, d5, d6, d7, d8⟩, o2⟩; go_simp; try with_reducible rfl)); (try simp only [zl1]))
              (refine zl3 8 ?_ rfl ?_ ?_; rotate_left; (· (rintro w ⟨⟨c0, c1, c2, d0, d1, d2, d3, d4, d5, d6, d7, d8⟩, o2⟩; go_simp; try with_reducible rfl)); (try simp only [zl1]))
              refine wpAnyH_ready (rs := [9]) (by kernel_rfl) (by simp) (AllReadyH.cons rfl (fun K hK => ?_) AllReadyH.nil)
              go_simp
              refine (HSL.out _).mono ?_
              rintro e w24 ⟨rfl, hb24⟩
              have HB24 := Lib.hid ((Below.refl W21.heap.size W21).drew.trans hb24)
              refine hK.out _ _ (HSB.out _ HB24.out) (fun _ => ?_)
              clear hK K hS0 hb24
              (try simp only [zl1])
              have HBS : Hid (Below W21.heap.size W21 (w24.alloc (.cells #[.string x.path, intC x.ver.1, intC x.ver.2.1, intC x.ver.2.2] 43))) := Lib.hid (HB24.out.alloc HB24.out.size _)
              have HN25 : Hid ((w24.alloc (.cells #[.string x.path, intC x.ver.1, intC x.ver.2.1, intC x.ver.2.2] 43)).heap[w24.heap.size]? = some (.cells #[.string x.path, intC x.ver.1, intC x.ver.2.1, intC x.ver.2.2] 43)) := Lib.hid (heap_alloc_new w24 _)
              refine wpAnyH_ready (rs := [10]) (by kernel_rfl) (by simp) (AllReadyH.cons rfl (fun K hK => ?_) AllReadyH.nil)
              go_simp
              refine hK.out _ _ (HSB.out _ HBS.out) (fun _ => ?_)
              clear hK K
              (try simp only [zl1])
              have HOW25 := Lib.hid (own_far HOW21.out (fun b hb => HBS.out.block b (HOW21.out.lt b hb).2))
              have HGO25 := Lib.hid ((HBS.out.block go hgo21).trans HGO21.out)
              have HI25 := Lib.hid ((HBS.out.block gi hgi21).trans HI21.out)
              have HM25 := Lib.hid (HM21.out.below HBS.out)
              have HF25 := Lib.hid ((HBS.out.block gf (by have := (Array.getElem?_eq_some_iff.1 HF21.out).1; exact this)).trans HF21.out)
              have HB25 := Lib.hid (HB21.out.trans (HBS.out.mono hs21))
              have hz24 : W21.heap.size ≤ w24.heap.size := HB24.out.size
              have HZ24 := Lib.hid hz24
              have hz25 : (w24.alloc (.cells #[.string x.path, intC x.ver.1, intC x.ver.2.1, intC x.ver.2.2] 43)).heap.size = w24.heap.size + 1 := by simp
              have HZ25 := Lib.hid hz25
              clear hz25
              obtain ⟨si0, hsi0, hsz0, hsz1, hsz2⟩ := info_parts info_sel
              generalize hW25 : w24.alloc (.cells #[.string x.path, intC x.ver.1, intC x.ver.2.1, intC x.ver.2.2] 43) = W25 at *
              clear hW25
              have hmfB : w6.heap.size < W13.heap.size := Nat.lt_trans (Nat.lt_of_le_of_lt hw6go hgogi) hgi13
              have hgfB : gf < W13.heap.size := hgf13
              have hgoB : go < W13.heap.size := hgo13
              have hl25 : W13.heap.size ≤ W25.heap.size := by
                have h1 := HZ25.out
                rw [h1]
                exact Nat.le_trans (Nat.le_trans hB21 hz24) (Nat.le_succ _)
              refine wpAnyH_ready (rs := [11]) (by kernel_rfl) (by simp) (AllReadyH.cons rfl (fun K hK => ?_) AllReadyH.nil)
              refine oper_of_list (ops := #[]) rfl ?_
              refine wpList_append_own _ rfl _ _ 27 rfl W13.heap.size 43 si0 _ 4 40 Tryz.underlying27 hsi0 hsz0 hsz1 hsz2 rfl (by decide) (.slice ca ch.length cc) _ _ (by rfl) HOW25.out ⟨w24.heap.size, 0, none⟩ 1 1 [.string x.path, intC x.ver.1, intC x.ver.2.1, intC x.ver.2.2] (by rfl) (by rfl) (World.news_of_block HN25.out) (by simp [Value.oneCell']) (app1 hcl hX) (app2 hcl hX) hl25 ?_
              intro v' wB hown' hgrow _
              have HOW := Lib.hid hown'
              have HGR := Lib.hid hgrow
              clear hown' hgrow
              obtain ⟨g3, gc3, rfl⟩ := ownsRow_succ HOW.out
              have hlow : ∀ b, ch.length = ch.length → (Value.slice ca ch.length cc).ownBlock = some b → W13.heap.size ≤ b := fun b _ hb => (HOW25.out.lt b hb).1
              have HLOW := Lib.hid hlow
              clear hlow
              have HBK : Hid (∀ b, b < W13.heap.size → b < W25.heap.size → wB.heap[b]? = W25.heap[b]?) := Lib.hid (fun b h1 h2 => HGR.out.block b h2 (fun e => absurd (HLOW.out b rfl e.symm) (Nat.not_le_of_lt h1)))
              have HCF : Hid (∀ b o, b < W13.heap.size → wB.cell? ⟨b, o, none⟩ = W25.cell? ⟨b, o, none⟩) := Lib.hid (fun b o h1 => HGR.out.cell_far ⟨b, o, none⟩ (Nat.lt_of_lt_of_le h1 hl25) (fun e => absurd (HLOW.out b rfl e.symm) (Nat.not_le_of_lt h1)))
              have hS25 := HSB.out _ HBS.out
              refine wpList_nil ?_
              show K _ _
              refine hK.out _ _ ⟨⟨(HCF.out gw 0 hgw13).trans hS25.1.1, (HCF.out g 0 hg13).trans hS25.1.2.1, (HCF.out gi 0 hgi13).trans hS25.1.2.2.1, cells_as (fun o => HCF.out rb o hrb) hS25.1.2.2.2⟩, (HCF.out go 2 hgoB).trans hS25.2⟩ (fun _ => ?_)
              clear hK K hS25
              (try simp only [zl1])
              refine wpAnyH_done (by kernel_rfl) ?_ _
              show wpList _ _ _ _ _ _
              simp only [List.drop_succ_cons, List.drop_zero]
              have HGOB := Lib.hid ((HBK.out go hgoB (Nat.lt_of_lt_of_le hgoB hl25)).trans HGO25.out)
              have HIB := Lib.hid ((HBK.out gi hgi13 (Nat.lt_of_lt_of_le hgi13 hl25)).trans HI25.out)
              have HFB := Lib.hid ((HBK.out gf hgfB (Nat.lt_of_lt_of_le hgfB hl25)).trans HF25.out)
              have HMB := Lib.hid (HM25.out.kept HGR.out (fun e => absurd (HLOW.out _ rfl e.symm) (Nat.not_le_of_lt hmfB)))
              have HBB := Lib.hid (HB25.out.grown HGR.out HB25.out.size (fun b hb => Nat.le_trans (Nat.le_of_lt hmfB) (HLOW.out b rfl hb)))
              have hset2 := grownBy_setC wB go 2 (.slice (some ⟨g3, 0, none⟩) (ch.length + 1) gc3)
              have HCE : Hid (WhyC X t s p r0 w6.heap.size gf gi go W13.heap.size f3 ((descP (sucs X.length (relEs X)) (dT X t) m0 kk).map fun i => keyL (X.getD i default)) w6 (wB.setCell ⟨go, 2, none⟩ (.slice (some ⟨g3, 0, none⟩) (ch.length + 1) gc3)) j8 m) := Lib.hid (by
                refine ⟨HBB.out.grown hset2 HBB.out.size (fun b hb => by cases hb; exact hw6go), (hset2.block gf (Array.getElem?_eq_some_iff.1 HFB.out).1 (by intro e; injection e with e; exact hgfgo e)).trans HFB.out, ⟨_, HMB.out.kept hset2 (some_ne (Nat.ne_of_lt (Nat.lt_trans hmf hgf11)))⟩, (hset2.block gi (Array.getElem?_eq_some_iff.1 HIB.out).1 (by intro e; injection e with e; exact hgigo e)).trans HIB.out, ⟨(.slice (some ⟨g3, 0, none⟩) (ch.length + 1) gc3), ch ++ [keyL x], heap_setCell_same wB go 2 _ _ _ HGOB.out, ?_, ?_⟩, HMEM8.out, HD8.out, ?_⟩
                · have h9 := own_far HOW.out (fun b hb => hset2.block b (HOW.out.lt b hb).2 (some_ne (Nat.ne_of_gt (Nat.lt_of_lt_of_le hgoB (HOW.out.lt b hb).1))))
                  rw [selCells_snoc, List.length_append]
                  exact h9
                · have h8 := HDP8.out
                  have h7 := HCH.out
                  rw [h8, List.tail_cons, descP_head, List.map_cons, HXK.out] at h7
                  rw [List.append_assoc]
                  exact h7
                · have h6 : W13.heap.size ≤ wB.heap.size := Nat.le_trans hl25 HGR.out.size
                  exact Nat.le_trans h6 hset2.size)
              have o2 := cell_of_row _ go 2 _ _ _ HGOB.out
              have q2 := frozen_of_row _ go 2 _ _ HGOB.out
              clear HBS HB24 HSL HN25 HOW HGR HLOW HBK HCF HOW25 HGO25 HI25 HM25 HF25 HB25 HS0 HSB HGO21 HI21 HM21 HF21 HB21 HOW21
              go_wp2_with fail
              refine NoPanic.normal ?_
              clear o2 q2 HGOB HIB HFB HMB HBB hset2
              generalize wB.setCell ⟨go, 2, none⟩ (.slice (some ⟨g3, 0, none⟩) (ch.length + 1) gc3) = W27 at *
              go_wp2_with fail
              refine ⟨Lib.hid ⟨j8, m, HCE.out⟩, ?_⟩
              have hb1 : boxN (.pointer (some ⟨gi, 0, none⟩)) W27 = j8 := by
                have := cell_of_row _ gi 0 _ _ _ HCE.out.ix
                unfold boxN
                simp only
                rw [this]
                simp
              rw [hb1, HBXi.out, HCE.out.dist, HDS.out]
              simp
        case pos =>
          have hlt : k3 < N.length := by have := HNL.out; omega
          obtain ⟨fa2, fc2, efa, hfat⟩ := rowOf_open HR12.out
          injection efa with e1 e2 e3
          subst e1
          subst e3
          obtain ⟨fb, fo, rfl, hfb, hfc⟩ := hfat k3 N[k3] (by simp [hlt])
          have d0 := (HG.out.cell_far ⟨fb, fo + k3, none⟩ (show fb < W12.heap.size from Nat.lt_trans hfb hs12) (fun e => absurd (Option.some.inj e) (Nat.ne_of_lt hfb))).trans hfc
          have HDK := Lib.hid (HDS.out k3 hlt)
          have his := HNS.out N[k3] (List.getElem_mem hlt)
          clear e2 hfat hfc hfb
          generalize N[k3] = i at *
          have hiX : i < X.length := ((HSR.out i).2 his).lt.1
          have HMK := Lib.hid (HM12.out.kept HG.out (by intro e; injection e with e; omega))
          have hg12 : W12.heap.size ≤ wr.heap.size := HG.out.size
          have HFK := Lib.hid ((HG.out.block gf (Nat.lt_trans hgf11 hs12) (fun e => absurd (Option.some.inj e) (Nat.ne_of_lt hgf11))).trans HF12.out)
          have f0 : wr.cell? ⟨gf, 0, none⟩ = some (.map (some w6.heap.size)) := cell_of_row _ _ 0 _ _ _ HFK.out
          have o1 : wr.cell? ⟨go, 1, none⟩ = some (.int .i64 root) := cell_of_row _ _ 1 _ _ _ HOB.out
          have q1 := frozen_of_row _ _ 1 _ _ HOB.out
          have HKI := Lib.hid (keyI (a := (i : Int)) (by omega) (by omega))
          have hztd : ∀ W, (zeroValue 3).run Tryz.prog W = .ok (.int .i64 0) W := Tryz.zeroValue3
          have HZ := Lib.hid hztd
          have HFI := Lib.hid (HFAR.out i his)
          have hdb := dD_bound htx i
          clear hztd
          generalize dD X t i = d at *
          by_cases hd0 : 0 ≤ d
          case neg =>
            rw [if_neg hd0] at HFI
            have HFI2 := Lib.hid (show f3 (.int .i64 (i : Int)) = none from HFI.out)
            go_wp2_with (at_lookup; refine wpList_look_ok_F rfl _ _ 90 rfl 3 3 lawI Tryz.underlying90 (HZ.out _) w6.heap.size cnt3 f3 (by rfl) HMK.out _ (.int .i64 (i : Int)) rfl HKI.out ?_; rw [HFI2.out])
            go_roundw
            case rel => exact ⟨k3 + 1, best, by omega, by go_num, rfl, Lib.hid ⟨root, HBE.out.skip (by rw [HDK.out]; omega), HOB.out⟩, HG⟩
            case measure => simp [intOf]; omega
          case pos =>
            rw [if_pos hd0] at HFI
            have HFI2 := Lib.hid (show f3 (.int .i64 (i : Int)) = some (.int .i64 d) from HFI.out)
            by_cases hc : root < 0 ∨ d < best
            · have HPB := Lib.hid (HBE.out.put (by rw [HDK.out]; exact hd0) (by rw [HDK.out]; exact hc))
              have HOS := Lib.hid (heap_setCell_same wr go 1 _ _ (.int .i64 (k3 : Int)) HOB.out)
              have HGS := Lib.hid (HG.out.trans (grownBy_setC wr go 1 (.int .i64 (k3 : Int))))
              rw [HDK.out] at HPB
              by_cases hr : root < 0
              · have hr1 : decide (root < 0) = true := decide_eq_true hr
                clear hc
                go_wp2_with (at_lookup; refine wpList_look_ok_F rfl _ _ 90 rfl 3 3 lawI Tryz.underlying90 (HZ.out _) w6.heap.size cnt3 f3 (by rfl) HMK.out _ (.int .i64 (i : Int)) rfl HKI.out ?_; rw [HFI2.out])
                go_roundw
                case rel => exact ⟨k3 + 1, d, by omega, by go_num, rfl, Lib.hid ⟨_, HPB.out, HOS.out⟩, HGS⟩
                case measure => simp [intOf]; omega
              · have hr1 : decide (root < 0) = false := decide_eq_false hr
                have hd2 : d < best := hc.resolve_left hr
                have hd3 : decide (d < best) = true := decide_eq_true hd2
                clear hc
                go_wp2_with (at_lookup; refine wpList_look_ok_F rfl _ _ 90 rfl 3 3 lawI Tryz.underlying90 (HZ.out _) w6.heap.size cnt3 f3 (by rfl) HMK.out _ (.int .i64 (i : Int)) rfl HKI.out ?_; rw [HFI2.out])
                go_roundw
                case rel => exact ⟨k3 + 1, d, by omega, by go_num, rfl, Lib.hid ⟨_, HPB.out, HOS.out⟩, HGS⟩
                case measure => simp [intOf]; omega
            · have hr0 : ¬ root < 0 := fun h => hc (.inl h)
              have hdb2 : ¬ d < best := fun h => hc (.inr h)
              have hr1 : decide (root < 0) = false := decide_eq_false hr0
              have hdb3 : decide (d < best) = false := decide_eq_false hdb2
              clear hc
              go_wp2_with (at_lookup; refine wpList_look_ok_F rfl _ _ 90 rfl 3 3 lawI Tryz.underlying90 (HZ.out _) w6.heap.size cnt3 f3 (by rfl) HMK.out _ (.int .i64 (i : Int)) rfl HKI.out ?_; rw [HFI2.out])
              go_roundw
              case rel => exact ⟨k3 + 1, best, by omega, by go_num, rfl, Lib.hid ⟨root, HBE.out.keep (by omega) (by rw [HDK.out]; exact hdb2), HOB.out⟩, HG⟩
              case measure => simp [intOf]; omega
    | true =>
      have hnX : nn ≤ X.length := by
        by_cases h : 0 < nn
        · obtain ⟨i, _, hi⟩ := HO.out.go rfl h
          have := dD_bound htx i
          omega
        · omega
      obtain ⟨cnt0, f3, hm0, hfa0, hcnt0⟩ := HO.out.far
      have HM0 := Lib.hid hm0
      have HFA0 := Lib.hid hfa0
      have hs6 := HO.out.bel.size
      have HMEr := Lib.hid (HME.out.below HO.out.bel)
      clear hm0 hfa0
      go_wp2_with (at_range; refine wpList_range_F rfl _ 88 rfl 79 lawI Tryz.underlying88 (by rfl) HMEr.out ?_; intro w0 cntR hrg0 hg0 hs0; have HG0 := Lib.hid hg0; have HR0 := Lib.hid hrg0; have HS0 := Lib.hid hs0; clear hg0 hrg0 hs0)
      go_frame
      have HP0 : Hid (WhyP X t s w6.heap.size gf gn me wr.heap.size fe w6 w0 nn []) := Lib.hid ⟨HO.out.bel.grown HG0.out hs6 (fun b hb => by cases hb), (HG0.out.block gf (by omega) (by simp)).trans HO.out.fx, (HG0.out.block gn hgnl (by simp)).trans HN.out, ⟨cnt0, f3, HM0.out.kept HG0.out (by simp), by simpa using HFA0.out, by simpa using hcnt0⟩,
        ⟨_, cntR, HR0.out, fun i hi => by
          obtain ⟨v, h1, _⟩ := HSE6.out i hi
          show (fe (keyN i)).isSome = _
          rw [h1]; simp⟩, List.nodup_nil, fun i hi => by cases hi⟩
      have hri : wr.heap.size < w0.heap.size := HR0.out.lt
      have hri6 : w6.heap.size ≤ wr.heap.size := hs6
      have hmri : w6.heap.size < wr.heap.size := HM0.out.lt
      have hgri : gn < wr.heap.size := hgnl
      clear HG0 HS0 HMEr HM0 HFA0 hcnt0 HN
      generalize wr.heap.size = ri at *
      go_loopw [16] (fun b16 wx => ∃ l : List Nat, b16 = .bool (l.any fun i => decide (dD X t i = (nn : Int) + 1)) ∧ Hid (WhyP X t s w6.heap.size gf gn me ri fe w6 wx nn l)) (fun _ wx => wx.rangeLeft me ri)
      case atStart => exact ⟨[], rfl, HP0⟩
      case round =>
        obtain ⟨l, rfl, HPP⟩ := hrel
        clear HP0 HR0
        obtain ⟨left, cnt, hrg, hleft⟩ := HPP.out.rng
        obtain ⟨cnt3, f4, hm4, hfa4, hc4⟩ := HPP.out.far
        have HRG := Lib.hid hrg
        have HLF := Lib.hid hleft
        have HM4 := Lib.hid hm4
        have HFA4 := Lib.hid hfa4
        have hll4 : l.length ≤ s.length := sub_length HPP.out.nod HPP.out.sub
        have hsx := HPP.out.bel.size
        have hcn : cnt3 ≤ 1000002000001 := by
          have h1 : nn * X.length ≤ 1000000 * 1000000 := Nat.mul_le_mul (by omega) hX
          omega
        clear hrg hleft hm4 hfa4
        obtain ⟨cb, hcb⟩ : ∃ cb, (l.any fun i => decide (dD X t i = (nn : Int) + 1)) = cb := ⟨_, rfl⟩
        have HCB := Lib.hid hcb
        rw [hcb]
        clear hcb
        go_wp2_with (at_next; refine wpList_next_F rfl _ rfl lawI (fun x : Int => Value.int .i64 x) (fun key kl hk => by obtain ⟨x, e, _⟩ := Maps.keyOf_int_inv Tryz.underlying3 hk; exact ⟨x, e⟩) (by rfl) HRG.out ?_ ?_)
        rotate_left
        · intro x v kl w7 cnt7 hkey hlk hf hrg7 hlt7 hg7 hs7 hen
          obtain ⟨x2, ex, rfl, _⟩ := Maps.keyOf_int_inv Tryz.underlying3 hkey
          cases ex
          obtain ⟨i, his, hix⟩ : ∃ i ∈ s, keyN i = .int .i64 x := by
            by_cases h : ∃ i ∈ s, keyN i = .int .i64 x
            · exact h
            · exfalso
              have := HSO.out (.int .i64 x) (fun i hi e => h ⟨i, hi, e⟩)
              rw [hf] at this
              cases this
          obtain rfl : x = (i : Int) := by unfold keyN at hix; injection hix with _ hix; exact hix.symm
          obtain ⟨v2, hv2, hrow⟩ := HSE6.out i his
          obtain rfl : v = v2 := by
            have h1 : fe (keyN i) = some v := hf
            rw [hv2] at h1
            exact (Option.some.inj h1).symm
          have hnl : i ∉ l := fun h => by
            have h1 := HLF.out i his
            have h2 : left (keyN i) = true := hlk
            rw [h2, decide_eq_true h] at h1
            cases h1
          have HNL := Lib.hid hnl
          have hiX : i < X.length := ((HSR.out i).2 his).lt.1
          have HHI := Lib.hid his
          have HB7 := Lib.hid (HPP.out.bel.grown hg7 hsx (fun b hb => by cases hb; exact hri6))
          have HF7 := Lib.hid ((hg7.block gf (by have := (Array.getElem?_eq_some_iff.1 HPP.out.fx).1; exact this) (by intro e; injection e with e; omega)).trans HPP.out.fx)
          have HN7 := Lib.hid ((hg7.block gn (by have := (Array.getElem?_eq_some_iff.1 HPP.out.nx).1; exact this) (by intro e; injection e with e; omega)).trans HPP.out.nx)
          have HM7 := Lib.hid (HM4.out.kept hg7 (by intro e; injection e with e; omega))
          have HR7 := Lib.hid hrg7
          have HLT := Lib.hid hlt7
          have HLE := Lib.hid hrg7.left_eq
          have HLW := Lib.hid HRG.out.left_eq
          have HL7 := Lib.hid (left_snoc (i := i) HLF.out)
          have HNO := Lib.hid HPP.out.nod
          have HSB := Lib.hid HPP.out.sub
          have hs7b := HB7.out.size
          have hsub : ∀ j ∈ edgN X i, j ∈ s := fun j hj => by
            obtain ⟨q, hq, hn⟩ := edgN_mem.1 hj
            exact (HSR.out j).1 (.step ((HSR.out i).2 his) hq hn)
          have HSUB := Lib.hid hsub
          have HRW := Lib.hid ((hrow.below HB7.out (Nat.le_refl _)).mono hs7b)
          obtain ⟨va7, vc7, rfl, _⟩ := rowOf_open hrow
          have hel : (edgN X i).length ≤ 16 := by
            unfold edgN
            rw [srtN_len]
            exact Nat.le_trans namesL_len (reqs_ok (HP.out.up hiX).1).len
          have f0 : w7.cell? ⟨gf, 0, none⟩ = some (.map (some w6.heap.size)) := cell_of_row _ _ 0 _ _ _ HF7.out
          have HKI := Lib.hid (keyI (a := (i : Int)) (by omega) (by omega))
          have hztd : ∀ W, (zeroValue 3).run Tryz.prog W = .ok (.int .i64 0) W := Tryz.zeroValue3
          have HZ := Lib.hid hztd
          have hHV : ∀ j ∈ s, f4 (keyN j) = none ∨ ∃ d, f4 (keyN j) = some (.int .i64 d) := fun j hj => by
            by_cases hc : (0 ≤ dD X t j ∧ dD X t j ≤ nn) ∨ (dD X t j = (nn : Int) + 1 ∧ (fun i => decide (i ∈ l)) j = true)
            · exact .inr ⟨_, HFA4.out.yes j hj hc⟩
            · exact .inl (HFA4.out.no j hj hc)
          have HHV := Lib.hid hHV
          have HFIN : Hid (∀ W' cnt f5 b, Below w6.heap.size w6 W' → W'.heap[gf]? = some (.cells #[.map (some w6.heap.size)] 90 (0, 0)) → W'.heap[gn]? = some (.cells #[.int .i64 (nn : Int)] 3 (0, 0)) → MapF Tryz.prog 3 W' w6.heap.size cnt f5 → cnt ≤ 1 + nn * X.length + (l.length + 1) → FarAt X t nn s (fun j => decide (j ∈ l) || decide (j = i)) f5 →
              RangesF Tryz.prog 3 W' me ri s.length fe (fun z => left z && !z.sameKey (.int .i64 (i : Int))) cnt7 → b = decide (dD X t i = (nn : Int) + 1) → (cb || b) = ((l ++ [i]).any fun i => decide (dD X t i = (nn : Int) + 1)) ∧ WhyP X t s w6.heap.size gf gn me ri fe w6 W' nn (l ++ [i])) :=
            Lib.hid (fun W' cnt f5 b h1 h2 h3 h4 h5 h6 h7 h8 => ⟨by rw [any_snoc, HCB.out, h8], h1, h2, h3, ⟨cnt, f5, h4, by rw [← done_snoc]; exact h6, by rw [List.length_append]; exact h5⟩, ⟨_, cnt7, h7, HL7.out⟩, List.nodup_append.2 ⟨HNO.out, by simp, fun a ha b hb => by simp at hb; subst hb; exact fun e => HNL.out (e ▸ ha)⟩, fun j hj => (List.mem_append.1 hj).elim (HSB.out j) (fun h => by rw [List.mem_singleton] at h; rw [h]; exact HHI.out)⟩)
          clear hkey hlk hf hrg7 hlt7 hg7 hs7 hix hv2 hrow hnl hsub hztd hHV HRG HLF HM4 HPP HNO HSB HL7
          cases hfi : f4 (keyN i) with
          | some dv =>
            have hdn : dD X t i ≠ (nn : Int) + 1 := fun e => by
              have := HFA4.out.no i his (by rintro (h | ⟨_, h⟩); · omega
                                            · exact HNL.out (of_decide_eq_true h))
              rw [hfi] at this
              cases this
            have HSK := Lib.hid (HFA4.out.skip hdn)
            have HDN := Lib.hid (decide_eq_false hdn)
            have HFI := Lib.hid (show f4 (.int .i64 (i : Int)) = some dv from hfi)
            obtain ⟨d2, hd2⟩ : ∃ d, dv = .int .i64 d := by
              rcases HHV.out i his with h | ⟨d, h⟩
              · rw [hfi] at h; cases h
              · rw [hfi] at h; exact ⟨d, Option.some.inj h⟩
            subst hd2
            clear hfi hdn
            go_wp2_with (at_lookup; refine wpList_look_ok_F rfl _ _ 90 rfl 3 3 lawI Tryz.underlying90 (HZ.out _) w6.heap.size cnt3 f4 (by rfl) HM7.out _ (.int .i64 (i : Int)) rfl HKI.out ?_; rw [HFI.out])
            obtain ⟨hb1, hw1⟩ := HFIN.out w7 cnt3 f4 false HB7.out HF7.out HN7.out HM7.out (by omega) HSK.out HR7.out HDN.out.symm
            refine ⟨⟨l ++ [i], by rw [← hb1]; simp, Lib.hid hw1⟩, ?_⟩
            rw [HLE.out, HLW.out]
            exact HLT.out
          | none =>
            have HTS := Lib.hid (HFA4.out.test htx his hiX HSUB.out (show decide (i ∈ l) = false from decide_eq_false HNL.out) hfi)
            have HFI := Lib.hid (show f4 (.int .i64 (i : Int)) = none from hfi)
            have HHAS := Lib.hid (has_nat 56 #[.pointer (some ⟨gf, 0, none⟩), .pointer (some ⟨gn, 0, none⟩)] (enters_of Tryz.func56 (by kernel_rfl) rfl) (fun j => farB f4 (nn : Int) j) _ (edgN X i) w7 (by omega) HRW.out
              (fun W2 x hx hb => (why2_any gf gn w6.heap.size cnt3 f4 (nn : Int) x W2 (HM7.out.below hb) (by have := ((HSR.out x).2 (HSUB.out x hx)).lt.1; omega) (cell_of_row _ _ 0 _ _ _ ((hb.block gf (Array.getElem?_eq_some_iff.1 HF7.out).1).trans HF7.out)) (cell_of_row _ _ 0 _ _ _ ((hb.block gn (Array.getElem?_eq_some_iff.1 HN7.out).1).trans HN7.out)) (HHV.out x (HSUB.out x hx))).mono fun e w' h => ⟨h.1, hb.trans (h.2.mono hb.size)⟩))
            obtain ⟨tb, htb⟩ : ∃ tb, ((edgN X i).any fun j => farB f4 (nn : Int) j) = tb := ⟨_, rfl⟩
            rw [htb] at HHAS HTS
            clear hfi htb
            go_wp2_with (at_lookup; refine wpList_look_ok_F rfl _ _ 90 rfl 3 3 lawI Tryz.underlying90 (HZ.out _) w6.heap.size cnt3 f4 (by rfl) HM7.out _ (.int .i64 (i : Int)) rfl HKI.out ?_; rw [HFI.out])
            refine HHAS.out.mono ?_
            rintro e w9 ⟨rfl, hb9⟩
            have HB9 := Lib.hid (HB7.out.trans (hb9.mono hs7b))
            have HF9 := Lib.hid ((hb9.block gf (Array.getElem?_eq_some_iff.1 HF7.out).1).trans HF7.out)
            have HN9 := Lib.hid ((hb9.block gn (Array.getElem?_eq_some_iff.1 HN7.out).1).trans HN7.out)
            have HM9 := Lib.hid (HM7.out.below hb9)
            have HR9 := Lib.hid (HR7.out.kept (grown_of_below hb9) (by simp) (by simp))
            have hs9 := HB9.out.size
            clear hb9 HHAS f0
            cases tb with
            | false =>
              have hdn : dD X t i ≠ (nn : Int) + 1 := fun e => by have := HTS.out.2 e; cases this
              have HSK := Lib.hid (HFA4.out.skip hdn)
              have HDN := Lib.hid (decide_eq_false hdn)
              clear hdn
              go_wp2_with fail
              obtain ⟨hb1, hw1⟩ := HFIN.out w9 cnt3 f4 false HB9.out HF9.out HN9.out HM9.out (by omega) HSK.out HR9.out HDN.out.symm
              refine ⟨⟨l ++ [i], by rw [← hb1]; simp, Lib.hid hw1⟩, ?_⟩
              rw [HR9.out.left_eq, HLW.out]
              exact HLT.out
            | true =>
              have hdn : dD X t i = (nn : Int) + 1 := HTS.out.1 rfl
              have HPT := Lib.hid (HFA4.out.put his hdn)
              have HDN := Lib.hid (decide_eq_true hdn)
              clear hdn
              have f0 : w9.cell? ⟨gf, 0, none⟩ = some (.map (some w6.heap.size)) := cell_of_row _ _ 0 _ _ _ HF9.out
              have n0 : w9.cell? ⟨gn, 0, none⟩ = some (.int .i64 (nn : Int)) := cell_of_row _ _ 0 _ _ _ HN9.out
              have hnn1 : (nn : Int) ≤ 1000000 := by omega
              go_wp2_with (refine wpList_put_F rfl _ _ _ _ rfl 3 3 lawI Tryz.underlying90 w6.heap.size cnt3 f4 (by rfl) HM9.out (by unfold maxLen; omega) _ _ (.int .i64 (i : Int)) rfl rfl HKI.out ?_; intro W10 h10 g10; have H10 := Lib.hid h10; have G10 := Lib.hid g10; clear h10 g10)
              have hgf9 := (Array.getElem?_eq_some_iff.1 HF9.out).1
              have hgn9 := (Array.getElem?_eq_some_iff.1 HN9.out).1
              have hme9 : me < w6.heap.size := hme6
              obtain ⟨hb1, hw1⟩ := HFIN.out W10 (cnt3 + 1) _ true (HB9.out.grown G10.out hs9 (fun b hb => by cases hb; exact Nat.le_refl _)) ((G10.out.block gf hgf9 (by intro e; injection e with e; omega)).trans HF9.out) ((G10.out.block gn hgn9 (by intro e; injection e with e; omega)).trans HN9.out) H10.out (by omega) HPT.out (HR9.out.kept G10.out (by intro e; injection e with e; omega) (by intro e; injection e with e; omega)) HDN.out.symm
              have HR10 := Lib.hid (HR9.out.kept G10.out (by intro e; injection e with e; omega) (by intro e; injection e with e; omega))
              refine ⟨⟨l ++ [i], by rw [← hb1]; simp, Lib.hid hw1⟩, ?_⟩
              rw [HR10.out.left_eq, HLW.out]
              exact HLT.out
        · intro hl0
          have hall : ∀ i ∈ s, decide (i ∈ l) = true := fun i hi => by
            have := HLF.out i hi
            rw [hl0] at this
            simpa using this
          have HNX := Lib.hid (HFA4.out.next hall)
          have HGO : Hid (cb = true → ∃ i ∈ s, dD X t i = ((nn + 1 : Nat) : Int)) := Lib.hid (fun e => by
            have h := HCB.out
            rw [e, List.any_eq_true] at h
            obtain ⟨i, hi, h⟩ := h
            exact ⟨i, HPP.out.sub i hi, by have := of_decide_eq_true h; rw [this]; push_cast; rfl⟩)
          have HFN : Hid (cb = false → ∀ i ∈ s, dD X t i ≠ ((nn + 1 : Nat) : Int)) := Lib.hid (fun e i hi h2 => by
            have h := HCB.out
            rw [e, List.any_eq_false] at h
            exact h i (of_decide_eq_true (hall i hi)) (decide_eq_true (by rw [h2]; push_cast; rfl)))
          have n0 : wr.cell? ⟨gn, 0, none⟩ = some (.int .i64 (nn : Int)) := cell_of_row _ _ 0 _ _ _ HPP.out.nx
          have hnn1 : (nn : Int) ≤ 1000000 := by omega
          clear hall hl0
          go_wp2_with fail
          have hgl := (Array.getElem?_eq_some_iff.1 HPP.out.fx).1
          have hnew := World.alloc_heap_new wr (.cells #[.int .i64 ((nn : Int) + 1)] 3)
          have hbn : boxN (.pointer (some ⟨wr.heap.size, 0, none⟩)) (wr.alloc (.cells #[.int .i64 ((nn : Int) + 1)] 3)) = nn + 1 := by
            have := cell_of_row _ wr.heap.size 0 _ _ _ hnew
            unfold boxN
            simp only
            rw [this]
            simp <;> omega
          have hfb : (wr.alloc (.cells #[.int .i64 ((nn : Int) + 1)] 3)).heap[gf]? = some (.cells #[.map (some w6.heap.size)] 90 (0, 0)) := ((belQ wr _).block gf hgl).trans HPP.out.fx
          obtain ⟨c9, f9, hm9, hfa9, hc9⟩ := HPP.out.far
          refine ⟨⟨cb, nn + 1, wr.heap.size, rfl, rfl, hgl, Lib.hid (by push_cast; exact hnew), Lib.hid ⟨HPP.out.bel.alloc hsx _, hfb, ⟨cnt3, f4, HM4.out.alloc _, HNX.out, by rw [Nat.add_mul]; omega⟩, fun e => ⟨by omega, HFN.out e⟩, fun e _ => HGO.out e⟩⟩, ?_⟩
          rw [hbn, HBX.out]
          omega
end Go.Proofs.YtenfkejbndifdaaGreatDoor
