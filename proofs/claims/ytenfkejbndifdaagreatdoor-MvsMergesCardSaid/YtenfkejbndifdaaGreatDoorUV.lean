/- Contracts of mvs: Reduce and its closure. -/
import Derived.Test.YtenfkejbndifdaaGreatDoorUT
import Derived.Test.YtenfkejbndifdaaGreatDoorUU
import Derived.Maps.AppendAt
namespace Go.Proofs.YtenfkejbndifdaaGreatDoor
set_option linter.unusedVariables false
set_option linter.unusedSimpArgs false
open Go Go.RowKit Go.Maps

theorem spans_kept {B : Nat} {r : Value} {s : List (Int × Int)} {W W' : World} {row : Option Nat} (h : SpansOf B r s W) (hg : W.grownBy W' row) (hB : B ≤ W.heap.size) (hr : s ≠ [] → ∀ b, r.ownBlock = some b → row ≠ some b) : SpansOf B r s W' := by
  obtain ⟨ao, cap, rfl, h⟩ := h
  refine ⟨ao, cap, rfl, fun i x hx => ?_⟩
  obtain ⟨b, off, rfl, hlt, h1, h2⟩ := h i x hx
  have hs : s ≠ [] := fun e => by rw [e] at hx; simp at hx
  have hne : some b ≠ row := fun e => hr hs b rfl e.symm
  exact ⟨b, off, rfl, hlt, (hg.cell_far ⟨b, off + i * 2, none⟩ (Nat.lt_of_lt_of_le hlt hB) hne).trans h1, (hg.cell_far ⟨b, off + i * 2 + 1, none⟩ (Nat.lt_of_lt_of_le hlt hB) hne).trans h2⟩
theorem spans_lt {B : Nat} {r : Value} {s : List (Int × Int)} {W : World} (h : SpansOf B r s W) (hs : s ≠ []) {b : Nat} (hb : r.ownBlock = some b) : b < B := by
  obtain ⟨ao, cap, rfl, h⟩ := h
  obtain ⟨x, t, rfl⟩ := List.exists_cons_of_ne_nil hs
  obtain ⟨b', off, rfl, hlt, _⟩ := h 0 x rfl
  simp [Value.ownBlock] at hb
  omega
structure RowX (B : Nat) (v : Value) (l : List ReqL) (xs : List Value) (W : World) : Prop where
  own : W.ownsRow B 58 2 v l.length xs
  els : ∀ i q, l[i]? = some q → ∃ r, xs[i * 2]? = some (.string q.1) ∧ xs[i * 2 + 1]? = some r ∧ SpansOf W.heap.size r q.2 W ∧ (q.2 ≠ [] → ∀ b, r.ownBlock = some b → v.ownBlock ≠ some b)
theorem RowX.nil (B : Nat) (W : World) : RowX B (.slice none 0 0) [] [] W := ⟨World.ownsRow_nil _ _ _ _, fun i q hq => by simp at hq⟩
theorem RowX.now {B : Nat} {v : Value} {l : List ReqL} {xs : List Value} {W : World} (h : RowX B v l xs W) : ReqsOf W.heap.size v l W := rows_reqs h.own (fun i q hq => by
  obtain ⟨r, a, b, c, _⟩ := h.els i q hq
  exact ⟨r, a, b, c⟩)
theorem RowX.below {B : Nat} {v : Value} {l : List ReqL} {xs : List Value} {W W' : World} (h : RowX B v l xs W) (hb : RowKit.Below W.heap.size W W') : RowX B v l xs W' := ⟨own_on h.own hb, fun i q hq => by
  obtain ⟨r, a, b, c, d⟩ := h.els i q hq
  exact ⟨r, a, b, (c.below hb (Nat.le_refl _)).mono hb.size, d⟩⟩
theorem RowX.push {B : Nat} {v v' r : Value} {l : List ReqL} {xs : List Value} {q : ReqL} {W W' : World} (h : RowX B v l xs W) (hs : SpansOf W.heap.size r q.2 W) (hr : q.2 ≠ [] → ∀ b, r.ownBlock = some b → v.ownBlock ≠ some b)
    (hown : W'.ownsRow B 58 2 v' (l.length + 1) (xs ++ [.string q.1, r])) (hg : W.grownBy W' v.ownBlock) (hv : v'.ownBlock = v.ownBlock ∨ v'.ownBlock = some W.heap.size) : RowX B v' (l ++ [q]) (xs ++ [.string q.1, r]) W' := by
  have hxl := h.own.1
  have key : ∀ (q : ReqL) (r : Value), SpansOf W.heap.size r q.2 W → (q.2 ≠ [] → ∀ b, r.ownBlock = some b → v.ownBlock ≠ some b) → SpansOf W'.heap.size r q.2 W' ∧ (q.2 ≠ [] → ∀ b, r.ownBlock = some b → v'.ownBlock ≠ some b) := fun q r h1 h2 => by
    refine ⟨(spans_kept h1 hg (Nat.le_refl _) h2).mono hg.size, fun hne b hb => ?_⟩
    rcases hv with e | e
    · rw [e]; exact h2 hne b hb
    · rw [e]
      have := spans_lt h1 hne hb
      intro e2
      injection e2 with e2
      omega
  refine ⟨by rw [List.length_append]; exact hown, fun i p hp => ?_⟩
  by_cases hi : i < l.length
  · rw [List.getElem?_append_left hi] at hp
    obtain ⟨r', a, b, c, d⟩ := h.els i p hp
    obtain ⟨e1, e2⟩ := key p r' c d
    exact ⟨r', by rw [List.getElem?_append_left (by omega)]; exact a, by rw [List.getElem?_append_left (by omega)]; exact b, e1, e2⟩
  · have hl := (List.getElem?_eq_some_iff.1 hp).1
    simp at hl
    obtain rfl : i = l.length := by omega
    have hpq : q = p := by simpa using hp
    subst hpq
    obtain ⟨e1, e2⟩ := key q r hs hr
    exact ⟨r, by rw [List.getElem?_append_right (by omega), hxl, Nat.sub_self]; rfl, by rw [List.getElem?_append_right (by omega), hxl, show l.length * 2 + 1 - l.length * 2 = 1 by omega]; rfl, e1, e2⟩
set_option maxRecDepth 100000 in
set_option maxHeartbeats 4000000 in
theorem gives_any (xb sb : Nat) (v iv rov sv : Value) (X : List RelL) (roots : List ReqL) (s : List SelL) (w : World) (hm : MaxOk w) (hX : X.length ≤ 1000000) (hq : ∀ x ∈ X, RelBd x) (hR : RelsOf w.heap.size v X w)
    (hro : roots.length ≤ 1000000) (hrq : ReqsBd roots) (hRo : ReqsOf w.heap.size rov roots w) (hs : s.length ≤ 1000000) (hS : SelsOf w.heap.size sv s w)
    (h1 : w.heap[xb]? = some (.cells #[v, iv] 25 (0, 0))) (h2 : w.heap[sb]? = some (.cells #[sv] 27 (0, 0))) :
    Calls Tryz.prog 85 #[rov, .pointer (some ⟨xb, 0, none⟩), .pointer (some ⟨sb, 0, none⟩)] w fun e w' => e = .returned (.tuple #[.bool (decide ((selM false X roots).1 = s)), .int .i64 (selM false X roots).2]) ∧ Below w.heap.size w w' := by
  have HSE := Lib.hid (MSelect_any v iv rov X roots w hm hX hq hR hro hrq hRo)
  have HS := Lib.hid hS
  have hlen : (selM false X roots).1.length ≤ X.length := selM_len
  have c0 : w.cell? ⟨xb, 0, none⟩ = some v := cell_of_row _ _ 0 _ _ _ h1
  have c1 : w.cell? ⟨xb, 1, none⟩ = some iv := cell_of_row _ _ 1 _ _ _ h1
  have HX2 := Lib.hid h2
  obtain ⟨va, vn, vc, rfl⟩ : ∃ a n c, v = .slice a n c := by obtain ⟨a, c, _, e, _⟩ := hR.rv; exact ⟨_, _, _, e⟩
  obtain ⟨ra, rc, rfl⟩ : ∃ ra rc, rov = .slice ra roots.length rc := by obtain ⟨a, c, e, _⟩ := hRo; exact ⟨a, c, e⟩
  obtain ⟨sa, sc, rfl⟩ : ∃ sa sc, sv = .slice sa s.length sc := by obtain ⟨a, c, e, _⟩ := hS; exact ⟨a, c, e⟩
  unfold SelR at HSE
  generalize selM false X roots = SM at *
  clear hm hq hR hrq hRo hS h1 h2
  go_enter Tryz.func85, Tryz.ntmps85
  go_wp2_with fail
  refine HSE.out.mono ?_
  rintro e w1 ⟨hb1, lv, rfl, hl1⟩
  have HB1 := Lib.hid hb1
  have hs1 := hb1.size
  have HEQ := Lib.hid (eq_sels lv (.slice sa s.length sc) SM.1 s w1 (by omega) (by omega) hl1 ((HS.out.below hb1 (Nat.le_refl _)).mono hb1.size))
  have s0 : w1.cell? ⟨sb, 0, none⟩ = some (.slice sa s.length sc) := cell_of_row _ _ 0 _ _ _ ((hb1.block sb (Array.getElem?_eq_some_iff.1 HX2.out).1).trans HX2.out)
  obtain ⟨la, lc, rfl⟩ : ∃ la lc, lv = .slice la SM.1.length lc := by obtain ⟨a, c, e, _⟩ := hl1; exact ⟨a, c, e⟩
  clear hb1 hl1 HSE c0 c1
  go_wp2_with fail
  refine HEQ.out.mono ?_
  rintro e w2 ⟨rfl, hb2⟩
  have HB2 := Lib.hid (HB1.out.trans (hb2.mono hs1))
  clear hb2 HEQ s0
  go_wp2_with fail
  go_ret2
  exact ⟨rfl, HB2.out⟩
theorem wrap_pre {j n : Nat} (h : j < n) (h2 : n ≤ 16) : wrap64 ((j : Int) - 1) = (j : Int) - 1 := by unfold wrap64; omega
theorem le_pred {j n : Nat} (h : j < n) : j ≤ n - 1 := by omega
theorem wrap_small {n : Nat} (h : n ≤ 16) : wrap64 ((n : Int) - 1) = (n : Int) - 1 := by unfold wrap64; omega
def relF (X : List RelL) (y : SelL) : RelL := (findX X y).getD default
def rowL (X : List RelL) (t : List SelL) : List ReqL := t.map fun y => (y.1, canon [(plc (relF X y).ver, 1000000)])
theorem rowL_snoc (X : List RelL) (t : List SelL) (y : SelL) : rowL X (t ++ [y]) = rowL X t ++ [(y.1, canon [(plc (relF X y).ver, 1000000)])] := by unfold rowL; simp
theorem relF_val {X : List RelL} (h : checkX X = 0) (y : SelL) : validB (relF X y).ver.1 (relF X y).ver.2.1 (relF X y).ver.2.2 = true := by
  unfold relF findX
  rw [if_pos h]
  cases hf : findR X y with
  | none => decide
  | some r =>
    obtain ⟨i, hi, hr, _⟩ := findR_some hf
    subst hr
    exact ((idx_ok h).rel i hi).val
theorem rowL_own {X : List RelL} (h : checkX X = 0) {t : List SelL} (ht : ∀ y ∈ t, (findR X y).isSome = true) : rowL X t = ownL t := by
  unfold rowL ownL
  refine List.map_congr_left fun y hy => ?_
  obtain ⟨r, hr⟩ := Option.isSome_iff_exists.1 (ht y hy)
  obtain ⟨i, hi, hri, hk⟩ := findR_some hr
  have hx : relF X y = r := by unfold relF findX; rw [if_pos h, hr]; rfl
  have hp := ((idx_ok h).rel i hi).plc
  rw [hri] at hp
  have hv : r.ver = y.2 := by rw [← hk]; rfl
  rw [hx, canon_up hp.1 hp.2, hv]
  rfl
theorem own_bd {X : List RelL} (hq : ∀ x ∈ X, RelBd x) {s : List SelL} (hs : ∀ y ∈ s, (findR X y).isSome = true) {R : List ReqL} (hR : R.Sublist (ownL s)) : ReqsBd R := fun q hqR => by
  have h1 := hR.subset hqR
  unfold ownL at h1
  obtain ⟨y, hy, rfl⟩ := List.mem_map.1 h1
  obtain ⟨r, hr⟩ := Option.isSome_iff_exists.1 (hs y hy)
  obtain ⟨i, hi, hri, hk⟩ := findR_some hr
  have hx : r ∈ X := by
    rw [← hri, List.getD_eq_getElem?_getD, List.getElem?_eq_getElem hi]
    exact List.getElem_mem hi
  have := (hq r hx).path
  rw [← hk]
  exact ⟨this, by show ([(plc (keyL r).2, 1000000)] : List (Int × Int)).length ≤ 1000000; simp⟩
theorem ReqsOf.cut {B : Nat} {ao : Option Addr} {n c : Nat} {R : List ReqL} {W : World} (h : ReqsOf B (.slice ao n c) R W) {j : Nat} (hj : j ≤ R.length) : ReqsOf B (.slice ao j c) (R.take j) W := by
  obtain ⟨a, c, e, h⟩ := h
  cases e
  refine ⟨ao, c, by rw [List.length_take, Nat.min_eq_left hj], fun i q hq => ?_⟩
  rw [List.getElem?_take] at hq
  split at hq
  · exact h i q hq
  · cases hq
theorem ReqsOf.rest {B b off : Nat} {n c : Nat} {R : List ReqL} {W : World} (h : ReqsOf B (.slice (some ⟨b, off, none⟩) n c) R W) (j c' : Nat) : ReqsOf B (.slice (some ⟨b, off + j * 2, none⟩) (R.drop j).length c') (R.drop j) W := by
  obtain ⟨a, c, e, h⟩ := h
  cases e
  refine ⟨_, c', rfl, fun i q hq => ?_⟩
  rw [List.getElem?_drop] at hq
  obtain ⟨b', off', r, e, hlt, h1, h2, h3⟩ := h _ q hq
  cases e
  have e1 : off + j * 2 + i * 2 = off + (j + i) * 2 := by omega
  exact ⟨b, off + j * 2, r, rfl, hlt, by rw [e1]; exact h1, by rw [e1]; exact h2, h3⟩
theorem ReqXs.join {B : Nat} {l1 l2 : List ReqL} {xs ys : List Value} {W : World} (h1 : ReqXs B l1 xs W) (hx : xs.length = l1.length * 2) (h2 : ReqXs B l2 ys W) : ReqXs B (l1 ++ l2) (xs ++ ys) W := fun i q hq => by
  by_cases hi : i < l1.length
  · rw [List.getElem?_append_left hi] at hq
    obtain ⟨r, a, b, c⟩ := h1 i q hq
    exact ⟨r, by rw [List.getElem?_append_left (by omega)]; exact a, by rw [List.getElem?_append_left (by omega)]; exact b, c⟩
  · rw [List.getElem?_append_right (by omega)] at hq
    obtain ⟨r, a, b, c⟩ := h2 _ q hq
    exact ⟨r, by rw [List.getElem?_append_right (by omega), hx, show i * 2 - l1.length * 2 = (i - l1.length) * 2 by omega]; exact a, by rw [List.getElem?_append_right (by omega), hx, show i * 2 + 1 - l1.length * 2 = (i - l1.length) * 2 + 1 by omega]; exact b, c⟩
theorem reqs_cells2 {B b off cap : Nat} {l : List ReqL} {W : World} (h : ReqsOf B (.slice (some ⟨b, off, none⟩) l.length cap) l W) : ∃ xs : List Value, xs.length = l.length * 2 ∧ (∀ j u, xs[j]? = some u → W.cell? ⟨b, off + j, none⟩ = some u) ∧ ReqXs B l xs W ∧ ∀ u ∈ xs, u.oneCell' = true := by
  obtain ⟨xs, hx1, hx2, hx3⟩ := reqs_cells h
  refine ⟨xs, hx1, hx2, hx3, fun u hu => ?_⟩
  obtain ⟨j, hj, rfl⟩ := List.mem_iff_getElem.1 hu
  obtain ⟨r, h1, h2, h3⟩ := hx3 (j / 2) l[j / 2] (by simp <;> omega)
  obtain ⟨_, _, rfl, _⟩ := h3
  rcases Nat.mod_two_eq_zero_or_one j with hm | hm
  · have e2 : j / 2 * 2 = j := by omega
    rw [e2, List.getElem?_eq_getElem hj] at h1
    rw [Option.some.inj h1]; rfl
  · have e2 : j / 2 * 2 + 1 = j := by omega
    rw [e2, List.getElem?_eq_getElem hj] at h2
    rw [Option.some.inj h2]; rfl
theorem erase_cut {α : Type} (R : List α) (j : Nat) : R.eraseIdx j = R.take j ++ R.drop (j + 1) := List.eraseIdx_eq_take_drop_succ R j
theorem incr_break {s : List SelL} {k : Nat} (hk : 0 < k) (hkl : k < s.length) (h : ltB (s.getD (k - 1) default).1 (s.getD k default).1 = false) : ¬ incrS s := fun hs => by
  have := incrK_all.2 hs (k - 1) (by omega)
  rw [show k - 1 + 1 = k by omega, h] at this
  cases this
structure RedB (w : World) (v iv sv : Value) (W : World) : Prop where
  bel : Below w.heap.size w W
  idx : W.heap[w.heap.size]? = some (.cells #[v, iv] 25 (0, 0))
  sel : W.heap[w.heap.size + 1]? = some (.cells #[sv] 27 (0, 0))
theorem RedB.lt {w : World} {v iv sv : Value} {W : World} (h : RedB w v iv sv W) : w.heap.size + 1 < W.heap.size := (Array.getElem?_eq_some_iff.1 h.sel).1
theorem RedB.below {w : World} {v iv sv : Value} {W W' : World} (h : RedB w v iv sv W) (hb : Below W.heap.size W W') : RedB w v iv sv W' := by
  have hl := h.lt
  exact ⟨h.bel.trans (hb.mono h.bel.size), (hb.block _ (by omega)).trans h.idx, (hb.block _ hl).trans h.sel⟩
theorem RedB.start (w : World) (v iv sv : Value) : RedB w v iv sv ((w.alloc (.cells #[v, iv] 25)).alloc (.cells #[sv] 27)) := by
  have hget : ∀ (w : World) (o : Obj) (k : Nat), (w.alloc o).heap[k]? = if k = w.heap.size then some o else w.heap[k]? := fun w o k => by
    show (w.heap.push o)[k]? = _
    rw [Array.getElem?_push]
  refine ⟨(by repeat (first | exact Below.refl _ _ | refine Below.drew ?_ | refine Below.alloc ?_ (by simp <;> omega) _ | refine Below.setCell ?_ (by simp <;> omega) _)), ?_, ?_⟩
  · simp only [hget, World.size_alloc]; repeat (first | rw [if_pos trivial] | rw [if_neg (by omega)] | rw [if_pos (by omega)])
  · simp only [hget, World.size_alloc]; repeat (first | rw [if_pos trivial] | rw [if_neg (by omega)] | rw [if_pos (by omega)])
def ReduceR (X : List RelL) (s : List SelL) (w : World) (e : Ending) (w' : World) : Prop := Below w.heap.size w w' ∧ ∃ v, e = .returned (.tuple #[v, .int .i64 (reduceV X s).2]) ∧ ReqsOf w'.heap.size v (reduceV X s).1 w' ∧ CapOk v
theorem ReduceR.no {X : List RelL} {s : List SelL} {w w' : World} {en : Int} (hb : Below w.heap.size w w') (h : reduceV X s = ([], en)) : ReduceR X s w (.returned (.tuple #[.slice none 0 0, .int .i64 en])) w' := ⟨hb, _, by rw [h], by rw [h]; exact ⟨_, _, rfl, fun i q hq => by simp at hq⟩, ⟨_, _, _, rfl, Nat.le_refl _⟩⟩
set_option maxRecDepth 100000 in
set_option maxHeartbeats 8000000 in
theorem Reduce_any (v iv sv : Value) (X : List RelL) (s : List SelL) (w : World) (hm : MaxOk w) (hX : X.length ≤ 1000000) (hq : ∀ x ∈ X, RelBd x) (hR : RelsOf w.heap.size v X w)
    (hs : s.length ≤ 1000000) (hy : ∀ y ∈ s, SelBd y) (hS : SelsOf w.heap.size sv s w) :
    Calls Tryz.prog 30 #[.agg #[v, iv], sv] w (ReduceR X s w) := by
  have HPL := Lib.hid (fun W (hb : RowKit.Below w.heap.size w W) => MPlain_any v iv (.slice none 0 0) X [] W (hm.below hb hm.pos) hX hq (hR.on hb) (by simp) (fun q hq => by cases hq) ⟨_, _, rfl, fun i q hq => by simp at hq⟩)
  have HFI := Lib.hid (fun W y (hy : SelBd y) (hb : RowKit.Below w.heap.size w W) => Find_any v iv X y W (hm.below hb hm.pos) hX hq (hR.on hb) hy)
  have HGV := Lib.hid (fun W xb sb rov roots (hb : RowKit.Below w.heap.size w W) (hro : List.length roots ≤ 1000000) (hrq : ReqsBd roots) (hRo : ReqsOf W.heap.size rov roots W) => gives_any xb sb v iv rov sv X roots s W (hm.below hb hm.pos) hX hq (hR.on hb) hro hrq hRo hs (hS.on hb))
  have HS := Lib.hid hS
  have HQB := Lib.hid hq
  have HYB := Lib.hid hy
  obtain ⟨va, vn, vc, rfl⟩ : ∃ a n c, v = .slice a n c := by obtain ⟨a, c, _, e, _⟩ := hR.rv; exact ⟨_, _, _, e⟩
  obtain ⟨sa, sc, rfl⟩ : ∃ sa sc, sv = .slice sa s.length sc := by obtain ⟨a, c, e, _⟩ := hS; exact ⟨a, c, e⟩
  clear hm hq hR hS hy
  have HB0 := Lib.hid (RedB.start w (.slice va vn vc) iv (.slice sa s.length sc))
  go_enter Tryz.func30, Tryz.ntmps30
  go_upto_region 1 with fail
  generalize (w.alloc (.cells #[.slice va vn vc, iv] 25)).alloc (.cells #[.slice sa s.length sc] 27) = W at *
  have c0 : W.cell? ⟨w.heap.size, 0, none⟩ = some (.slice va vn vc) := cell_of_row _ _ 0 _ _ _ HB0.out.idx
  have c1 : W.cell? ⟨w.heap.size, 1, none⟩ = some iv := cell_of_row _ _ 1 _ _ _ HB0.out.idx
  go_wp2_with fail
  refine (HPL.out _ HB0.out.bel).mono ?_
  rintro e w1 ⟨hb1, bp, rfl, hbp⟩
  have HB1 := Lib.hid (HB0.out.below hb1)
  have HBP := Lib.hid hbp
  clear hb1 c0 c1 hbp HPL
  cases bp with
  | false =>
    have HV := Lib.hid (reduceV_arg (X := X) (s := s) (.inl (fun h => by have := HBP.out.2 h; cases this)))
    go_wp2_with fail
    go_ret2
    exact ReduceR.no HB1.out.bel HV.out
  | true =>
    have HP := Lib.hid (HBP.out.1 rfl)
    clear HBP
    have z0 : w1.cell? ⟨w.heap.size + 1, 0, none⟩ = some (.slice sa s.length sc) := cell_of_row _ _ 0 _ _ _ HB1.out.sel
    by_cases h16 : s.length ≤ 16
    case neg =>
      have h16a : (16 : Int) < (s.length : Int) := by omega
      have h16b : decide ((16 : Int) < (s.length : Int)) = true := decide_eq_true h16a
      have HV := Lib.hid (reduceV_arg (X := X) (s := s) (.inr (.inl (by omega))))
      go_wp2_with fail
      go_ret2
      exact ReduceR.no HB1.out.bel HV.out
    have h16a : ¬ (16 : Int) < (s.length : Int) := by omega
    have h16b : decide ((16 : Int) < (s.length : Int)) = false := decide_eq_false h16a
    have hs1 := HB1.out.lt
    go_wp2_with fail
    clear z0
    go_loopw [6, 7, 29] (fun rv fv p wr => ∃ (k : Nat) (fb : Bool) (xs : List Value), k ≤ s.length ∧ p = .int .i64 (k : Int) ∧ fv = .bool fb ∧ Hid (fb = (s.take k).all fun y => (findR X y).isSome) ∧ Hid (RowX w1.heap.size rv (rowL X (s.take k)) xs wr) ∧ Hid (incrK s k) ∧ Hid (Below w1.heap.size w1 wr)) (fun _ _ p _ => s.length - (intOf p).toNat)
    case atStart => exact ⟨0, true, [], Nat.zero_le _, rfl, rfl, Lib.hid rfl, Lib.hid (RowX.nil _ _), Lib.hid (fun j hj => by omega), Lib.hid (Below.refl _ _)⟩
    case round =>
      obtain ⟨k, fb, xs, hk, rfl, rfl, HFB, HO, HK, HB⟩ := hrel
      obtain ⟨oa, oc, rfl⟩ := own_any HO.out.own
      have hrl : (rowL X (s.take k)).length = k := by unfold rowL; rw [List.length_map, List.length_take]; omega
      rw [hrl] at HO ⊢
      have HRL := Lib.hid hrl
      clear hrl
      have hs8 := HB.out.size
      by_cases hlt : k < s.length
      case neg =>
        have hk2 : k = s.length := by omega
        subst hk2
        rw [List.take_length] at HFB HO HRL
        clear HFI
        have HR2 := Lib.hid (HB1.out.below HB.out)
        cases fb with
        | false =>
          have HV : Hid (reduceV X s = ([], 6)) := Lib.hid (reduceV_not HP.out h16 (incrK_all.1 HK.out) (by
            have h := HFB.out
            rw [eq_comm, List.all_eq_false] at h
            obtain ⟨y, hy, h⟩ := h
            exact ⟨y, hy, findR_none_iff.2 h⟩))
          go_wp2_with fail
          go_ret2
          exact ReduceR.no HR2.out.bel HV.out
        | true =>
          have hfo : ∀ y ∈ s, (findR X y).isSome = true := List.all_eq_true.1 HFB.out.symm
          have HFO := Lib.hid hfo
          have hro : rowL X s = ownL s := rowL_own HP.out.idx hfo
          rw [hro] at HO HRL
          have HRC := Lib.hid (own_cap HO.out.own)
          have HRO := Lib.hid HO.out.now
          have HVV := Lib.hid (reduceV_found HP.out h16 (incrK_all.1 HK.out) hfo)
          have hol : (ownL s).length = s.length := HRL.out
          have HG1 := Lib.hid (HGV.out wr w.heap.size (w.heap.size + 1) (.slice oa s.length oc) (ownL s) HR2.out.bel (by omega) (own_bd HQB.out hfo (List.Sublist.refl _)) HRO.out HR2.out.idx HR2.out.sel)
          obtain ⟨SM, hSM⟩ : ∃ SM, selM false X (ownL s) = SM := ⟨_, rfl⟩
          have HSM := Lib.hid hSM
          rw [hSM] at HG1 HVV
          clear hSM hfo hro HFB HO HK
          go_wp2_with fail
          refine HG1.out.mono ?_
          rintro e w2 ⟨rfl, hb2⟩
          have HR3 := Lib.hid (HR2.out.below hb2)
          have HRO3 := Lib.hid (HRO.out.on hb2)
          have HBx := Lib.hid (HB.out.trans (hb2.mono HB.out.size))
          clear hb2 HG1 HR2 HRO HB
          by_cases hE : SM.2 = 0
          case neg =>
            have hE1 : (SM.2 != 0) = true := by simpa using hE
            have HV : Hid (reduceV X s = ([], SM.2)) := Lib.hid (by rw [HVV.out, if_pos hE])
            go_wp2_with fail
            go_ret2
            exact ReduceR.no HR3.out.bel HV.out
          have hE1 : (SM.2 != 0) = false := by simpa using hE
          by_cases hL : SM.1 = s
          case neg =>
            have hL1 : decide (SM.1 = s) = false := decide_eq_false hL
            have HV : Hid (reduceV X s = ([], 8)) := Lib.hid (by rw [HVV.out, if_neg (fun h => h hE), if_pos hL])
            rw [hL1]
            go_wp2_with fail
            go_ret2
            exact ReduceR.no HR3.out.bel HV.out
          have hL1 : decide (SM.1 = s) = true := decide_eq_true hL
          have HV : Hid (reduceV X s = (redStep (givesB X s) s.length (ownL s), 0)) := Lib.hid (by rw [HVV.out, if_neg (fun h => h hE), if_neg (fun h => h hL)])
          obtain ⟨RES, hRES⟩ : ∃ RES, redStep (givesB X s) s.length (ownL s) = RES := ⟨_, rfl⟩
          rw [hRES] at HV
          have HRES := Lib.hid hRES
          rw [hL1]
          clear hL1 hRES HVV HSM
          have hwp : wrap64 ((s.length : Int) - 1) = (s.length : Int) - 1 := wrap_small h16
          go_wp2_with fail
          clear hwp
          go_loopw [6, 15] (fun rv p wr => ∃ (i : Nat) (R : List ReqL) (a : Option Addr) (c : Nat), rv = .slice a R.length c ∧ R.length ≤ c ∧ i ≤ R.length ∧ R.length ≤ 16 ∧ Hid (p = .int .i64 ((i : Int) - 1)) ∧ Hid (R.Sublist (ownL s)) ∧ Hid (redStep (givesB X s) i R = RES) ∧ Hid (ReqsOf wr.heap.size rv R wr) ∧ Hid (Below w2.heap.size w2 wr)) (fun _ p _ => (intOf p + 1).toNat)
          case atStart => exact ⟨s.length, ownL s, oa, oc, by rw [hol], by rw [hol]; exact HRC.out.le, by rw [hol]; exact Nat.le_refl _, by rw [hol]; exact h16, Lib.hid rfl, Lib.hid (List.Sublist.refl _), HRES, HRO3, Lib.hid (Below.refl _ _)⟩
          case round =>
            obtain ⟨i, R, a, c, rfl, hRc, hiR, hR16, HPI, HSU, HRS, HRQ, HB⟩ := hrel
            have HRy := Lib.hid (HR3.out.below HB.out)
            clear HRES HRO3
            have hpi := HPI.out
            clear HPI
            cases i with
            | zero =>
              rw [show ((0 : Nat) : Int) - 1 = -1 from rfl] at hpi
              subst hpi
              have HRR : Hid (R = RES) := HRS
              go_wp2_with fail
              go_ret2
              refine ⟨HRy.out.bel, .slice a R.length c, by rw [HV.out]; rfl, ?_, ⟨_, _, _, rfl, hRc⟩⟩
              rw [HV.out, ← HRR.out]
              exact HRQ.out
            | succ j =>
              rw [pred_succ] at hpi
              subst hpi
              have hjR : j < R.length := hiR
              obtain ⟨b3, off3, _, rfl, hb3, _, _, _⟩ := HRQ.out.get hjR
              have hj0 : (0 : Int) ≤ (j : Int) := Int.natCast_nonneg j
              have hjc : (j : Int) ≤ (c : Int) := kk4 hjR hRc
              have hjn : j ≤ R.length := Nat.le_of_lt hjR
              have hw1 : wrap64 ((j : Int) + 1) = (j : Int) + 1 := wrap_succ (kk6 hjR hR16)
              have hw2 : IntKind.i64.wrap ((j : Int) + 1) = (j : Int) + 1 := i64_succ (kk6 hjR hR16)
              have hj1 : (0 : Int) ≤ (j : Int) + 1 := kk0 j
              have hj2 : (j : Int) + 1 ≤ (R.length : Int) := kk5 hjR
              have hj3 : j + 1 ≤ R.length := hjR
              have hjj : (j : Int) ≤ (j : Int) + 1 := Int.le_add_one (Int.le_refl _)
              go_upto_region 25 with fail
              go_cut [6, 16] from 91 to 99 (fun r6 v wx => ∃ (a' : Option Addr) (c' : Nat), r6 = .slice (some ⟨b3, off3, none⟩) R.length c ∧ v = .slice a' (R.eraseIdx j).length c' ∧ (R.eraseIdx j).length ≤ c' ∧ Hid (ReqsOf wx.heap.size v (R.eraseIdx j) wx) ∧ Hid (Below wr.heap.size wr wx))
              case first =>
                have HCL := Lib.hid (CloneQ_any (.slice (some ⟨b3, off3, none⟩) j c) (R.take j) wr.drew (take_small hR16) ((HRQ.out.cut hjn).on (Below.refl wr.heap.size wr).drew))
                by_cases hcj : c = j + 1
                · have HNIL := Lib.hid (drop_none hRc hcj)
                  subst hcj
                  refine wp_region_noPanic ?_
                  refine wp_region_held_drew (S := fun _ => True) (by kernel_rfl) trivial (fun hS0 => ?_)
                  (refine zl3 0 ?_ rfl ?_ ?_; rotate_left; (· (intro w hSw; go_simp; try with_reducible rfl)); (try simp only [zl1]))
                  (refine zl3 1 ?_ rfl ?_ ?_; rotate_left; (· (intro w hSw; go_simp; try with_reducible rfl)); (try simp only [zl1]))
                  (refine zl3 2 ?_ rfl ?_ ?_; rotate_left; (· (intro w hSw; go_simp; try with_reducible rfl)); (try simp only [zl1]))
                  (refine zl3 4 ?_ rfl ?_ ?_; rotate_left; (· (intro w hSw; go_simp; try with_reducible rfl)); (try simp only [zl1]))
                  (refine zl3 5 ?_ rfl ?_ ?_; rotate_left; (· (intro w hSw; go_simp; try with_reducible rfl)); (try simp only [zl1]))
                  (refine zl3 6 ?_ rfl ?_ ?_; rotate_left; (· (intro w hSw; go_simp; try with_reducible rfl)); (try simp only [zl1]))
                  (refine zl3 7 ?_ rfl ?_ ?_; rotate_left; (· (intro w hSw; go_simp; try with_reducible rfl)); (try simp only [zl1]))
                  refine wpAnyH_ready (rs := [3]) (by kernel_rfl) (by simp) (AllReadyH.cons rfl (fun K hK => ?_) AllReadyH.nil)
                  go_simp
                  refine HCL.out.mono ?_
                  rintro e w4 ⟨cv, xs, rfl, hown, hxs, hb4⟩
                  obtain ⟨cva, cvc, rfl⟩ := own_any hown
                  refine hK.out _ _ trivial (fun _ => ?_)
                  clear hK K
                  (try simp only [zl1])
                  have HOC := Lib.hid hown
                  have HXC := Lib.hid hxs
                  have HBC := Lib.hid hb4
                  clear hown hxs hb4
                  have hys : ReqXs wr.heap.size (R.drop (j + 1)) ([] : List Value) wr := by rw [HNIL.out]; exact fun i q hq => by simp at hq
                  have hy1 : ([] : List Value).length = 0 * 2 := rfl
                  have hml : (R.drop (j + 1)).length = 0 := by rw [HNIL.out]; rfl
                  obtain ⟨ys, hyse⟩ : ∃ ys : List Value, ([] : List Value) = ys := ⟨_, rfl⟩
                  have hy2 : ∀ i u, ys[i]? = some u → w4.cell? (Addr.add ⟨b3, off3, none⟩ i) = some u := fun i u hu => by rw [← hyse] at hu; simp at hu
                  have hy3 : ∀ u ∈ ys, u.oneCell' = true := fun u hu => by rw [← hyse] at hu; cases hu
                  rw [hyse] at hys hy1
                  clear hyse
                  have HYS := Lib.hid hys
                  have hbase : wr.drew.heap.size ≤ w4.heap.size := HBC.out.size
                  have htl : (R.take j).length + 0 ≤ 16 := by rw [← hml, List.length_take, List.length_drop]; exact cut_small hjR hR16
                  have HML := Lib.hid hml
                  obtain ⟨si0, hsi0, hsz0, hsz1, hsz2⟩ := info_parts info_reqs
                  refine wpAnyH_ready (rs := [8]) (by kernel_rfl) (by simp) (AllReadyH.cons rfl (fun K hK => ?_) AllReadyH.nil)
                  refine oper_of_list (ops := #[]) rfl ?_
                  refine wpList_append_own _ rfl _ _ 26 rfl wr.drew.heap.size 58 si0 _ 2 40 Tryz.underlying26 hsi0 hsz0 hsz1 hsz2 rfl (by decide) (.slice cva (R.take j).length cvc) _ xs (by rfl) HOC.out ⟨b3, off3, none⟩ 0 0 ys (by rfl) hy1 hy2 hy3 (app3 htl) (app4 htl) hbase ?_
                  intro v' wB hown' hgrow _
                  have HOW := Lib.hid hown'
                  have HBW : Hid (Below wr.drew.heap.size w4 wB) := Lib.hid (((Below.refl w4.heap.size w4).mono hbase).grown hgrow hbase (fun b hb => (own_lo HOC.out b hb).1))
                  have HBB : Hid (Below wr.heap.size wr wB) := Lib.hid ((Below.refl wr.heap.size wr).drew.trans (HBC.out.trans HBW.out))
                  clear hown' hgrow
                  refine wpList_nil ?_
                  show K _ _
                  refine hK.out _ _ trivial (fun _ => ?_)
                  clear hK K
                  (try simp only [zl1])
                  (refine zl3 9 ?_ rfl ?_ ?_; rotate_left; (· (intro w hSw; go_simp; try with_reducible rfl)); (try simp only [zl1]))
                  refine wpAnyH_done (by kernel_rfl) ?_ _
                  refine NoPanic.normal ?_
                  have hrl : (R.take j).length + 0 = (R.eraseIdx j).length := by rw [erase_cut, List.length_append, HML.out]
                  have hrr : ReqsOf wB.heap.size v' (R.eraseIdx j) wB := by
                    refine rows_reqs (xs := xs ++ ys) (by rw [← hrl]; exact HOW.out) ?_
                    rw [erase_cut]
                    refine ReqXs.join ?_ HOC.out.1 ?_
                    · exact fun i q hq => by obtain ⟨r, a, b, d⟩ := HXC.out i q hq; exact ⟨r, a, b, (d.below HBW.out (Nat.le_refl _)).mono (Nat.le_trans hbase HBW.out.size)⟩
                    · exact fun i q hq => by obtain ⟨r, a, b, d⟩ := HYS.out i q hq; exact ⟨r, a, b, (d.below HBB.out (Nat.le_refl _)).mono HBB.out.size⟩
                  obtain ⟨a', c', rfl⟩ := own_any HOW.out
                  have hcc := (own_cap HOW.out).le
                  rw [hrl] at hcc hrr ⊢
                  clear hw1 hw2
                  go_wp2_with fail
                  go_meet
                  exact ⟨a', c', rfl, rfl, hcc, Lib.hid hrr, HBB⟩
                · refine wp_region_noPanic ?_
                  refine wp_region_held_drew (S := fun _ => True) (by kernel_rfl) trivial (fun hS0 => ?_)
                  (refine zl3 0 ?_ rfl ?_ ?_; rotate_left; (· (intro w hSw; go_simp; try with_reducible rfl)); (try simp only [zl1]))
                  (refine zl3 1 ?_ rfl ?_ ?_; rotate_left; (· (intro w hSw; go_simp; try with_reducible rfl)); (try simp only [zl1]))
                  (refine zl3 2 ?_ rfl ?_ ?_; rotate_left; (· (intro w hSw; go_simp; try with_reducible rfl)); (try simp only [zl1]))
                  (refine zl3 4 ?_ rfl ?_ ?_; rotate_left; (· (intro w hSw; go_simp; try with_reducible rfl)); (try simp only [zl1]))
                  (refine zl3 5 ?_ rfl ?_ ?_; rotate_left; (· (intro w hSw; go_simp; try with_reducible rfl)); (try simp only [zl1]))
                  (refine zl3 6 ?_ rfl ?_ ?_; rotate_left; (· (intro w hSw; go_simp; try with_reducible rfl)); (try simp only [zl1]))
                  (refine zl3 7 ?_ rfl ?_ ?_; rotate_left; (· (intro w hSw; go_simp; try with_reducible rfl)); (try simp only [zl1]))
                  refine wpAnyH_ready (rs := [3]) (by kernel_rfl) (by simp) (AllReadyH.cons rfl (fun K hK => ?_) AllReadyH.nil)
                  go_simp
                  refine HCL.out.mono ?_
                  rintro e w4 ⟨cv, xs, rfl, hown, hxs, hb4⟩
                  obtain ⟨cva, cvc, rfl⟩ := own_any hown
                  refine hK.out _ _ trivial (fun _ => ?_)
                  clear hK K
                  (try simp only [zl1])
                  have HOC := Lib.hid hown
                  have HXC := Lib.hid hxs
                  have HBC := Lib.hid hb4
                  clear hown hxs hb4
                  obtain ⟨ys, hy1, hy4, hy5, hy3⟩ := reqs_cells2 (HRQ.out.rest (j + 1) (c - (j + 1)))
                  have hys : ReqXs wr.heap.size (R.drop (j + 1)) ys wr := hy5
                  have hml : (R.drop (j + 1)).length = R.length - (j + 1) := List.length_drop
                  rw [hml] at hy1
                  have hy2 : ∀ i u, ys[i]? = some u → w4.cell? (Addr.add ⟨b3, off3 + (j + 1) * 2, none⟩ i) = some u := fun i u hu => by
                    rw [Addr.add_lit]
                    exact (HBC.out.cell (p := ⟨b3, off3 + (j + 1) * 2 + i, none⟩) hb3).trans (hy4 i u hu)
                  clear hy4 hy5
                  have HYS := Lib.hid hys
                  have hbase : wr.drew.heap.size ≤ w4.heap.size := HBC.out.size
                  have htl : (R.take j).length + (R.length - (j + 1)) ≤ 16 := by rw [← hml, List.length_take, List.length_drop]; exact cut_small hjR hR16
                  have HML := Lib.hid hml
                  obtain ⟨si0, hsi0, hsz0, hsz1, hsz2⟩ := info_parts info_reqs
                  refine wpAnyH_ready (rs := [8]) (by kernel_rfl) (by simp) (AllReadyH.cons rfl (fun K hK => ?_) AllReadyH.nil)
                  refine oper_of_list (ops := #[]) rfl ?_
                  refine wpList_append_own _ rfl _ _ 26 rfl wr.drew.heap.size 58 si0 _ 2 40 Tryz.underlying26 hsi0 hsz0 hsz1 hsz2 rfl (by decide) (.slice cva (R.take j).length cvc) _ xs (by rfl) HOC.out ⟨b3, off3 + (j + 1) * 2, none⟩ (R.length - (j + 1)) (c - (j + 1)) ys (by rfl) hy1 hy2 hy3 (app3 htl) (app4 htl) hbase ?_
                  intro v' wB hown' hgrow _
                  have HOW := Lib.hid hown'
                  have HBW : Hid (Below wr.drew.heap.size w4 wB) := Lib.hid (((Below.refl w4.heap.size w4).mono hbase).grown hgrow hbase (fun b hb => (own_lo HOC.out b hb).1))
                  have HBB : Hid (Below wr.heap.size wr wB) := Lib.hid ((Below.refl wr.heap.size wr).drew.trans (HBC.out.trans HBW.out))
                  clear hown' hgrow
                  refine wpList_nil ?_
                  show K _ _
                  refine hK.out _ _ trivial (fun _ => ?_)
                  clear hK K
                  (try simp only [zl1])
                  (refine zl3 9 ?_ rfl ?_ ?_; rotate_left; (· (intro w hSw; go_simp; try with_reducible rfl)); (try simp only [zl1]))
                  refine wpAnyH_done (by kernel_rfl) ?_ _
                  refine NoPanic.normal ?_
                  have hrl : (R.take j).length + (R.length - (j + 1)) = (R.eraseIdx j).length := by rw [erase_cut, List.length_append, HML.out]
                  have hrr : ReqsOf wB.heap.size v' (R.eraseIdx j) wB := by
                    refine rows_reqs (xs := xs ++ ys) (by rw [← hrl]; exact HOW.out) ?_
                    rw [erase_cut]
                    refine ReqXs.join ?_ HOC.out.1 ?_
                    · exact fun i q hq => by obtain ⟨r, a, b, d⟩ := HXC.out i q hq; exact ⟨r, a, b, (d.below HBW.out (Nat.le_refl _)).mono (Nat.le_trans hbase HBW.out.size)⟩
                    · exact fun i q hq => by obtain ⟨r, a, b, d⟩ := HYS.out i q hq; exact ⟨r, a, b, (d.below HBB.out (Nat.le_refl _)).mono HBB.out.size⟩
                  obtain ⟨a', c', rfl⟩ := own_any HOW.out
                  have hcc := (own_cap HOW.out).le
                  rw [hrl] at hcc hrr ⊢
                  clear hw1 hw2
                  go_wp2_with fail
                  go_meet
                  exact ⟨a', c', rfl, rfl, hcc, Lib.hid hrr, HBB⟩
              case rest =>
                obtain ⟨a', c', rfl, rfl, hcc, HRR, HBC⟩ := hcut
                clear hw1 hw2
                have HBx := Lib.hid (HB.out.trans (HBC.out.mono HB.out.size))
                have HRz := Lib.hid (HRy.out.below HBC.out)
                have hsub2 : (R.eraseIdx j).Sublist (ownL s) := (List.eraseIdx_sublist R j).trans HSU.out
                have hlen2 : (R.eraseIdx j).length ≤ 1000000 := Nat.le_trans (List.eraseIdx_sublist R j).length_le (Nat.le_trans hR16 (by decide))
                have hlen3 : (R.eraseIdx j).length = R.length - 1 := List.length_eraseIdx_of_lt hjR
                have HS2 := Lib.hid hsub2
                have HL3 := Lib.hid hlen3
                have HG2 := Lib.hid (HGV.out wc w.heap.size (w.heap.size + 1) (.slice a' (R.eraseIdx j).length c') (R.eraseIdx j) HRz.out.bel hlen2 (own_bd HQB.out HFO.out hsub2) HRR.out HRz.out.idx HRz.out.sel)
                have HST : Hid (redStep (givesB X s) (j + 1) R = if givesB X s (R.eraseIdx j) = true then redStep (givesB X s) j (R.eraseIdx j) else redStep (givesB X s) j R) := Lib.hid rfl
                have hgb : givesB X s (R.eraseIdx j) = (decide ((selM false X (R.eraseIdx j)).1 = s) && decide ((selM false X (R.eraseIdx j)).2 = 0)) := rfl
                rw [hgb] at HST
                generalize selM false X (R.eraseIdx j) = S2 at *
                obtain ⟨g1, hg1⟩ : ∃ g1, decide (S2.1 = s) = g1 := ⟨_, rfl⟩
                rw [hg1] at HG2 HST
                clear hgb hg1 hsub2 hlen2 hlen3
                go_wp2_with fail
                refine HG2.out.mono ?_
                rintro e w6 ⟨rfl, hb6⟩
                have HB6 := Lib.hid (HBx.out.trans (hb6.mono HBx.out.size))
                have HRR6 := Lib.hid (HRR.out.on hb6)
                have HRQ6 := Lib.hid ((HRQ.out.on HBC.out).on hb6)
                have HPR : Hid (∀ x : Int, wrap64 ((j : Int) - 1) = (j : Int) - 1) := Lib.hid (fun _ => wrap_pre hjR hR16)
                have hwj : wrap64 ((j : Int) - 1) = (j : Int) - 1 := HPR.out 0
                clear hb6 HG2
                cases g1 with
                | false =>
                  have HS3 : Hid (redStep (givesB X s) j R = RES) := Lib.hid (by rw [← HRS.out, HST.out]; simp)
                  go_wp2_with fail
                  go_roundw
                  case rel => exact ⟨j, R, _, c, rfl, hRc, Nat.le_of_lt hjR, hR16, Lib.hid (by first | rfl | rw [hwj]), HSU, HS3, HRQ6, HB6⟩
                  case measure => simp [intOf]; try (rw [hwj]; exact Int.sub_lt_self _ (by decide))
                | true =>
                  by_cases he : S2.2 = 0
                  · have he2 : (S2.2 == 0) = true := by simpa using he
                    have HS3 : Hid (redStep (givesB X s) j (R.eraseIdx j) = RES) := Lib.hid (by rw [← HRS.out, HST.out]; simp [he])
                    go_wp2_with fail
                    go_roundw
                    case rel => exact ⟨j, R.eraseIdx j, a', c', rfl, hcc, by rw [HL3.out]; exact le_pred hjR, by rw [HL3.out]; exact Nat.le_trans (Nat.sub_le _ _) hR16, Lib.hid (by first | rfl | rw [hwj]), HS2, HS3, HRR6, HB6⟩
                    case measure => simp [intOf]; try (rw [hwj]; exact Int.sub_lt_self _ (by decide))
                  · have he2 : (S2.2 == 0) = false := by simpa using he
                    have HS3 : Hid (redStep (givesB X s) j R = RES) := Lib.hid (by rw [← HRS.out, HST.out]; simp [he])
                    go_wp2_with fail
                    go_roundw
                    case rel => exact ⟨j, R, _, c, rfl, hRc, Nat.le_of_lt hjR, hR16, Lib.hid (by first | rfl | rw [hwj]), HSU, HS3, HRQ6, HB6⟩
                    case measure => simp [intOf]; try (rw [hwj]; exact Int.sub_lt_self _ (by decide))
      case pos =>
        obtain ⟨b, off, rfl, hbl, d0, d1, d2, d3⟩ := HS.out.at hlt
        have HBw := Lib.hid (HB1.out.bel.trans (HB.out.mono HB1.out.bel.size))
        have d0 := (HBw.out.cell (p := ⟨b, off + k * 4, none⟩) hbl).trans d0
        have d1 := (HBw.out.cell (p := ⟨b, off + k * 4 + 1, none⟩) hbl).trans d1
        have d2 := (HBw.out.cell (p := ⟨b, off + k * 4 + 2, none⟩) hbl).trans d2
        have d3 := (HBw.out.cell (p := ⟨b, off + k * 4 + 3, none⟩) hbl).trans d3
        have hyk : s[k] = s.getD k default := by rw [List.getD_eq_getElem?_getD, List.getElem?_eq_getElem hlt]; rfl
        have HTK : Hid (s.take (k + 1) = s.take k ++ [s.getD k default]) := Lib.hid (by rw [List.take_succ_eq_append_getElem hlt, hyk])
        have hyb := HYB.out s[k] (List.getElem_mem hlt)
        rw [hyk] at hyb
        have HYK := Lib.hid hyb
        clear hyk hyb
        generalize hyd : s.getD k default = y at *
        have HYD := Lib.hid hyd
        clear hyd
        have hbw : b < wr.heap.size := Nat.lt_of_lt_of_le hbl HBw.out.size
        have HGY : Hid ((wr.alloc (.cells #[.string y.1, .int .i64 y.2.1, .int .i64 y.2.2.1, .int .i64 y.2.2.2] 43)).heap[wr.heap.size]? = some (.cells #[.string y.1, .int .i64 y.2.1, .int .i64 y.2.2.1, .int .i64 y.2.2.2] 43 (0, 0))) := Lib.hid (World.alloc_heap_new wr _)
        have HBA := Lib.hid (belQ wr (.cells #[.string y.1, .int .i64 y.2.1, .int .i64 y.2.2.1, .int .i64 y.2.2.2] 43))
        have hk0 : (0 : Int) ≤ (k : Int) := Int.natCast_nonneg k
        have hlt2 : (k : Int) < (s.length : Int) := Int.ofNat_lt.2 hlt
        go_upto_region 8 with fail
        generalize wr.alloc (.cells #[.string y.1, .int .i64 y.2.1, .int .i64 y.2.2.1, .int .i64 y.2.2.2] 43) = W8 at *
        have HB8 := Lib.hid (HB.out.trans (HBA.out.mono HB.out.size))
        have HO8 := Lib.hid (HO.out.below HBA.out)
        have HR8 := Lib.hid (HB1.out.below HB8.out)
        have z0 : W8.cell? ⟨w.heap.size + 1, 0, none⟩ = some (.slice (some ⟨b, off, none⟩) s.length sc) := cell_of_row _ _ 0 _ _ _ HR8.out.sel
        have y0 : W8.cell? ⟨wr.heap.size, 0, none⟩ = some (.string y.1) := cell_of_row _ _ 0 _ _ _ HGY.out
        generalize wr.heap.size = gy at *
        clear d0 d1 d2 d3 HO HB hs8 HBw HBA
        by_cases hbad : 0 < k ∧ ltB (s.getD (k - 1) default).1 y.1 = false
        case pos =>
          obtain ⟨hk1, hlb⟩ := hbad
          have HV := Lib.hid (reduceV_arg (X := X) (s := s) (.inr (.inr (incr_break hk1 hlt (by rw [HYD.out]; exact hlb)))))
          obtain ⟨b2, off2, e2, _, f0, _⟩ := HS.out.at (i := k - 1) (Nat.lt_of_le_of_lt (Nat.sub_le _ _) hlt)
          cases e2
          have f0 := (HR8.out.bel.cell (p := ⟨b, off + (k - 1) * 4, none⟩) hbl).trans f0
          obtain ⟨j, rfl⟩ : ∃ j, k = j + 1 := ⟨k - 1, (Nat.succ_pred_eq_of_pos hk1).symm⟩
          simp only [Nat.add_sub_cancel] at f0 hlb
          generalize s.getD j default = yj at *
          have hsub : wrap64 (((j + 1 : Nat) : Int) - 1) = (j : Int) := wrap_pred (by omega)
          have hj0 : (0 : Int) ≤ (j : Int) := Int.natCast_nonneg j
          have hj1 : (j : Int) < (s.length : Int) := by omega
          have hp0 : (0 : Int) < ((j + 1 : Nat) : Int) := by omega
          generalize yj.1 = pa at *
          generalize hpb : y.1 = pb at *
          clear hpb
          have hlb2 : Op.bytesLess pa.toList pb.toList = false := hlb
          have HLB := Lib.hid hlb2
          clear hlb hlb2
          go_quiet (fail)
          rw [HLB.out]
          simp only [Bool.not_false]
          go_wp2_with fail
          go_ret2
          exact ReduceR.no (below_drewNV HR8.out.bel _) HV.out
        case neg =>
          have HK2 : Hid (incrK s (k + 1)) := Lib.hid (incrK_step HK.out (fun hk1 => by
            rw [HYD.out]
            cases h : ltB (s.getD (k - 1) default).1 y.1 with
            | true => rfl
            | false => exact absurd ⟨hk1, h⟩ hbad))
          go_cut [46] from 34 to 46 (fun s46 wx => s46 = .bool false ∧ Hid (Below W8.heap.size W8 wx))
          case first =>
            by_cases hk1 : 0 < k
            · obtain ⟨b2, off2, e2, _, f0, _⟩ := HS.out.at (i := k - 1) (Nat.lt_of_le_of_lt (Nat.sub_le _ _) hlt)
              cases e2
              have f0 := (HR8.out.bel.cell (p := ⟨b, off + (k - 1) * 4, none⟩) hbl).trans f0
              have hlb : ltB (s.getD (k - 1) default).1 y.1 = true := by
                cases h : ltB (s.getD (k - 1) default).1 y.1 with
                | true => rfl
                | false => exact absurd ⟨hk1, h⟩ hbad
              generalize s.getD (k - 1) default = yj at *
              have hsub : wrap64 ((k : Int) - 1) = ((k - 1 : Nat) : Int) := by rw [show ((k : Int) - 1) = ((k - 1 : Nat) : Int) by omega]; unfold wrap64; omega
              have hj0 : (0 : Int) ≤ ((k - 1 : Nat) : Int) := by omega
              have hj1 : ((k - 1 : Nat) : Int) < (s.length : Int) := by omega
              have hp0 : (0 : Int) < (k : Int) := by omega
              generalize yj.1 = pa at *
              generalize hpb : y.1 = pb at *
              have hlb2 : Op.bytesLess pa.toList pb.toList = true := hlb
              have HLB := Lib.hid hlb2
              clear hlb hlb2 hbad
              go_quiet (fail)
              rw [HLB.out]
              simp only [Bool.not_true]
              go_wp2_with fail
              go_meet
              exact ⟨rfl, Lib.hid (below_drewNV (Below.refl _ _) _)⟩
            · have hk2 : decide ((0 : Int) < (k : Int)) = false := decide_eq_false (by omega)
              have hk3 : ¬ (0 : Int) < (k : Int) := by omega
              clear hbad
              go_quiet (fail)
              go_wp2_with fail
              go_meet
              exact ⟨rfl, Lib.hid (below_drewNV (Below.refl _ _) _)⟩
          case rest =>
            obtain ⟨rfl, HBC⟩ := hcut
            generalize wc = W9 at *
            have HR9 := Lib.hid (HR8.out.below HBC.out)
            have HB9 := Lib.hid (HB8.out.trans (HBC.out.mono HB8.out.size))
            have HO9 := Lib.hid (HO8.out.below HBC.out)
            have HGY9 := Lib.hid ((HBC.out.block gy (Array.getElem?_eq_some_iff.1 HGY.out).1).trans HGY.out)
            clear z0 y0 HR8 HB8 HO8 HGY HBC hbad
            have c0 : W9.cell? ⟨w.heap.size, 0, none⟩ = some (.slice va vn vc) := cell_of_row _ _ 0 _ _ _ HR9.out.idx
            have c1 : W9.cell? ⟨w.heap.size, 1, none⟩ = some iv := cell_of_row _ _ 1 _ _ _ HR9.out.idx
            have y0 : W9.cell? ⟨gy, 0, none⟩ = some (.string y.1) := cell_of_row _ _ 0 _ _ _ HGY9.out
            have y1 : W9.cell? ⟨gy, 1, none⟩ = some (.int .i64 y.2.1) := cell_of_row _ _ 1 _ _ _ HGY9.out
            have y2 : W9.cell? ⟨gy, 2, none⟩ = some (.int .i64 y.2.2.1) := cell_of_row _ _ 2 _ _ _ HGY9.out
            have y3 : W9.cell? ⟨gy, 3, none⟩ = some (.int .i64 y.2.2.2) := cell_of_row _ _ 3 _ _ _ HGY9.out
            have HF := Lib.hid (HFI.out W9 y HYK.out HR9.out.bel)
            have hob : (findX X y).isSome = (findR X y).isSome := by unfold findX; rw [if_pos HP.out.idx]
            obtain ⟨ob, hobe⟩ : ∃ ob, (findX X y).isSome = ob := ⟨_, rfl⟩
            have HOB : Hid ((findR X y).isSome = ob) := Lib.hid (hob.symm.trans hobe)
            have HVX := Lib.hid (relF_val HP.out.idx y)
            have HRW : Hid (rowL X (s.take (k + 1)) = rowL X (s.take k) ++ [(y.1, canon [(plc (relF X y).ver, 1000000)])]) := Lib.hid (by rw [HTK.out]; exact rowL_snoc _ _ _)
            have HFB2 : Hid ((fb && ob) = (s.take (k + 1)).all fun y => (findR X y).isSome) := Lib.hid (by rw [HTK.out, HFB.out, ← HOB.out]; simp)
            unfold FindR at HF
            rw [hobe, show (findX X y).getD default = relF X y from rfl] at HF
            generalize relF X y = x at *
            simp only [relC] at HF
            clear hob hobe HTK
            go_wp2_with fail
            refine HF.out.mono ?_
            rintro e w10 ⟨r', rfl, hr', hb10⟩
            obtain ⟨qa, qc, hqe, _⟩ := hr'.now
            subst hqe
            have HR10 := Lib.hid (HR9.out.below hb10)
            have HB10 := Lib.hid (HB9.out.trans (hb10.mono HB9.out.size))
            have HO10 := Lib.hid (HO9.out.below hb10)
            have HGY10 := Lib.hid ((hb10.block gy (Array.getElem?_eq_some_iff.1 HGY9.out).1).trans HGY9.out)
            clear hr' hb10 HF c0 c1 y0 y1 y2 y3 HR9 HB9 HO9 HGY9
            have HGR : Hid (BoxR (w10.alloc (.cells #[.string x.path, intC x.ver.1, intC x.ver.2.1, intC x.ver.2.2, .slice qa x.reqs.length qc, .string x.ar, .string x.ifc, .string x.cert, .bool x.yk] 71)) w10.heap.size x (.slice qa x.reqs.length qc)) := Lib.hid (BoxR.made w10 x (.slice qa x.reqs.length qc))
            have HBA := Lib.hid (belQ w10 (.cells #[.string x.path, intC x.ver.1, intC x.ver.2.1, intC x.ver.2.2, .slice qa x.reqs.length qc, .string x.ar, .string x.ifc, .string x.cert, .bool x.yk] 71))
            go_upto_region 11 with fail
            generalize w10.alloc (.cells #[.string x.path, intC x.ver.1, intC x.ver.2.1, intC x.ver.2.2, .slice qa x.reqs.length qc, .string x.ar, .string x.ifc, .string x.cert, .bool x.yk] 71) = W11 at *
            have HR11 := Lib.hid (HR10.out.below HBA.out)
            have HB11 := Lib.hid (HB10.out.trans (HBA.out.mono HB10.out.size))
            have HO11 := Lib.hid (HO10.out.below HBA.out)
            have HGY11 := Lib.hid ((HBA.out.block gy (Array.getElem?_eq_some_iff.1 HGY10.out).1).trans HGY10.out)
            clear HR10 HB10 HO10 HGY10 HBA
            generalize w10.heap.size = gr at *
            go_cut [7] from 56 to 59 (fun s7 wx => s7 = .bool (fb && ob) ∧ wx = W11)
            case first =>
              cases fb with
              | false =>
                go_wp2_with fail
                go_meet
                exact ⟨rfl, rfl⟩
              | true =>
                go_wp2_with fail
                go_meet
                exact ⟨by rw [Bool.true_and], rfl⟩
            case rest =>
              obtain ⟨rfl, rfl⟩ := hcut
              generalize (fb && ob) = fc at *
              have hgy11 : gy < wc.heap.size := (Array.getElem?_eq_some_iff.1 HGY11.out).1
              have hgr11 : gr < wc.heap.size := HGR.out.lt
              have HSB : Hid (∀ W', Below wc.heap.size wc W' → W'.cell? ⟨gy, 0, none⟩ = some (.string y.1) ∧ BoxR W' gr x (.slice qa x.reqs.length qc)) := Lib.hid (fun W' hb => ⟨(hb.cell (p := ⟨gy, 0, none⟩) hgy11).trans (cell_of_row _ _ 0 _ _ _ HGY11.out), HGR.out.on hb⟩)
              have HPC := Lib.hid (fun W => mplace_any x (.slice qa x.reqs.length qc) W ⟨_, _, _, rfl⟩ HVX.out)
              have HAT := Lib.hid (fun W => AtLeast_new (plc x.ver) W)
              simp only [relC] at HPC
              generalize plc x.ver = pl at *
              obtain ⟨si0, hsi0, hsz0, hsz1, hsz2⟩ := info_parts info_reqs
              go_upto_region 12 with fail
              refine wp_region_noPanic ?_
              refine wp_region_held_drew (S := fun W' => W'.cell? ⟨gy, 0, none⟩ = some (.string y.1) ∧ BoxR W' gr x (.slice qa x.reqs.length qc)) (by kernel_rfl) (HSB.out _ (Below.refl _ _).drew) (fun hS0 => ?_)
              (refine zl3 0 ?_ rfl ?_ ?_; rotate_left; (· (intro w hSw; obtain ⟨y0, hbx⟩ := hSw; obtain ⟨d0, d1, d2, d3, d4, d5, d6, d7, d8⟩ := hbx.cells; clear hbx; go_simp; try with_reducible rfl)); (try simp only [zl1]))
              (refine zl3 1 ?_ rfl ?_ ?_; rotate_left; (· (intro w hSw; obtain ⟨y0, hbx⟩ := hSw; obtain ⟨d0, d1, d2, d3, d4, d5, d6, d7, d8⟩ := hbx.cells; clear hbx; go_simp; try with_reducible rfl)); (try simp only [zl1]))
              (refine zl3 2 ?_ rfl ?_ ?_; rotate_left; (· (intro w hSw; obtain ⟨y0, hbx⟩ := hSw; obtain ⟨d0, d1, d2, d3, d4, d5, d6, d7, d8⟩ := hbx.cells; clear hbx; go_simp; try with_reducible rfl)); (try simp only [zl1]))
              (refine zl3 3 ?_ rfl ?_ ?_; rotate_left; (· (intro w hSw; obtain ⟨y0, hbx⟩ := hSw; obtain ⟨d0, d1, d2, d3, d4, d5, d6, d7, d8⟩ := hbx.cells; clear hbx; go_simp; try with_reducible rfl)); (try simp only [zl1]))
              refine wpAnyH_ready (rs := [4]) (by kernel_rfl) (by simp) (AllReadyH.cons rfl (fun K hK => ?_) AllReadyH.nil)
              go_simp
              refine (HPC.out _).mono ?_
              rintro e w12 ⟨rfl, hb12⟩
              have HB12 := Lib.hid ((Below.refl wc.heap.size wc).drew.trans hb12)
              clear hS0
              have hS0 := HSB.out _ HB12.out
              refine hK.out _ _ hS0 (fun _ => ?_)
              clear hK K hb12
              (try simp only [zl1])
              refine wpAnyH_ready (rs := [5]) (by kernel_rfl) (by simp) (AllReadyH.cons rfl (fun K hK => ?_) AllReadyH.nil)
              go_simp
              refine (HAT.out _).mono ?_
              rintro e w13 ⟨sv, rfl, hsv, hb13, hnew⟩
              have HB13 := Lib.hid (HB12.out.trans (hb13.mono HB12.out.size))
              have HNEW := Lib.hid (fun b (hb : sv.ownBlock = some b) => Nat.le_trans HB12.out.size (hnew b hb))
              obtain ⟨va3, vc3, hve⟩ : ∃ a c, sv = .slice a (canon [(pl, 1000000)]).length c := by obtain ⟨a, c, e, _⟩ := hsv; exact ⟨a, c, e⟩
              have HSV := Lib.hid hsv
              clear hS0
              have hS0 := HSB.out _ HB13.out
              refine hK.out _ _ hS0 (fun _ => ?_)
              clear hK K hb13 hsv hnew
              (try simp only [zl1])
              (refine zl3 6 ?_ rfl ?_ ?_; rotate_left; (· (intro w hSw; obtain ⟨y0, hbx⟩ := hSw; obtain ⟨d0, d1, d2, d3, d4, d5, d6, d7, d8⟩ := hbx.cells; clear hbx; go_simp; try with_reducible rfl)); (try simp only [zl1]))
              have HO13 := Lib.hid (HO11.out.below HB13.out)
              have HLO : Hid (∀ b, sv.ownBlock = some b → (Value.slice oa k oc).ownBlock ≠ some b) := Lib.hid (fun b hb h2 => by
                have h3 := (HO11.out.own.lt b h2).2
                exact absurd (HNEW.out b hb) (Nat.not_le_of_lt h3))
              have HN14 : Hid ((w13.alloc (.cells #[.string y.1, sv] 58)).heap[w13.heap.size]? = some (.cells #[.string y.1, sv] 58)) := Lib.hid (heap_alloc_new w13 _)
              have HB14 := Lib.hid (HB13.out.alloc HB13.out.size (.cells #[.string y.1, sv] 58))
              have HSV14 := Lib.hid ((HSV.out.below (belQ w13 (.cells #[.string y.1, sv] 58)) (Nat.le_refl _)).mono (belQ w13 (.cells #[.string y.1, sv] 58)).size)
              have HO14 := Lib.hid (HO13.out.below (belQ w13 (.cells #[.string y.1, sv] 58)))
              subst hve
              refine wpAnyH_ready (rs := [7]) (by kernel_rfl) (by simp) (AllReadyH.cons rfl (fun K hK => ?_) AllReadyH.nil)
              go_simp
              clear hS0
              have hS0 := HSB.out _ HB14.out
              refine hK.out _ _ hS0 (fun _ => ?_)
              clear hK K
              (try simp only [zl1])
              have HGY14 := Lib.hid ((HB14.out.block gy hgy11).trans HGY11.out)
              have HGR14 := Lib.hid (HGR.out.on HB14.out)
              have HNE : Hid (∀ b, (Value.slice oa k oc).ownBlock = some b → b ≠ gy ∧ b ≠ gr) := Lib.hid (fun b hb => by
                obtain ⟨_, _, cs, hc⟩ := own_lo HO14.out.own b hb
                refine ⟨fun e => ?_, fun e => ?_⟩
                · subst e
                  have h1 := HGY14.out
                  rw [hc] at h1
                  injection h1 with h1
                  injection h1 with _ h1
                  exact absurd h1 (by decide)
                · subst e
                  have h1 : (w13.alloc (.cells #[.string y.1, .slice va3 (canon [(pl, 1000000)]).length vc3] 58)).heap[b]? = _ := HGR14.out
                  rw [hc] at h1
                  injection h1 with h1
                  injection h1 with _ h1
                  exact absurd h1 (by decide))
              have hszA : w1.heap.size ≤ (w13.alloc (.cells #[.string y.1, .slice va3 (canon [(pl, 1000000)]).length vc3] 58)).heap.size := Nat.le_trans HB11.out.size HB14.out.size
              generalize hW14 : w13.alloc (.cells #[.string y.1, .slice va3 (canon [(pl, 1000000)]).length vc3] 58) = W14 at *
              clear hW14
              refine wpAnyH_ready (rs := [8]) (by kernel_rfl) (by simp) (AllReadyH.cons rfl (fun K hK => ?_) AllReadyH.nil)
              refine oper_of_list (ops := #[]) rfl ?_
              refine wpList_append_own_at _ rfl _ _ 26 rfl w1.heap.size 58 si0 _ 2 40 Tryz.underlying26 hsi0 hsz0 hsz1 hsz2 rfl (by decide) (.slice oa k oc) _ _ (by rfl) HO14.out.own ⟨w13.heap.size, 0, none⟩ 1 1 [.string y.1, .slice va3 (canon [(pl, 1000000)]).length vc3] (by rfl) (by rfl) (World.news_of_block HN14.out) (by simp [Value.oneCell']) (by rw [HRL.out]; unfold maxLen; omega) (by rw [HRL.out]; omega) hszA ?_
              intro v' wB hown' hgrow _ hat
              have HRX := Lib.hid (HO14.out.push (q := (y.1, canon [(pl, 1000000)])) HSV14.out (fun _ => HLO.out) hown' hgrow hat)
              have HGW := Lib.hid hgrow
              have HBF : Hid (Below w1.heap.size w1 wB) := Lib.hid ((HB11.out.trans (HB14.out.mono HB11.out.size)).grown hgrow hszA (fun b hb => (own_lo HO14.out.own b hb).1))
              obtain ⟨g3, gc3, rfl⟩ := ownsRow_succ hown'
              clear hown' hgrow hat
              have hSB : wB.cell? ⟨gy, 0, none⟩ = some (.string y.1) ∧ BoxR wB gr x (.slice qa x.reqs.length qc) := by
                have hS := HSB.out _ HB14.out
                refine ⟨(HGW.out.cell_far ⟨gy, 0, none⟩ (Nat.lt_of_lt_of_le hgy11 HB14.out.size) (fun e => (HNE.out gy e.symm).1 rfl)).trans hS.1, (HGW.out.block gr (Nat.lt_of_lt_of_le hgr11 HB14.out.size) (fun e => (HNE.out gr e.symm).2 rfl)).trans hS.2⟩
              refine wpList_nil ?_
              show K _ _
              refine hK.out _ _ hSB (fun _ => ?_)
              clear hK K hS0
              have hS0 := hSB
              clear hSB
              (try simp only [zl1])
              (refine zl3 9 ?_ rfl ?_ ?_; rotate_left; (· (intro w hSw; obtain ⟨y0, hbx⟩ := hSw; obtain ⟨d0, d1, d2, d3, d4, d5, d6, d7, d8⟩ := hbx.cells; clear hbx; go_simp; try with_reducible rfl)); (try simp only [zl1]))
              refine wpAnyH_done (by kernel_rfl) ?_ _
              refine NoPanic.normal ?_
              clear hS0 HSB HNE HGY14 HGR14 HN14 HSV14 HO14 HB14 HB13 HB12 HO13 HLO HNEW HSV HPC HAT HO11 HGR HGY11
              go_wp2_with fail
              go_roundw
              case rel => exact ⟨k + 1, fc, _, hlt, by go_num, rfl, HFB2, Lib.hid (by rw [HRW.out]; exact HRX.out), HK2, HBF⟩
              case measure => simp [intOf]; omega
end Go.Proofs.YtenfkejbndifdaaGreatDoor
