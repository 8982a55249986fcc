/- Plain: the root that Why chooses, and its chain. One operation of a region, by the laws for lists of operations. -/
import Derived.Test.YtenfkejbndifdaaGreatDoorUR
import Derived.Test.YtenfkejbndifdaaGreatDoorUL
import Derived.Test.YtenfkejbndifdaaGreatDoorUF
import Derived.Test.YtenfkejbndifdaaGreatDoorUD
import Derived.Test.YtenfkejbndifdaaGreatDoorUH
import Derived.Test.YtenfkejbndifdaaGreatDoorUG
import Derived.Test.YtenfkejbndifdaaGreatDoorQShelf
import Derived.Shelf.SlicesQ.Contains
import Derived.Shelf.SlicesQ.Equal
import Derived.Laws.StructEq
namespace Go.Proofs.YtenfkejbndifdaaGreatDoor
set_option linter.unusedVariables false
set_option linter.unusedSimpArgs false
open Go Go.Maps

theorem first_find {α : Type} {P : α → Bool} {l : List α} : (firstI P l < 0 ∧ l.find? P = none) ∨ ∃ (k : Nat) (hk : k < l.length), firstI P l = (k : Int) ∧ l.find? P = some l[k] := by
  unfold firstI
  cases h : l.findIdx? P with
  | none =>
    left
    refine ⟨by simp, List.find?_eq_none.2 fun x hx => ?_⟩
    rw [List.findIdx?_eq_none_iff.1 h x hx]
    decide
  | some k =>
    obtain ⟨hk, h1, h2⟩ := List.findIdx?_eq_some_iff_getElem.1 h
    refine .inr ⟨k, hk, rfl, find_at hk (fun x hx => ?_) h1⟩
    obtain ⟨j, hj, rfl⟩ := List.mem_iff_getElem.1 hx
    have hj2 : j < k := by simp at hj; omega
    have := h2 j hj2
    simp only [List.getElem_take]
    simpa using this
theorem find_least {l : List Nat} (hl : l.Pairwise (· ≤ ·)) {P : Nat → Bool} {j : Nat} (h : l.find? P = some j) : j ∈ l ∧ P j = true ∧ ∀ x ∈ l, P x = true → j ≤ x := by
  induction l with
  | nil => cases h
  | cons a l ih =>
    rw [List.pairwise_cons] at hl
    cases ha : P a with
    | true =>
      rw [List.find?_cons_of_pos ha] at h
      cases h
      refine ⟨by simp, ha, fun x hx _ => ?_⟩
      rcases List.mem_cons.1 hx with rfl | hx
      · exact Nat.le_refl _
      · exact hl.1 x hx
    | false =>
      rw [List.find?_cons_of_neg (by rw [ha]; decide)] at h
      obtain ⟨h1, h2, h3⟩ := ih hl.2 h
      refine ⟨List.mem_cons_of_mem _ h1, h2, fun x hx hp => ?_⟩
      rcases List.mem_cons.1 hx with rfl | hx
      · rw [ha] at hp; cases hp
      · exact h3 x hx hp
theorem find_sorted_eq {l m : List Nat} (hl : l.Pairwise (· ≤ ·)) (hm : m.Pairwise (· ≤ ·)) (h : ∀ x, x ∈ l ↔ x ∈ m) {P Q : Nat → Bool} (hPQ : ∀ x ∈ l, P x = Q x) : l.find? P = m.find? Q := by
  cases h1 : l.find? P with
  | none =>
    symm
    rw [List.find?_eq_none] at h1 ⊢
    intro x hx
    have hx2 := (h x).2 hx
    rw [← hPQ x hx2]
    exact h1 x hx2
  | some j =>
    obtain ⟨a1, a2, a3⟩ := find_least hl h1
    cases h2 : m.find? Q with
    | none =>
      exact absurd (by rw [← hPQ j a1]; exact a2) (List.find?_eq_none.1 h2 j ((h j).1 a1))
    | some k =>
      obtain ⟨b1, b2, b3⟩ := find_least hm h2
      have hk := (h k).2 b1
      have e1 := a3 k hk (by rw [hPQ k hk]; exact b2)
      have e2 := b3 j ((h j).1 a1) (by rw [← hPQ j a1]; exact a2)
      rw [show j = k by omega]
theorem why_best {X : List RelL} {roots : List ReqL} {p : ByteArray} {t : Nat} (hp : PlainP X roots) (ha : AllM false X roots) (hrt : RchM false X roots t) (htg : tgtM X roots p = some t) :
    ∃ (r : Nat) (hr : r < roots.length) (k m : Nat), bestK (rootD X roots t) roots.length = some r ∧ namedI false X roots[r] = some k ∧ dD X t k = m ∧ whyV X roots p = ((p, (r : Int), (descP (sucs X.length (relEs X)) (dT X t) m k).map fun i => keyL (X.getD i default)), 0) := by
  have htl := hrt.lt.1
  have hm := selM_ok hp ha
  have hds : ∀ r, (hr : r < roots.length) → ∃ k, namedI false X roots[r] = some k ∧ (rootD X roots t).getD r (-1) = gD (dT X t) k := fun r hr => by
    obtain ⟨k, hk⟩ := ha.1 _ (List.getElem_mem hr)
    refine ⟨k, hk, ?_⟩
    unfold rootD
    rw [List.getD_eq_getElem?_getD, List.getElem?_map, List.getElem?_eq_getElem hr]
    simp only [Option.map_some, Option.getD_some]
    rw [hk]
  cases hb : bestK (rootD X roots t) roots.length with
  | none =>
    exfalso
    obtain ⟨q, hq, k, hk, hr⟩ := reach_rch hrt
    obtain ⟨r, hr2, rfl⟩ := List.mem_iff_getElem.1 hq
    obtain ⟨k2, hk2, hd⟩ := hds r hr2
    rw [hk] at hk2
    cases hk2
    have h1 := bestK_none hb r hr2
    obtain ⟨m, hw⟩ := hr.walk
    have := (walk_dist (swap_dist X.length (relEs X) t htl) hw).1
    unfold dT at hd
    omega
  | some r =>
    obtain ⟨hr, h0⟩ := bestK_some hb
    obtain ⟨k, hk, hd⟩ := hds r hr
    rw [hd] at h0
    obtain ⟨m, hmm⟩ : ∃ m : Nat, gD (dT X t) k = m := ⟨(gD (dT X t) k).toNat, by omega⟩
    have hpd := path_desc h0
    rw [hmm, Int.toNat_natCast] at hpd
    refine ⟨r, hr, k, m, rfl, hk, hmm, ?_⟩
    have hgr : roots.getD r default = roots[r] := by rw [List.getD_eq_getElem?_getD, List.getElem?_eq_getElem hr]; rfl
    unfold whyV
    rw [hm]
    simp only [ne_eq, not_true, if_false, htg, hb, hgr, hk, Option.getD_some]
    rw [hpd]
theorem find_edg {X : List RelL} {t : Nat} {i m : Nat} (hi : i < X.length) : ((sucs X.length (relEs X)).getD i []).find? (fun k => gD (dT X t) k == (m : Int)) = (edgN X i).find? (fun k => decide (dD X t k = (m : Int))) := by
  rw [sucs_getD _ _ _ hi]
  refine find_sorted_eq ((sucL_sorted _ _ _).imp Nat.le_of_lt) (srtN_sorted _) (fun x => ?_) (fun x _ => ?_)
  · have := rel_suc (X := X) (a := i) (b := x)
    rw [sucs_getD _ _ _ hi] at this
    rw [this]
    exact ⟨fun h => edgN_mem.2 h.2, fun h => ⟨hi, edgN_mem.1 h⟩⟩
  · rw [Bool.eq_iff_iff]
    simp
theorem desc_step {X : List RelL} {t : Nat} (ht : t < X.length) {i m : Nat} (hi : i < X.length) (hd : dD X t i = (m : Int) + 1) {P : Nat → Bool} (hP : ∀ j ∈ edgN X i, P j = decide (dD X t j = (m : Int))) :
    ∃ (n : Nat) (hn : n < (edgN X i).length), firstI P (edgN X i) = (n : Int) ∧ dD X t (edgN X i)[n] = m ∧ descP (sucs X.length (relEs X)) (dT X t) (m + 1) i = i :: descP (sucs X.length (relEs X)) (dT X t) m (edgN X i)[n] := by
  obtain ⟨j0, hj0, hm0⟩ := dD_desc ht hd
  rcases first_find (P := P) (l := edgN X i) with ⟨_, hf⟩ | ⟨n, hn, he, hf⟩
  · have := List.find?_eq_none.1 hf j0 hj0
    rw [hP j0 hj0, decide_eq_true hm0] at this
    exact absurd rfl this
  · have hmem := List.getElem_mem hn
    have h1 := List.find?_some hf
    rw [hP _ hmem] at h1
    refine ⟨n, hn, he, of_decide_eq_true h1, ?_⟩
    have hfe : (edgN X i).find? (fun k => decide (dD X t k = (m : Int))) = some (edgN X i)[n] := by
      rw [← hf]
      exact find_sorted_eq (srtN_sorted _) (srtN_sorted _) (fun x => Iff.rfl) (fun x hx => (hP x hx).symm)
    show i :: (match ((sucs X.length (relEs X)).getD i []).find? (fun k => gD (dT X t) k == (m : Int)) with
      | some k => descP (sucs X.length (relEs X)) (dT X t) m k
      | none => []) = _
    rw [find_edg hi, hfe]
end Go.Proofs.YtenfkejbndifdaaGreatDoor

namespace Go.Proofs.YtenfkejbndifdaaGreatDoor
set_option linter.unusedVariables false
set_option linter.unusedSimpArgs false
open Go Go.RowKit

def OnlyN (K : Act → World → Prop) : Exit → Act → World → Prop
  | .normal, a, w => K a w
  | _, _, _ => False
theorem oper_of_list {P : Program} {ops : Array Oper} {o : Oper} {a : Act} {w : World} {K : Act → World → Prop} {Q : Exit → Act → World → Prop} (hg : o.guard = none) (h : wpList P ops (OnlyN K) [o] a w) : o.wp P a w K Q := by
  unfold wpList at h
  rw [if_pos (by simp [Region.wanted, hg])] at h
  rcases h with h | ⟨_, a0, w0, hh⟩
  · exact oper_tail (T := OnlyN K) (fun e a w ht => by cases e <;> first | rfl | exact ht.elim) (fun a w hk => hk) h
  · exact hh.elim
theorem desc_len (S : List (List Nat)) (far : List Int) : ∀ m n, (descP S far m n).length ≤ m + 1
  | 0, n => by unfold descP; simp
  | m + 1, n => by
    unfold descP
    cases (S.getD n []).find? (fun k => gD far k == (m : Int)) with
    | none => simp
    | some k => have := desc_len S far m k; simp; omega
theorem cells_as {W W' : World} {b o : Nat} {x : RelL} {r : Value} (e : ∀ j, W'.cell? ⟨b, j, none⟩ = W.cell? ⟨b, j, none⟩) (h : CellsAt W b o x r) : CellsAt W' b o x r := by
  obtain ⟨d0, d1, d2, d3, d4, d5, d6, d7, d8⟩ := h
  exact ⟨(e _).trans d0, (e _).trans d1, (e _).trans d2, (e _).trans d3, (e _).trans d4, (e _).trans d5, (e _).trans d6, (e _).trans d7, (e _).trans d8⟩
theorem wrap_succ {k : Nat} (h : k ≤ 1000000000) : wrap64 ((k : Int) + 1) = (k : Int) + 1 := by unfold wrap64; omega
theorem wrap_pred {k : Nat} (h : k ≤ 1000000000) : wrap64 (((k + 1 : Nat) : Int) - 1) = (k : Int) := by unfold wrap64; omega
def CapOk (v : Value) : Prop := ∃ a n c, v = .slice a n c ∧ n ≤ c
theorem own_cap {W : World} {B e s n : Nat} {v : Value} {xs : List Value} (h : W.ownsRow B e s v n xs) : CapOk v := by
  rcases h.2 with ⟨rfl, _⟩ | ⟨g, cap, cur, rfl, _, _, hc, _⟩
  · exact ⟨_, _, _, rfl, Nat.le_refl _⟩
  · exact ⟨_, _, _, rfl, hc⟩
theorem CapOk.le {a : Option Addr} {n c : Nat} (h : CapOk (.slice a n c)) : n ≤ c := by
  obtain ⟨a, n, c, e, h⟩ := h
  cases e
  exact h
theorem kk0 (k : Nat) : (0 : Int) ≤ (k : Int) + 1 := by omega
theorem kk1 {k n c : Nat} (h : k < n) (h2 : n ≤ c) : (k : Int) + 1 ≤ (c : Int) := by omega
theorem kk2 {k n c : Nat} (h : k < n) (h2 : n ≤ c) : ¬ c = k := by omega
theorem kk3 {k n : Nat} (h : k < n) (h2 : n ≤ 1000000) : k ≤ 1000000000 := by omega
theorem i64_succ {k : Nat} (h : k ≤ 1000000000) : IntKind.i64.wrap ((k : Int) + 1) = (k : Int) + 1 := IntWalk.i64_in _ (by omega)
theorem some_ne {a b : Nat} (h : a ≠ b) : some a ≠ some b := fun e => h (Option.some.inj e)
theorem chain_le {α β : Type} {ch : List β} {t u : List α} {f : α → β} {m n : Nat} (h : ch ++ t.map f = u.map f) (hu : u.length ≤ m + 1) (hm : m ≤ n) : ch.length ≤ n + 1 := by
  have h := congrArg List.length h
  rw [List.length_append, List.length_map, List.length_map] at h
  omega
theorem app1 {n x : Nat} (h : n ≤ x + 1) (hx : x ≤ 1000000) : n + 1 ≤ maxLen := by unfold maxLen; omega
theorem app2 {n x : Nat} (h : n ≤ x + 1) (hx : x ≤ 1000000) : (n + 1) * 40 ≤ 140737488355328 := by omega
theorem kk4 {j n c : Nat} (h : j < n) (h2 : n ≤ c) : (j : Int) ≤ (c : Int) := by omega
theorem kk5 {j n : Nat} (h : j < n) : (j : Int) + 1 ≤ (n : Int) := by omega
theorem kk6 {j n : Nat} (h : j < n) (h2 : n ≤ 16) : j ≤ 1000000000 := by omega
theorem take_small {α : Type} {R : List α} {j : Nat} (h : R.length ≤ 16) : (R.take j).length ≤ 1000000 := by rw [List.length_take]; omega
theorem pred_succ (j : Nat) : ((j + 1 : Nat) : Int) - 1 = (j : Int) := by omega
theorem cut_small {j n : Nat} (h : j < n) (h2 : n ≤ 16) : min j n + (n - (j + 1)) ≤ 16 := by omega
theorem app3 {n : Nat} (h : n ≤ 16) : n ≤ maxLen := by unfold maxLen; omega
theorem app4 {n : Nat} (h : n ≤ 16) : n * 40 ≤ 140737488355328 := by omega
theorem drop_none {α : Type} {R : List α} {j c : Nat} (h : R.length ≤ c) (hc : c = j + 1) : R.drop (j + 1) = [] := List.drop_eq_nil_of_le (by omega)
end Go.Proofs.YtenfkejbndifdaaGreatDoor

namespace Go.Proofs.YtenfkejbndifdaaGreatDoor
set_option linter.unusedVariables false
set_option linter.unusedSimpArgs false
open Go Go.RowKit Go.Shelf Go.Lib

def selRen : Ren := ⟨fun x => if x = 6 then 112 else if x = 7 then 65 else 24, fun x => if x = 0 then 0 else if x = 3 then 3 else if x = 4 then 4 else if x = 22 then 27 else 43, fun x => x⟩
theorem selLays7 : SlLaysQ.n7 Tryz.prog selRen := {
  mixed := by kernel_rfl
  f6 := ⟨Tryz.f112.name, by decide, Tryz.func112.trans (congrArg some (by kernel_rfl))⟩
  f7 := ⟨Tryz.f65.name, by decide, Tryz.func65.trans (congrArg some (by kernel_rfl))⟩
  t0 := Tryz.underlying0
  a0 := Tryz.isAgg0
  z0 := Tryz.sizeOf0
  v0 := Tryz.zeroValue0
  t3 := Tryz.underlying3
  a3 := Tryz.isAgg3
  z3 := Tryz.sizeOf3
  v3 := Tryz.zeroValue3
  t4 := Tryz.underlying4
  a4 := Tryz.isAgg4
  z4 := Tryz.sizeOf4
  v4 := Tryz.zeroValue4
  t22 := Tryz.underlying27
  a22 := Tryz.isAgg27
  z22 := Tryz.sizeOf27
  v22 := Tryz.zeroValue27 }
theorem selLays8 : SlLaysQ.n8 Tryz.prog selRen := {
  mixed := by kernel_rfl
  f8 := ⟨Tryz.f24.name, by decide, Tryz.func24.trans (congrArg some (by kernel_rfl))⟩
  t0 := Tryz.underlying0
  a0 := Tryz.isAgg0
  z0 := Tryz.sizeOf0
  v0 := Tryz.zeroValue0
  t3 := Tryz.underlying3
  a3 := Tryz.isAgg3
  z3 := Tryz.sizeOf3
  v3 := Tryz.zeroValue3
  t4 := Tryz.underlying4
  a4 := Tryz.isAgg4
  z4 := Tryz.sizeOf4
  v4 := Tryz.zeroValue4
  t22 := Tryz.underlying27
  a22 := Tryz.isAgg27
  z22 := Tryz.sizeOf27
  v22 := Tryz.zeroValue27 }
set_option maxRecDepth 100000 in
theorem sel_neq : NeqAt Tryz.prog 43 (fun x => .agg (selC x).toArray) (fun x y => decide (x = y)) := by
  refine ⟨fun x y w => ?_, GuardAt.agg _ (by kernel_rfl)⟩
  have hS : Tryz.prog.underlying 43 = some (.struct (Tryz.prog.fieldsOf 43)) := by kernel_rfl
  have hp : Tryz.prog.stoodInHeld 43 = false := by kernel_rfl
  simp only [selC]
  rw [run_neq_struct, show (10000 : Nat) = 9999 + 1 from rfl, run_equalIn_agg w 9999 43 _ _ hS hp]
  clear hS hp
  obtain ⟨d, hd⟩ : ∃ d, (9999 : Nat) = d + 9 := ⟨9990, rfl⟩
  rw [hd]
  clear hd
  have u9 := Tryz.underlying9
  have a9 := Tryz.isAgg9
  have z9 := Tryz.sizeOf9
  have a4 := Tryz.isAgg41
  have z4 := Tryz.sizeOf41
  have hv := ver_equal
  simp only [Program.fieldsOf, Tryz.underlying43]
  go_simp
  obtain ⟨xp, x1, x2, x3⟩ := x
  obtain ⟨yp, y1, y2, y3⟩ := y
  by_cases h0 : xp.toList = yp.toList
  · have h0' := bytes_inj h0
    subst h0'
    by_cases h1 : x1 = y1 <;> by_cases h2 : x2 = y2 <;> by_cases h3 : x3 = y3 <;> simp [h1, h2, h3]
  · have h0' : ¬ xp = yp := fun e => h0 (by rw [e])
    simp [h0, h0']
theorem sels_cells {B b off cap : Nat} {es : List SelL} {w : World} (h : SelsOf B (.slice (some ⟨b, off, none⟩) es.length cap) es w) : ∀ j, j < es.length → ∀ i v, (selC es[j]!)[i]? = some v → w.cell? ⟨b, off + j * 4 + i, none⟩ = some v := by
  obtain ⟨ao, c, e, h⟩ := h
  cases e
  intro j hj i v hv
  rw [getElem!_pos es j hj] at hv
  obtain ⟨b', off', e, _, h1, h2, h3, h4⟩ := h j es[j] (by simp [hj])
  cases e
  match i, hv with
  | 0, hv => cases hv; exact h1
  | 1, hv => cases hv; exact h2
  | 2, hv => cases hv; exact h3
  | 3, hv => cases hv; exact h4
  | i + 4, hv => simp [selC] at hv
set_option maxRecDepth 100000 in
open Classical in
theorem con_sel (v : Value) (es : List SelL) (y : SelL) (w : World) (hes : es.length ≤ 1000000000) (hE : SelsOf w.heap.size v es w) :
    Calls Tryz.prog 65 #[v, .agg #[.string y.1, .int .i64 y.2.1, .int .i64 y.2.2.1, .int .i64 y.2.2.2]] w fun e w' => e = .returned (.bool (decide (y ∈ es))) ∧ Below w.heap.size w w' := by
  by_cases hp : 0 < es.length
  · have hE0 := hE
    obtain ⟨ao, c, rfl, h⟩ := hE
    obtain ⟨b, off, rfl, _⟩ := h 0 es[0] (by simp [hp])
    refine (AnyQ.slices_Contains selLays7 4 Tryz.isAgg43 Tryz.sizeOf43 selC (fun _ => rfl) _ sel_eql b off es.length c es y w (Nat.le_refl _) (by omega) (sels_cells hE0)).mono ?_
    rintro e w' ⟨rfl, hb⟩
    refine ⟨?_, hb⟩
    congr 2
    rw [List.take_length]
    by_cases hm : y ∈ es
    · rw [decide_eq_true hm, List.any_eq_true]
      exact ⟨_, hm, by simp⟩
    · rw [decide_eq_false hm, ← Bool.not_eq_true, List.any_eq_true]
      rintro ⟨z, hz, he⟩
      rw [decide_eq_true_eq] at he
      exact hm (he ▸ hz)
  · have : es = [] := List.length_eq_zero_iff.1 (by omega)
    subst this
    obtain ⟨ao, c, rfl, _⟩ := hE
    have HIX : Hid (∀ W, Calls Tryz.prog 112 #[.slice ao 0 c, .agg #[.string y.1, .int .i64 y.2.1, .int .i64 y.2.2.1, .int .i64 y.2.2.2]] W fun e w' => e = .returned (.int .i64 (-1)) ∧ Below W.heap.size W w') := Lib.hid (fun W => by
      go_enter Tryz.func112, Tryz.ntmps112
      go_wp2_with fail
      go_loopw [8] (fun q wr => q = .int .i64 0 ∧ Hid (Below W.heap.size W wr)) (fun _ _ => 0)
      case atStart => exact ⟨rfl, Lib.hid ((Below.refl _ _).alloc (Nat.le_refl _) _)⟩
      case round =>
        obtain ⟨rfl, HB⟩ := hrel
        go_wp2_with fail
        go_ret
        exact ⟨rfl, HB.out⟩)
    go_enter Tryz.func65, Tryz.ntmps65
    go_wp2_with fail
    refine (HIX.out _).mono ?_
    rintro e w1 ⟨rfl, hb1⟩
    go_wp2_with fail
    go_ret
    exact ⟨by simp, (belQ w _).trans (hb1.mono (by simp))⟩
theorem allEq_eq : ∀ {l m : List SelL}, Lib.allEq (fun x y => decide (x = y)) l m = decide (l = m)
  | [], [] => rfl
  | [], _ :: _ => by simp [Lib.allEq]
  | _ :: _, [] => by simp [Lib.allEq]
  | x :: l, y :: m => by
    unfold Lib.allEq
    rw [allEq_eq]
    by_cases h1 : x = y <;> by_cases h2 : l = m <;> simp [h1, h2]
set_option maxRecDepth 100000 in
theorem eq_sels (v u : Value) (l m : List SelL) (w : World) (hl : l.length ≤ 1000000000) (hm : m.length ≤ 1000000000) (h1 : SelsOf w.heap.size v l w) (h2 : SelsOf w.heap.size u m w) :
    Calls Tryz.prog 24 #[v, u] w fun e w' => e = .returned (.bool (decide (l = m))) ∧ Below w.heap.size w w' := by
  have g1 := h1
  have g2 := h2
  obtain ⟨a1, c1, rfl, k1⟩ := h1
  obtain ⟨a2, c2, rfl, k2⟩ := h2
  by_cases hlm : l.length = m.length
  · by_cases hp : 0 < l.length
    · obtain ⟨b1, o1, rfl, _⟩ := k1 0 l[0] (by simp [hp])
      obtain ⟨b2, o2, rfl, _⟩ := k2 0 m[0] (by simp [show 0 < m.length by omega])
      refine (AnyQ.slices_Equal selLays8 4 Tryz.isAgg43 Tryz.sizeOf43 selC (fun _ => rfl) _ sel_neq b1 o1 l.length c1 b2 o2 m.length c2 l m w (Nat.le_refl _) (Nat.le_refl _) (by omega) (by omega) (sels_cells g1) (sels_cells g2)).mono ?_
      rintro e w' ⟨rfl, q, rfl⟩
      refine ⟨?_, below_drewN_q (Below.refl _ _) _⟩
      rw [List.take_length, List.take_length, allEq_eq]
    · have e1 : l = [] := List.length_eq_zero_iff.1 (by omega)
      have e2 : m = [] := List.length_eq_zero_iff.1 (by omega)
      subst e1
      subst e2
      clear k1 k2 g1 g2 hlm hp hl hm
      go_enter Tryz.func24, Tryz.ntmps24
      go_wp2_with fail
      go_loopw [13] (fun q wr => q = .int .i64 0 ∧ wr = w) (fun _ _ => 0)
      case atStart => exact ⟨rfl, rfl⟩
      case round =>
        obtain ⟨rfl, rfl⟩ := hrel
        go_wp2_with fail
        go_ret
        exact ⟨by simp, Below.refl _ _⟩
  · have hne : ((l.length : Int) != (m.length : Int)) = true := by simp; omega
    have hd : decide (l = m) = false := decide_eq_false fun e => hlm (by rw [e])
    rw [hd]
    clear k1 k2 g1 g2
    go_enter Tryz.func24, Tryz.ntmps24
    go_wp2_with fail
    go_ret
    exact ⟨rfl, Below.refl _ _⟩
end Go.Proofs.YtenfkejbndifdaaGreatDoor
