/- Minimal version selection, plain: it satisfies; the newest one; further roots; growing requirements. Graphs, plain: the shortest cycle as the program finds it. Graphs, plain: a shortest way is one, and no edge makes it shorter. Minimal version selection, plain: causes. -/
import Derived.Test.YtenfkejbndifdaaGreatDoorQO
import Derived.Test.YtenfkejbndifdaaGreatDoorQB
import Derived.Test.YtenfkejbndifdaaGreatDoorQF
namespace Go.Proofs.YtenfkejbndifdaaGreatDoor
set_option linter.unusedVariables false
set_option linter.unusedSimpArgs false
open Go

noncomputable def selL (nw : Bool) (X : List RelL) (roots : List ReqL) : List SelL := (topM nw X roots).map fun i => keyL (X.getD i default)
theorem selL_mem {nw : Bool} {X : List RelL} {roots : List ReqL} {y : SelL} : y ∈ selL nw X roots ↔ ∃ i, i ∈ topM nw X roots ∧ keyL (X.getD i default) = y := by
  unfold selL
  rw [List.mem_map]
theorem selL_incr {nw : Bool} {X : List RelL} {roots : List ReqL} (hX : IdxOk X) : incrS (selL nw X roots) := selM_incr hX
theorem RchM.more {nw : Bool} {X : List RelL} {r1 r2 : List ReqL} (h : ∀ q ∈ r1, q ∈ r2) {i : Nat} (hi : RchM nw X r1 i) : RchM nw X r2 i := by
  induction hi with
  | root hq hn => exact .root (h _ hq) hn
  | step _ hq hn ih => exact .step ih hq hn
def leastS (s : List SelL) (p : ByteArray) : Int := match s.find? fun y => decide (y.1 = p) with
  | some y => plc y.2
  | none => -1
def GrowP (X : List RelL) : Prop := ∀ i, i + 1 < X.length → (X.getD i default).path = (X.getD (i + 1) default).path → ∀ q ∈ (X.getD i default).reqs, ∃ p ∈ (X.getD (i + 1) default).reqs, p.1 = q.1 ∧ subB p.2 q.2 = true
end Go.Proofs.YtenfkejbndifdaaGreatDoor

namespace Go.Proofs.YtenfkejbndifdaaGreatDoor
set_option linter.unusedVariables false
set_option linter.unusedSimpArgs false

def cstep (far : List Int) (st : Int × Int) (k : Nat) : Int × Int := if 0 ≤ gD far k ∧ (st.1 < 0 ∨ gD far k < st.2) then ((k : Int), gD far k) else st
def cfar (N : Nat) (es : List (Int × Int)) (first : Nat) : List Int := bfsD (sucs N (es.map swapE)) first first
def cycStep (N : Nat) (es : List (Int × Int)) (best : List Nat) (first : Nat) : List Nat :=
  let st := (ofP (sucs N es) first first).foldl (cstep (cfar N es first)) (-1, 0)
  if st.1 < 0 ∨ (best ≠ [] ∧ (best.length : Int) ≤ st.2 + 1) then best
  else if st.1 = (first : Int) then [first] else first :: (descP (sucs N es) (cfar N es first) (gD (cfar N es first) st.1.toNat).toNat st.1.toNat).dropLast
def cycF (N : Nat) (es : List (Int × Int)) (k : Nat) : List Nat := (List.range k).foldl (cycStep N es) []
end Go.Proofs.YtenfkejbndifdaaGreatDoor

namespace Go.Proofs.YtenfkejbndifdaaGreatDoor
set_option linter.unusedVariables false
set_option linter.unusedSimpArgs false

inductive Walk (S : List (List Nat)) : Nat → Nat → Nat → Prop
  | nil (a : Nat) : Walk S a a 0
  | cons {a b c m : Nat} : b ∈ S.getD a [] → Walk S b c m → Walk S a c (m + 1)
theorem Rch.walk {S : List (List Nat)} {a b : Nat} (h : Rch S a b) : ∃ m, Walk S a b m := by
  induction h with
  | refl a => exact ⟨0, .nil a⟩
  | step hb _ ih => obtain ⟨m, hm⟩ := ih; exact ⟨m + 1, .cons hb hm⟩
theorem walk_dist {N : Nat} {es : List (Int × Int)} {tgt a m : Nat} {d : List Int} (h : DistR (sucs N (es.map swapE)) 0 tgt d) (hw : Walk (sucs N es) a tgt m) : 0 ≤ gD d a ∧ gD d a ≤ m := by
  induction hw with
  | nil a => rw [h.t0]; simp
  | @cons a b c m hb _ ih =>
    obtain ⟨h1, h2⟩ := ih h
    obtain ⟨m1, m2, m3⟩ := mem_sucs.1 hb
    obtain ⟨h3, h4⟩ := h.near b h1 a (by unfold ofP; exact List.mem_filter.2 ⟨mem_sucs.2 ⟨m2, m1, mem_swap.2 m3⟩, by simp⟩)
    refine ⟨h3, ?_⟩
    have : ((m + 1 : Nat) : Int) = (m : Int) + 1 := by simp
    omega
def IsWay (S : List (List Nat)) (l : List Nat) (a b : Nat) : Prop := l.head? = some a ∧ l.getLast? = some b ∧ ∀ i x y, l[i]? = some x → l[i + 1]? = some y → y ∈ S.getD x []
theorem descP_way {N : Nat} {es : List (Int × Int)} {tgt : Nat} {d : List Int} (h : DistR (sucs N (es.map swapE)) 0 tgt d) : ∀ (m n : Nat), gD d n = (m : Int) → IsWay (sucs N es) (descP (sucs N es) d m n) n tgt ∧ (descP (sucs N es) d m n).length = m + 1
  | 0, n, hn => by
    have := h.zero n (by simpa using hn)
    subst this
    exact ⟨⟨rfl, rfl, fun i x y hx hy => by simp [descP] at hy⟩, rfl⟩
  | m + 1, n, hn => by
    obtain ⟨k0, hk0, hm0⟩ := h.desc n m (by rw [hn]; simp)
    unfold descP
    cases e : ((sucs N es).getD n []).find? (fun k => gD d k == (m : Int)) with
    | none =>
      have := List.find?_eq_none.1 e k0 hk0
      exact absurd (by simpa using hm0) this
    | some k =>
      have hk1 := List.mem_of_find?_eq_some e
      have hk2 : gD d k = (m : Int) := by simpa using List.find?_some e
      obtain ⟨⟨i1, i2, i3⟩, i4⟩ := descP_way h m k hk2
      simp only
      refine ⟨⟨rfl, ?_, fun i x y hx hy => ?_⟩, by rw [List.length_cons, i4]⟩
      · rw [List.getLast?_cons, i2]
        rfl
      · cases i with
        | zero =>
          simp at hx hy
          subst hx
          rw [← List.head?_eq_getElem?, i1] at hy
          cases hy
          exact hk1
        | succ i => exact i3 i x y (by simpa using hx) (by simpa using hy)
theorem swap_dist (N : Nat) (es : List (Int × Int)) (b : Nat) (hb : b < N) : DistR (sucs N (es.map swapE)) 0 b (bfsD (sucs N (es.map swapE)) 0 b) := bfsD_dist sucs_lt (by rw [sucs_length]; exact hb)
end Go.Proofs.YtenfkejbndifdaaGreatDoor

namespace Go.Proofs.YtenfkejbndifdaaGreatDoor
set_option linter.unusedVariables false
set_option linter.unusedSimpArgs false
open Go

def relEs (X : List RelL) : List (Int × Int) := (List.range X.length).flatMap fun i => (X.getD i default).reqs.filterMap fun q => (namedI false X q).map fun (k : Nat) => ((i : Int), (k : Int))
theorem relEs_mem {X : List RelL} {x : Int × Int} : x ∈ relEs X ↔ ∃ (i : Nat) (q : ReqL) (k : Nat), i < X.length ∧ q ∈ (X.getD i default).reqs ∧ namedI false X q = some k ∧ x = ((i : Int), (k : Int)) := by
  unfold relEs
  rw [List.mem_flatMap]
  constructor
  · rintro ⟨i, hi, h⟩
    obtain ⟨q, hq, h1⟩ := List.mem_filterMap.1 h
    obtain ⟨k, hk, h2⟩ := Option.map_eq_some_iff.1 h1
    exact ⟨i, q, k, List.mem_range.1 hi, hq, hk, h2.symm⟩
  · rintro ⟨i, q, k, hi, hq, hk, rfl⟩
    exact ⟨i, List.mem_range.2 hi, List.mem_filterMap.2 ⟨q, hq, by rw [hk]; rfl⟩⟩
theorem rel_suc {X : List RelL} {a b : Nat} : b ∈ (sucs X.length (relEs X)).getD a [] ↔ a < X.length ∧ ∃ q ∈ (X.getD a default).reqs, namedI false X q = some b := by
  rw [mem_sucs, relEs_mem]
  constructor
  · rintro ⟨ha, hb, i, q, k, hi, hq, hk, e⟩
    injection e with e1 e2
    have e1 : a = i := by omega
    have e2 : b = k := by omega
    subst e1 e2
    exact ⟨ha, q, hq, hk⟩
  · rintro ⟨ha, q, hq, hk⟩
    exact ⟨ha, (candI_mem.1 (named_mem hk)).1, a, q, b, ha, hq, hk, rfl⟩
def bestK (ds : List Int) : Nat → Option Nat
  | 0 => none
  | k + 1 => match bestK ds k with
    | none => if 0 ≤ ds.getD k (-1) then some k else none
    | some r => if 0 ≤ ds.getD k (-1) ∧ ds.getD k (-1) < ds.getD r (-1) then some k else some r
theorem bestK_some {ds : List Int} : ∀ {k r : Nat}, bestK ds k = some r → r < k ∧ 0 ≤ ds.getD r (-1)
  | 0, r, h => by cases h
  | k + 1, r, h => by
    unfold bestK at h
    cases hb : bestK ds k with
    | none =>
      rw [hb] at h
      simp only at h
      split at h
      · rename_i h1; cases h; exact ⟨by omega, h1⟩
      · cases h
    | some t =>
      rw [hb] at h
      obtain ⟨h1, h2⟩ := bestK_some hb
      simp only at h
      split at h
      · rename_i h3; cases h; exact ⟨by omega, h3.1⟩
      · cases h; exact ⟨by omega, h2⟩
theorem bestK_none {ds : List Int} : ∀ {k : Nat}, bestK ds k = none → ∀ r, r < k → ds.getD r (-1) < 0
  | 0, _, r, hr => by omega
  | k + 1, h, r, hr => by
    unfold bestK at h
    cases hb : bestK ds k with
    | none =>
      rw [hb] at h
      simp only at h
      split at h
      · cases h
      · rename_i h1
        rcases Nat.lt_or_eq_of_le (Nat.le_of_lt_succ hr) with h2 | rfl
        · exact bestK_none hb r h2
        · omega
    | some t =>
      rw [hb] at h
      simp only at h
      split at h <;> cases h
def dT (X : List RelL) (t : Nat) : List Int := bfsD (sucs X.length ((relEs X).map swapE)) 0 t
def rootD (X : List RelL) (roots : List ReqL) (t : Nat) : List Int := roots.map fun q => match namedI false X q with
  | some k => gD (dT X t) k
  | none => -1
abbrev CauL := ByteArray × Int × List SelL
noncomputable def tgtM (X : List RelL) (roots : List ReqL) (p : ByteArray) : Option Nat := (topM false X roots).find? fun i => decide ((X.getD i default).path = p)
noncomputable def whyV (X : List RelL) (roots : List ReqL) (p : ByteArray) : CauL × Int :=
  if (selM false X roots).2 ≠ 0 then ((⟨#[]⟩, 0, []), (selM false X roots).2)
  else match tgtM X roots p with
    | none => ((⟨#[]⟩, 0, []), 6)
    | some t => match bestK (rootD X roots t) roots.length with
      | none => ((p, 0, []), 0)
      | some r => ((p, (r : Int), (pathF X.length (relEs X) ((namedI false X (roots.getD r default)).getD 0) t).map fun i => keyL (X.getD i default)), 0)
def chainB (X : List RelL) : List ReqL → List SelL → Bool
  | _, [] => true
  | l, s :: t => match (l.filterMap (namedI false X)).find? fun k => decide (keyL (X.getD k default) = s) with
    | some k => chainB X (X.getD k default).reqs t
    | none => false
noncomputable def checkV (X : List RelL) (roots : List ReqL) (c : CauL) : Bool := open Classical in
  decide ((selM false X roots).2 = 0) && (decide (0 ≤ c.2.1 ∧ c.2.1 < roots.length) && (match c.2.2.getLast? with
    | none => false
    | some y => decide (y.1 = c.1) && (decide (y ∈ (selM false X roots).1) && chainB X [roots.getD c.2.1.toNat default] c.2.2)))
theorem chain_at {X : List RelL} (hX : IdxOk X) {l : List ReqL} {k : Nat} {t : List SelL} (h : ∃ q ∈ l, namedI false X q = some k) : chainB X l (keyL (X.getD k default) :: t) = chainB X (X.getD k default).reqs t := by
  obtain ⟨q, hq, hn⟩ := h
  have hm : k ∈ l.filterMap (namedI false X) := List.mem_filterMap.2 ⟨q, hq, hn⟩
  show (match (l.filterMap (namedI false X)).find? fun j => decide (keyL (X.getD j default) = keyL (X.getD k default)) with
    | some j => chainB X (X.getD j default).reqs t
    | none => false) = _
  cases hf : (l.filterMap (namedI false X)).find? fun j => decide (keyL (X.getD j default) = keyL (X.getD k default)) with
  | none => have := List.find?_eq_none.1 hf k hm; simp at this
  | some j =>
    have h1 : keyL (X.getD j default) = keyL (X.getD k default) := by simpa using List.find?_some hf
    obtain ⟨q2, _, hn2⟩ := List.mem_filterMap.1 (List.mem_of_find?_eq_some hf)
    have := hX.inj (candI_mem.1 (named_mem hn2)).1 (candI_mem.1 (named_mem hn)).1 h1
    subst this
    rfl
theorem descP_dist {S : List (List Nat)} {far : List Int} : ∀ (m n : Nat), gD far n = (m : Int) → ∀ (i x : Nat), (descP S far m n)[i]? = some x → gD far x = (m : Int) - i
  | 0, n, hn, i, x, h => by
    unfold descP at h
    cases i with
    | zero => cases h; simpa using hn
    | succ i => simp at h
  | m + 1, n, hn, i, x, h => by
    unfold descP at h
    cases i with
    | zero => cases h; rw [hn]; simp
    | succ i =>
      rw [List.getElem?_cons_succ] at h
      cases hf : (S.getD n []).find? fun k => gD far k == (m : Int) with
      | none => rw [hf] at h; simp at h
      | some k =>
        rw [hf] at h
        have hk : gD far k = (m : Int) := by simpa using List.find?_some hf
        have := descP_dist m k hk i x h
        rw [this]
        push_cast
        omega
theorem path_desc {X : List RelL} {a t : Nat} (h : 0 ≤ gD (dT X t) a) :
    pathF X.length (relEs X) a t = descP (sucs X.length (relEs X)) (dT X t) (gD (dT X t) a).toNat a := by
  unfold pathF dT at *
  simp only
  rw [if_neg (by omega)]
theorem chain_desc {X : List RelL} (hX : IdxOk X) {t : Nat} (ht : t < X.length) : ∀ (m n : Nat) (l : List ReqL), gD (dT X t) n = (m : Int) → (∃ q ∈ l, namedI false X q = some n) →
    chainB X l ((descP (sucs X.length (relEs X)) (dT X t) m n).map fun i => keyL (X.getD i default)) = true
  | 0, n, l, hn, hl => by
    show chainB X l [keyL (X.getD n default)] = true
    rw [chain_at hX hl]
    rfl
  | m + 1, n, l, hn, hl => by
    obtain ⟨k0, hk0, hm0⟩ := (swap_dist X.length (relEs X) t ht).desc n m (by rw [← show ((m + 1 : Nat) : Int) = (m : Int) + 1 by simp]; exact hn)
    unfold descP
    cases hf : ((sucs X.length (relEs X)).getD n []).find? fun k => gD (dT X t) k == (m : Int) with
    | none => have := List.find?_eq_none.1 hf k0 hk0; exact absurd (show (gD (dT X t) k0 == (m : Int)) = true from by rw [show gD (dT X t) k0 = (m : Int) from hm0]; simp) this
    | some k =>
      have hk : gD (dT X t) k = (m : Int) := by simpa using List.find?_some hf
      have h2 := (rel_suc.1 (List.mem_of_find?_eq_some hf)).2
      rw [List.map_cons, chain_at hX hl]
      exact chain_desc hX ht m k _ hk h2
theorem reach_rch {X : List RelL} {roots : List ReqL} {i : Nat} (h : RchM false X roots i) : ∃ q ∈ roots, ∃ k, namedI false X q = some k ∧ Rch (sucs X.length (relEs X)) k i := by
  induction h with
  | root hq hn => exact ⟨_, hq, _, hn, .refl _⟩
  | step hk hq hn ih =>
    obtain ⟨q, hq2, k, hk2, hr⟩ := ih
    exact ⟨q, hq2, k, hk2, hr.trans (.step (rel_suc.2 ⟨hk.lt.1, _, hq, hn⟩) (.refl _))⟩
theorem cause_ok {X : List RelL} {roots : List ReqL} (hp : PlainP X roots) (ha : AllM false X roots) {t : Nat} (ht : t ∈ topM false X roots) :
    ∃ (r n : Nat) (ch : List SelL), whyV X roots (X.getD t default).path = (((X.getD t default).path, (r : Int), ch), 0) ∧ r < roots.length ∧ ch.getLast? = some (keyL (X.getD t default)) ∧ ch.length = n + 1 ∧
      chainB X [roots.getD r default] ch = true ∧ ∀ z, ch.dropLast.getLast? = some z → z ≠ keyL (X.getD t default) := by
  have hX := idx_ok hp.idx
  have htl := (topM_mem.1 ht).1.lt.1
  have hm : selM false X roots = (selL false X roots, 0) := by
    unfold selM
    rw [if_neg (fun h => h hp), if_neg (fun h => h ha)]
    rfl
  have htg : tgtM X roots (X.getD t default).path = some t := by
    unfold tgtM
    cases hf : (topM false X roots).find? fun i => decide ((X.getD i default).path = (X.getD t default).path) with
    | none => have := List.find?_eq_none.1 hf t ht; simp at this
    | some j =>
      have h1 : (X.getD j default).path = (X.getD t default).path := by simpa using List.find?_some hf
      rw [top_one (List.mem_of_find?_eq_some hf) ht h1]
  have hds : ∀ r, r < roots.length → ∃ k, namedI false X (roots.getD r default) = some k ∧ (rootD X roots t).getD r (-1) = gD (dT X t) k := fun r hr => by
    have hmem : roots.getD r default ∈ roots := by rw [List.getD_eq_getElem?_getD, List.getElem?_eq_getElem hr]; exact List.getElem_mem hr
    obtain ⟨k, hk⟩ := ha.1 _ hmem
    refine ⟨k, hk, ?_⟩
    unfold rootD
    rw [List.getD_eq_getElem?_getD, List.getElem?_map, List.getElem?_eq_getElem hr]
    rw [List.getD_eq_getElem?_getD, List.getElem?_eq_getElem hr] at hk
    simp only [Option.getD_some] at hk
    simp only [Option.map_some, Option.getD_some]
    rw [hk]
  cases hb : bestK (rootD X roots t) roots.length with
  | none =>
    exfalso
    obtain ⟨q, hq, k, hk, hr⟩ := reach_rch (topM_mem.1 ht).1
    obtain ⟨r, hr2, rfl⟩ := List.mem_iff_getElem.1 hq
    obtain ⟨k2, hk2, hd⟩ := hds r hr2
    have e : roots.getD r default = roots[r] := by rw [List.getD_eq_getElem?_getD, List.getElem?_eq_getElem hr2]; rfl
    rw [e, hk] at hk2
    cases hk2
    have h1 := bestK_none hb r hr2
    obtain ⟨m, hw⟩ := hr.walk
    have := (walk_dist (swap_dist X.length (relEs X) t htl) hw).1
    unfold dT at hd
    omega
  | some r =>
    obtain ⟨hr, h0⟩ := bestK_some hb
    obtain ⟨k, hk, hd⟩ := hds r hr
    rw [hd] at h0
    obtain ⟨m, hmm⟩ : ∃ m : Nat, gD (dT X t) k = m := ⟨(gD (dT X t) k).toNat, by omega⟩
    have hpd := path_desc h0
    rw [hmm, Int.toNat_natCast] at hpd
    have hway := descP_way (swap_dist X.length (relEs X) t htl) m k (by unfold dT at hmm; exact hmm)
    refine ⟨r, m, (descP (sucs X.length (relEs X)) (dT X t) m k).map fun i => keyL (X.getD i default), ?_, hr, ?_, ?_, ?_, ?_⟩
    · unfold whyV
      rw [hm]
      simp only [ne_eq, not_true, if_false, htg, hb, hk, Option.getD_some]
      rw [hpd]
    · rw [List.getLast?_map, show (descP (sucs X.length (relEs X)) (dT X t) m k).getLast? = some t from hway.1.2.1]
      rfl
    · rw [List.length_map]
      exact hway.2
    · exact chain_desc hX htl m k _ hmm ⟨_, by simp, hk⟩
    · intro z hz e
      subst e
      rw [← List.map_dropLast, List.getLast?_map] at hz
      obtain ⟨u, hu, hz⟩ := Option.map_eq_some_iff.1 hz
      obtain ⟨i, hi, hx⟩ : ∃ i, i + 1 < m + 1 ∧ (descP (sucs X.length (relEs X)) (dT X t) m k)[i]? = some u := by
        rw [List.getLast?_eq_getElem?] at hu
        rw [List.length_dropLast, show (descP (sucs X.length (relEs X)) (dT X t) m k).length = m + 1 from hway.2] at hu
        by_cases hm0 : m = 0
        · subst hm0
          simp [descP] at hu
        · rw [List.getElem?_dropLast] at hu
          rw [show (descP (sucs X.length (relEs X)) (dT X t) m k).length = m + 1 from hway.2] at hu
          split at hu
          · exact ⟨m + 1 - 1 - 1, by omega, hu⟩
          · cases hu
      have hdu := descP_dist m k hmm i u hx
      have hdt : gD (dT X t) t = 0 := (swap_dist X.length (relEs X) t htl).t0
      have hut : u = t := by
        refine hX.inj ?_ htl hz
        have hlen : gD (dT X t) u ≠ -1 := by omega
        apply Classical.byContradiction
        intro hge
        apply hlen
        show (dT X t).getD u (-1) = -1
        have : (dT X t).length = X.length := by
          have := (swap_dist X.length (relEs X) t htl).len
          rw [sucs_length] at this
          exact this
        rw [List.getD_eq_getElem?_getD, List.getElem?_eq_none (by omega)]
        rfl
      rw [hut, hdt] at hdu
      omega
end Go.Proofs.YtenfkejbndifdaaGreatDoor
