/- Graphs, plain: a shortest way is one, and no edge makes it shorter. Minimal version selection, plain: causes. slices.IndexFunc and ContainsFunc at requirements, releases, what names them, lists of requirements, numbers, for any predicate. -/
import Derived.Test.YtenfkejbndifdaaGreatDoorUK
import Derived.Test.YtenfkejbndifdaaGreatDoorUE
import Derived.Test.YtenfkejbndifdaaGreatDoorUI
import Derived.Test.YtenfkejbndifdaaGreatDoorUD
namespace Go.Proofs.YtenfkejbndifdaaGreatDoor
set_option linter.unusedVariables false
set_option linter.unusedSimpArgs false

inductive Walk (S : List (List Nat)) : Nat → Nat → Nat → Prop
  | nil (a : Nat) : Walk S a a 0
  | cons {a b c m : Nat} : b ∈ S.getD a [] → Walk S b c m → Walk S a c (m + 1)
theorem Rch.walk {S : List (List Nat)} {a b : Nat} (h : Rch S a b) : ∃ m, Walk S a b m := by
  induction h with
  | refl a => exact ⟨0, .nil a⟩
  | step hb _ ih => obtain ⟨m, hm⟩ := ih; exact ⟨m + 1, .cons hb hm⟩
theorem walk_dist {N : Nat} {es : List (Int × Int)} {tgt a m : Nat} {d : List Int} (h : DistR (sucs N (es.map swapE)) 0 tgt d) (hw : Walk (sucs N es) a tgt m) : 0 ≤ gD d a ∧ gD d a ≤ m := by
  induction hw with
  | nil a => rw [h.t0]; simp
  | @cons a b c m hb _ ih =>
    obtain ⟨h1, h2⟩ := ih h
    obtain ⟨m1, m2, m3⟩ := mem_sucs.1 hb
    obtain ⟨h3, h4⟩ := h.near b h1 a (by unfold ofP; exact List.mem_filter.2 ⟨mem_sucs.2 ⟨m2, m1, mem_swap.2 m3⟩, by simp⟩)
    refine ⟨h3, ?_⟩
    have : ((m + 1 : Nat) : Int) = (m : Int) + 1 := by simp
    omega
def IsWay (S : List (List Nat)) (l : List Nat) (a b : Nat) : Prop := l.head? = some a ∧ l.getLast? = some b ∧ ∀ i x y, l[i]? = some x → l[i + 1]? = some y → y ∈ S.getD x []
theorem swap_dist (N : Nat) (es : List (Int × Int)) (b : Nat) (hb : b < N) : DistR (sucs N (es.map swapE)) 0 b (bfsD (sucs N (es.map swapE)) 0 b) := bfsD_dist sucs_lt (by rw [sucs_length]; exact hb)
end Go.Proofs.YtenfkejbndifdaaGreatDoor

namespace Go.Proofs.YtenfkejbndifdaaGreatDoor
set_option linter.unusedVariables false
set_option linter.unusedSimpArgs false
open Go

def relEs (X : List RelL) : List (Int × Int) := (List.range X.length).flatMap fun i => (X.getD i default).reqs.filterMap fun q => (namedI false X q).map fun (k : Nat) => ((i : Int), (k : Int))
theorem relEs_mem {X : List RelL} {x : Int × Int} : x ∈ relEs X ↔ ∃ (i : Nat) (q : ReqL) (k : Nat), i < X.length ∧ q ∈ (X.getD i default).reqs ∧ namedI false X q = some k ∧ x = ((i : Int), (k : Int)) := by
  unfold relEs
  rw [List.mem_flatMap]
  constructor
  · rintro ⟨i, hi, h⟩
    obtain ⟨q, hq, h1⟩ := List.mem_filterMap.1 h
    obtain ⟨k, hk, h2⟩ := Option.map_eq_some_iff.1 h1
    exact ⟨i, q, k, List.mem_range.1 hi, hq, hk, h2.symm⟩
  · rintro ⟨i, q, k, hi, hq, hk, rfl⟩
    exact ⟨i, List.mem_range.2 hi, List.mem_filterMap.2 ⟨q, hq, by rw [hk]; rfl⟩⟩
theorem rel_suc {X : List RelL} {a b : Nat} : b ∈ (sucs X.length (relEs X)).getD a [] ↔ a < X.length ∧ ∃ q ∈ (X.getD a default).reqs, namedI false X q = some b := by
  rw [mem_sucs, relEs_mem]
  constructor
  · rintro ⟨ha, hb, i, q, k, hi, hq, hk, e⟩
    injection e with e1 e2
    have e1 : a = i := by omega
    have e2 : b = k := by omega
    subst e1 e2
    exact ⟨ha, q, hq, hk⟩
  · rintro ⟨ha, q, hq, hk⟩
    exact ⟨ha, (candI_mem.1 (named_mem hk)).1, a, q, b, ha, hq, hk, rfl⟩
def bestK (ds : List Int) : Nat → Option Nat
  | 0 => none
  | k + 1 => match bestK ds k with
    | none => if 0 ≤ ds.getD k (-1) then some k else none
    | some r => if 0 ≤ ds.getD k (-1) ∧ ds.getD k (-1) < ds.getD r (-1) then some k else some r
theorem bestK_some {ds : List Int} : ∀ {k r : Nat}, bestK ds k = some r → r < k ∧ 0 ≤ ds.getD r (-1)
  | 0, r, h => by cases h
  | k + 1, r, h => by
    unfold bestK at h
    cases hb : bestK ds k with
    | none =>
      rw [hb] at h
      simp only at h
      split at h
      · rename_i h1; cases h; exact ⟨by omega, h1⟩
      · cases h
    | some t =>
      rw [hb] at h
      obtain ⟨h1, h2⟩ := bestK_some hb
      simp only at h
      split at h
      · rename_i h3; cases h; exact ⟨by omega, h3.1⟩
      · cases h; exact ⟨by omega, h2⟩
theorem bestK_none {ds : List Int} : ∀ {k : Nat}, bestK ds k = none → ∀ r, r < k → ds.getD r (-1) < 0
  | 0, _, r, hr => by omega
  | k + 1, h, r, hr => by
    unfold bestK at h
    cases hb : bestK ds k with
    | none =>
      rw [hb] at h
      simp only at h
      split at h
      · cases h
      · rename_i h1
        rcases Nat.lt_or_eq_of_le (Nat.le_of_lt_succ hr) with h2 | rfl
        · exact bestK_none hb r h2
        · omega
    | some t =>
      rw [hb] at h
      simp only at h
      split at h <;> cases h
def dT (X : List RelL) (t : Nat) : List Int := bfsD (sucs X.length ((relEs X).map swapE)) 0 t
def rootD (X : List RelL) (roots : List ReqL) (t : Nat) : List Int := roots.map fun q => match namedI false X q with
  | some k => gD (dT X t) k
  | none => -1
abbrev CauL := ByteArray × Int × List SelL
noncomputable def tgtM (X : List RelL) (roots : List ReqL) (p : ByteArray) : Option Nat := (topM false X roots).find? fun i => decide ((X.getD i default).path = p)
noncomputable def whyV (X : List RelL) (roots : List ReqL) (p : ByteArray) : CauL × Int :=
  if (selM false X roots).2 ≠ 0 then ((⟨#[]⟩, 0, []), (selM false X roots).2)
  else match tgtM X roots p with
    | none => ((⟨#[]⟩, 0, []), 6)
    | some t => match bestK (rootD X roots t) roots.length with
      | none => ((p, 0, []), 0)
      | some r => ((p, (r : Int), (pathF X.length (relEs X) ((namedI false X (roots.getD r default)).getD 0) t).map fun i => keyL (X.getD i default)), 0)
def chainB (X : List RelL) : List ReqL → List SelL → Bool
  | _, [] => true
  | l, s :: t => match (l.filterMap (namedI false X)).find? fun k => decide (keyL (X.getD k default) = s) with
    | some k => chainB X (X.getD k default).reqs t
    | none => false
noncomputable def checkV (X : List RelL) (roots : List ReqL) (c : CauL) : Bool := open Classical in
  decide ((selM false X roots).2 = 0) && (decide (0 ≤ c.2.1 ∧ c.2.1 < roots.length) && (match c.2.2.getLast? with
    | none => false
    | some y => decide (y.1 = c.1) && (decide (y ∈ (selM false X roots).1) && chainB X [roots.getD c.2.1.toNat default] c.2.2)))
theorem path_desc {X : List RelL} {a t : Nat} (h : 0 ≤ gD (dT X t) a) :
    pathF X.length (relEs X) a t = descP (sucs X.length (relEs X)) (dT X t) (gD (dT X t) a).toNat a := by
  unfold pathF dT at *
  simp only
  rw [if_neg (by omega)]
theorem reach_rch {X : List RelL} {roots : List ReqL} {i : Nat} (h : RchM false X roots i) : ∃ q ∈ roots, ∃ k, namedI false X q = some k ∧ Rch (sucs X.length (relEs X)) k i := by
  induction h with
  | root hq hn => exact ⟨_, hq, _, hn, .refl _⟩
  | step hk hq hn ih =>
    obtain ⟨q, hq2, k, hk2, hr⟩ := ih
    exact ⟨q, hq2, k, hk2, hr.trans (.step (rel_suc.2 ⟨hk.lt.1, _, hq, hn⟩) (.refl _))⟩
end Go.Proofs.YtenfkejbndifdaaGreatDoor

namespace Go.Proofs.YtenfkejbndifdaaGreatDoor
set_option linter.unusedVariables false
set_option linter.unusedSimpArgs false
open Go Go.RowKit

def firstI {α : Type} (p : α → Bool) (l : List α) : Int := match l.findIdx? p with
  | some i => (i : Int)
  | none => -1
theorem firstI_none {α : Type} {p : α → Bool} {l : List α} (h : ∀ x ∈ l, p x = false) : firstI p l = -1 := by
  unfold firstI
  rw [List.findIdx?_eq_none_iff.2 fun x hx => by simp [h x hx]]
theorem firstI_at {α : Type} {p : α → Bool} {l : List α} {k : Nat} (hk : k < l.length) (h : ∀ x ∈ l.take k, p x = false) (h2 : p l[k] = true) : firstI p l = (k : Int) := by
  unfold firstI
  rw [List.findIdx?_eq_some_iff_getElem.2 ⟨hk, h2, fun j hj => by
    have : l[j] ∈ l.take k := by
      rw [List.mem_iff_getElem]
      exact ⟨j, by simp; omega, by simp⟩
    simp [h _ this]⟩]
theorem firstI_any {α : Type} (p : α → Bool) (l : List α) : (0 ≤ firstI p l ↔ l.any p = true) ∧ (firstI p l < 0 ↔ l.any p = false) := by
  unfold firstI
  cases h : l.findIdx? p with
  | none =>
    have := List.findIdx?_eq_none_iff.1 h
    have h2 : l.any p = false := by rw [List.any_eq_false]; exact fun x hx => by simp [this x hx]
    simp [h2]
  | some i =>
    obtain ⟨hi, h1, _⟩ := List.findIdx?_eq_some_iff_getElem.1 h
    have h2 : l.any p = true := by rw [List.any_eq_true]; exact ⟨_, List.getElem_mem hi, h1⟩
    simp [h2]
def PredQ (g : Nat) (lb : Array Value) (es : List ReqL) (p : ReqL → Bool) (w : World) : Prop :=
  ∀ (W : World) (x : ReqL) (r : Value), x ∈ es → Below w.heap.size w W → SpansOf W.heap.size r x.2 W → Calls Tryz.prog g (#[.agg #[.string x.1, r]] ++ lb) W fun e w' => e = .returned (.bool (p x)) ∧ Below w.heap.size w w'
set_option maxRecDepth 100000 in
set_option maxHeartbeats 4000000 in
theorem idx_req (g : Nat) (lb : Array Value) (eg : ∀ args w, (callFunc g args).run Tryz.prog w = .ok (.enter g args) w) (p : ReqL → Bool) (v : Value) (es : List ReqL) (w : World) (hes : es.length ≤ 1000000000) (hE : ReqsOf w.heap.size v es w) (hp : PredQ g lb es p w) :
    Calls Tryz.prog 92 #[v, .func (.func g) #[] lb] w fun e w' => e = .returned (.int .i64 (firstI p es)) ∧ Below w.heap.size w w' := by
  obtain ⟨ao, ec, rfl, hE⟩ := hE
  have HE := Lib.hid hE
  have HP := Lib.hid hp
  obtain ⟨R, hR⟩ : ∃ R, firstI p es = R := ⟨_, rfl⟩
  have HR := Lib.hid hR
  rw [hR]
  clear hE hp hR
  go_enter Tryz.func92, Tryz.ntmps92
  go_wp2_with fail
  go_loopw [8] (fun s wr => ∃ k : Nat, k ≤ es.length ∧ s = .int .i64 k ∧ Hid (Below w.heap.size w wr) ∧ Hid (∀ x ∈ es.take k, p x = false)) (fun s _ => es.length - (intOf s).toNat)
  case atStart => exact ⟨0, by omega, rfl, Lib.hid (Below.refl _ _), Lib.hid (by simp)⟩
  case round =>
    obtain ⟨k, hk, rfl, HB, HA⟩ := hrel
    by_cases hlt : k < es.length
    · have hlt2 : (k : Int) < (es.length : Int) := by omega
      obtain ⟨b, off, r, rfl, hb, hc1, hc2, hsp⟩ := HE.out k es[k] (by simp [hlt])
      have hd1 := (HB.out.cell (p := ⟨b, off + k * 2, none⟩) hb).trans hc1
      have hd2 := (HB.out.cell (p := ⟨b, off + k * 2 + 1, none⟩) hb).trans hc2
      have HSP := Lib.hid hsp
      have HT : Hid (es.take (k + 1) = es.take k ++ [es[k]]) := Lib.hid (List.take_succ_eq_append_getElem hlt)
      have HF : Hid (p es[k] = true → R = (k : Int)) := Lib.hid (fun h => by rw [← HR.out]; exact firstI_at hlt HA.out h)
      have HCALL := Lib.hid (HP.out wr es[k] r (List.getElem_mem hlt) HB.out ((hsp.below HB.out (Nat.le_refl _)).mono HB.out.size))
      obtain ⟨ra, rc, rfl, _⟩ := hsp
      clear HSP
      generalize es[k] = x at *
      cases hq : p x with
      | true =>
        rw [hq] at HCALL
        have HQ := Lib.hid (HF.out hq)
        clear hq
        go_wp2_with (go_at_fn g; refine HCALL.out.mono ?_; rintro e w' ⟨rfl, hb'⟩)
        go_ret
        exact ⟨by rw [HQ.out]; rfl, hb'⟩
      | false =>
        rw [hq] at HCALL
        have HQ := Lib.hid hq
        clear hq
        go_wp2_with (go_at_fn g; refine HCALL.out.mono ?_; rintro e w' ⟨rfl, hb'⟩)
        go_roundw
        case rel =>
          refine ⟨k + 1, by omega, by go_num, Lib.hid hb', Lib.hid ?_⟩
          rw [HT.out]
          intro y hy
          rcases List.mem_append.1 hy with hy | hy
          · exact HA.out y hy
          · rw [List.mem_singleton] at hy; rw [hy]; exact HQ.out
        case measure => simp [intOf]; omega
    · have hkk : k = es.length := by omega
      subst hkk
      rw [List.take_length] at HA
      have HN := Lib.hid (show R = -1 by rw [← HR.out]; exact firstI_none HA.out)
      go_wp2_with fail
      go_ret
      exact ⟨by rw [HN.out]; rfl, HB.out⟩
theorem has_req (g : Nat) (lb : Array Value) (eg : ∀ args w, (callFunc g args).run Tryz.prog w = .ok (.enter g args) w) (p : ReqL → Bool) (v : Value) (es : List ReqL) (w : World) (hes : es.length ≤ 1000000000) (hE : ReqsOf w.heap.size v es w) (hp : PredQ g lb es p w) :
    Calls Tryz.prog 33 #[v, .func (.func g) #[] lb] w fun e w' => e = .returned (.bool (es.any p)) ∧ Below w.heap.size w w' := by
  have HI := Lib.hid (idx_req g lb eg p v es w hes hE hp)
  obtain ⟨f1, f2⟩ := firstI_any p es
  generalize firstI p es = r at HI f1 f2
  generalize es.any p = q at f1 f2 ⊢
  have HF := Lib.hid (And.intro f1 f2)
  obtain ⟨ao, ec, rfl, _⟩ := hE
  clear hp eg f1 f2
  go_enter Tryz.func33, Tryz.ntmps33
  go_wp2_with fail
  refine HI.out.mono ?_
  rintro e w' ⟨rfl, hb⟩
  cases q with
  | true =>
    have h0 : 0 ≤ r := HF.out.1.2 rfl
    go_wp2_with fail
    go_ret
    exact ⟨rfl, hb⟩
  | false =>
    have h2 : r < 0 := HF.out.2.2 rfl
    have h0 : ¬ 0 ≤ r := by omega
    have h1 : decide (0 ≤ r) = false := decide_eq_false h0
    go_wp2_with fail
    go_ret
    exact ⟨rfl, hb⟩
def PredR (g : Nat) (lb : Array Value) (es : List RelL) (p : RelL → Bool) (w : World) : Prop :=
  ∀ (W : World) (x : RelL) (r : Value), x ∈ es → Below w.heap.size w W → ReqsOf W.heap.size r x.reqs W → Calls Tryz.prog g (#[.agg (relC x r)] ++ lb) W fun e w' => e = .returned (.bool (p x)) ∧ Below w.heap.size w w'
set_option maxRecDepth 100000 in
set_option maxHeartbeats 4000000 in
theorem idx_rel (g : Nat) (lb : Array Value) (eg : ∀ args w, (callFunc g args).run Tryz.prog w = .ok (.enter g args) w) (p : RelL → Bool) (v : Value) (es : List RelL) (w : World) (hes : es.length ≤ 1000000000) (hE : RelsOf w.heap.size v es w) (hp : PredR g lb es p w) :
    Calls Tryz.prog 120 #[v, .func (.func g) #[] lb] w fun e w' => e = .returned (.int .i64 (firstI p es)) ∧ Below w.heap.size w w' := by
  obtain ⟨ao, ec, rfl, hE⟩ := hE
  have HE := Lib.hid hE
  have HP := Lib.hid hp
  obtain ⟨R, hR⟩ : ∃ R, firstI p es = R := ⟨_, rfl⟩
  have HR := Lib.hid hR
  rw [hR]
  clear hE hp hR
  go_enter Tryz.func120, Tryz.ntmps120
  go_wp2_with fail
  go_loopw [8] (fun s wr => ∃ k : Nat, k ≤ es.length ∧ s = .int .i64 k ∧ Hid (Below w.heap.size w wr) ∧ Hid (∀ x ∈ es.take k, p x = false)) (fun s _ => es.length - (intOf s).toNat)
  case atStart => exact ⟨0, by omega, rfl, Lib.hid (Below.refl _ _), Lib.hid (by simp)⟩
  case round =>
    obtain ⟨k, hk, rfl, HB, HA⟩ := hrel
    by_cases hlt : k < es.length
    · have hlt2 : (k : Int) < (es.length : Int) := by omega
      obtain ⟨b, off, rfl, hb, hra⟩ := HE.out k es[k] (by simp [hlt])
      obtain ⟨r, hr, d0, d1, d2, d3, d4, d5, d6, d7, d8⟩ := (hra.below HB.out (Nat.le_refl _) hb).box
      have HT : Hid (es.take (k + 1) = es.take k ++ [es[k]]) := Lib.hid (List.take_succ_eq_append_getElem hlt)
      have HF : Hid (p es[k] = true → R = (k : Int)) := Lib.hid (fun h => by rw [← HR.out]; exact firstI_at hlt HA.out h)
      have HCALL := Lib.hid (HP.out wr es[k] r (List.getElem_mem hlt) HB.out (hr.mono HB.out.size))
      clear hra hr
      simp only [relC] at HCALL
      generalize es[k] = x at *
      cases hq : p x with
      | true =>
        rw [hq] at HCALL
        have HQ := Lib.hid (HF.out hq)
        clear hq
        go_wp2_with (go_at_fn g; refine HCALL.out.mono ?_; rintro e w' ⟨rfl, hb'⟩)
        go_ret
        exact ⟨by rw [HQ.out]; rfl, hb'⟩
      | false =>
        rw [hq] at HCALL
        have HQ := Lib.hid hq
        clear hq
        go_wp2_with (go_at_fn g; refine HCALL.out.mono ?_; rintro e w' ⟨rfl, hb'⟩)
        go_roundw
        case rel =>
          refine ⟨k + 1, by omega, by go_num, Lib.hid hb', Lib.hid ?_⟩
          rw [HT.out]
          intro y hy
          rcases List.mem_append.1 hy with hy | hy
          · exact HA.out y hy
          · rw [List.mem_singleton] at hy; rw [hy]; exact HQ.out
        case measure => simp [intOf]; omega
    · have hkk : k = es.length := by omega
      subst hkk
      rw [List.take_length] at HA
      have HN := Lib.hid (show R = -1 by rw [← HR.out]; exact firstI_none HA.out)
      go_wp2_with fail
      go_ret
      exact ⟨by rw [HN.out]; rfl, HB.out⟩
theorem has_rel (g : Nat) (lb : Array Value) (eg : ∀ args w, (callFunc g args).run Tryz.prog w = .ok (.enter g args) w) (p : RelL → Bool) (v : Value) (es : List RelL) (w : World) (hes : es.length ≤ 1000000000) (hE : RelsOf w.heap.size v es w) (hp : PredR g lb es p w) :
    Calls Tryz.prog 74 #[v, .func (.func g) #[] lb] w fun e w' => e = .returned (.bool (es.any p)) ∧ Below w.heap.size w w' := by
  have HI := Lib.hid (idx_rel g lb eg p v es w hes hE hp)
  obtain ⟨f1, f2⟩ := firstI_any p es
  generalize firstI p es = r at HI f1 f2
  generalize es.any p = q at f1 f2 ⊢
  have HF := Lib.hid (And.intro f1 f2)
  obtain ⟨ao, ec, rfl, _⟩ := hE
  clear hp eg f1 f2
  go_enter Tryz.func74, Tryz.ntmps74
  go_wp2_with fail
  refine HI.out.mono ?_
  rintro e w' ⟨rfl, hb⟩
  cases q with
  | true =>
    have h0 : 0 ≤ r := HF.out.1.2 rfl
    go_wp2_with fail
    go_ret
    exact ⟨rfl, hb⟩
  | false =>
    have h2 : r < 0 := HF.out.2.2 rfl
    have h0 : ¬ 0 ≤ r := by omega
    have h1 : decide (0 ≤ r) = false := decide_eq_false h0
    go_wp2_with fail
    go_ret
    exact ⟨rfl, hb⟩
def PredS4 (g : Nat) (lb : Array Value) (es : List SelL) (p : SelL → Bool) (w : World) : Prop :=
  ∀ (W : World) (x : SelL), x ∈ es → Below w.heap.size w W →  Calls Tryz.prog g (#[.agg #[.string x.1, intC x.2.1, intC x.2.2.1, intC x.2.2.2]] ++ lb) W fun e w' => e = .returned (.bool (p x)) ∧ Below w.heap.size w w'
set_option maxRecDepth 100000 in
set_option maxHeartbeats 4000000 in
theorem idx_sel (g : Nat) (lb : Array Value) (eg : ∀ args w, (callFunc g args).run Tryz.prog w = .ok (.enter g args) w) (p : SelL → Bool) (v : Value) (es : List SelL) (w : World) (hes : es.length ≤ 1000000000) (hE : SelsOf w.heap.size v es w) (hp : PredS4 g lb es p w) :
    Calls Tryz.prog 93 #[v, .func (.func g) #[] lb] w fun e w' => e = .returned (.int .i64 (firstI p es)) ∧ Below w.heap.size w w' := by
  obtain ⟨ao, ec, rfl, hE⟩ := hE
  have HE := Lib.hid hE
  have HP := Lib.hid hp
  obtain ⟨R, hR⟩ : ∃ R, firstI p es = R := ⟨_, rfl⟩
  have HR := Lib.hid hR
  rw [hR]
  clear hE hp hR
  go_enter Tryz.func93, Tryz.ntmps93
  go_wp2_with fail
  go_loopw [8] (fun s wr => ∃ k : Nat, k ≤ es.length ∧ s = .int .i64 k ∧ Hid (Below w.heap.size w wr) ∧ Hid (∀ x ∈ es.take k, p x = false)) (fun s _ => es.length - (intOf s).toNat)
  case atStart => exact ⟨0, by omega, rfl, Lib.hid (Below.refl _ _), Lib.hid (by simp)⟩
  case round =>
    obtain ⟨k, hk, rfl, HB, HA⟩ := hrel
    by_cases hlt : k < es.length
    · have hlt2 : (k : Int) < (es.length : Int) := by omega
      obtain ⟨b, off, rfl, hb, hc0, hc1, hc2, hc3⟩ := HE.out k es[k] (by simp [hlt])
      have hd0 := (HB.out.cell (p := ⟨b, off + k * 4, none⟩) hb).trans hc0
      have hd1 := (HB.out.cell (p := ⟨b, off + k * 4 + 1, none⟩) hb).trans hc1
      have hd2 := (HB.out.cell (p := ⟨b, off + k * 4 + 2, none⟩) hb).trans hc2
      have hd3 := (HB.out.cell (p := ⟨b, off + k * 4 + 3, none⟩) hb).trans hc3
      have HT : Hid (es.take (k + 1) = es.take k ++ [es[k]]) := Lib.hid (List.take_succ_eq_append_getElem hlt)
      have HF : Hid (p es[k] = true → R = (k : Int)) := Lib.hid (fun h => by rw [← HR.out]; exact firstI_at hlt HA.out h)
      have HCALL := Lib.hid (HP.out wr es[k] (List.getElem_mem hlt) HB.out )
      generalize es[k] = x at *
      cases hq : p x with
      | true =>
        rw [hq] at HCALL
        have HQ := Lib.hid (HF.out hq)
        clear hq
        go_wp2_with (go_at_fn g; refine HCALL.out.mono ?_; rintro e w' ⟨rfl, hb'⟩)
        go_ret
        exact ⟨by rw [HQ.out]; rfl, hb'⟩
      | false =>
        rw [hq] at HCALL
        have HQ := Lib.hid hq
        clear hq
        go_wp2_with (go_at_fn g; refine HCALL.out.mono ?_; rintro e w' ⟨rfl, hb'⟩)
        go_roundw
        case rel =>
          refine ⟨k + 1, by omega, by go_num, Lib.hid hb', Lib.hid ?_⟩
          rw [HT.out]
          intro y hy
          rcases List.mem_append.1 hy with hy | hy
          · exact HA.out y hy
          · rw [List.mem_singleton] at hy; rw [hy]; exact HQ.out
        case measure => simp [intOf]; omega
    · have hkk : k = es.length := by omega
      subst hkk
      rw [List.take_length] at HA
      have HN := Lib.hid (show R = -1 by rw [← HR.out]; exact firstI_none HA.out)
      go_wp2_with fail
      go_ret
      exact ⟨by rw [HN.out]; rfl, HB.out⟩
theorem has_sel (g : Nat) (lb : Array Value) (eg : ∀ args w, (callFunc g args).run Tryz.prog w = .ok (.enter g args) w) (p : SelL → Bool) (v : Value) (es : List SelL) (w : World) (hes : es.length ≤ 1000000000) (hE : SelsOf w.heap.size v es w) (hp : PredS4 g lb es p w) :
    Calls Tryz.prog 36 #[v, .func (.func g) #[] lb] w fun e w' => e = .returned (.bool (es.any p)) ∧ Below w.heap.size w w' := by
  have HI := Lib.hid (idx_sel g lb eg p v es w hes hE hp)
  obtain ⟨f1, f2⟩ := firstI_any p es
  generalize firstI p es = r at HI f1 f2
  generalize es.any p = q at f1 f2 ⊢
  have HF := Lib.hid (And.intro f1 f2)
  obtain ⟨ao, ec, rfl, _⟩ := hE
  clear hp eg f1 f2
  go_enter Tryz.func36, Tryz.ntmps36
  go_wp2_with fail
  refine HI.out.mono ?_
  rintro e w' ⟨rfl, hb⟩
  cases q with
  | true =>
    have h0 : 0 ≤ r := HF.out.1.2 rfl
    go_wp2_with fail
    go_ret
    exact ⟨rfl, hb⟩
  | false =>
    have h2 : r < 0 := HF.out.2.2 rfl
    have h0 : ¬ 0 ≤ r := by omega
    have h1 : decide (0 ≤ r) = false := decide_eq_false h0
    go_wp2_with fail
    go_ret
    exact ⟨rfl, hb⟩
end Go.Proofs.YtenfkejbndifdaaGreatDoor
