/- Minimal version selection, plain: causes. slices. -/
import Derived.Test.YtenfkejbndifdaaGreatDoorUI
import Derived.Test.YtenfkejbndifdaaGreatDoorUH
import Derived.Test.YtenfkejbndifdaaGreatDoorUC
import Derived.Test.YtenfkejbndifdaaGreatDoorUD
namespace Go.Proofs.YtenfkejbndifdaaGreatDoor
set_option linter.unusedVariables false
set_option linter.unusedSimpArgs false
open Go

def relEs (X : List RelL) : List (Int × Int) := (List.range X.length).flatMap fun i => (X.getD i default).reqs.filterMap fun q => (namedI false X q).map fun (k : Nat) => ((i : Int), (k : Int))
theorem relEs_mem {X : List RelL} {x : Int × Int} : x ∈ relEs X ↔ ∃ (i : Nat) (q : ReqL) (k : Nat), i < X.length ∧ q ∈ (X.getD i default).reqs ∧ namedI false X q = some k ∧ x = ((i : Int), (k : Int)) := by
  unfold relEs
  rw [List.mem_flatMap]
  constructor
  · rintro ⟨i, hi, h⟩
    obtain ⟨q, hq, h1⟩ := List.mem_filterMap.1 h
    obtain ⟨k, hk, h2⟩ := Option.map_eq_some_iff.1 h1
    exact ⟨i, q, k, List.mem_range.1 hi, hq, hk, h2.symm⟩
  · rintro ⟨i, q, k, hi, hq, hk, rfl⟩
    exact ⟨i, List.mem_range.2 hi, List.mem_filterMap.2 ⟨q, hq, by rw [hk]; rfl⟩⟩
theorem rel_suc {X : List RelL} {a b : Nat} : b ∈ (sucs X.length (relEs X)).getD a [] ↔ a < X.length ∧ ∃ q ∈ (X.getD a default).reqs, namedI false X q = some b := by
  rw [mem_sucs, relEs_mem]
  constructor
  · rintro ⟨ha, hb, i, q, k, hi, hq, hk, e⟩
    injection e with e1 e2
    have e1 : a = i := by omega
    have e2 : b = k := by omega
    subst e1 e2
    exact ⟨ha, q, hq, hk⟩
  · rintro ⟨ha, q, hq, hk⟩
    exact ⟨ha, (candI_mem.1 (named_mem hk)).1, a, q, b, ha, hq, hk, rfl⟩
def bestK (ds : List Int) : Nat → Option Nat
  | 0 => none
  | k + 1 => match bestK ds k with
    | none => if 0 ≤ ds.getD k (-1) then some k else none
    | some r => if 0 ≤ ds.getD k (-1) ∧ ds.getD k (-1) < ds.getD r (-1) then some k else some r
theorem bestK_some {ds : List Int} : ∀ {k r : Nat}, bestK ds k = some r → r < k ∧ 0 ≤ ds.getD r (-1)
  | 0, r, h => by cases h
  | k + 1, r, h => by
    unfold bestK at h
    cases hb : bestK ds k with
    | none =>
      rw [hb] at h
      simp only at h
      split at h
      · rename_i h1; cases h; exact ⟨by omega, h1⟩
      · cases h
    | some t =>
      rw [hb] at h
      obtain ⟨h1, h2⟩ := bestK_some hb
      simp only at h
      split at h
      · rename_i h3; cases h; exact ⟨by omega, h3.1⟩
      · cases h; exact ⟨by omega, h2⟩
theorem bestK_none {ds : List Int} : ∀ {k : Nat}, bestK ds k = none → ∀ r, r < k → ds.getD r (-1) < 0
  | 0, _, r, hr => by omega
  | k + 1, h, r, hr => by
    unfold bestK at h
    cases hb : bestK ds k with
    | none =>
      rw [hb] at h
      simp only at h
      split at h
      · cases h
      · rename_i h1
        rcases Nat.lt_or_eq_of_le (Nat.le_of_lt_succ hr) with h2 | rfl
        · exact bestK_none hb r h2
        · omega
    | some t =>
      rw [hb] at h
      simp only at h
      split at h <;> cases h
def dT (X : List RelL) (t : Nat) : List Int := bfsD (sucs X.length ((relEs X).map swapE)) 0 t
def rootD (X : List RelL) (roots : List ReqL) (t : Nat) : List Int := roots.map fun q => match namedI false X q with
  | some k => gD (dT X t) k
  | none => -1
abbrev CauL := ByteArray × Int × List SelL
noncomputable def tgtM (X : List RelL) (roots : List ReqL) (p : ByteArray) : Option Nat := (topM false X roots).find? fun i => decide ((X.getD i default).path = p)
noncomputable def whyV (X : List RelL) (roots : List ReqL) (p : ByteArray) : CauL × Int :=
  if (selM false X roots).2 ≠ 0 then ((⟨#[]⟩, 0, []), (selM false X roots).2)
  else match tgtM X roots p with
    | none => ((⟨#[]⟩, 0, []), 6)
    | some t => match bestK (rootD X roots t) roots.length with
      | none => ((p, 0, []), 0)
      | some r => ((p, (r : Int), (pathF X.length (relEs X) ((namedI false X (roots.getD r default)).getD 0) t).map fun i => keyL (X.getD i default)), 0)
def chainB (X : List RelL) : List ReqL → List SelL → Bool
  | _, [] => true
  | l, s :: t => match (l.filterMap (namedI false X)).find? fun k => decide (keyL (X.getD k default) = s) with
    | some k => chainB X (X.getD k default).reqs t
    | none => false
noncomputable def checkV (X : List RelL) (roots : List ReqL) (c : CauL) : Bool := open Classical in
  decide ((selM false X roots).2 = 0) && (decide (0 ≤ c.2.1 ∧ c.2.1 < roots.length) && (match c.2.2.getLast? with
    | none => false
    | some y => decide (y.1 = c.1) && (decide (y ∈ (selM false X roots).1) && chainB X [roots.getD c.2.1.toNat default] c.2.2)))
theorem path_desc {X : List RelL} {a t : Nat} (h : 0 ≤ gD (dT X t) a) :
    pathF X.length (relEs X) a t = descP (sucs X.length (relEs X)) (dT X t) (gD (dT X t) a).toNat a := by
  unfold pathF dT at *
  simp only
  rw [if_neg (by omega)]
theorem reach_rch {X : List RelL} {roots : List ReqL} {i : Nat} (h : RchM false X roots i) : ∃ q ∈ roots, ∃ k, namedI false X q = some k ∧ Rch (sucs X.length (relEs X)) k i := by
  induction h with
  | root hq hn => exact ⟨_, hq, _, hn, .refl _⟩
  | step hk hq hn ih =>
    obtain ⟨q, hq2, k, hk2, hr⟩ := ih
    exact ⟨q, hq2, k, hk2, hr.trans (.step (rel_suc.2 ⟨hk.lt.1, _, hq, hn⟩) (.refl _))⟩
end Go.Proofs.YtenfkejbndifdaaGreatDoor

namespace Go.Proofs.YtenfkejbndifdaaGreatDoor
set_option linter.unusedVariables false
set_option linter.unusedSimpArgs false
open Go Go.RowKit

def firstI {α : Type} (p : α → Bool) (l : List α) : Int := match l.findIdx? p with
  | some i => (i : Int)
  | none => -1
theorem firstI_none {α : Type} {p : α → Bool} {l : List α} (h : ∀ x ∈ l, p x = false) : firstI p l = -1 := by
  unfold firstI
  rw [List.findIdx?_eq_none_iff.2 fun x hx => by simp [h x hx]]
theorem firstI_at {α : Type} {p : α → Bool} {l : List α} {k : Nat} (hk : k < l.length) (h : ∀ x ∈ l.take k, p x = false) (h2 : p l[k] = true) : firstI p l = (k : Int) := by
  unfold firstI
  rw [List.findIdx?_eq_some_iff_getElem.2 ⟨hk, h2, fun j hj => by
    have : l[j] ∈ l.take k := by
      rw [List.mem_iff_getElem]
      exact ⟨j, by simp; omega, by simp⟩
    simp [h _ this]⟩]
theorem firstI_any {α : Type} (p : α → Bool) (l : List α) : (0 ≤ firstI p l ↔ l.any p = true) ∧ (firstI p l < 0 ↔ l.any p = false) := by
  unfold firstI
  cases h : l.findIdx? p with
  | none =>
    have := List.findIdx?_eq_none_iff.1 h
    have h2 : l.any p = false := by rw [List.any_eq_false]; exact fun x hx => by simp [this x hx]
    simp [h2]
  | some i =>
    obtain ⟨hi, h1, _⟩ := List.findIdx?_eq_some_iff_getElem.1 h
    have h2 : l.any p = true := by rw [List.any_eq_true]; exact ⟨_, List.getElem_mem hi, h1⟩
    simp [h2]
def PredQ (g : Nat) (lb : Array Value) (es : List ReqL) (p : ReqL → Bool) (w : World) : Prop :=
  ∀ (W : World) (x : ReqL) (r : Value), x ∈ es → Below w.heap.size w W → SpansOf W.heap.size r x.2 W → Calls Tryz.prog g (#[.agg #[.string x.1, r]] ++ lb) W fun e w' => e = .returned (.bool (p x)) ∧ Below w.heap.size w w'
set_option maxRecDepth 100000 in
set_option maxHeartbeats 4000000 in
theorem idx_req (g : Nat) (lb : Array Value) (eg : ∀ args w, (callFunc g args).run Tryz.prog w = .ok (.enter g args) w) (p : ReqL → Bool) (v : Value) (es : List ReqL) (w : World) (hes : es.length ≤ 1000000000) (hE : ReqsOf w.heap.size v es w) (hp : PredQ g lb es p w) :
    Calls Tryz.prog 92 #[v, .func (.func g) #[] lb] w fun e w' => e = .returned (.int .i64 (firstI p es)) ∧ Below w.heap.size w w' := by
  obtain ⟨ao, ec, rfl, hE⟩ := hE
  have HE := Lib.hid hE
  have HP := Lib.hid hp
  obtain ⟨R, hR⟩ : ∃ R, firstI p es = R := ⟨_, rfl⟩
  have HR := Lib.hid hR
  rw [hR]
  clear hE hp hR
  go_enter Tryz.func92, Tryz.ntmps92
  go_wp2_with fail
  go_loopw [8] (fun s wr => ∃ k : Nat, k ≤ es.length ∧ s = .int .i64 k ∧ Hid (Below w.heap.size w wr) ∧ Hid (∀ x ∈ es.take k, p x = false)) (fun s _ => es.length - (intOf s).toNat)
  case atStart => exact ⟨0, by omega, rfl, Lib.hid (Below.refl _ _), Lib.hid (by simp)⟩
  case round =>
    obtain ⟨k, hk, rfl, HB, HA⟩ := hrel
    by_cases hlt : k < es.length
    · have hlt2 : (k : Int) < (es.length : Int) := by omega
      obtain ⟨b, off, r, rfl, hb, hc1, hc2, hsp⟩ := HE.out k es[k] (by simp [hlt])
      have hd1 := (HB.out.cell (p := ⟨b, off + k * 2, none⟩) hb).trans hc1
      have hd2 := (HB.out.cell (p := ⟨b, off + k * 2 + 1, none⟩) hb).trans hc2
      have HSP := Lib.hid hsp
      have HT : Hid (es.take (k + 1) = es.take k ++ [es[k]]) := Lib.hid (List.take_succ_eq_append_getElem hlt)
      have HF : Hid (p es[k] = true → R = (k : Int)) := Lib.hid (fun h => by rw [← HR.out]; exact firstI_at hlt HA.out h)
      have HCALL := Lib.hid (HP.out wr es[k] r (List.getElem_mem hlt) HB.out ((hsp.below HB.out (Nat.le_refl _)).mono HB.out.size))
      obtain ⟨ra, rc, rfl, _⟩ := hsp
      clear HSP
      generalize es[k] = x at *
      cases hq : p x with
      | true =>
        rw [hq] at HCALL
        have HQ := Lib.hid (HF.out hq)
        clear hq
        go_wp2_with (go_at_fn g; refine HCALL.out.mono ?_; rintro e w' ⟨rfl, hb'⟩)
        go_ret
        exact ⟨by rw [HQ.out]; rfl, hb'⟩
      | false =>
        rw [hq] at HCALL
        have HQ := Lib.hid hq
        clear hq
        go_wp2_with (go_at_fn g; refine HCALL.out.mono ?_; rintro e w' ⟨rfl, hb'⟩)
        go_roundw
        case rel =>
          refine ⟨k + 1, by omega, by go_num, Lib.hid hb', Lib.hid ?_⟩
          rw [HT.out]
          intro y hy
          rcases List.mem_append.1 hy with hy | hy
          · exact HA.out y hy
          · rw [List.mem_singleton] at hy; rw [hy]; exact HQ.out
        case measure => simp [intOf]; omega
    · have hkk : k = es.length := by omega
      subst hkk
      rw [List.take_length] at HA
      have HN := Lib.hid (show R = -1 by rw [← HR.out]; exact firstI_none HA.out)
      go_wp2_with fail
      go_ret
      exact ⟨by rw [HN.out]; rfl, HB.out⟩
theorem has_req (g : Nat) (lb : Array Value) (eg : ∀ args w, (callFunc g args).run Tryz.prog w = .ok (.enter g args) w) (p : ReqL → Bool) (v : Value) (es : List ReqL) (w : World) (hes : es.length ≤ 1000000000) (hE : ReqsOf w.heap.size v es w) (hp : PredQ g lb es p w) :
    Calls Tryz.prog 33 #[v, .func (.func g) #[] lb] w fun e w' => e = .returned (.bool (es.any p)) ∧ Below w.heap.size w w' := by
  have HI := Lib.hid (idx_req g lb eg p v es w hes hE hp)
  obtain ⟨f1, f2⟩ := firstI_any p es
  generalize firstI p es = r at HI f1 f2
  generalize es.any p = q at f1 f2 ⊢
  have HF := Lib.hid (And.intro f1 f2)
  obtain ⟨ao, ec, rfl, _⟩ := hE
  clear hp eg f1 f2
  go_enter Tryz.func33, Tryz.ntmps33
  go_wp2_with fail
  refine HI.out.mono ?_
  rintro e w' ⟨rfl, hb⟩
  cases q with
  | true =>
    have h0 : 0 ≤ r := HF.out.1.2 rfl
    go_wp2_with fail
    go_ret
    exact ⟨rfl, hb⟩
  | false =>
    have h2 : r < 0 := HF.out.2.2 rfl
    have h0 : ¬ 0 ≤ r := by omega
    have h1 : decide (0 ≤ r) = false := decide_eq_false h0
    go_wp2_with fail
    go_ret
    exact ⟨rfl, hb⟩
def PredR (g : Nat) (lb : Array Value) (es : List RelL) (p : RelL → Bool) (w : World) : Prop :=
  ∀ (W : World) (x : RelL) (r : Value), x ∈ es → Below w.heap.size w W → ReqsOf W.heap.size r x.reqs W → Calls Tryz.prog g (#[.agg (relC x r)] ++ lb) W fun e w' => e = .returned (.bool (p x)) ∧ Below w.heap.size w w'
set_option maxRecDepth 100000 in
set_option maxHeartbeats 4000000 in
theorem idx_rel (g : Nat) (lb : Array Value) (eg : ∀ args w, (callFunc g args).run Tryz.prog w = .ok (.enter g args) w) (p : RelL → Bool) (v : Value) (es : List RelL) (w : World) (hes : es.length ≤ 1000000000) (hE : RelsOf w.heap.size v es w) (hp : PredR g lb es p w) :
    Calls Tryz.prog 120 #[v, .func (.func g) #[] lb] w fun e w' => e = .returned (.int .i64 (firstI p es)) ∧ Below w.heap.size w w' := by
  obtain ⟨ao, ec, rfl, hE⟩ := hE
  have HE := Lib.hid hE
  have HP := Lib.hid hp
  obtain ⟨R, hR⟩ : ∃ R, firstI p es = R := ⟨_, rfl⟩
  have HR := Lib.hid hR
  rw [hR]
  clear hE hp hR
  go_enter Tryz.func120, Tryz.ntmps120
  go_wp2_with fail
  go_loopw [8] (fun s wr => ∃ k : Nat, k ≤ es.length ∧ s = .int .i64 k ∧ Hid (Below w.heap.size w wr) ∧ Hid (∀ x ∈ es.take k, p x = false)) (fun s _ => es.length - (intOf s).toNat)
  case atStart => exact ⟨0, by omega, rfl, Lib.hid (Below.refl _ _), Lib.hid (by simp)⟩
  case round =>
    obtain ⟨k, hk, rfl, HB, HA⟩ := hrel
    by_cases hlt : k < es.length
    · have hlt2 : (k : Int) < (es.length : Int) := by omega
      obtain ⟨b, off, rfl, hb, hra⟩ := HE.out k es[k] (by simp [hlt])
      obtain ⟨r, hr, d0, d1, d2, d3, d4, d5, d6, d7, d8⟩ := (hra.below HB.out (Nat.le_refl _) hb).box
      have HT : Hid (es.take (k + 1) = es.take k ++ [es[k]]) := Lib.hid (List.take_succ_eq_append_getElem hlt)
      have HF : Hid (p es[k] = true → R = (k : Int)) := Lib.hid (fun h => by rw [← HR.out]; exact firstI_at hlt HA.out h)
      have HCALL := Lib.hid (HP.out wr es[k] r (List.getElem_mem hlt) HB.out (hr.mono HB.out.size))
      clear hra hr
      simp only [relC] at HCALL
      generalize es[k] = x at *
      cases hq : p x with
      | true =>
        rw [hq] at HCALL
        have HQ := Lib.hid (HF.out hq)
        clear hq
        go_wp2_with (go_at_fn g; refine HCALL.out.mono ?_; rintro e w' ⟨rfl, hb'⟩)
        go_ret
        exact ⟨by rw [HQ.out]; rfl, hb'⟩
      | false =>
        rw [hq] at HCALL
        have HQ := Lib.hid hq
        clear hq
        go_wp2_with (go_at_fn g; refine HCALL.out.mono ?_; rintro e w' ⟨rfl, hb'⟩)
        go_roundw
        case rel =>
          refine ⟨k + 1, by omega, by go_num, Lib.hid hb', Lib.hid ?_⟩
          rw [HT.out]
          intro y hy
          rcases List.mem_append.1 hy with hy | hy
          · exact HA.out y hy
          · rw [List.mem_singleton] at hy; rw [hy]; exact HQ.out
        case measure => simp [intOf]; omega
    · have hkk : k = es.length := by omega
      subst hkk
      rw [List.take_length] at HA
      have HN := Lib.hid (show R = -1 by rw [← HR.out]; exact firstI_none HA.out)
      go_wp2_with fail
      go_ret
      exact ⟨by rw [HN.out]; rfl, HB.out⟩
theorem has_rel (g : Nat) (lb : Array Value) (eg : ∀ args w, (callFunc g args).run Tryz.prog w = .ok (.enter g args) w) (p : RelL → Bool) (v : Value) (es : List RelL) (w : World) (hes : es.length ≤ 1000000000) (hE : RelsOf w.heap.size v es w) (hp : PredR g lb es p w) :
    Calls Tryz.prog 74 #[v, .func (.func g) #[] lb] w fun e w' => e = .returned (.bool (es.any p)) ∧ Below w.heap.size w w' := by
  have HI := Lib.hid (idx_rel g lb eg p v es w hes hE hp)
  obtain ⟨f1, f2⟩ := firstI_any p es
  generalize firstI p es = r at HI f1 f2
  generalize es.any p = q at f1 f2 ⊢
  have HF := Lib.hid (And.intro f1 f2)
  obtain ⟨ao, ec, rfl, _⟩ := hE
  clear hp eg f1 f2
  go_enter Tryz.func74, Tryz.ntmps74
  go_wp2_with fail
  refine HI.out.mono ?_
  rintro e w' ⟨rfl, hb⟩
  cases q with
  | true =>
    have h0 : 0 ≤ r := HF.out.1.2 rfl
    go_wp2_with fail
    go_ret
    exact ⟨rfl, hb⟩
  | false =>
    have h2 : r < 0 := HF.out.2.2 rfl
    have h0 : ¬ 0 ≤ r := by omega
    have h1 : decide (0 ≤ r) = false := decide_eq_false h0
    go_wp2_with fail
    go_ret
    exact ⟨rfl, hb⟩
def PredS4 (g : Nat) (lb : Array Value) (es : List SelL) (p : SelL → Bool) (w : World) : Prop :=
  ∀ (W : World) (x : SelL), x ∈ es → Below w.heap.size w W →  Calls Tryz.prog g (#[.agg #[.string x.1, intC x.2.1, intC x.2.2.1, intC x.2.2.2]] ++ lb) W fun e w' => e = .returned (.bool (p x)) ∧ Below w.heap.size w w'
end Go.Proofs.YtenfkejbndifdaaGreatDoor

namespace Go.Proofs.YtenfkejbndifdaaGreatDoor
set_option linter.unusedVariables false
set_option linter.unusedSimpArgs false
open Go

def namesL (nw : Bool) (X : List RelL) (l : List ReqL) : List Nat := l.filterMap (namedI nw X)
def AllN (nw : Bool) (X : List RelL) (l : List ReqL) : Prop := ∀ q ∈ l, (namedI nw X q).isSome = true
theorem namesL_mem {nw : Bool} {X : List RelL} {l : List ReqL} {i : Nat} : i ∈ namesL nw X l ↔ ∃ q ∈ l, namedI nw X q = some i := List.mem_filterMap
theorem namesL_len {nw : Bool} {X : List RelL} {l : List ReqL} : (namesL nw X l).length ≤ l.length := List.length_filterMap_le _ _
theorem namesL_snoc {nw : Bool} {X : List RelL} {l : List ReqL} {q : ReqL} {i : Nat} (h : namedI nw X q = some i) : namesL nw X (l ++ [q]) = namesL nw X l ++ [i] := by
  unfold namesL
  rw [List.filterMap_append]
  simp [h]
theorem namesL_all : ∀ {nw : Bool} {X : List RelL} {l : List ReqL}, AllN nw X l → (namesL nw X l).length = l.length
  | _, _, [], _ => rfl
  | nw, X, q :: l, h => by
    obtain ⟨i, hi⟩ := Option.isSome_iff_exists.1 (h q (by simp))
    have := namesL_all (l := l) (nw := nw) (X := X) (fun p hp => h p (by simp [hp]))
    unfold namesL at this ⊢
    rw [List.filterMap_cons, hi]
    simp [this]
structure RchI (nw : Bool) (X : List RelL) (roots : List ReqL) (seen todo : List Nat) : Prop where
  nodup : seen.Nodup
  seenR : ∀ i ∈ seen, RchM nw X roots i
  todoR : ∀ i ∈ todo, RchM nw X roots i
  root : ∀ q ∈ roots, ∃ i, namedI nw X q = some i ∧ (i ∈ seen ∨ i ∈ todo)
  step : ∀ k ∈ seen, ∀ q ∈ (X.getD k default).reqs, ∃ i, namedI nw X q = some i ∧ (i ∈ seen ∨ i ∈ todo)
variable {nw : Bool} {X : List RelL} {roots : List ReqL} {seen todo : List Nat}
theorem RchI.start (h : AllN nw X roots) : RchI nw X roots [] (namesL nw X roots) := by
  refine ⟨List.nodup_nil, (fun i hi => by cases hi), fun i hi => ?_, fun q hq => ?_, (fun k hk => by cases hk)⟩
  · obtain ⟨q, hq, hn⟩ := namesL_mem.1 hi
    exact .root hq hn
  · obtain ⟨i, hi⟩ := Option.isSome_iff_exists.1 (h q hq)
    exact ⟨i, hi, .inr (namesL_mem.2 ⟨q, hq, hi⟩)⟩
theorem RchI.noroot (h : ¬ AllN nw X roots) : ¬ AllM nw X roots := fun ha => h fun q hq => by
  obtain ⟨i, hi⟩ := ha.1 q hq
  rw [hi]; rfl
theorem RchI.skip {i : Nat} (h : RchI nw X roots seen (i :: todo)) (hi : i ∈ seen) : RchI nw X roots seen todo := by
  have key : ∀ j, (j ∈ seen ∨ j ∈ i :: todo) → j ∈ seen ∨ j ∈ todo := fun j hj => by
    rcases hj with hj | hj
    · exact .inl hj
    · rcases List.mem_cons.1 hj with rfl | hj
      · exact .inl hi
      · exact .inr hj
  exact ⟨h.nodup, h.seenR, fun j hj => h.todoR j (List.mem_cons_of_mem _ hj), fun q hq => by
    obtain ⟨j, h1, h2⟩ := h.root q hq
    exact ⟨j, h1, key j h2⟩, fun k hk q hq => by
    obtain ⟨j, h1, h2⟩ := h.step k hk q hq
    exact ⟨j, h1, key j h2⟩⟩
theorem RchI.no {i : Nat} (h : RchI nw X roots seen (i :: todo)) (hn : ¬ AllN nw X (X.getD i default).reqs) : ¬ AllM nw X roots := fun ha => hn fun q hq => by
  obtain ⟨j, hj⟩ := ha.2 i (h.todoR i (by simp)) q hq
  rw [hj]; rfl
theorem RchI.mark {i : Nat} (h : RchI nw X roots seen (i :: todo)) (hi : i ∉ seen) (hn : AllN nw X (X.getD i default).reqs) : RchI nw X roots (i :: seen) (todo ++ namesL nw X (X.getD i default).reqs) := by
  have hr := h.todoR i (by simp)
  have key : ∀ j, (j ∈ seen ∨ j ∈ i :: todo) → j ∈ i :: seen ∨ j ∈ todo ++ namesL nw X (X.getD i default).reqs := fun j hj => by
    rcases hj with hj | hj
    · exact .inl (List.mem_cons_of_mem _ hj)
    · rcases List.mem_cons.1 hj with rfl | hj
      · exact .inl (by simp)
      · exact .inr (List.mem_append.2 (.inl hj))
  refine ⟨List.nodup_cons.2 ⟨hi, h.nodup⟩, fun j hj => ?_, fun j hj => ?_, fun q hq => ?_, fun k hk q hq => ?_⟩
  · rcases List.mem_cons.1 hj with rfl | hj
    · exact hr
    · exact h.seenR j hj
  · rcases List.mem_append.1 hj with hj | hj
    · exact h.todoR j (List.mem_cons_of_mem _ hj)
    · obtain ⟨q, hq, hn⟩ := namesL_mem.1 hj
      exact .step hr hq hn
  · obtain ⟨j, h1, h2⟩ := h.root q hq
    exact ⟨j, h1, key j h2⟩
  · rcases List.mem_cons.1 hk with rfl | hk
    · obtain ⟨j, hj⟩ := Option.isSome_iff_exists.1 (hn q hq)
      exact ⟨j, hj, .inr (List.mem_append.2 (.inr (namesL_mem.2 ⟨q, hq, hj⟩)))⟩
    · obtain ⟨j, h1, h2⟩ := h.step k hk q hq
      exact ⟨j, h1, key j h2⟩
theorem RchI.done (h : RchI nw X roots seen []) : AllM nw X roots ∧ ∀ i, RchM nw X roots i ↔ i ∈ seen := by
  have key : ∀ i, RchM nw X roots i → i ∈ seen := fun i hi => by
    induction hi with
    | root hq hn =>
      obtain ⟨j, h1, h2⟩ := h.root _ hq
      rw [hn] at h1
      cases h1
      exact h2.resolve_right (by simp)
    | step hk hq hn ih =>
      obtain ⟨j, h1, h2⟩ := h.step _ ih _ hq
      rw [hn] at h1
      cases h1
      exact h2.resolve_right (by simp)
  refine ⟨⟨fun q hq => ?_, fun k hk q hq => ?_⟩, fun i => ⟨key i, h.seenR i⟩⟩
  · obtain ⟨j, h1, _⟩ := h.root q hq
    exact ⟨j, h1⟩
  · obtain ⟨j, h1, _⟩ := h.step k (key k hk) q hq
    exact ⟨j, h1⟩
theorem RchI.len (h : RchI nw X roots seen todo) : seen.length ≤ X.length := by
  have := sub_length (m := List.range X.length) h.nodup fun i hi => List.mem_range.2 (h.seenR i hi).lt.1
  simpa using this
theorem RchI.lt {i : Nat} (h : RchI nw X roots seen (i :: todo)) (hi : i ∉ seen) : seen.length < X.length := by
  have := sub_length (l := i :: seen) (m := List.range X.length) (List.nodup_cons.2 ⟨hi, h.nodup⟩) fun j hj => List.mem_range.2 (by
    rcases List.mem_cons.1 hj with rfl | hj
    · exact (h.todoR _ (by simp)).lt.1
    · exact (h.seenR j hj).lt.1)
  simp at this
  omega
structure RqI (nw : Bool) (X : List RelL) (roots : List ReqL) (seen : List Nat) (todo : List ReqL) : Prop where
  nodup : seen.Nodup
  seenR : ∀ i ∈ seen, RchM nw X roots i
  todoR : ∀ q ∈ todo, q ∈ roots ∨ ∃ k, RchM nw X roots k ∧ q ∈ (X.getD k default).reqs
  root : ∀ q ∈ roots, (∃ i, namedI nw X q = some i ∧ i ∈ seen) ∨ q ∈ todo
  step : ∀ k ∈ seen, ∀ q ∈ (X.getD k default).reqs, (∃ i, namedI nw X q = some i ∧ i ∈ seen) ∨ q ∈ todo
variable {todoQ : List ReqL}
def grtI (X : List RelL) (p : ByteArray) : List Nat → Option Nat
  | [] => none
  | i :: l => match grtI X p l with
    | some k => if (X.getD i default).path = p ∧ k < i then some i else some k
    | none => if (X.getD i default).path = p then some i else none
theorem grtI_some {p : ByteArray} : ∀ {l : List Nat} {k : Nat}, grtI X p l = some k → k ∈ l ∧ (X.getD k default).path = p ∧ ∀ j ∈ l, (X.getD j default).path = p → j ≤ k
  | [], k, h => by cases h
  | i :: l, k, h => by
    unfold grtI at h
    cases hg : grtI X p l with
    | some m =>
      obtain ⟨h1, h2, h3⟩ := grtI_some hg
      rw [hg] at h
      simp only at h
      split at h
      · rename_i hc
        cases h
        refine ⟨by simp, hc.1, fun j hj hp => ?_⟩
        rcases List.mem_cons.1 hj with rfl | hj
        · exact Nat.le_refl _
        · have := h3 j hj hp; omega
      · rename_i hc
        cases h
        refine ⟨List.mem_cons_of_mem _ h1, h2, fun j hj hp => ?_⟩
        rcases List.mem_cons.1 hj with rfl | hj
        · by_cases hm : k < j
          · exact absurd ⟨hp, hm⟩ hc
          · omega
        · exact h3 j hj hp
    | none =>
      rw [hg] at h
      simp only at h
      split at h
      · rename_i hc
        cases h
        refine ⟨by simp, hc, fun j hj hp => ?_⟩
        rcases List.mem_cons.1 hj with rfl | hj
        · exact Nat.le_refl _
        · exact absurd hp (grtI_none hg j hj)
      · cases h
where grtI_none {p : ByteArray} : ∀ {l : List Nat}, grtI X p l = none → ∀ j ∈ l, (X.getD j default).path ≠ p
  | [], _, j, hj => by cases hj
  | i :: l, h, j, hj => by
    unfold grtI at h
    cases hg : grtI X p l with
    | some m => rw [hg] at h; simp only at h; split at h <;> cases h
    | none =>
      rw [hg] at h
      simp only at h
      split at h
      · cases h
      · rename_i hc
        rcases List.mem_cons.1 hj with rfl | hj
        · exact hc
        · exact grtI_none hg j hj
theorem grtI_no {p : ByteArray} {l : List Nat} (h : grtI X p l = none) : ∀ j ∈ l, (X.getD j default).path ≠ p := grtI_some.grtI_none h
theorem grt_top (hs : ∀ i, RchM nw X roots i ↔ i ∈ seen) {i : Nat} : i ∈ topM nw X roots ↔ ∃ p, grtI X p seen = some i := by
  rw [topM_mem]
  constructor
  · rintro ⟨h1, h2⟩
    cases hg : grtI X (X.getD i default).path seen with
    | none => exact absurd rfl (grtI_no hg i ((hs i).1 h1))
    | some k =>
      obtain ⟨a, b, c⟩ := grtI_some hg
      have h3 := h2 k ((hs k).2 a) b
      have h4 := c i ((hs i).1 h1) rfl
      have : k = i := by omega
      exact ⟨_, this ▸ hg⟩
  · rintro ⟨p, hg⟩
    obtain ⟨a, b, c⟩ := grtI_some hg
    exact ⟨(hs i).2 a, fun j hj hp => c j ((hs j).1 hj) (hp.trans b)⟩
theorem top_unique {l : List Nat} (hl : l.Pairwise (· < ·)) (h : ∀ i, i ∈ l ↔ i ∈ topM nw X roots) : l = topM nw X roots :=
  List.Perm.eq_of_pairwise (le := (· < ·)) (fun _ _ _ _ h1 h2 => absurd h1 (Nat.lt_asymm h2)) hl (topM_sorted nw X roots) ((List.perm_ext_iff_of_nodup (hl.imp Nat.ne_of_lt) ((topM_sorted nw X roots).imp Nat.ne_of_lt)).2 h)
def geB (X : List RelL) (mn : Int) (i : Nat) : Bool := decide (mn ≤ plc (X.getD i default).ver)
theorem cand_avail {X : List RelL} (hX : IdxOk X) {q : ReqL} (hq : UpQ q) : candI X q = (availI X q.1).filter (geB X (leastV q.2).1) := by
  unfold candI availI
  rw [List.filter_filter]
  refine List.filter_congr fun i hi => ?_
  have hi := List.mem_range.1 hi
  have hp := (hX.rel i hi).plc
  unfold reachB geB
  rw [hq.has hp.1 hp.2]
  cases decide (q.1 = (X.getD i default).path) <;> cases (X.getD i default).yk <;> simp
theorem named_old {X : List RelL} (hX : IdxOk X) {q : ReqL} (hq : UpQ q) : namedI false X q = (availI X q.1).find? (geB X (leastV q.2).1) := by
  unfold namedI
  rw [if_neg (by decide), cand_avail hX hq, List.head?_filter]
theorem named_new {X : List RelL} (hX : IdxOk X) {q : ReqL} (hq : UpQ q) : namedI true X q = match (availI X q.1).getLast? with
    | some i => if geB X (leastV q.2).1 i = true then some i else none
    | none => none := by
  unfold namedI
  rw [if_pos rfl, cand_avail hX hq]
  rcases List.eq_nil_or_concat (availI X q.1) with h | ⟨l, i, h⟩
  · rw [h]; rfl
  · have hs := availI_sorted X q.1
    have hm : ∀ j ∈ availI X q.1, j < X.length ∧ q.1 = (X.getD j default).path := fun j hj => by
      unfold availI at hj
      obtain ⟨h1, h2⟩ := List.mem_filter.1 hj
      rw [Bool.and_eq_true, decide_eq_true_iff] at h2
      exact ⟨List.mem_range.1 h1, h2.1⟩
    rw [List.concat_eq_append] at h
    rw [h] at hs hm ⊢
    rw [List.filter_append, List.getLast?_append]
    have hl : (l ++ [i]).getLast? = some i := by simp
    cases hg : geB X (leastV q.2).1 i with
    | true => simp [hg]
    | false =>
      have : List.filter (geB X (leastV q.2).1) l = [] := List.filter_eq_nil_iff.2 fun j hj => by
        rw [List.pairwise_append] at hs
        have hji := hs.2.2 j hj i (by simp)
        have hi := hm i (by simp)
        have hjm := hm j (by simp [hj])
        have := hX.mono (Nat.le_of_lt hji) hi.1 (hjm.2.symm.trans hi.2)
        unfold geB at hg ⊢
        rw [decide_eq_false_iff_not] at hg
        rw [decide_eq_true_iff]
        omega
      simp [hg, this]
end Go.Proofs.YtenfkejbndifdaaGreatDoor
