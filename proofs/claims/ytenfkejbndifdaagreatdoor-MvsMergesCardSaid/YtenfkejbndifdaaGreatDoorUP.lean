/- A range over a map that a call has made, whose elements are any values. Contract of the world's choose. -/
import Derived.Test.YtenfkejbndifdaaGreatDoorUH
import Derived.Sort.KeysCollected
import Derived.Test.YtenfkejbndifdaaGreatDoorUO
import Derived.Test.YtenfkejbndifdaaGreatDoorUL
import Derived.Test.YtenfkejbndifdaaGreatDoorUB
import Derived.Shelf.GgClosure.StringsIndexFunc
import Derived.Lib.SpaceUEq
import Derived.Lib.Atoi
import Derived.Test.YtenfkejbndifdaaGreatDoorUA
import Derived.Lib.IndexMore
import Derived.Lib.TrimByte
namespace Go.Proofs.YtenfkejbndifdaaGreatDoor
set_option linter.unusedVariables false
set_option linter.unusedSimpArgs false
open Go Go.RowKit Go.Maps

def RangesF (P : Program) (k : TypeId) (W : World) (b r n : Nat) (f : Lit → Option Value) (left : Lit → Bool) (cnt : Nat) : Prop :=
  ∃ D : DataW Value, W.ranges P k RV b r n D left cnt ∧ Tidy D ∧ (∀ q, Maps.has D q = (f q).isSome) ∧ ∀ q z, D.atKey q z = match f q with | some v => .held v | none => z
variable {P : Program} {k : TypeId} {W : World} {b r n cnt : Nat} {f : Lit → Option Value} {left : Lit → Bool}
theorem RangesF.kept {W' : World} {row : Option Nat} (h : RangesF P k W b r n f left cnt) (hg : W.grownBy W' row) (h1 : some b ≠ row) (h2 : some r ≠ row) : RangesF P k W' b r n f left cnt := by
  obtain ⟨D, h3, h4⟩ := h
  exact ⟨D, h3.kept hg h1 h2, h4⟩
theorem RangesF.lt (h : RangesF P k W b r n f left cnt) : r < W.heap.size := by
  obtain ⟨D, ⟨es, clock, since, seen, c0, _, _, _, _, hr, _⟩, _⟩ := h
  exact (Array.getElem?_eq_some_iff.1 hr).1
theorem RangesF.alloc (h : RangesF P k W b r n f left cnt) (o : Obj) : RangesF P k (W.alloc o) b r n f left cnt := by
  obtain ⟨D, h3, h4⟩ := h
  exact ⟨D, h3.alloc o, h4⟩
theorem RangesF.left_eq (h : RangesF P k W b r n f left cnt) : W.rangeLeft b r = cnt := by
  obtain ⟨D, h3, h4⟩ := h
  exact h3.left_eq
theorem wpList_range_F {ops : Array Oper} {rest : List Oper} {o : Oper} {a : Act} {Q : Exit → Act → World → Prop}
    (hg : o.guard = none) (m : Operand) (t : TypeId) (hop : o.op = Op.range t m) (e : TypeId) (K : Keyed P k) (ht : P.underlying t = some (.map k e))
    (hm : a.eval m = .map (some b)) (hown : MapF P k W b n f)
    (hK : ∀ w' cnt, RangesF P k w' b W.heap.size n f (fun q => (f q).isSome) cnt → W.grownBy w' none → w'.heap.size = W.heap.size + 1 → wpList P ops Q rest (a.put o.dst (.pointer (some ⟨W.heap.size, 0, none⟩))) w') :
    wpList P ops Q (o :: rest) a W := by
  obtain ⟨D, h1, h2, h3, h4⟩ := hown
  refine wpList_range_own W hg m t hop k e K ht RV b n D hm h1 fun w' g1 g2 g3 => hK w' (Maps.size D) ⟨D, ?_, h2, h3, h4⟩ g2 g3
  have : Maps.has D = fun q => (f q).isSome := funext h3
  rwa [this] at g1
theorem wpList_next_F {α : Type} {ops : Array Oper} {rest : List Oper} {o : Oper} {a : Act} {Q : Exit → Act → World → Prop}
    (hg : o.guard = none) (it : Operand) (hop : o.op = Op.next it false) (K : Keyed P k) (mkK : α → Value) (invK : ∀ key kl, keyOf P k key = some kl → ∃ x, key = mkK x)
    (hit : a.eval it = .pointer (some ⟨r, 0, none⟩)) (h : RangesF P k W b r n f left cnt)
    (hDone : (∀ kl, left kl = false) → wpList P ops Q rest (a.put o.dst (.tuple #[.bool false])) W)
    (hMore : ∀ (x : α) (v : Value) (kl : Lit) (w' : World) (cnt' : Nat), keyOf P k (mkK x) = some kl → left kl = true → f kl = some v → RangesF P k w' b r n f (fun z => left z && !z.sameKey kl) cnt' → cnt' < cnt →
      W.grownBy w' (some r) → w'.heap.size = W.heap.size → (Instr.entry (.pointer (some ⟨r, 0, none⟩))).run P w' = .ok (.tuple #[mkK x, v]) w' → wpList P ops Q rest (a.put o.dst (.tuple #[.bool true, mkK x, v])) w') :
    wpList P ops Q (o :: rest) a W := by
  obtain ⟨D, h1, h2, h3, h4⟩ := h
  refine wpList_next_ranges W hg it hop k K RV mkK (fun v : Value => v) invK (fun v y _ => ⟨v, rfl⟩) b r n D left cnt hit h1 (fun _ hl => hDone hl) fun x c kl y w' cnt' hkey hlk hv hat hrg hlt hgr hsz hen => ?_
  have hf : f kl = some c := by
    have h5 := hat (.lit (.bool false))
    have h6 := hat (.lit (.bool true))
    rw [h4] at h5 h6
    cases hfk : f kl with
    | none =>
      rw [hfk] at h5 h6
      rw [← h6] at h5
      injection h5 with h5
      injection h5 with h5
      cases h5
    | some u =>
      rw [hfk] at h5
      unfold RV at hv
      injection hv with hv
      rw [← hv] at h5
      injection h5 with h5
      rw [h5]
  exact hMore x c kl w' cnt' hkey hlk hf ⟨D, hrg, h2, h3, h4⟩ hlt hgr hsz hen
end Go.Proofs.YtenfkejbndifdaaGreatDoor

namespace Go.Proofs.YtenfkejbndifdaaGreatDoor
set_option linter.unusedVariables false
set_option linter.unusedSimpArgs false
open Go Go.RowKit Go.Maps

def GrtF (X : List RelL) (seen : List Nat) (f : Lit → Option Value) : Prop := (∀ p : ByteArray, f (keyP p) = (grtI X p seen).map natC) ∧ ∀ q, (∀ i ∈ seen, keyP (X.getD i default).path ≠ q) → f q = none
theorem GrtF.start (X : List RelL) : GrtF X [] (fun _ => none) := ⟨fun _ => rfl, fun _ _ => rfl⟩
theorem grtI_cons_other {X : List RelL} {p : ByteArray} {i : Nat} {l : List Nat} (h : (X.getD i default).path ≠ p) : grtI X p (i :: l) = grtI X p l := by
  show (match grtI X p l with
    | some k => if (X.getD i default).path = p ∧ k < i then some i else some k
    | none => if (X.getD i default).path = p then some i else none) = _
  cases grtI X p l with
  | none => simp only; rw [if_neg h]
  | some k => simp only; rw [if_neg (fun e => h e.1)]
theorem GrtF.put {X : List RelL} {seen : List Nat} {f : Lit → Option Value} (h : GrtF X seen f) {i : Nat} {p : ByteArray} (hp : (X.getD i default).path = p) (hg : grtI X p seen = none ∨ ∃ k, grtI X p seen = some k ∧ k < i) : GrtF X (i :: seen) (putF f (.string p.data.toList) (natC i)) := by
  refine ⟨fun r => ?_, fun q hq => ?_⟩
  · by_cases e : r = p
    · subst e
      rw [show keyP r = Lit.string r.data.toList from rfl, putF_same]
      show _ = (match grtI X r seen with
        | some k => if (X.getD i default).path = r ∧ k < i then some i else some k
        | none => if (X.getD i default).path = r then some i else none).map natC
      rcases hg with hg | ⟨k, hg, hk⟩
      · rw [hg]; simp only; rw [if_pos hp]; rfl
      · rw [hg]; simp only; rw [if_pos ⟨hp, hk⟩]; rfl
    · show putF f (keyP p) (natC i) (keyP r) = _
      rw [putF_other _ _ (fun e2 => e (keyP_inj e2)), h.1, grtI_cons_other (fun e2 => e (e2.symm.trans hp))]
  · have e : q ≠ .string p.data.toList := fun e => hq i (by simp) (by rw [hp]; exact e.symm)
    rw [putF_other _ _ e]
    exact h.2 q fun r hr => hq r (by simp [hr])
theorem GrtF.same {X : List RelL} {seen : List Nat} {f : Lit → Option Value} (h : GrtF X seen f) {i k : Nat} {p : ByteArray} (hp : (X.getD i default).path = p) (hg : grtI X p seen = some k) (hk : ¬ k < i) : GrtF X (i :: seen) f := by
  refine ⟨fun r => ?_, fun q hq => h.2 q fun r hr => hq r (by simp [hr])⟩
  by_cases e : r = p
  · subst e
    rw [h.1]
    show _ = (match grtI X r seen with
      | some k => if (X.getD i default).path = r ∧ k < i then some i else some k
      | none => if (X.getD i default).path = r then some i else none).map natC
    rw [hg]
    simp only
    rw [if_neg (fun e => hk e.2)]
  · rw [h.1, grtI_cons_other (fun e2 => e (e2.symm.trans hp))]
structure GrtJ (g : Nat) (X : List RelL) (gb gm gg : Nat) (s : List Nat) (W : World) : Prop where
  wb : W.heap[gb]? = some (.cells #[.pointer (some ⟨g, 0, none⟩)] 77 (0, 0))
  mb : W.heap[gg]? = some (.cells #[.map (some gm)] 143 (0, 0))
  map : ∃ f, MapF Tryz.prog 9 W gm s.length f ∧ GrtF X s f
theorem GrtJ.kept {w : World} {g : Nat} {X : List RelL} {gb gm gg : Nat} (h1 : gb < w.heap.size) (h2 : gm < w.heap.size) (h3 : gg < w.heap.size) : JKept w (fun s _ => GrtJ g X gb gm gg s) := fun s _ W W' row h hs hg hr => by
  obtain ⟨a, b, f, c, d⟩ := h
  have ne : ∀ x, x < w.heap.size → some x ≠ row := fun x hx e => by have := (hr x e.symm).1; omega
  exact ⟨(hg.block gb (by omega) (ne gb h1)).trans a, (hg.block gg (by omega) (ne gg h3)).trans b, f, c.kept hg (ne gm h2), d⟩
set_option maxRecDepth 100000 in
set_option maxHeartbeats 4000000 in
theorem choose1_any (g : Nat) (X : List RelL) (a : Option Addr) (c m n : Nat) (f : Lit → Option Value) (gb gm gg : Nat) (s : List Nat) (W : World) (i : Nat) (nv : Value) (hX : X.length ≤ 1000000) (hXb : ∀ x ∈ X, RelBd x) (hw : WorldOf W g X a c m n f) (hJ : GrtJ g X gb gm gg s W) (h1 : gb ≠ gm) (h2 : gg ≠ gm)
    (hi : i < X.length) (hs : s.length < X.length) (hn : ∃ va vn vc, nv = .slice va vn vc) :
    Calls Tryz.prog 103 #[.int .i64 (i : Int), nv, .pointer (some ⟨gb, 0, none⟩), .pointer (some ⟨gg, 0, none⟩)] W fun e w' => e = .returned (.tuple #[]) ∧ W.grownBy w' (some gm) ∧ GrtJ g X gb gm gg (i :: s) w' := by
  obtain ⟨va, vn, vc, rfl⟩ := hn
  obtain ⟨b, off, ra, rc, rfl, hbl, hcs, hrq⟩ := hw.rel hi
  have c0 := hw.c0
  obtain ⟨d0, _⟩ := hcs
  have hps : (X.getD i default).path.size ≤ maxLen := by
    have := (hXb _ (List.getElem_mem hi)).path
    rw [List.getD_eq_getElem?_getD, List.getElem?_eq_getElem hi]
    unfold maxLen
    simp only [Option.getD_some]
    omega
  obtain ⟨p, hp⟩ : ∃ p, (X.getD i default).path = p := ⟨_, rfl⟩
  rw [hp] at d0 hps
  have HPP := Lib.hid hp
  obtain ⟨b0, b1, f2, hm, hG⟩ := hJ
  have HB0 := Lib.hid b0
  have HB1 := Lib.hid b1
  have HM := Lib.hid hm
  have HG := Lib.hid hG
  have e0 : W.cell? ⟨gb, 0, none⟩ = some (.pointer (some ⟨g, 0, none⟩)) := cell_of_row _ _ 0 _ _ _ b0
  have e1 : W.cell? ⟨gg, 0, none⟩ = some (.map (some gm)) := cell_of_row _ _ 0 _ _ _ b1
  have hgb := (Array.getElem?_eq_some_iff.1 b0).1
  have hgg := (Array.getElem?_eq_some_iff.1 b1).1
  have hi2 : (i : Int) < (X.length : Int) := by omega
  have hztd : ∀ W, (zeroValue 3).run Tryz.prog W = .ok (.int .i64 0) W := Tryz.zeroValue3
  have HZ := Lib.hid hztd
  have HLK := Lib.hid (show f2 (.string p.data.toList) = (grtI X p s).map natC from hG.1 p)
  have HKY := Lib.hid (keyStr hps)
  clear hw hrq hp b0 b1 hm hG hztd hXb
  have hput : ∀ (W2 : World), MapF Tryz.prog 9 W2 gm (s.length + 1) (putF f2 (.string p.data.toList) (natC i)) → W.grownBy W2 (some gm) → (grtI X p s = none ∨ ∃ k, grtI X p s = some k ∧ k < i) → GrtJ g X gb gm gg (i :: s) W2 := fun W2 h3 h4 h5 =>
    ⟨(h4.block gb hgb (by intro e; injection e with e; exact h1 e)).trans HB0.out, (h4.block gg hgg (by intro e; injection e with e; exact h2 e)).trans HB1.out, _, h3, HG.out.put HPP.out h5⟩
  have HPUT := Lib.hid hput
  clear hput
  cases hgr : grtI X p s with
  | none =>
    rw [hgr] at HLK HPUT
    clear hgr
    go_enter Tryz.func103, Tryz.ntmps103
    go_wp2_with (first | (at_lookup; refine wpList_look_ok_F rfl _ _ 143 rfl 9 3 lawStr Tryz.underlying143 (HZ.out _) gm s.length f2 (by rfl) HM.out _ (.string p.data.toList) rfl HKY.out ?_; rw [HLK.out]) | (refine wpList_put_F rfl _ _ _ _ rfl 9 3 lawStr Tryz.underlying143 gm s.length f2 (by rfl) HM.out (by unfold maxLen; omega) _ _ (.string p.data.toList) rfl rfl HKY.out ?_; intro W11 h11 g11; have H11 := Lib.hid h11; have G11 := Lib.hid g11; clear h11 g11))
    go_end0
    exact ⟨rfl, G11.out, HPUT.out W11 H11.out G11.out (.inl (by trivial))⟩
  | some k =>
    have HGR := Lib.hid hgr
    rw [hgr] at HLK HPUT
    clear hgr
    by_cases hki : k < i
    · have hk1 : (k : Int) < (i : Int) := by omega
      have hk2 : decide ((k : Int) < (i : Int)) = true := decide_eq_true hk1
      have hk3 : decide (k < i) = true := decide_eq_true hki
      go_enter Tryz.func103, Tryz.ntmps103
      go_wp2_with (first | (at_lookup; refine wpList_look_ok_F rfl _ _ 143 rfl 9 3 lawStr Tryz.underlying143 (HZ.out _) gm s.length f2 (by rfl) HM.out _ (.string p.data.toList) rfl HKY.out ?_; rw [HLK.out]) | (refine wpList_put_F rfl _ _ _ _ rfl 9 3 lawStr Tryz.underlying143 gm s.length f2 (by rfl) HM.out (by unfold maxLen; omega) _ _ (.string p.data.toList) rfl rfl HKY.out ?_; intro W11 h11 g11; have H11 := Lib.hid h11; have G11 := Lib.hid g11; clear h11 g11))
      go_end0
      exact ⟨rfl, G11.out, HPUT.out W11 H11.out G11.out (.inr ⟨k, rfl, hki⟩)⟩
    · have hk1 : ¬ (k : Int) < (i : Int) := by omega
      have hk2 : decide ((k : Int) < (i : Int)) = false := decide_eq_false hk1
      have hk3 : decide (k < i) = false := decide_eq_false hki
      go_enter Tryz.func103, Tryz.ntmps103
      go_wp2_with (at_lookup; refine wpList_look_ok_F rfl _ _ 143 rfl 9 3 lawStr Tryz.underlying143 (HZ.out _) gm s.length f2 (by rfl) HM.out _ (.string p.data.toList) rfl HKY.out ?_; rw [HLK.out])
      go_end0
      exact ⟨rfl, World.grownBy.refl _ _, HB0.out, HB1.out, f2, HM.out.mono (by simp), HG.out.same HPP.out HGR.out hki⟩
theorem own_lower {W : World} {B B' e s n : Nat} {v : Value} {xs : List Value} (h : W.ownsRow B e s v n xs) (hB : B' ≤ B) : W.ownsRow B' e s v n xs := by
  refine ⟨h.1, ?_⟩
  rcases h.2 with h2 | ⟨g, cap, cur, rfl, hb, r⟩
  · exact .inl h2
  · exact .inr ⟨g, cap, cur, rfl, Nat.le_trans hB hb, r⟩
def ChooseR (nw : Bool) (X : List RelL) (roots : List ReqL) (w : World) (e : Ending) (w' : World) : Prop := Below w.heap.size w w' ∧
  ((AllM nw X roots ∧ ∃ v, e = .returned (.tuple #[v, .int .i64 0]) ∧ w'.ownsRow w.heap.size 3 1 v (topM nw X roots).length ((topM nw X roots).map natC)) ∨ (¬ AllM nw X roots ∧ e = .returned (.tuple #[.slice none 0 0, .int .i64 6])))
def CollN (f : Lit → Option Value) (left : Lit → Bool) (l : List Nat) : Prop := l.Nodup ∧ ∀ i, i ∈ l ↔ ∃ p, f (keyP p) = some (natC i) ∧ left (keyP p) = false
theorem natC_inj {a b : Nat} (h : natC a = natC b) : a = b := by
  injection h with _ h
  exact Int.ofNat.inj h
theorem CollN.start {X : List RelL} {s : List Nat} {f : Lit → Option Value} (h : GrtF X s f) : CollN f (fun q => (f q).isSome) [] := by
  refine ⟨List.nodup_nil, fun i => ⟨(fun h => by cases h), ?_⟩⟩
  rintro ⟨p, h1, h2⟩
  have h2 : (f (keyP p)).isSome = false := h2
  rw [h1] at h2
  cases h2
theorem CollN.step {X : List RelL} {s : List Nat} {f : Lit → Option Value} {left : Lit → Bool} {l : List Nat} (h : CollN f left l) (hG : GrtF X s f) {p : ByteArray} {i : Nat} (hf : f (keyP p) = some (natC i)) (hl : left (keyP p) = true) : CollN f (fun z => left z && !z.sameKey (keyP p)) (l ++ [i]) := by
  have hpi : ∀ {q : ByteArray} {j : Nat}, f (keyP q) = some (natC j) → (X.getD j default).path = q := fun {q j} h => by
    rw [hG.1] at h
    obtain ⟨k, hk, e⟩ := Option.map_eq_some_iff.1 h
    rw [← natC_inj e]
    exact (grtI_some hk).2.1
  have hnew : i ∉ l := fun hi => by
    obtain ⟨q, h1, h2⟩ := (h.2 i).1 hi
    have : q = p := (hpi h1).symm.trans (hpi hf)
    rw [this, hl] at h2
    cases h2
  refine ⟨List.nodup_append.2 ⟨h.1, by simp, fun a ha b hb => by simp at hb; subst hb; exact fun e => hnew (e ▸ ha)⟩, fun j => ?_⟩
  rw [List.mem_append, List.mem_singleton, h.2]
  constructor
  · rintro (⟨q, h1, h2⟩ | rfl)
    · exact ⟨q, h1, by show (left (keyP q) && !(keyP q).sameKey (keyP p)) = false; rw [h2]; rfl⟩
    · exact ⟨p, hf, by simp [keyP, Lit.sameKey]⟩
  · rintro ⟨q, h1, h2⟩
    by_cases hq : q = p
    · subst hq
      rw [hf] at h1
      exact .inr (natC_inj (Option.some.inj h1)).symm
    · refine .inl ⟨q, h1, ?_⟩
      have : (keyP q).sameKey (keyP p) = false := by
        cases hs : (keyP q).sameKey (keyP p) with
        | false => rfl
        | true => exact absurd (keyP_inj (WideAt.sameKey_eq hs)) hq
      have h2 : (left (keyP q) && !(keyP q).sameKey (keyP p)) = false := h2
      rw [this] at h2
      simpa using h2
theorem CollN.done {nw : Bool} {X : List RelL} {roots : List ReqL} {s : List Nat} {f : Lit → Option Value} {left : Lit → Bool} {l : List Nat} (h : CollN f left l) (hG : GrtF X s f) (hs : ∀ i, RchM nw X roots i ↔ i ∈ s) (hl : ∀ q, left q = false) : l.Nodup ∧ ∀ i, i ∈ l ↔ i ∈ topM nw X roots := by
  refine ⟨h.1, fun i => ?_⟩
  rw [h.2, grt_top hs]
  constructor
  · rintro ⟨p, h1, _⟩
    rw [hG.1] at h1
    obtain ⟨k, hk, e⟩ := Option.map_eq_some_iff.1 h1
    exact ⟨p, by rw [hk, natC_inj e]⟩
  · rintro ⟨p, hp⟩
    exact ⟨p, by rw [hG.1, hp]; rfl, hl _⟩
theorem CollN.len {X : List RelL} {s : List Nat} {f : Lit → Option Value} {left : Lit → Bool} {l : List Nat} (h : CollN f left l) (hG : GrtF X s f) : l.length ≤ s.length := sub_length h.1 fun i hi => by
  obtain ⟨p, h1, _⟩ := (h.2 i).1 hi
  rw [hG.1] at h1
  obtain ⟨k, hk, e⟩ := Option.map_eq_some_iff.1 h1
  rw [← natC_inj e]
  exact (grtI_some hk).1
theorem sort_top {nw : Bool} {X : List RelL} {roots : List ReqL} {l : List Nat} (hn : l.Nodup) (h : ∀ i, i ∈ l ↔ i ∈ topM nw X roots) : (l.map fun n : Nat => (n : Int)).mergeSort (fun x y => decide (x ≤ y)) = (topM nw X roots).map fun n : Nat => (n : Int) := by
  have hp : l.Perm (topM nw X roots) := (List.perm_ext_iff_of_nodup hn ((topM_sorted nw X roots).imp Nat.ne_of_lt)).2 h
  refine List.Perm.eq_of_pairwise (le := fun a b : Int => a ≤ b) (fun a b _ _ h1 h2 => Int.le_antisymm h1 h2) ?_ ?_ ((List.mergeSort_perm _ _).trans (hp.map _))
  · have := List.pairwise_mergeSort (le := fun x y : Int => decide (x ≤ y)) (fun a b c h1 h2 => by simp at h1 h2 ⊢; omega) (fun a b => by simp; omega) (l.map fun n : Nat => (n : Int))
    exact this.imp fun h => by simpa using h
  · rw [List.pairwise_map]
    exact (topM_sorted nw X roots).imp fun h => by omega
set_option maxRecDepth 100000 in
set_option maxHeartbeats 8000000 in
theorem choose_any (nw : Bool) (fid : Nat) (eg : ∀ args w, (callFunc fid args).run Tryz.prog w = .ok (.enter fid args) w)
    (g : Nat) (X : List RelL) (a : Option Addr) (c m n : Nat) (f : Lit → Option Value) (hby : BySpec nw fid X) (hXl : X.length ≤ 1000000) (hXb : ∀ x ∈ X, RelBd x)
    (roots : List ReqL) (lv : Value) (hp : PlainP X roots) (hll : roots.length ≤ 1000000) (hq : ReqsBd roots) (w : World) (hw : WorldOf w g X a c m n f) (hL : ReqsOf w.heap.size lv roots w) :
    Calls Tryz.prog 50 #[.pointer (some ⟨g, 0, none⟩), .func (.func fid) #[] #[], lv] w (ChooseR nw X roots w) := by
  have hmm := @run_makeMap Tryz.prog
  obtain ⟨la, lc, rfl⟩ : ∃ la lc, lv = .slice la roots.length lc := by obtain ⟨a, c, e, _⟩ := hL; exact ⟨a, c, e⟩
  have HB1 : Hid (Below w.heap.size w (((w.alloc (.cells #[.pointer (some ⟨g, 0, none⟩)] 77)).alloc (.map #[] 0)).alloc (.cells #[.map (some (w.heap.size + 1))] 143))) := Lib.hid (by repeat (first | exact Below.refl _ _ | refine Below.drew ?_ | refine Below.alloc ?_ (by simp <;> omega) _ | refine Below.setCell ?_ (by simp <;> omega) _))
  have HJ0 : Hid (GrtJ g X w.heap.size (w.heap.size + 1) (w.heap.size + 1 + 1) [] (((w.alloc (.cells #[.pointer (some ⟨g, 0, none⟩)] 77)).alloc (.map #[] 0)).alloc (.cells #[.map (some (w.heap.size + 1))] 143))) := Lib.hid (by
    have hget : ∀ (w : World) (o : Obj) (k : Nat), (w.alloc o).heap[k]? = if k = w.heap.size then some o else w.heap[k]? := fun w o k => by
      show (w.heap.push o)[k]? = _
      rw [Array.getElem?_push]
    refine ⟨?_, ?_, _, ?_, GrtF.start X⟩
    · simp only [hget, World.size_alloc]; repeat (first | rw [if_pos trivial] | rw [if_neg (by omega)] | rw [if_pos (by omega)])
    · simp only [hget, World.size_alloc]; repeat (first | rw [if_pos trivial] | rw [if_neg (by omega)] | rw [if_pos (by omega)])
    · have := (MapF.made Tryz.prog 9 (w.alloc (.cells #[.pointer (some ⟨g, 0, none⟩)] 77))).alloc (.cells #[.map (some (w.heap.size + 1))] 143)
      rw [World.size_alloc] at this
      exact this)
  go_enter Tryz.func50, Tryz.ntmps50
  go_upto_region 2 with fail
  have hz : (((w.alloc (.cells #[.pointer (some ⟨g, 0, none⟩)] 77)).alloc (.map #[] 0)).alloc (.cells #[.map (some (w.heap.size + 1))] 143)).heap.size = w.heap.size + 1 + 1 + 1 := by simp
  generalize ((w.alloc (.cells #[.pointer (some ⟨g, 0, none⟩)] 77)).alloc (.map #[] 0)).alloc (.cells #[.map (some (w.heap.size + 1))] 143) = W at *
  clear hmm
  have HZ := Lib.hid hz
  have hzl : w.heap.size + 1 + 1 < W.heap.size := by omega
  clear hz
  have HR := Lib.hid (reach_any nw fid 103 #[.pointer (some ⟨w.heap.size, 0, none⟩), .pointer (some ⟨w.heap.size + 1 + 1, 0, none⟩)] eg (enters_of Tryz.func103 (by kernel_rfl) rfl) g X a c m n f hby hXl hXb roots (.slice la roots.length lc) hp hll hq w W (w.heap.size + 1)
    (fun s _ => GrtJ g X w.heap.size (w.heap.size + 1) (w.heap.size + 1 + 1) s) hw HB1.out (by omega) (by omega) (hL.on HB1.out) HJ0.out (GrtJ.kept (by omega) (by omega) (by omega))
    (fun s D W2 i nv hJ hd hb hi _ hs _ hr => (choose1_any g X a c m n f _ _ _ s W2 i nv hXl hXb (hw.below hb) hJ (by omega) (by omega) hi hs (by obtain ⟨a, c, e, _⟩ := rowOf_open hr; exact ⟨_, _, _, e⟩)).mono fun e w' h => ⟨h.1, h.2.1, D, h.2.2, (fun b hb => Nat.lt_of_lt_of_le (hd b hb) h.2.1.size), fun b hb => .inl hb⟩))
  have e0 : W.cell? ⟨w.heap.size, 0, none⟩ = some (.pointer (some ⟨g, 0, none⟩)) := cell_of_row _ _ 0 _ _ _ HJ0.out.wb
  clear hby hw hL hq hXb
  go_wp2_with fail
  refine HR.out.mono ?_
  rintro e w2 ⟨hb2, h2⟩
  have HB2 := Lib.hid hb2
  clear hb2 e0 HR HJ0 HB1
  rcases h2 with ⟨s, _, rfl, hri, hj⟩ | ⟨rfl, hno⟩
  case inr =>
    have HNO := Lib.hid hno
    clear hno
    go_wp2_with fail
    go_ret2
    exact ⟨HB2.out, .inr ⟨HNO.out, rfl⟩⟩
  have HRI := Lib.hid hri
  have hsl := hri.len
  obtain ⟨hjw, hjm, fm, hmf, hgf⟩ := hj
  have HMF := Lib.hid hmf
  have HGF := Lib.hid hgf
  have HJM := Lib.hid hjm
  have e1 : w2.cell? ⟨w.heap.size + 1 + 1, 0, none⟩ = some (.map (some (w.heap.size + 1))) := cell_of_row _ _ 0 _ _ _ hjm
  clear hri hjw hjm hmf hgf
  go_wp2_with (at_range; refine wpList_range_F rfl _ 143 rfl 3 lawStr Tryz.underlying143 (by rfl) HMF.out ?_; intro w3 cnt0 hrg0 hg0 hs0; have HG0 := Lib.hid hg0; have HR0 := Lib.hid hrg0; have HS0 := Lib.hid hs0; clear hg0 hrg0 hs0)
  go_frame
  obtain ⟨i0, hi0', hz0, hz1, hz2⟩ := info_parts info_ints
  have hw3 : w.heap.size ≤ w2.heap.size := HB2.out.size
  have hlm : w.heap.size + 1 < w2.heap.size := HMF.out.lt
  clear HJM
  have HSZ : Hid (w2.heap.size = w2.heap.size) := Lib.hid rfl
  generalize hri : w2.heap.size = ri at HR0 hw3 hlm
  have HRI2 := Lib.hid hri
  go_loopw [9, 11] (fun ov p wr => Hid (∃ (left : Lit → Bool) (cnt : Nat) (l : List Nat), RangesF Tryz.prog 9 wr (w.heap.size + 1) ri s.length fm left cnt ∧ CollN fm left l ∧ wr.ownsRow (ri + 1) 3 1 ov l.length (l.map natC) ∧ Below w.heap.size w wr)) (fun _ _ wr => wr.rangeLeft (w.heap.size + 1) ri)
  case atStart => exact Lib.hid ⟨_, cnt0, [], HR0.out, CollN.start HGF.out, World.ownsRow_nil _ _ _ _, HB2.out.grown HG0.out HB2.out.size (fun b hb => by cases hb)⟩
  case round =>
    obtain ⟨left, cnt, l, hrg, hcl, hown, hbb⟩ := hrel.out
    have HRG := Lib.hid hrg
    have HCL := Lib.hid hcl
    have HOW := Lib.hid hown
    have HBB := Lib.hid hbb
    have hs8 := hbb.size
    have hll2 := hcl.len HGF.out
    have hwri : w.heap.size + 1 < ri := hlm
    obtain ⟨oa, oc, rfl⟩ := own_any hown
    clear hrel hrg hcl hown hbb HR0 HG0 HS0
    go_wp2_with (at_next; refine wpList_next_F rfl _ rfl lawStr (fun x : List UInt8 => Value.string ⟨x.toArray⟩) (fun key kl hk => by obtain ⟨x, e, _⟩ := Maps.keyOf_str Tryz.underlying9 hk; exact ⟨x, e⟩) (by rfl) HRG.out ?_ ?_)
    rotate_left
    · intro x v kl w5 cnt1 hkey hlk hf hrg1 hlt1 hg1 hs1 hen
      obtain ⟨x2, ex, rfl, _⟩ := Maps.keyOf_str Tryz.underlying9 hkey
      obtain rfl : x = x2 := by
        have ex : Value.string ⟨x.toArray⟩ = Value.string ⟨x2.toArray⟩ := ex
        injection ex with ex
        injection ex with ex
        simpa using ex
      have HKP : Hid (Lit.string x = keyP ⟨x.toArray⟩) := Lib.hid rfl
      obtain ⟨i, hvi⟩ : ∃ i, v = natC i := by
        rw [show Lit.string x = keyP ⟨x.toArray⟩ from rfl, HGF.out.1] at hf
        obtain ⟨k, _, e⟩ := Option.map_eq_some_iff.1 hf
        exact ⟨k, e.symm⟩
      subst hvi
      have HC5 := Lib.hid (HCL.out.step HGF.out (p := ⟨x.toArray⟩) hf hlk)
      have HR5 := Lib.hid hrg1
      have HLT := Lib.hid hlt1
      have HO5 : Hid (w5.ownsRow (ri + 1) 3 1 (.slice oa l.length oc) l.length (l.map natC)) := Lib.hid (own_far HOW.out (fun b hb => hg1.block b (HOW.out.lt b hb).2 (by intro e; injection e with e; have := (HOW.out.lt b hb).1; omega)))
      have HB5 := Lib.hid (HBB.out.grown hg1 hs8 (fun b hb => by cases hb; omega))
      have HLE := Lib.hid hrg1.left_eq
      have HLW := Lib.hid HRG.out.left_eq
      have hs5 := HB5.out.size
      have hr5 : ri + 1 ≤ w5.heap.size := by
        have h1 := HR5.out.lt
        omega
      have hll3 : l.length ≤ 1000000 := by omega
      clear hkey hlk hf hrg1 hlt1 hg1 hs1
      have HN9 : Hid ((w5.alloc (.cells #[.int .i64 (i : Int)] 3)).heap[w5.heap.size]? = some (.cells #[.int .i64 (i : Int)] 3)) := Lib.hid (heap_alloc_new w5 _)
      go_wp2_with (at_builtin; refine wpList_append_own _ rfl _ _ 79 rfl (ri + 1) 3 i0 _ 1 8 Tryz.underlying79 hi0' hz0 hz1 hz2 rfl (by decide) (.slice oa l.length oc) _ _ (by rfl) (HO5.out.alloc _) ⟨w5.heap.size, 0, none⟩ 1 1 [.int .i64 (i : Int)] (by rfl) (by rfl) (World.news_of_block HN9.out) (by simp [Value.oneCell']) (by unfold maxLen; omega) (by omega) (by simp; omega) ?_; intro v' wB hown' hgrow _; have HOW6 := Lib.hid hown'; have HGR := Lib.hid hgrow; clear hown' hgrow; obtain ⟨g3, gc3, rfl⟩ := ownsRow_succ HOW6.out)
      have HR6 := Lib.hid ((HR5.out.alloc _).kept HGR.out (fun e => by have := (HO5.out.lt _ e.symm).1; omega) (fun e => by have := (HO5.out.lt _ e.symm).1; omega))
      go_roundw
      case rel => exact Lib.hid ⟨_, cnt1, l ++ [i], HR6.out, HC5.out, by rw [List.length_append, List.map_append]; exact HOW6.out, (HB5.out.alloc hs5 _).grown HGR.out (by simp; omega) (fun b hb => by have := (HO5.out.lt b hb).1; omega)⟩
      case measure => rw [HR6.out.left_eq, HLW.out]; exact HLT.out
    · intro hl0
      obtain ⟨hall, hsee⟩ := HRI.out.done
      obtain ⟨hnd, hmem⟩ := HCL.out.done HGF.out hsee hl0
      have hsort := sort_row (ri + 1) (.slice oa l.length oc) (l.map fun n : Nat => (n : Int)) wr (by rw [List.length_map, List.map_map]; exact HOW.out) (by rw [List.length_map]; omega)
      rw [sort_top hnd hmem] at hsort
      have HSO := Lib.hid hsort
      have HALL := Lib.hid hall
      have hlen : l.length = (topM nw X roots).length := ((List.perm_ext_iff_of_nodup hnd ((topM_sorted nw X roots).imp Nat.ne_of_lt)).2 hmem).length_eq
      have HLEN := Lib.hid hlen
      clear hall hsee hnd hmem hsort hl0 hlen
      go_wp2_with fail
      refine HSO.out.mono ?_
      rintro e w6 ⟨rfl, hg6, ho6⟩
      have HB6 := Lib.hid (HBB.out.grown hg6 hs8 (fun b hb => by have := (HOW.out.lt b hb).1; omega))
      have HO6 := Lib.hid ho6
      clear hg6 ho6
      go_wp2_with fail
      go_ret2
      refine ⟨HB6.out, .inl ⟨HALL.out, _, rfl, ?_⟩⟩
      have h7 := HO6.out
      rw [List.length_map, List.map_map] at h7
      exact own_lower h7 (by omega)
end Go.Proofs.YtenfkejbndifdaaGreatDoor

namespace Go.Proofs.YtenfkejbndifdaaGreatDoor
set_option linter.unusedVariables false
set_option linter.unusedSimpArgs false
open Go

def barsL : List UInt8 → List (List UInt8)
  | [] => [[]]
  | c :: r => if c = 124 then [] :: barsL r else match barsL r with
    | [] => [[c]]
    | h :: t => (c :: h) :: t
def barB (s : ByteArray) : List ByteArray := (barsL s.data.toList).map fun l => ⟨l.toArray⟩
end Go.Proofs.YtenfkejbndifdaaGreatDoor

namespace Go.Proofs.YtenfkejbndifdaaGreatDoor
open Go

def dotsL : List UInt8 → List (List UInt8)
  | [] => [[]]
  | c :: r => if c = 46 then [] :: dotsL r else match dotsL r with
    | [] => [[c]]
    | h :: t => (c :: h) :: t
def dotB (s : ByteArray) : List ByteArray := (dotsL s.data.toList).map fun l => ⟨l.toArray⟩
end Go.Proofs.YtenfkejbndifdaaGreatDoor

namespace Go.Proofs.YtenfkejbndifdaaGreatDoor
open Go

def dgB (b : UInt8) : Bool := decide (48 ≤ b.toNat ∧ b.toNat ≤ 57)
def oddR (x : Nat) : Bool := decide (x < 48) || decide (57 < x)
def wordOk (l : List UInt8) : Bool := decide (l ≠ []) && (decide (l.length ≤ 3) && (l.all dgB && !(decide (1 < l.length) && decide (l.head? = some 48))))
def valF (n : Nat) (l : List UInt8) : Nat := l.foldl (fun n b => n * 10 + (b.toNat - 48)) n
def wordV (l : List UInt8) : Nat := valF 0 l
def parseV (l : List UInt8) : (Int × Int × Int) × Int := match dotsL l with
  | [x, y, z] => if (wordOk x && (wordOk y && wordOk z)) = true then (((wordV x : Int), (wordV y : Int), (wordV z : Int)), 0) else ((0, 0, 0), 3)
  | _ => ((0, 0, 0), 3)
end Go.Proofs.YtenfkejbndifdaaGreatDoor

namespace Go.Proofs.YtenfkejbndifdaaGreatDoor
set_option linter.unusedVariables false
set_option linter.unusedSimpArgs false
open Go

def plV (l : List UInt8) : Int := 1000 * (parseV l).1.2.1 + (parseV l).1.2.2
def synB (l : List UInt8) : Bool := decide ((parseV l).2 ≠ 0)
def othB (m : Int) (l : List UInt8) : Bool := decide ((parseV l).1.1 ≠ m)
def spanP (m : Int) (l : List UInt8) : (Int × Int) × Bool × Bool :=
  if l.head? = some 94 then ((plV l.tail, 1000000), synB l.tail, othB m l.tail)
  else if l.head? = some 126 then ((plV l.tail, plV l.tail / 1000 * 1000 + 1000), synB l.tail, othB m l.tail)
  else if 0 ≤ Lib.index l [46, 46] then
    let a := l.take (Lib.index l [46, 46]).toNat
    let b := l.drop ((Lib.index l [46, 46]).toNat + 2)
    ((if a = [] then 0 else plV a, if b = [] then 1000000 else plV b),
      (decide (a = []) && decide (b = [])) || ((!decide (a = []) && synB a) || (!decide (b = []) && synB b)), (!decide (a = []) && othB m a) || (!decide (b = []) && othB m b))
  else ((plV l, plV l + 1), synB l, othB m l)
def altV (m : Int) (l : List UInt8) : (Int × Int) × Int :=
  if l = [110, 111, 110, 101] then ((0, 0), 0)
  else if l = [42] then ((0, 1000000), 0)
  else if (spanP m l).2.1 = true then ((0, 0), 3)
  else if (spanP m l).2.2 = true ∨ (spanP m l).1.2 ≤ (spanP m l).1.1 then ((0, 0), 1)
  else ((spanP m l).1, 0)
def altsL (l : List UInt8) : List (List UInt8) := (barsL l).map fun a => Lib.trimB a 32
def errL (m : Int) (ps : List (List UInt8)) : Int := match ps.find? (fun a => decide ((altV m a).2 ≠ 0)) with
  | some a => (altV m a).2
  | none => 0
def parseC (m : Int) (l : List UInt8) : List (Int × Int) × Int :=
  if 65536 < l.length ∨ 1024 ≤ l.count 124 then ([], 7)
  else if ¬ (0 ≤ m ∧ m ≤ 999) then ([], 2)
  else if errL m (altsL l) ≠ 0 then ([], errL m (altsL l))
  else (canon ((altsL l).map fun a => (altV m a).1), 0)
def collP (m : Int) (ps : List (List UInt8)) : List (Int × Int) := (ps.filter fun a => !decide (a = [110, 111, 110, 101])).map fun a => (altV m a).1
end Go.Proofs.YtenfkejbndifdaaGreatDoor
