/- A map of numbers that a call makes, read as a function; slices of sets. -/
import Derived.Test.YtdhihdiifgcfdaaGreatDoorCSpan
import Derived.Test.YtdhihdiifgcfdaaGreatDoorCPlainComb
import Derived.Maps.Own
import Derived.Maps.OwnOps
import Derived.Maps.OwnSet
import Derived.Maps.Views
import Derived.Maps.RangeWalk
import Derived.Sort.KeysCollected
namespace Go.Proofs.YtdhihdiifgcfdaaGreatDoor
set_option linter.unusedVariables false
set_option linter.unusedSimpArgs false
open Go Go.RowKit Go.Maps

theorem lawI : Keyed Tryz.prog 3 := int_keyed Tryz.underlying3
theorem wfI {a : Int} (h1 : -9223372036854775808 ≤ a) (h2 : a ≤ 9223372036854775807) : (Lit.int .i64 a).wf = true := by
  simp [Lit.wf, IntKind.min, IntKind.max, IntKind.signed, IntKind.bits]
  omega
theorem keyI {a : Int} (h1 : -9223372036854775808 ≤ a) (h2 : a ≤ 9223372036854775807) : keyOf Tryz.prog 3 (.int .i64 a) = some (.int .i64 a) := keyOf_int_mk Tryz.underlying3 (wfI h1 h2)
theorem elI_mk {a : Int} (h1 : -9223372036854775808 ≤ a) (h2 : a ≤ 9223372036854775807) : plainElem (H := Unit) Tryz.prog 3 (.int .i64 a) = some (.lit (.int .i64 a), []) := plainElem_int Tryz.underlying3 (wfI h1 h2)
/-- a map's datum reads as f, with the keys K. -/
def ReadsI (D : DataW Unit) (f : Int → Int) (K : Int → Prop) : Prop :=
  IsMap D ∧ (∀ q, D.atKey (.int .i64 q) (.lit (.int .i64 0)) = .lit (.int .i64 (f q))) ∧ ∀ q, Maps.has D (.int .i64 q) = true ↔ K q
theorem readsI_nil : ReadsI (.map []) (fun _ => 0) (fun _ => False) := ⟨isMap_empty, fun q => rfl, fun q => ⟨(fun h => by cases h), False.elim⟩⟩
theorem ReadsI.put {D : DataW Unit} {f : Int → Int} {K : Int → Prop} (h : ReadsI D f K) (q c : Int) :
    ReadsI (D.put (.int .i64 q) (.lit (.int .i64 c))) (fun x => if x = q then c else f x) (fun x => x = q ∨ K x) := by
  obtain ⟨h1, h2, h3⟩ := h
  refine ⟨h1.put _ _, fun x => ?_, fun x => ?_⟩
  · show _ = DataW.lit (Lit.int .i64 (if x = q then c else f x))
    by_cases hx : x = q
    · subst hx; rw [if_pos rfl]; exact atKey_put_same h1 (by trivial) _ _
    · rw [if_neg hx, atKey_put_other (fun e => hx (by injection e)), h2]
  · by_cases hx : x = q
    · subst hx; exact ⟨fun _ => .inl rfl, fun _ => has_put_same h1 (by trivial) _⟩
    · rw [has_put_other (fun e => hx (by injection e)), h3]
      exact ⟨.inr, fun h => h.resolve_left hx⟩
theorem ReadsI.ext {D : DataW Unit} {f f' : Int → Int} {K K' : Int → Prop} (h : ReadsI D f K) (hf : ∀ x, f x = f' x) (hK : ∀ x, K x ↔ K' x) : ReadsI D f' K' :=
  ⟨h.1, fun q => by rw [h.2.1, hf], fun q => by rw [h.2.2, hK]⟩
theorem ReadsI.at_ {D : DataW Unit} {f : Int → Int} {K : Int → Prop} (h : ReadsI D f K) {q c : Int} (hc : D.atKey (.int .i64 q) (.lit (.int .i64 0)) = .lit (.int .i64 c)) : c = f q := by
  rw [h.2.1] at hc
  injection hc with hc
  injection hc with _ hc
  exact hc.symm
theorem own_below {W W' : World} {B k b n : Nat} {R : Value → Option (DataW Unit × List MemPlace)} {D : DataW Unit} (h : W.ownsMap Tryz.prog k R b n D) (hb : RowKit.Below B W W') (hB : b < B) : W'.ownsMap Tryz.prog k R b n D := by
  obtain ⟨es, clock, h1, h2⟩ := h
  exact ⟨es, clock, (hb.block b hB).trans h1, h2⟩

/-- what a number changes when a span more is told. -/
theorem chgE_snoc (E : List (Int × Int)) (x : Int × Int) (q : Int) : chgE (E ++ [x]) q = chgE E q + ((if x.1 = q then 1 else 0) - (if x.2 = q then 1 else 0)) := by
  unfold chgE
  rw [List.countP_append, List.countP_append]
  by_cases h1 : x.1 = q <;> by_cases h2 : x.2 = q <;> simp [h1, h2] <;> omega
theorem chgE_bd (E : List (Int × Int)) (q : Int) : -(E.length : Int) ≤ chgE E q ∧ chgE E q ≤ E.length := by
  unfold chgE
  have := List.countP_le_length (p := fun x : Int × Int => decide (x.1 = q)) (l := E)
  have := List.countP_le_length (p := fun x : Int × Int => decide (x.2 = q)) (l := E)
  omega
/-- which bounds are told. -/
def keyE (E : List (Int × Int)) (q : Int) : Prop := q = 0 ∨ q = 1000000 ∨ ∃ x ∈ E, q = x.1 ∨ q = x.2
theorem keyE_snoc (E : List (Int × Int)) (x : Int × Int) (q : Int) : keyE (E ++ [x]) q ↔ q = x.2 ∨ q = x.1 ∨ keyE E q := by
  unfold keyE
  constructor
  · rintro (h | h | ⟨y, hy, h⟩)
    · exact .inr (.inr (.inl h))
    · exact .inr (.inr (.inr (.inl h)))
    · rcases List.mem_append.1 hy with hy | hy
      · exact .inr (.inr (.inr (.inr ⟨y, hy, h⟩)))
      · rcases List.mem_singleton.1 hy with rfl
        exact h.elim (fun h => .inr (.inl h)) .inl
  · rintro (h | h | h | h | ⟨y, hy, h⟩)
    · exact .inr (.inr ⟨x, by simp, .inr h⟩)
    · exact .inr (.inr ⟨x, by simp, .inl h⟩)
    · exact .inl h
    · exact .inr (.inl h)
    · exact .inr (.inr ⟨y, by simp [hy], h⟩)
/-- a span's two ends are told. -/
theorem ReadsI.span {D : DataW Unit} {E : List (Int × Int)} {x : Int × Int} {c1 c2 : Int} (h : ReadsI D (chgE E) (keyE E)) (hx : x.1 ≠ x.2)
    (h1 : D.atKey (.int .i64 x.1) (.lit (.int .i64 0)) = .lit (.int .i64 c1))
    (h2 : (D.put (.int .i64 x.1) (.lit (.int .i64 (c1 + 1)))).atKey (.int .i64 x.2) (.lit (.int .i64 0)) = .lit (.int .i64 c2)) :
    ReadsI ((D.put (.int .i64 x.1) (.lit (.int .i64 (c1 + 1)))).put (.int .i64 x.2) (.lit (.int .i64 (c2 - 1)))) (chgE (E ++ [x])) (keyE (E ++ [x])) := by
  have e1 := h.at_ h1
  have e2 := (h.put x.1 (c1 + 1)).at_ h2
  simp only [if_neg (Ne.symm hx)] at e2
  refine ((h.put x.1 (c1 + 1)).put x.2 (c2 - 1)).ext (fun q => ?_) (fun q => (keyE_snoc E x q).symm)
  rw [chgE_snoc]
  by_cases hq2 : q = x.2
  · subst hq2
    rw [if_pos rfl, if_neg hx, if_pos rfl, e2]
    omega
  · rw [if_neg hq2, if_neg (Ne.symm hq2)]
    by_cases hq1 : q = x.1
    · subst hq1
      rw [if_pos rfl, if_pos rfl, e1]
      omega
    · rw [if_neg hq1, if_neg (Ne.symm hq1)]
      omega
theorem spansOf_snoc (l : List (List (Int × Int))) (s : List (Int × Int)) : spansOf (l ++ [s]) = spansOf l ++ canon s := by
  unfold spansOf
  rw [List.flatMap_append]
  simp

/-- a slice of sets that reads as a list of lists. -/
def SetsOf (B : Nat) (v : Value) (l : List (List (Int × Int))) (W : World) : Prop :=
  ∃ ao cap, v = .slice ao l.length cap ∧ ∀ i s, l[i]? = some s → ∃ b off r, ao = some ⟨b, off, none⟩ ∧ b < B ∧ W.cell? ⟨b, off + i, none⟩ = some r ∧ EdgesOf B r s W
theorem SetsOf.below {B B' : Nat} {v : Value} {l : List (List (Int × Int))} {W W' : World} (h : SetsOf B v l W) (hb : RowKit.Below B' W W') (hB : B ≤ B') : SetsOf B v l W' := by
  obtain ⟨ao, cap, rfl, h⟩ := h
  refine ⟨ao, cap, rfl, fun i s hs => ?_⟩
  obtain ⟨b, off, r, rfl, hlt, h1, h2⟩ := h i s hs
  exact ⟨b, off, r, rfl, hlt, (hb.cell (p := ⟨b, off + i, none⟩) (by simp; omega)).trans h1, h2.below hb hB⟩
theorem SetsOf.mono {B B' : Nat} {v : Value} {l : List (List (Int × Int))} {W : World} (h : SetsOf B v l W) (hB : B ≤ B') : SetsOf B' v l W := by
  obtain ⟨ao, cap, rfl, h⟩ := h
  refine ⟨ao, cap, rfl, fun i s hs => ?_⟩
  obtain ⟨b, off, r, rfl, hlt, h1, h2⟩ := h i s hs
  exact ⟨b, off, r, rfl, by omega, h1, h2.mono hB⟩

/-- the keys met so far in a range over a map of numbers. -/
def CollI (D : DataW Unit) (left : Lit → Bool) (ks : List Int) : Prop := ks.Nodup ∧ ∀ x, x ∈ ks ↔ (Maps.has D (.int .i64 x) = true ∧ left (.int .i64 x) = false)
theorem CollI.start (D : DataW Unit) : CollI D (Maps.has D) [] := ⟨List.nodup_nil, fun x => by cases Maps.has D (.int .i64 x) <;> simp⟩
theorem CollI.step {D : DataW Unit} {left : Lit → Bool} {ks : List Int} (h : CollI D left ks) {x : Int} {y : DataW Unit} (hlk : left (.int .i64 x) = true) (hat : ∀ zd, D.atKey (.int .i64 x) zd = y) :
    CollI D (fun z => left z && !z.sameKey (.int .i64 x)) (ks ++ [x]) := by
  have hhas : Maps.has D (.int .i64 x) = true := has_true_of_atKey hat
  have hnew : x ∉ ks := fun hx => by have := ((h.2 x).1 hx).2; rw [hlk] at this; cases this
  refine ⟨List.nodup_append.2 ⟨h.1, by simp, fun a ha b hb => by simp at hb; subst hb; exact fun e => hnew (e ▸ ha)⟩, fun y => ?_⟩
  by_cases hy : y = x
  · subst hy; simp [hhas, Lit.sameKey]
  · simp [h.2 y, hy, Lit.sameKey]
theorem sets_one {B b : Nat} {v : Value} {s : List (Int × Int)} {W : World} (hB : b < B) (hc : W.cell? ⟨b, 0, none⟩ = some v) (hE : EdgesOf B v s W) : SetsOf B (.slice (some ⟨b, 0, none⟩) 1 1) [s] W :=
  ⟨_, _, rfl, fun i x hx => by
    have hi : i = 0 := by have := (List.getElem?_eq_some_iff.1 hx).1; simpa using this
    subst hi
    cases hx
    exact ⟨b, 0, v, rfl, hB, hc, hE⟩⟩
theorem sets_two {B b : Nat} {v u : Value} {s t : List (Int × Int)} {W : World} (hB : b < B) (hc : W.cell? ⟨b, 0, none⟩ = some v) (hd : W.cell? ⟨b, 1, none⟩ = some u) (hE : EdgesOf B v s W) (hF : EdgesOf B u t W) : SetsOf B (.slice (some ⟨b, 0, none⟩) 2 2) [s, t] W :=
  ⟨_, _, rfl, fun i x hx => by
    have hi : i < 2 := by have := (List.getElem?_eq_some_iff.1 hx).1; simpa using this
    rcases (show i = 0 ∨ i = 1 by omega) with rfl | rfl
    · cases hx
      exact ⟨b, 0, v, rfl, hB, hc, hE⟩
    · cases hx
      exact ⟨b, 0, u, rfl, hB, hd, hF⟩⟩
theorem own_form {W : World} {B e s n : Nat} {v : Value} {xs : List Value} (h : W.ownsRow B e s v n xs) : ∃ a c, v = .slice a n c := by
  rcases h.2 with ⟨rfl, rfl⟩ | ⟨g, cap, cur, rfl, _⟩
  · exact ⟨_, _, rfl⟩
  · exact ⟨_, _, rfl⟩
end Go.Proofs.YtdhihdiifgcfdaaGreatDoor
