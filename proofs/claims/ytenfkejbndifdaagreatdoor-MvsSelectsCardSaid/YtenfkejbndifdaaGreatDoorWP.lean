/- The graph's exist; slices.ContainsFunc at numbers. Contract of the graph's Reverse. The graph of a selection: graph.Of. The index's table.selected. Contracts of the reference's part, Valid and Compare. Contracts of the constraint's Place and At, and of the reference's. Contract of the constraint's Has. -/
import Derived.Test.YtenfkejbndifdaaGreatDoorWO
import Derived.Test.YtenfkejbndifdaaGreatDoorWE
import Derived.Test.YtenfkejbndifdaaGreatDoorWM
import Derived.Test.YtenfkejbndifdaaGreatDoorWB
import Derived.Test.YtenfkejbndifdaaGreatDoorWG
import Derived.Test.YtenfkejbndifdaaGreatDoorWD
import Derived.Test.YtenfkejbndifdaaGreatDoorWA
namespace Go.Proofs.YtenfkejbndifdaaGreatDoor
set_option linter.unusedVariables false
set_option linter.unusedSimpArgs false
open Go Go.RowKit

theorem rowOf_open {α : Type} {enc : α → Value} {B : Nat} {v : Value} {l : List α} {W : World} (h : RowOf enc B v l W) :
    ∃ ao cap, v = .slice ao l.length cap ∧ ∀ i x, l[i]? = some x → ∃ b off, ao = some ⟨b, off, none⟩ ∧ b < B ∧ W.cell? ⟨b, off + i, none⟩ = some (enc x) := by
  rcases h with ⟨rfl, a, c, rfl⟩ | ⟨b, off, cap, rfl, hb, h⟩
  · exact ⟨a, c, rfl, fun i x hx => by simp at hx⟩
  · exact ⟨_, cap, rfl, fun i x hx => ⟨b, off, rfl, hb, h i x hx⟩⟩
def PredI (g : Nat) (lb : Array Value) (es : List (Int)) (p : Int → Bool) (w : World) : Prop :=
  ∀ (W : World) (x : Int), x ∈ es → Below w.heap.size w W → Calls Tryz.prog g (#[intC x] ++ lb) W fun e w' => e = .returned (.bool (p x)) ∧ Below w.heap.size w w'

end Go.Proofs.YtenfkejbndifdaaGreatDoor

namespace Go.Proofs.YtenfkejbndifdaaGreatDoor
set_option linter.unusedVariables false
set_option linter.unusedSimpArgs false
open Go Go.RowKit

def revE (n : Nat) (es : List (Int × Int)) : List (Int × Int) := if validG n es = true then es.map swapE else []
def revN {α : Type} (ns : List α) (es : List (Int × Int)) : List α := if validG ns.length es = true then ns else []
def edgeCells (es : List (Int × Int)) : List Value := es.flatMap fun x => [intC x.1, intC x.2]
end Go.Proofs.YtenfkejbndifdaaGreatDoor

namespace Go.Proofs.YtenfkejbndifdaaGreatDoor
set_option linter.unusedVariables false
set_option linter.unusedSimpArgs false
open Go Go.RowKit

def incrK (s : List SelL) (k : Nat) : Prop := ∀ j, j + 1 < k → ltB (s.getD j default).1 (s.getD (j + 1) default).1 = true
theorem incrK_all {s : List SelL} : incrK s s.length ↔ incrS s := by
  have hg : ∀ i (hi : i < s.length), s.getD i default = s[i] := fun i hi => by rw [List.getD_eq_getElem?_getD, List.getElem?_eq_getElem hi]; rfl
  constructor
  · intro h
    unfold incrS
    rw [List.pairwise_iff_getElem]
    intro i j hi hj hij
    obtain ⟨d, rfl⟩ : ∃ d, j = i + d + 1 := ⟨j - i - 1, by omega⟩
    clear hij
    induction d with
    | zero => have := h i (by omega); rwa [hg i hi, hg (i + 1) (by omega)] at this
    | succ d ih =>
      have := h (i + d + 1) (by omega)
      rw [hg (i + d + 1) (by omega), hg (i + d + 1 + 1) (by omega)] at this
      exact ltB_trans (ih (by omega)) this
  · intro h j hj
    rw [hg j (by omega), hg (j + 1) hj]
    exact List.pairwise_iff_getElem.1 h j (j + 1) (by omega) hj (by omega)
theorem incrK_step {s : List SelL} {k : Nat} (h : incrK s k) (h2 : 0 < k → ltB (s.getD (k - 1) default).1 (s.getD k default).1 = true) : incrK s (k + 1) := fun j hj => by
  by_cases e : j + 1 = k
  · subst e
    exact h2 (by omega)
  · exact h j (by omega)
theorem SelsOf.at {B : Nat} {ao : Option Addr} {n cap : Nat} {s : List SelL} {W : World} (h : SelsOf B (.slice ao n cap) s W) {i : Nat} (hi : i < s.length) :
    ∃ b off, ao = some ⟨b, off, none⟩ ∧ b < B ∧ W.cell? ⟨b, off + i * 4, none⟩ = some (.string (s.getD i default).1) ∧ W.cell? ⟨b, off + i * 4 + 1, none⟩ = some (intC (s.getD i default).2.1) ∧ W.cell? ⟨b, off + i * 4 + 2, none⟩ = some (intC (s.getD i default).2.2.1) ∧ W.cell? ⟨b, off + i * 4 + 3, none⟩ = some (intC (s.getD i default).2.2.2) := by
  obtain ⟨ao', cap', e, h⟩ := h
  cases e
  obtain ⟨b, off, e, h0, h1⟩ := h i s[i] (by simp [hi])
  have hg : s.getD i default = s[i] := by rw [List.getD_eq_getElem?_getD, List.getElem?_eq_getElem hi]; rfl
  rw [hg]
  exact ⟨b, off, e, h0, h1⟩
def GraphR (w : World) (g : (List ByteArray × List (Int × Int)) × Int) (e : Ending) (w' : World) : Prop :=
  ∃ nv ev, e = .returned (.tuple #[.agg #[nv, ev], .int .i64 g.2]) ∧ RowOf Value.string w'.heap.size nv g.1.1 w' ∧ EdgesOf w'.heap.size ev g.1.2 w' ∧ Below w.heap.size w w'
theorem eqs_dec (a b : ByteArray) : (a.toList == b.toList) = decide (a = b) := by
  by_cases h : a = b
  · subst h; simp
  · have : ¬ a.toList = b.toList := fun e => h (bytes_inj e)
    simp [h, this]
structure OfJ (w1 : World) (g : Nat) (s : List SelL) (k : Nat) (es : List (Int × Int)) (nv ev : Value) (W : World) : Prop where
  bel : Below w1.heap.size w1 W
  lo : w1.heap.size ≤ g
  out : W.heap[g]? = some (.cells #[nv, ev] 100 (0, 0))
  nodes : W.ownsRow (g + 1) 9 1 nv k ((s.take k).map (fun y => .string y.1))
  edges : W.ownsRow (g + 1) 149 2 ev es.length (edgeCells es)
variable {w1 : World} {g : Nat} {s : List SelL} {k : Nat} {es : List (Int × Int)} {nv ev : Value} {W : World}
end Go.Proofs.YtenfkejbndifdaaGreatDoor

namespace Go.Proofs.YtenfkejbndifdaaGreatDoor
set_option linter.unusedVariables false
set_option linter.unusedSimpArgs false
open Go Go.RowKit Go.Maps

def relXs (l : List RelL) (rs : List Value) : List Value := (l.zip rs).flatMap fun p => (relC p.1 p.2).toList
def pickK (X : List RelL) (s : List SelL) (k : Nat) : List RelL := (s.take k).map fun y => (findX X y).getD default
def SelectR (w : World) (B : Nat) (X : List RelL) (s : List SelL) (e : Ending) (w' : World) : Prop :=
  Below w.heap.size w w' ∧ ((¬ incrS s ∧ e = .returned (.tuple #[.slice none 0 0, .int .i64 1])) ∨
    (incrS s ∧ (∃ y ∈ s, findX X y = none) ∧ e = .returned (.tuple #[.slice none 0 0, .int .i64 6])) ∨
    (incrS s ∧ (∀ y ∈ s, (findX X y).isSome = true) ∧ ∃ v rs, e = .returned (.tuple #[v, .int .i64 0]) ∧ rs.length = s.length ∧ w'.ownsRow w.heap.size 71 9 v s.length (relXs (pickK X s s.length) rs) ∧
      ∀ i, i < s.length → ReqsOf B (rs.getD i undef) ((pickK X s s.length).getD i default).reqs w'))
end Go.Proofs.YtenfkejbndifdaaGreatDoor

namespace Go.Proofs.YtenfkejbndifdaaGreatDoor
open Go Go.RowKit

theorem rpart_any (n : Int) (w : World) : Calls Tryz.prog 181 #[.int .i64 n] w fun e w' => e = .returned (.bool (partB n)) ∧ w = w' := by
  cases h : partB n with
  | true =>
    obtain ⟨h1, h2⟩ := part_yes h
    clear h
    go_enter Tryz.func181, Tryz.ntmps181
    go_wp2
    go_ret
    exact ⟨rfl, rfl⟩
  | false =>
    rcases (show n < 0 ∨ (0 ≤ n ∧ ¬ n ≤ 999) by have := part_no h; omega) with h1 | ⟨h1, h2⟩
    all_goals
      clear h
      go_enter Tryz.func181, Tryz.ntmps181
      go_wp2
      go_ret
      exact ⟨rfl, rfl⟩
theorem rValid_any (a b c : Int) (w : World) : Calls Tryz.prog 149 #[.agg #[.int .i64 a, .int .i64 b, .int .i64 c]] w fun e w' => e = .returned (.bool (validB a b c)) ∧ w' = w.alloc (.cells #[.int .i64 a, .int .i64 b, .int .i64 c] 41) := by
  have HE : Hid (validB a b c = (partB a && (partB b && partB c))) := Lib.hid rfl
  obtain ⟨v, hv⟩ : ∃ v, validB a b c = v := ⟨_, rfl⟩
  rw [hv] at HE ⊢
  clear hv
  cases h1 : partB a with
  | false =>
    have HV := Lib.hid (show v = false by rw [HE.out, h1]; rfl)
    go_enter Tryz.func149, Tryz.ntmps149
    go_wp2_with (go_at_call 181; refine (rpart_any _ _).mono ?_; rintro e w' ⟨rfl, rfl⟩)
    go_ret
    exact ⟨by rw [HV.out]; rfl, rfl⟩
  | true =>
    cases h2 : partB b with
    | false =>
      have HV := Lib.hid (show v = false by rw [HE.out, h1, h2]; rfl)
      go_enter Tryz.func149, Tryz.ntmps149
      go_wp2_with (go_at_call 181; refine (rpart_any _ _).mono ?_; rintro e w' ⟨rfl, rfl⟩)
      go_ret
      exact ⟨by rw [HV.out]; rfl, rfl⟩
    | true =>
      cases h3 : partB c with
      | false =>
        have HV := Lib.hid (show v = false by rw [HE.out, h1, h2, h3]; rfl)
        go_enter Tryz.func149, Tryz.ntmps149
        go_wp2_with (go_at_call 181; refine (rpart_any _ _).mono ?_; rintro e w' ⟨rfl, rfl⟩)
        go_ret
        exact ⟨by rw [HV.out]; rfl, rfl⟩
      | true =>
        have HV := Lib.hid (show v = true by rw [HE.out, h1, h2, h3]; rfl)
        go_enter Tryz.func149, Tryz.ntmps149
        go_wp2_with (go_at_call 181; refine (rpart_any _ _).mono ?_; rintro e w' ⟨rfl, rfl⟩)
        go_ret
        exact ⟨by rw [HV.out]; rfl, rfl⟩
end Go.Proofs.YtenfkejbndifdaaGreatDoor

namespace Go.Proofs.YtenfkejbndifdaaGreatDoor
set_option linter.unusedVariables false
set_option linter.unusedSimpArgs false
open Go Go.RowKit

def placeV (a b c : Int) : Int × Int := if validB a b c = true then (1000 * b + c, 0) else (0, 2)
def atV (m p : Int) : (Int × Int × Int) × Int := if partB m = true ∧ 0 ≤ p ∧ p < 1000000 then ((m, p / 1000, p % 1000), 0) else ((0, 0, 0), 2)
set_option maxRecDepth 100000 in
theorem Place_any (a b c : Int) (w : World) : Calls Tryz.prog 40 #[.agg #[.int .i64 a, .int .i64 b, .int .i64 c]] w fun e w' => e = .returned (.tuple #[.int .i64 (placeV a b c).1, .int .i64 (placeV a b c).2]) ∧ Below w.heap.size w w' := by
  by_cases hv : validB a b c = true
  · have HE := Lib.hid (show placeV a b c = (1000 * b + c, 0) by unfold placeV; rw [if_pos hv])
    rw [HE.out]
    obtain ⟨⟨a0, a1⟩, ⟨b0, b1⟩, c0, c1⟩ := valid_le hv
    go_enter Tryz.func40, Tryz.ntmps40
    go_wp2_with (go_at_call 95; refine (Valid_any _ _ _ _).mono ?_; rintro e w' ⟨rfl, rfl⟩)
    go_ret2
    exact ⟨rfl, (by repeat (first | exact Below.refl _ _ | refine Below.drew ?_ | refine Below.alloc ?_ (by simp <;> omega) _ | refine Below.setCell ?_ (by simp <;> omega) _))⟩
  · have hv : validB a b c = false := by simpa using hv
    have HE := Lib.hid (show placeV a b c = (0, 2) by unfold placeV; rw [hv]; rfl)
    rw [HE.out]
    go_enter Tryz.func40, Tryz.ntmps40
    go_wp2_with (go_at_call 95; refine (Valid_any _ _ _ _).mono ?_; rintro e w' ⟨rfl, rfl⟩)
    go_ret2
    exact ⟨rfl, (by repeat (first | exact Below.refl _ _ | refine Below.drew ?_ | refine Below.alloc ?_ (by simp <;> omega) _ | refine Below.setCell ?_ (by simp <;> omega) _))⟩
end Go.Proofs.YtenfkejbndifdaaGreatDoor

namespace Go.Proofs.YtenfkejbndifdaaGreatDoor
set_option linter.unusedVariables false
set_option linter.unusedSimpArgs false
open Go Go.RowKit

def inB (p : Int) (x : Int × Int) : Bool := decide (x.1 ≤ p) && decide (p < x.2)
end Go.Proofs.YtenfkejbndifdaaGreatDoor
