/- Constraints as texts, plain. -/
import Derived.Test.YtdhihdiifgcfdaaGreatDoorCPlainBar
import Derived.Test.YtdhihdiifgcfdaaGreatDoorVPlainParse
import Derived.Test.YtdhihdiifgcfdaaGreatDoorCPlain
import Derived.Lib.IndexMore
import Derived.Lib.TrimByte
namespace Go.Proofs.YtdhihdiifgcfdaaGreatDoor
set_option linter.unusedVariables false
set_option linter.unusedSimpArgs false
open Go

/-- the place of a version's text; whether the text is wrong; whether it has another major version. -/
def plV (l : List UInt8) : Int := 1000 * (parseV l).1.2.1 + (parseV l).1.2.2
def synB (l : List UInt8) : Bool := decide ((parseV l).2 ≠ 0)
def othB (m : Int) (l : List UInt8) : Bool := decide ((parseV l).1.1 ≠ m)
theorem parse_cases (l : List UInt8) : (parseV l = ((0, 0, 0), 3)) ∨ ∃ a b c : Int, parseV l = ((a, b, c), 0) ∧ (0 ≤ a ∧ a ≤ 999) ∧ (0 ≤ b ∧ b ≤ 999) ∧ 0 ≤ c ∧ c ≤ 999 := by
  unfold parseV
  split
  · rename_i x y z _
    split
    · rename_i h
      simp only [Bool.and_eq_true] at h
      have h1 := wordV_le x h.1
      have h2 := wordV_le y h.2.1
      have h3 := wordV_le z h.2.2
      exact .inr ⟨_, _, _, rfl, ⟨by omega, by omega⟩, ⟨by omega, by omega⟩, by omega, by omega⟩
    · exact .inl rfl
  · exact .inl rfl
theorem plV_bd (l : List UInt8) : 0 ≤ plV l ∧ plV l ≤ 999999 := by
  unfold plV
  rcases parse_cases l with h | ⟨a, b, c, h, h1, h2, h3⟩ <;> rw [h] <;> simp only <;> omega
/-- the span of an alternative, whether it is wrong, and whether it has another major version. -/
def spanP (m : Int) (l : List UInt8) : (Int × Int) × Bool × Bool :=
  if l.head? = some 94 then ((plV l.tail, 1000000), synB l.tail, othB m l.tail)
  else if l.head? = some 126 then ((plV l.tail, plV l.tail / 1000 * 1000 + 1000), synB l.tail, othB m l.tail)
  else if 0 ≤ Lib.index l [46, 46] then
    let a := l.take (Lib.index l [46, 46]).toNat
    let b := l.drop ((Lib.index l [46, 46]).toNat + 2)
    ((if a = [] then 0 else plV a, if b = [] then 1000000 else plV b),
      (decide (a = []) && decide (b = [])) || ((!decide (a = []) && synB a) || (!decide (b = []) && synB b)), (!decide (a = []) && othB m a) || (!decide (b = []) && othB m b))
  else ((plV l, plV l + 1), synB l, othB m l)
/-- the span of an alternative, and the error. -/
def altV (m : Int) (l : List UInt8) : (Int × Int) × Int :=
  if l = [110, 111, 110, 101] then ((0, 0), 0)
  else if l = [42] then ((0, 1000000), 0)
  else if (spanP m l).2.1 = true then ((0, 0), 3)
  else if (spanP m l).2.2 = true ∨ (spanP m l).1.2 ≤ (spanP m l).1.1 then ((0, 0), 1)
  else ((spanP m l).1, 0)
/-- the alternatives of a text. -/
def altsL (l : List UInt8) : List (List UInt8) := (barsL l).map fun a => Lib.trimB a 32
def errL (m : Int) (ps : List (List UInt8)) : Int := match ps.find? (fun a => decide ((altV m a).2 ≠ 0)) with
  | some a => (altV m a).2
  | none => 0
/-- the set of a constraint, and the error. -/
def parseC (m : Int) (l : List UInt8) : List (Int × Int) × Int :=
  if 65536 < l.length ∨ 1024 ≤ l.count 124 then ([], 7)
  else if ¬ (0 ≤ m ∧ m ≤ 999) then ([], 2)
  else if errL m (altsL l) ≠ 0 then ([], errL m (altsL l))
  else (canon ((altsL l).map fun a => (altV m a).1), 0)
theorem altV_err (m : Int) (l : List UInt8) : (altV m l).2 = 0 ∨ (altV m l).2 = 3 ∨ (altV m l).2 = 1 := by
  unfold altV
  repeat (split <;> try simp)
theorem errL_at {m : Int} {ps : List (List UInt8)} {k : Nat} (hk : k < ps.length) (h : ∀ a ∈ ps.take k, (altV m a).2 = 0) (h2 : (altV m ps[k]).2 ≠ 0) : errL m ps = (altV m ps[k]).2 := by
  unfold errL
  have e : ps = ps.take k ++ (ps[k] :: ps.drop (k + 1)) := by rw [List.getElem_cons_drop, List.take_append_drop]
  have : ps.find? (fun a => decide ((altV m a).2 ≠ 0)) = some ps[k] := by
    rw [List.find?_eq_some_iff_append]
    refine ⟨by simpa using h2, ps.take k, ps.drop (k + 1), e, fun a ha => by simp [h a ha]⟩
  rw [this]
theorem errL_none {m : Int} {ps : List (List UInt8)} (h : ∀ a ∈ ps, (altV m a).2 = 0) : errL m ps = 0 := by
  unfold errL
  have : ps.find? (fun a => decide ((altV m a).2 ≠ 0)) = none := List.find?_eq_none.2 fun a ha => by simp [h a ha]
  rw [this]
/-- what the program collects: without the alternatives that are none. -/
def collP (m : Int) (ps : List (List UInt8)) : List (Int × Int) := (ps.filter fun a => !decide (a = [110, 111, 110, 101])).map fun a => (altV m a).1
theorem collP_canon (m : Int) (ps : List (List UInt8)) : canon (collP m ps) = canon (ps.map fun a => (altV m a).1) := by
  refine canon_ext fun p _ _ => ?_
  unfold collP
  induction ps with
  | nil => rfl
  | cons a ps ih =>
    by_cases ha : a = [110, 111, 110, 101]
    · rw [List.filter_cons_of_neg (by simp [ha]), List.map_cons, inL_cons, ih]
      have : altV m a = ((0, 0), 0) := by unfold altV; rw [if_pos ha]
      rw [this]
      constructor
      · exact .inr
      · rintro (h | h)
        · simp only at h; omega
        · exact h
    · rw [List.filter_cons_of_pos (by simp [ha]), List.map_cons, List.map_cons, inL_cons, inL_cons, ih]
theorem collP_snoc (m : Int) (ps : List (List UInt8)) (a : List UInt8) : collP m (ps ++ [a]) = if a = [110, 111, 110, 101] then collP m ps else collP m ps ++ [(altV m a).1] := by
  unfold collP
  rw [List.filter_append, List.map_append]
  by_cases ha : a = [110, 111, 110, 101]
  · rw [if_pos ha, List.filter_cons_of_neg (by simp [ha])]; simp
  · rw [if_neg ha, List.filter_cons_of_pos (by simp [ha])]; simp
theorem collP_len (m : Int) (ps : List (List UInt8)) : (collP m ps).length ≤ ps.length := by
  unfold collP
  rw [List.length_map]
  exact List.length_filter_le _ _
theorem spanP_bd (m : Int) (l : List UInt8) : 0 ≤ (spanP m l).1.1 ∧ (spanP m l).1.1 ≤ 1000000 ∧ 0 ≤ (spanP m l).1.2 ∧ (spanP m l).1.2 ≤ 1000000 := by
  have hp := plV_bd
  unfold spanP
  split
  · have := hp l.tail; simp only; omega
  · split
    · have := hp l.tail; simp only; omega
    · split
      · have h1 := hp (l.take (Lib.index l [46, 46]).toNat)
        have h2 := hp (l.drop ((Lib.index l [46, 46]).toNat + 2))
        simp only
        split <;> split <;> omega
      · have := hp l; simp only; omega
theorem bars_count (l : List UInt8) : (barsL l).length = l.count 124 + 1 := by
  induction l with
  | nil => rfl
  | cons c r ih =>
    by_cases hc : c = 124
    · subst hc; rw [barsL_bar, List.length_cons, ih, List.count_cons_self]
    · cases e : barsL r with
      | nil => exact absurd e (barsL_ne r)
      | cons h t => rw [barsL_other c r h t hc e, List.count_cons_of_ne (fun h => hc (by simpa using h)), ← ih, e]; rfl
end Go.Proofs.YtdhihdiifgcfdaaGreatDoor
