/- Plain facts on the greatest number of a list. -/
import Derived.Test.YtbpgbbdebhmlkaaGreatDoorVPlainNum
import Derived.Test.YtbpgbbdebhmlkaaGreatDoorVLatest
namespace Go.Proofs.YtbpgbbdebhmlkaaGreatDoor
open Go

/-- one number is at most another one. -/
def Le3 (x y : V3) : Prop := cmpV x.1 x.2.1 x.2.2 y.1 y.2.1 y.2.2 ≤ 0
theorem le3_iff (x y : V3) : Le3 x y ↔ (x.1 < y.1 ∨ (x.1 = y.1 ∧ (x.2.1 < y.2.1 ∨ (x.2.1 = y.2.1 ∧ x.2.2 ≤ y.2.2)))) := by
  unfold Le3
  rcases cmpV_cases x.1 x.2.1 x.2.2 y.1 y.2.1 y.2.2 with ⟨e, h⟩ | ⟨e, h⟩ | ⟨e, h⟩ <;> rw [e] <;> omega
theorem le3_refl (x : V3) : Le3 x x := by rw [le3_iff]; omega
theorem le3_trans {x y z : V3} (h : Le3 x y) (h2 : Le3 y z) : Le3 x z := by rw [le3_iff] at *; omega
theorem maxS_left (m x : V3) : Le3 m (maxS m x) := by
  unfold maxS
  split
  · rename_i h
    rw [le3_iff]
    rcases cmpV_cases x.1 x.2.1 x.2.2 m.1 m.2.1 m.2.2 with ⟨e, h2⟩ | ⟨e, h2⟩ | ⟨e, h2⟩ <;> rw [e] at h <;> omega
  · exact le3_refl _
theorem maxS_right (m x : V3) : Le3 x (maxS m x) := by
  unfold maxS
  split
  · exact le3_refl _
  · unfold Le3; omega
theorem maxS_or (m x : V3) : maxS m x = m ∨ maxS m x = x := by unfold maxS; split <;> simp
theorem foldl_max : ∀ (r : List V3) (m : V3), (r.foldl maxS m = m ∨ r.foldl maxS m ∈ r) ∧ Le3 m (r.foldl maxS m) ∧ ∀ x ∈ r, Le3 x (r.foldl maxS m)
  | [], m => ⟨.inl rfl, le3_refl _, fun x hx => by cases hx⟩
  | y :: r, m => by
    obtain ⟨h1, h2, h3⟩ := foldl_max r (maxS m y)
    refine ⟨?_, le3_trans (maxS_left m y) h2, fun x hx => ?_⟩
    · rcases h1 with h1 | h1
      · rw [List.foldl_cons, h1]
        rcases maxS_or m y with h | h
        · exact .inl h
        · exact .inr (by rw [h]; simp)
      · exact .inr (by rw [List.foldl_cons]; exact List.mem_cons_of_mem _ h1)
    · rcases List.mem_cons.1 hx with rfl | hx
      · exact le3_trans (maxS_right m x) h2
      · exact h3 x hx
theorem maxV_mem (l : List V3) (h : l ≠ []) : maxV l ∈ l := by
  cases l with
  | nil => exact absurd rfl h
  | cons y r =>
    rcases (foldl_max r y).1 with h | h
    · show r.foldl maxS y ∈ _; rw [h]; simp
    · exact List.mem_cons_of_mem _ h
theorem maxV_ge (l : List V3) : ∀ x ∈ l, Le3 x (maxV l) := by
  cases l with
  | nil => intro x hx; cases hx
  | cons y r =>
    intro x hx
    rcases List.mem_cons.1 hx with rfl | hx
    · exact (foldl_max r x).2.1
    · exact (foldl_max r y).2.2 x hx
theorem cmpV_flip (a b c x y z : Int) : cmpV x y z a b c = -cmpV a b c x y z := by
  rcases cmpV_cases a b c x y z with ⟨e, h⟩ | ⟨e, h⟩ | ⟨e, h⟩ <;> rcases cmpV_cases x y z a b c with ⟨e2, h2⟩ | ⟨e2, h2⟩ | ⟨e2, h2⟩ <;> rw [e, e2] <;> omega
theorem cmpV_le_trans (a b c x y z p q r : Int) (h : cmpV a b c x y z ≤ 0) (h2 : cmpV x y z p q r ≤ 0) : cmpV a b c p q r ≤ 0 :=
  le3_trans (x := (a, b, c)) (y := (x, y, z)) (z := (p, q, r)) h h2
theorem cmpV_ge_trans (a b c x y z p q r : Int) (h : 0 ≤ cmpV a b c x y z) (h2 : 0 ≤ cmpV x y z p q r) : 0 ≤ cmpV a b c p q r := by
  have := cmpV_le_trans p q r x y z a b c (by rw [cmpV_flip x y z p q r]; omega) (by rw [cmpV_flip a b c x y z]; omega)
  rw [cmpV_flip a b c p q r] at this
  omega
end Go.Proofs.YtbpgbbdebhmlkaaGreatDoor
