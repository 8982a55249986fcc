/- Plain facts on the parts of a text between its dots. -/
import Derived.Test.YtdhihdiifgcfdaaGreatDoorPlainSeg
namespace Go.Proofs.YtdhihdiifgcfdaaGreatDoor
open Go

/-- the parts of a text between its dots. -/
def dotsL : List UInt8 → List (List UInt8)
  | [] => [[]]
  | c :: r => if c = 46 then [] :: dotsL r else match dotsL r with
    | [] => [[c]]
    | h :: t => (c :: h) :: t
theorem dotsL_ne (l : List UInt8) : dotsL l ≠ [] := by
  cases l with
  | nil => simp [dotsL]
  | cons c r =>
    unfold dotsL
    split
    · simp
    · split <;> simp
theorem dotsL_dot (r : List UInt8) : dotsL (46 :: r) = [] :: dotsL r := by rw [dotsL, if_pos rfl]
theorem dotsL_other (c : UInt8) (r h : List UInt8) (t : List (List UInt8)) (hc : c ≠ 46) (e : dotsL r = h :: t) : dotsL (c :: r) = (c :: h) :: t := by rw [dotsL, if_neg hc, e]
/-- a stretch without a dot is one part. -/
theorem dotsL_one (a : List UInt8) (h : ∀ b ∈ a, b ≠ 46) : dotsL a = [a] := by
  induction a with
  | nil => rfl
  | cons c a ih => exact dotsL_other c a a [] (h c (by simp)) (ih (fun b hb => h b (by simp [hb])))
theorem dotsL_cut (a r : List UInt8) (h : ∀ b ∈ a, b ≠ 46) : dotsL (a ++ 46 :: r) = a :: dotsL r := by
  induction a with
  | nil => exact dotsL_dot r
  | cons c a ih => exact dotsL_other c _ a _ (h c (by simp)) (ih (fun b hb => h b (by simp [hb])))
/-- the last part. -/
theorem dotsL_snoc_dot (l : List UInt8) : dotsL (l ++ [46]) = dotsL l ++ [[]] := by
  induction l with
  | nil => rfl
  | cons c r ih =>
    by_cases hc : c = 46
    · subst hc; rw [List.cons_append, dotsL_dot, dotsL_dot, ih]; rfl
    · cases e : dotsL r with
      | nil => exact absurd e (dotsL_ne r)
      | cons h t => rw [List.cons_append, dotsL_other c _ h (t ++ [[]]) hc (by rw [ih, e]; rfl), dotsL_other c r h t hc e]; rfl
theorem dotsL_snoc_other (l : List UInt8) (c : UInt8) (hc : c ≠ 46) : dotsL (l ++ [c]) = (dotsL l).dropLast ++ [(dotsL l).getLast (dotsL_ne l) ++ [c]] := by
  induction l with
  | nil => simp [dotsL, hc]
  | cons d r ih =>
    by_cases hd : d = 46
    · subst hd
      simp only [List.cons_append, dotsL_dot, ih]
      rw [List.dropLast_cons_of_ne_nil (dotsL_ne r)]
      simp [List.getLast_cons (dotsL_ne r)]
    · cases e : dotsL r with
      | nil => exact absurd e (dotsL_ne r)
      | cons h t =>
        have e2 := dotsL_other d r h t hd e
        cases t with
        | nil =>
          have : dotsL (r ++ [c]) = [h ++ [c]] := by rw [ih]; simp [e]
          rw [List.cons_append, dotsL_other d _ _ _ hd this]
          simp [e2]
        | cons x t =>
          have : dotsL (r ++ [c]) = h :: ((x :: t).dropLast ++ [(x :: t).getLast (by simp) ++ [c]]) := by
            rw [ih]; simp only [e, List.dropLast_cons_cons, List.cons_append, List.getLast_cons_cons]
          rw [List.cons_append, dotsL_other d _ _ _ hd this]
          simp only [e2, List.dropLast_cons_cons, List.cons_append, List.getLast_cons_cons]

theorem at_dot (l : List UInt8) (i : Nat) (h : Lib.indexByte l 46 = i) : l = l.take i ++ 46 :: l.drop (i + 1) ∧ ∀ b ∈ l.take i, b ≠ 46 := by
  obtain ⟨h1, h2⟩ := Lib.indexByte_some h
  have hi : i < l.length := by
    rcases Nat.lt_or_ge i l.length with h | h
    · exact h
    · rw [List.getElem?_eq_none h] at h1; exact absurd h1 (by simp)
  have e : l[i] = 46 := by rw [List.getElem?_eq_getElem hi] at h1; exact Option.some.inj h1
  refine ⟨by rw [← e, List.getElem_cons_drop, List.take_append_drop], fun b hb => ?_⟩
  obtain ⟨j, hj, rfl⟩ := List.getElem_of_mem hb
  rw [List.getElem_take]
  rw [List.length_take] at hj
  intro e2
  exact h2 j (by omega) (by rw [List.getElem?_eq_getElem (by omega), e2])
theorem no_dot (l : List UInt8) (h : Lib.indexByte l 46 = -1) : ∀ b ∈ l, b ≠ 46 := by
  intro b hb e
  obtain ⟨j, hj, rfl⟩ := List.getElem_of_mem hb
  exact Lib.indexByte_none h j (by rw [List.getElem?_eq_getElem hj, e])

theorem split_dots : ∀ (k : Nat) (l : List UInt8), l.count 46 = k → Lib.splitK [46] 0 k l = dotsL l := by
  intro k
  induction k with
  | zero =>
    intro l h
    rw [dotsL_one l (fun b hb e => by subst e; have := List.count_pos_iff.2 hb; omega)]
    rfl
  | succ k ih =>
    intro l h
    rw [Lib.splitK, Lib.index_one]
    by_cases hm : Lib.indexByte l 46 = -1
    · have := no_dot l hm
      have h0 : l.count 46 = 0 := List.count_eq_zero.2 (fun hb => this 46 hb rfl)
      omega
    · have hge := Lib.index_ge l [46]
      rw [Lib.index_one] at hge
      obtain ⟨i, hi⟩ : ∃ i : Nat, Lib.indexByte l 46 = i := ⟨(Lib.indexByte l 46).toNat, by omega⟩
      obtain ⟨e, hn⟩ := at_dot l i hi
      have hc : (l.drop (i + 1)).count 46 = k := by
        have h0 : (l.take i).count 46 = 0 := List.count_eq_zero.2 (fun hb => hn 46 hb rfl)
        rw [e, List.count_append, List.count_cons_self, h0] at h
        omega
      rw [if_neg (by simpa using hm), hi]
      have e1 : ((i : Int).toNat + 0) = i := by simp
      have e2 : ((i : Int).toNat + ([46] : List UInt8).length) = i + 1 := by simp
      rw [e1, e2, ih _ hc]
      conv => rhs; rw [e]
      rw [dotsL_cut _ _ hn]

/-- the parts, as strings. -/
def dotB (s : ByteArray) : List ByteArray := (dotsL s.data.toList).map fun l => ⟨l.toArray⟩
theorem dotB_data (s : ByteArray) : (dotB s).map (·.data.toList) = dotsL s.data.toList := by
  unfold dotB
  rw [List.map_map]
  conv => rhs; rw [← List.map_id (dotsL s.data.toList)]
  exact List.map_congr_left (fun l _ => rfl)
theorem split_dotB (s : ByteArray) : Lib.splitB ⟨#[46]⟩ 0 (Lib.countB s ⟨#[46]⟩) s = dotB s := by
  apply map_data_inj
  rw [Lib.splitB_data, dotB_data]
  exact split_dots _ _ (Lib.count_one 46 _).symm
theorem count_dotB (s : ByteArray) : Lib.countB s ⟨#[46]⟩ + 1 = (dotB s).length := by
  rw [← split_dotB]
  exact (Lib.splitB_all ⟨#[46]⟩ (by decide) 0 _ s rfl).symm
theorem dotB_ne (s : ByteArray) : 0 < (dotB s).length := by rw [← count_dotB]; omega

/-- every part is at most as long as the path, and there are at most as many parts as bytes, and one more. -/
theorem dotsL_length (l : List UInt8) : (dotsL l).length ≤ l.length + 1 := by
  induction l with
  | nil => simp [dotsL]
  | cons c r ih =>
    unfold dotsL
    split
    · simp; omega
    · split
      · simp
      · rename_i h t e
        rw [e] at ih; simp at ih ⊢; omega
theorem dotsL_le (l : List UInt8) : ∀ x ∈ dotsL l, x.length ≤ l.length := by
  induction l with
  | nil => simp [dotsL]
  | cons c r ih =>
    intro x hx
    unfold dotsL at hx
    split at hx
    · rcases List.mem_cons.1 hx with rfl | hx
      · simp
      · have := ih x hx; simp; omega
    · split at hx
      · simp at hx; subst hx; simp
      · rename_i h t e
        rcases List.mem_cons.1 hx with rfl | hx
        · have := ih h (by rw [e]; simp); simp; omega
        · have := ih x (by rw [e]; simp [hx]); simp; omega
theorem dotB_length (s : ByteArray) : (dotB s).length ≤ s.size + 1 := by
  unfold dotB; rw [List.length_map]; have := dotsL_length s.data.toList; rw [← Lib.size_eq] at this; exact this
theorem dotB_le (s : ByteArray) : ∀ x ∈ dotB s, x.size ≤ s.size := by
  intro x hx
  obtain ⟨l, hl, rfl⟩ := List.mem_map.1 hx
  have := dotsL_le _ l hl
  rw [Lib.size_eq, Lib.size_eq s]
  simpa using this
end Go.Proofs.YtdhihdiifgcfdaaGreatDoor
