/- Plain facts on the parts of a text between its bars. -/
import Derived.Test.YtdhihdiifgcfdaaGreatDoorPlainSeg
namespace Go.Proofs.YtdhihdiifgcfdaaGreatDoor
set_option linter.unusedVariables false
set_option linter.unusedSimpArgs false
open Go

/-- the parts of a text between its bars. -/
def barsL : List UInt8 → List (List UInt8)
  | [] => [[]]
  | c :: r => if c = 124 then [] :: barsL r else match barsL r with
    | [] => [[c]]
    | h :: t => (c :: h) :: t
theorem barsL_ne (l : List UInt8) : barsL l ≠ [] := by
  cases l with
  | nil => simp [barsL]
  | cons c r =>
    unfold barsL
    split
    · simp
    · split <;> simp
theorem barsL_bar (r : List UInt8) : barsL (124 :: r) = [] :: barsL r := by rw [barsL, if_pos rfl]
theorem barsL_other (c : UInt8) (r h : List UInt8) (t : List (List UInt8)) (hc : c ≠ 124) (e : barsL r = h :: t) : barsL (c :: r) = (c :: h) :: t := by rw [barsL, if_neg hc, e]
/-- a stretch without a dot is one part. -/
theorem barsL_one (a : List UInt8) (h : ∀ b ∈ a, b ≠ 124) : barsL a = [a] := by
  induction a with
  | nil => rfl
  | cons c a ih => exact barsL_other c a a [] (h c (by simp)) (ih (fun b hb => h b (by simp [hb])))
theorem barsL_cut (a r : List UInt8) (h : ∀ b ∈ a, b ≠ 124) : barsL (a ++ 124 :: r) = a :: barsL r := by
  induction a with
  | nil => exact barsL_bar r
  | cons c a ih => exact barsL_other c _ a _ (h c (by simp)) (ih (fun b hb => h b (by simp [hb])))
/-- the last part. -/
theorem barsL_snoc_bar (l : List UInt8) : barsL (l ++ [124]) = barsL l ++ [[]] := by
  induction l with
  | nil => rfl
  | cons c r ih =>
    by_cases hc : c = 124
    · subst hc; rw [List.cons_append, barsL_bar, barsL_bar, ih]; rfl
    · cases e : barsL r with
      | nil => exact absurd e (barsL_ne r)
      | cons h t => rw [List.cons_append, barsL_other c _ h (t ++ [[]]) hc (by rw [ih, e]; rfl), barsL_other c r h t hc e]; rfl
theorem barsL_snoc_other (l : List UInt8) (c : UInt8) (hc : c ≠ 124) : barsL (l ++ [c]) = (barsL l).dropLast ++ [(barsL l).getLast (barsL_ne l) ++ [c]] := by
  induction l with
  | nil => simp [barsL, hc]
  | cons d r ih =>
    by_cases hd : d = 124
    · subst hd
      simp only [List.cons_append, barsL_bar, ih]
      rw [List.dropLast_cons_of_ne_nil (barsL_ne r)]
      simp [List.getLast_cons (barsL_ne r)]
    · cases e : barsL r with
      | nil => exact absurd e (barsL_ne r)
      | cons h t =>
        have e2 := barsL_other d r h t hd e
        cases t with
        | nil =>
          have : barsL (r ++ [c]) = [h ++ [c]] := by rw [ih]; simp [e]
          rw [List.cons_append, barsL_other d _ _ _ hd this]
          simp [e2]
        | cons x t =>
          have : barsL (r ++ [c]) = h :: ((x :: t).dropLast ++ [(x :: t).getLast (by simp) ++ [c]]) := by
            rw [ih]; simp only [e, List.dropLast_cons_cons, List.cons_append, List.getLast_cons_cons]
          rw [List.cons_append, barsL_other d _ _ _ hd this]
          simp only [e2, List.dropLast_cons_cons, List.cons_append, List.getLast_cons_cons]

theorem at_bar (l : List UInt8) (i : Nat) (h : Lib.indexByte l 124 = i) : l = l.take i ++ 124 :: l.drop (i + 1) ∧ ∀ b ∈ l.take i, b ≠ 124 := by
  obtain ⟨h1, h2⟩ := Lib.indexByte_some h
  have hi : i < l.length := by
    rcases Nat.lt_or_ge i l.length with h | h
    · exact h
    · rw [List.getElem?_eq_none h] at h1; exact absurd h1 (by simp)
  have e : l[i] = 124 := by rw [List.getElem?_eq_getElem hi] at h1; exact Option.some.inj h1
  refine ⟨by rw [← e, List.getElem_cons_drop, List.take_append_drop], fun b hb => ?_⟩
  obtain ⟨j, hj, rfl⟩ := List.getElem_of_mem hb
  rw [List.getElem_take]
  rw [List.length_take] at hj
  intro e2
  exact h2 j (by omega) (by rw [List.getElem?_eq_getElem (by omega), e2])
theorem no_bar (l : List UInt8) (h : Lib.indexByte l 124 = -1) : ∀ b ∈ l, b ≠ 124 := by
  intro b hb e
  obtain ⟨j, hj, rfl⟩ := List.getElem_of_mem hb
  exact Lib.indexByte_none h j (by rw [List.getElem?_eq_getElem hj, e])

theorem split_bars : ∀ (k : Nat) (l : List UInt8), l.count 124 = k → Lib.splitK [124] 0 k l = barsL l := by
  intro k
  induction k with
  | zero =>
    intro l h
    rw [barsL_one l (fun b hb e => by subst e; have := List.count_pos_iff.2 hb; omega)]
    rfl
  | succ k ih =>
    intro l h
    rw [Lib.splitK, Lib.index_one]
    by_cases hm : Lib.indexByte l 124 = -1
    · have := no_bar l hm
      have h0 : l.count 124 = 0 := List.count_eq_zero.2 (fun hb => this 124 hb rfl)
      omega
    · have hge := Lib.index_ge l [124]
      rw [Lib.index_one] at hge
      obtain ⟨i, hi⟩ : ∃ i : Nat, Lib.indexByte l 124 = i := ⟨(Lib.indexByte l 124).toNat, by omega⟩
      obtain ⟨e, hn⟩ := at_bar l i hi
      have hc : (l.drop (i + 1)).count 124 = k := by
        have h0 : (l.take i).count 124 = 0 := List.count_eq_zero.2 (fun hb => hn 124 hb rfl)
        rw [e, List.count_append, List.count_cons_self, h0] at h
        omega
      rw [if_neg (by simpa using hm), hi]
      have e1 : ((i : Int).toNat + 0) = i := by simp
      have e2 : ((i : Int).toNat + ([124] : List UInt8).length) = i + 1 := by simp
      rw [e1, e2, ih _ hc]
      conv => rhs; rw [e]
      rw [barsL_cut _ _ hn]

/-- the parts, as strings. -/
def barB (s : ByteArray) : List ByteArray := (barsL s.data.toList).map fun l => ⟨l.toArray⟩
theorem barB_data (s : ByteArray) : (barB s).map (·.data.toList) = barsL s.data.toList := by
  unfold barB
  rw [List.map_map]
  conv => rhs; rw [← List.map_id (barsL s.data.toList)]
  exact List.map_congr_left (fun l _ => rfl)
theorem split_barB (s : ByteArray) : Lib.splitB ⟨#[124]⟩ 0 (Lib.countB s ⟨#[124]⟩) s = barB s := by
  apply map_data_inj
  rw [Lib.splitB_data, barB_data]
  exact split_bars _ _ (Lib.count_one 124 _).symm
theorem count_barB (s : ByteArray) : Lib.countB s ⟨#[124]⟩ + 1 = (barB s).length := by
  rw [← split_barB]
  exact (Lib.splitB_all ⟨#[124]⟩ (by decide) 0 _ s rfl).symm
theorem barB_ne (s : ByteArray) : 0 < (barB s).length := by rw [← count_barB]; omega

/-- every part is at most as long as the path, and there are at most as many parts as bytes, and one more. -/
theorem barsL_length (l : List UInt8) : (barsL l).length ≤ l.length + 1 := by
  induction l with
  | nil => simp [barsL]
  | cons c r ih =>
    unfold barsL
    split
    · simp; omega
    · split
      · simp
      · rename_i h t e
        rw [e] at ih; simp at ih ⊢; omega
theorem barsL_le (l : List UInt8) : ∀ x ∈ barsL l, x.length ≤ l.length := by
  induction l with
  | nil => simp [barsL]
  | cons c r ih =>
    intro x hx
    unfold barsL at hx
    split at hx
    · rcases List.mem_cons.1 hx with rfl | hx
      · simp
      · have := ih x hx; simp; omega
    · split at hx
      · simp at hx; subst hx; simp
      · rename_i h t e
        rcases List.mem_cons.1 hx with rfl | hx
        · have := ih h (by rw [e]; simp); simp; omega
        · have := ih x (by rw [e]; simp [hx]); simp; omega
theorem barB_length (s : ByteArray) : (barB s).length ≤ s.size + 1 := by
  unfold barB; rw [List.length_map]; have := barsL_length s.data.toList; rw [← Lib.size_eq] at this; exact this
theorem barB_le (s : ByteArray) : ∀ x ∈ barB s, x.size ≤ s.size := by
  intro x hx
  obtain ⟨l, hl, rfl⟩ := List.mem_map.1 hx
  have := barsL_le _ l hl
  rw [Lib.size_eq, Lib.size_eq s]
  simpa using this
end Go.Proofs.YtdhihdiifgcfdaaGreatDoor
