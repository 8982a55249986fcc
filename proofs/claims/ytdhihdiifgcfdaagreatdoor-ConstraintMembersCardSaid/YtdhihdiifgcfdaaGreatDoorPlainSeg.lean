/- Plain facts on the segments of a path. -/
import Derived.Test.YtdhihdiifgcfdaaGreatDoorPlainVer
import Derived.Lib.SplitLaws
namespace Go.Proofs.YtdhihdiifgcfdaaGreatDoor
open Go

/-- the parts of a path. -/
def segsL : List UInt8 → List (List UInt8)
  | [] => [[]]
  | c :: r => if c = 47 then [] :: segsL r else match segsL r with
    | [] => [[c]]
    | h :: t => (c :: h) :: t
theorem segsL_ne (l : List UInt8) : segsL l ≠ [] := by
  cases l with
  | nil => simp [segsL]
  | cons c r =>
    unfold segsL
    split
    · simp
    · split <;> simp
theorem segsL_slash (r : List UInt8) : segsL (47 :: r) = [] :: segsL r := by rw [segsL, if_pos rfl]
theorem segsL_other (c : UInt8) (r h : List UInt8) (t : List (List UInt8)) (hc : c ≠ 47) (e : segsL r = h :: t) : segsL (c :: r) = (c :: h) :: t := by rw [segsL, if_neg hc, e]
/-- a stretch without a slash is one part. -/
theorem segsL_one (a : List UInt8) (h : ∀ b ∈ a, b ≠ 47) : segsL a = [a] := by
  induction a with
  | nil => rfl
  | cons c a ih => exact segsL_other c a a [] (h c (by simp)) (ih (fun b hb => h b (by simp [hb])))
theorem segsL_cut (a r : List UInt8) (h : ∀ b ∈ a, b ≠ 47) : segsL (a ++ 47 :: r) = a :: segsL r := by
  induction a with
  | nil => exact segsL_slash r
  | cons c a ih => exact segsL_other c _ a _ (h c (by simp)) (ih (fun b hb => h b (by simp [hb])))
/-- the last part. -/
theorem segsL_snoc_slash (l : List UInt8) : segsL (l ++ [47]) = segsL l ++ [[]] := by
  induction l with
  | nil => rfl
  | cons c r ih =>
    by_cases hc : c = 47
    · subst hc; rw [List.cons_append, segsL_slash, segsL_slash, ih]; rfl
    · cases e : segsL r with
      | nil => exact absurd e (segsL_ne r)
      | cons h t => rw [List.cons_append, segsL_other c _ h (t ++ [[]]) hc (by rw [ih, e]; rfl), segsL_other c r h t hc e]; rfl
theorem segsL_snoc_other (l : List UInt8) (c : UInt8) (hc : c ≠ 47) : segsL (l ++ [c]) = (segsL l).dropLast ++ [(segsL l).getLast (segsL_ne l) ++ [c]] := by
  induction l with
  | nil => simp [segsL, hc]
  | cons d r ih =>
    by_cases hd : d = 47
    · subst hd
      simp only [List.cons_append, segsL_slash, ih]
      rw [List.dropLast_cons_of_ne_nil (segsL_ne r)]
      simp [List.getLast_cons (segsL_ne r)]
    · cases e : segsL r with
      | nil => exact absurd e (segsL_ne r)
      | cons h t =>
        have e2 := segsL_other d r h t hd e
        cases t with
        | nil =>
          have : segsL (r ++ [c]) = [h ++ [c]] := by rw [ih]; simp [e]
          rw [List.cons_append, segsL_other d _ _ _ hd this]
          simp [e2]
        | cons x t =>
          have : segsL (r ++ [c]) = h :: ((x :: t).dropLast ++ [(x :: t).getLast (by simp) ++ [c]]) := by
            rw [ih]; simp only [e, List.dropLast_cons_cons, List.cons_append, List.getLast_cons_cons]
          rw [List.cons_append, segsL_other d _ _ _ hd this]
          simp only [e2, List.dropLast_cons_cons, List.cons_append, List.getLast_cons_cons]

theorem piece (l : List UInt8) (i : Nat) (h : Lib.indexByte l 47 = i) : l = l.take i ++ 47 :: l.drop (i + 1) ∧ ∀ b ∈ l.take i, b ≠ 47 := by
  obtain ⟨h1, h2⟩ := Lib.indexByte_some h
  have hi : i < l.length := by
    rcases Nat.lt_or_ge i l.length with h | h
    · exact h
    · rw [List.getElem?_eq_none h] at h1; exact absurd h1 (by simp)
  have e : l[i] = 47 := by rw [List.getElem?_eq_getElem hi] at h1; exact Option.some.inj h1
  refine ⟨by rw [← e, List.getElem_cons_drop, List.take_append_drop], fun b hb => ?_⟩
  obtain ⟨j, hj, rfl⟩ := List.getElem_of_mem hb
  rw [List.getElem_take]
  rw [List.length_take] at hj
  intro e2
  exact h2 j (by omega) (by rw [List.getElem?_eq_getElem (by omega), e2])
theorem no_piece (l : List UInt8) (h : Lib.indexByte l 47 = -1) : ∀ b ∈ l, b ≠ 47 := by
  intro b hb e
  obtain ⟨j, hj, rfl⟩ := List.getElem_of_mem hb
  exact Lib.indexByte_none h j (by rw [List.getElem?_eq_getElem hj, e])

theorem split_segs : ∀ (k : Nat) (l : List UInt8), l.count 47 = k → Lib.splitK [47] 0 k l = segsL l := by
  intro k
  induction k with
  | zero =>
    intro l h
    rw [segsL_one l (fun b hb e => by subst e; have := List.count_pos_iff.2 hb; omega)]
    rfl
  | succ k ih =>
    intro l h
    rw [Lib.splitK, Lib.index_one]
    by_cases hm : Lib.indexByte l 47 = -1
    · have := no_piece l hm
      have h0 : l.count 47 = 0 := List.count_eq_zero.2 (fun hb => this 47 hb rfl)
      omega
    · have hge := Lib.index_ge l [47]
      rw [Lib.index_one] at hge
      obtain ⟨i, hi⟩ : ∃ i : Nat, Lib.indexByte l 47 = i := ⟨(Lib.indexByte l 47).toNat, by omega⟩
      obtain ⟨e, hn⟩ := piece l i hi
      have hc : (l.drop (i + 1)).count 47 = k := by
        have h0 : (l.take i).count 47 = 0 := List.count_eq_zero.2 (fun hb => hn 47 hb rfl)
        rw [e, List.count_append, List.count_cons_self, h0] at h
        omega
      rw [if_neg (by simpa using hm), hi]
      have e1 : ((i : Int).toNat + 0) = i := by simp
      have e2 : ((i : Int).toNat + ([47] : List UInt8).length) = i + 1 := by simp
      rw [e1, e2, ih _ hc]
      conv => rhs; rw [e]
      rw [segsL_cut _ _ hn]

/-- the parts, as strings. -/
def segB (s : ByteArray) : List ByteArray := (segsL s.data.toList).map fun l => ⟨l.toArray⟩
theorem ba_ext {a b : ByteArray} (h : a.data.toList = b.data.toList) : a = b := by
  rw [← Lib.mk_data a, ← Lib.mk_data b, h]
theorem map_data_inj : ∀ {a b : List ByteArray}, a.map (·.data.toList) = b.map (·.data.toList) → a = b
  | [], [], _ => rfl
  | [], _ :: _, h => by simp at h
  | _ :: _, [], h => by simp at h
  | x :: a, y :: b, h => by
    rw [List.map_cons, List.map_cons, List.cons.injEq] at h
    rw [ba_ext h.1, map_data_inj h.2]
theorem segB_data (s : ByteArray) : (segB s).map (·.data.toList) = segsL s.data.toList := by
  unfold segB
  rw [List.map_map]
  conv => rhs; rw [← List.map_id (segsL s.data.toList)]
  exact List.map_congr_left (fun l _ => rfl)
theorem split_segB (s : ByteArray) : Lib.splitB ⟨#[47]⟩ 0 (Lib.countB s ⟨#[47]⟩) s = segB s := by
  apply map_data_inj
  rw [Lib.splitB_data, segB_data]
  exact split_segs _ _ (Lib.count_one 47 _).symm
theorem count_segB (s : ByteArray) : Lib.countB s ⟨#[47]⟩ + 1 = (segB s).length := by
  rw [← split_segB]
  exact (Lib.splitB_all ⟨#[47]⟩ (by decide) 0 _ s rfl).symm
theorem segB_ne (s : ByteArray) : 0 < (segB s).length := by rw [← count_segB]; omega

/-- every part is at most as long as the path, and there are at most as many parts as bytes, and one more. -/
theorem segsL_length (l : List UInt8) : (segsL l).length ≤ l.length + 1 := by
  induction l with
  | nil => simp [segsL]
  | cons c r ih =>
    unfold segsL
    split
    · simp; omega
    · split
      · simp
      · rename_i h t e
        rw [e] at ih; simp at ih ⊢; omega
theorem segsL_le (l : List UInt8) : ∀ x ∈ segsL l, x.length ≤ l.length := by
  induction l with
  | nil => simp [segsL]
  | cons c r ih =>
    intro x hx
    unfold segsL at hx
    split at hx
    · rcases List.mem_cons.1 hx with rfl | hx
      · simp
      · have := ih x hx; simp; omega
    · split at hx
      · simp at hx; subst hx; simp
      · rename_i h t e
        rcases List.mem_cons.1 hx with rfl | hx
        · have := ih h (by rw [e]; simp); simp; omega
        · have := ih x (by rw [e]; simp [hx]); simp; omega
theorem segB_length (s : ByteArray) : (segB s).length ≤ s.size + 1 := by
  unfold segB; rw [List.length_map]; have := segsL_length s.data.toList; rw [← Lib.size_eq] at this; exact this
theorem segB_le (s : ByteArray) : ∀ x ∈ segB s, x.size ≤ s.size := by
  intro x hx
  obtain ⟨l, hl, rfl⟩ := List.mem_map.1 hx
  have := segsL_le _ l hl
  rw [Lib.size_eq, Lib.size_eq s]
  simpa using this
def lastB (s : ByteArray) : ByteArray := (segB s).getD ((segB s).length - 1) ByteArray.empty
theorem lastB_mem (s : ByteArray) : lastB s ∈ segB s := by
  have := segB_ne s
  unfold lastB
  rw [List.getD_eq_getElem?_getD, List.getElem?_eq_getElem (by omega)]
  exact List.getElem_mem _
def segOk (x : ByteArray) : Bool := nameS x && allZ pathZ x
def pathOk (s : ByteArray) : Bool := decide (s.size ≤ 64) && (decide (2 ≤ (segB s).length) && (verOk (lastB s) && (segB s).all segOk))
def majN (s : ByteArray) : Int := if pathOk s then verN (lastB s) else 0
def majE (s : ByteArray) : Int := if pathOk s then 0 else 4
end Go.Proofs.YtdhihdiifgcfdaaGreatDoor
