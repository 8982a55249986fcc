/- Plain facts on the parts of a text between its dots. Plain facts on the text of a number. Constraints as texts, plain. Plain facts: the text of a number is read as this number, and back; the path of a line. -/
import Derived.Test.YtenfkejbndifdaaGreatDoorQD
import Derived.Shelf.GgClosure.StringsIndexFunc
import Derived.Lib.SpaceUEq
import Derived.Lib.Atoi
import Derived.Test.YtenfkejbndifdaaGreatDoorRC
import Derived.Test.YtenfkejbndifdaaGreatDoorQA
import Derived.Lib.IndexMore
import Derived.Lib.TrimByte
import Derived.Test.YtenfkejbndifdaaGreatDoorQC
namespace Go.Proofs.YtenfkejbndifdaaGreatDoor
open Go

/-- the parts of a text between its dots. -/
def dotsL : List UInt8 → List (List UInt8)
  | [] => [[]]
  | c :: r => if c = 46 then [] :: dotsL r else match dotsL r with
    | [] => [[c]]
    | h :: t => (c :: h) :: t
theorem dotsL_ne (l : List UInt8) : dotsL l ≠ [] := by
  cases l with
  | nil => simp [dotsL]
  | cons c r =>
    unfold dotsL
    split
    · simp
    · split <;> simp
theorem dotsL_dot (r : List UInt8) : dotsL (46 :: r) = [] :: dotsL r := by rw [dotsL, if_pos rfl]
theorem dotsL_other (c : UInt8) (r h : List UInt8) (t : List (List UInt8)) (hc : c ≠ 46) (e : dotsL r = h :: t) : dotsL (c :: r) = (c :: h) :: t := by rw [dotsL, if_neg hc, e]
/-- a stretch without a dot is one part. -/
theorem dotsL_one (a : List UInt8) (h : ∀ b ∈ a, b ≠ 46) : dotsL a = [a] := by
  induction a with
  | nil => rfl
  | cons c a ih => exact dotsL_other c a a [] (h c (by simp)) (ih (fun b hb => h b (by simp [hb])))
theorem dotsL_cut (a r : List UInt8) (h : ∀ b ∈ a, b ≠ 46) : dotsL (a ++ 46 :: r) = a :: dotsL r := by
  induction a with
  | nil => exact dotsL_dot r
  | cons c a ih => exact dotsL_other c _ a _ (h c (by simp)) (ih (fun b hb => h b (by simp [hb])))
/-- the last part. -/
theorem dotsL_snoc_dot (l : List UInt8) : dotsL (l ++ [46]) = dotsL l ++ [[]] := by
  induction l with
  | nil => rfl
  | cons c r ih =>
    by_cases hc : c = 46
    · subst hc; rw [List.cons_append, dotsL_dot, dotsL_dot, ih]; rfl
    · cases e : dotsL r with
      | nil => exact absurd e (dotsL_ne r)
      | cons h t => rw [List.cons_append, dotsL_other c _ h (t ++ [[]]) hc (by rw [ih, e]; rfl), dotsL_other c r h t hc e]; rfl
theorem dotsL_snoc_other (l : List UInt8) (c : UInt8) (hc : c ≠ 46) : dotsL (l ++ [c]) = (dotsL l).dropLast ++ [(dotsL l).getLast (dotsL_ne l) ++ [c]] := by
  induction l with
  | nil => simp [dotsL, hc]
  | cons d r ih =>
    by_cases hd : d = 46
    · subst hd
      simp only [List.cons_append, dotsL_dot, ih]
      rw [List.dropLast_cons_of_ne_nil (dotsL_ne r)]
      simp [List.getLast_cons (dotsL_ne r)]
    · cases e : dotsL r with
      | nil => exact absurd e (dotsL_ne r)
      | cons h t =>
        have e2 := dotsL_other d r h t hd e
        cases t with
        | nil =>
          have : dotsL (r ++ [c]) = [h ++ [c]] := by rw [ih]; simp [e]
          rw [List.cons_append, dotsL_other d _ _ _ hd this]
          simp [e2]
        | cons x t =>
          have : dotsL (r ++ [c]) = h :: ((x :: t).dropLast ++ [(x :: t).getLast (by simp) ++ [c]]) := by
            rw [ih]; simp only [e, List.dropLast_cons_cons, List.cons_append, List.getLast_cons_cons]
          rw [List.cons_append, dotsL_other d _ _ _ hd this]
          simp only [e2, List.dropLast_cons_cons, List.cons_append, List.getLast_cons_cons]

theorem at_dot (l : List UInt8) (i : Nat) (h : Lib.indexByte l 46 = i) : l = l.take i ++ 46 :: l.drop (i + 1) ∧ ∀ b ∈ l.take i, b ≠ 46 := by
  obtain ⟨h1, h2⟩ := Lib.indexByte_some h
  have hi : i < l.length := by
    rcases Nat.lt_or_ge i l.length with h | h
    · exact h
    · rw [List.getElem?_eq_none h] at h1; exact absurd h1 (by simp)
  have e : l[i] = 46 := by rw [List.getElem?_eq_getElem hi] at h1; exact Option.some.inj h1
  refine ⟨by rw [← e, List.getElem_cons_drop, List.take_append_drop], fun b hb => ?_⟩
  obtain ⟨j, hj, rfl⟩ := List.getElem_of_mem hb
  rw [List.getElem_take]
  rw [List.length_take] at hj
  intro e2
  exact h2 j (by omega) (by rw [List.getElem?_eq_getElem (by omega), e2])
theorem no_dot (l : List UInt8) (h : Lib.indexByte l 46 = -1) : ∀ b ∈ l, b ≠ 46 := by
  intro b hb e
  obtain ⟨j, hj, rfl⟩ := List.getElem_of_mem hb
  exact Lib.indexByte_none h j (by rw [List.getElem?_eq_getElem hj, e])

theorem split_dots : ∀ (k : Nat) (l : List UInt8), l.count 46 = k → Lib.splitK [46] 0 k l = dotsL l := by
  intro k
  induction k with
  | zero =>
    intro l h
    rw [dotsL_one l (fun b hb e => by subst e; have := List.count_pos_iff.2 hb; omega)]
    rfl
  | succ k ih =>
    intro l h
    rw [Lib.splitK, Lib.index_one]
    by_cases hm : Lib.indexByte l 46 = -1
    · have := no_dot l hm
      have h0 : l.count 46 = 0 := List.count_eq_zero.2 (fun hb => this 46 hb rfl)
      omega
    · have hge := Lib.index_ge l [46]
      rw [Lib.index_one] at hge
      obtain ⟨i, hi⟩ : ∃ i : Nat, Lib.indexByte l 46 = i := ⟨(Lib.indexByte l 46).toNat, by omega⟩
      obtain ⟨e, hn⟩ := at_dot l i hi
      have hc : (l.drop (i + 1)).count 46 = k := by
        have h0 : (l.take i).count 46 = 0 := List.count_eq_zero.2 (fun hb => hn 46 hb rfl)
        rw [e, List.count_append, List.count_cons_self, h0] at h
        omega
      rw [if_neg (by simpa using hm), hi]
      have e1 : ((i : Int).toNat + 0) = i := by simp
      have e2 : ((i : Int).toNat + ([46] : List UInt8).length) = i + 1 := by simp
      rw [e1, e2, ih _ hc]
      conv => rhs; rw [e]
      rw [dotsL_cut _ _ hn]

/-- the parts, as strings. -/
def dotB (s : ByteArray) : List ByteArray := (dotsL s.data.toList).map fun l => ⟨l.toArray⟩
theorem dotB_data (s : ByteArray) : (dotB s).map (·.data.toList) = dotsL s.data.toList := by
  unfold dotB
  rw [List.map_map]
  conv => rhs; rw [← List.map_id (dotsL s.data.toList)]
  exact List.map_congr_left (fun l _ => rfl)
theorem split_dotB (s : ByteArray) : Lib.splitB ⟨#[46]⟩ 0 (Lib.countB s ⟨#[46]⟩) s = dotB s := by
  apply map_data_inj
  rw [Lib.splitB_data, dotB_data]
  exact split_dots _ _ (Lib.count_one 46 _).symm
theorem count_dotB (s : ByteArray) : Lib.countB s ⟨#[46]⟩ + 1 = (dotB s).length := by
  rw [← split_dotB]
  exact (Lib.splitB_all ⟨#[46]⟩ (by decide) 0 _ s rfl).symm
theorem dotB_ne (s : ByteArray) : 0 < (dotB s).length := by rw [← count_dotB]; omega

/-- every part is at most as long as the path, and there are at most as many parts as bytes, and one more. -/
theorem dotsL_length (l : List UInt8) : (dotsL l).length ≤ l.length + 1 := by
  induction l with
  | nil => simp [dotsL]
  | cons c r ih =>
    unfold dotsL
    split
    · simp; omega
    · split
      · simp
      · rename_i h t e
        rw [e] at ih; simp at ih ⊢; omega
theorem dotsL_le (l : List UInt8) : ∀ x ∈ dotsL l, x.length ≤ l.length := by
  induction l with
  | nil => simp [dotsL]
  | cons c r ih =>
    intro x hx
    unfold dotsL at hx
    split at hx
    · rcases List.mem_cons.1 hx with rfl | hx
      · simp
      · have := ih x hx; simp; omega
    · split at hx
      · simp at hx; subst hx; simp
      · rename_i h t e
        rcases List.mem_cons.1 hx with rfl | hx
        · have := ih h (by rw [e]; simp); simp; omega
        · have := ih x (by rw [e]; simp [hx]); simp; omega
theorem dotB_length (s : ByteArray) : (dotB s).length ≤ s.size + 1 := by
  unfold dotB; rw [List.length_map]; have := dotsL_length s.data.toList; rw [← Lib.size_eq] at this; exact this
theorem dotB_le (s : ByteArray) : ∀ x ∈ dotB s, x.size ≤ s.size := by
  intro x hx
  obtain ⟨l, hl, rfl⟩ := List.mem_map.1 hx
  have := dotsL_le _ l hl
  rw [Lib.size_eq, Lib.size_eq s]
  simpa using this
end Go.Proofs.YtenfkejbndifdaaGreatDoor

namespace Go.Proofs.YtenfkejbndifdaaGreatDoor
open Go

def dgB (b : UInt8) : Bool := decide (48 ≤ b.toNat ∧ b.toNat ≤ 57)
/-- what the predicate of Parse says of a rune. -/
def oddR (x : Nat) : Bool := decide (x < 48) || decide (57 < x)
theorem decode_odd (s : ByteArray) (pos : Nat) (h : pos < s.size) :
    (dgB s[pos] = true ∧ Utf8.decode s pos = ((s[pos]).toNat, 1)) ∨ (dgB s[pos] = false ∧ oddR (Utf8.decode s pos).1 = true) := by
  have e : (s.data.toList.getD pos 0) = s[pos] := by
    have : pos < s.data.toList.length := by rw [← Lib.size_eq]; exact h
    rw [List.getD_eq_getElem?_getD, List.getElem?_eq_getElem this]; simp; rfl
  rw [Lib.decode_N, e]
  rcases Lib.decodeN_cases (s.data.toList.length - pos) (s[pos]).toNat (s.data.toList.getD (pos + 1) 0).toNat (s.data.toList.getD (pos + 2) 0).toNat (s.data.toList.getD (pos + 3) 0).toNat with ⟨c, h1⟩ | ⟨c1, c2, c3, cv, h1⟩ | ⟨c1, c2, c3, c4, cv, h1⟩ | ⟨c, h1⟩ | h1
  · by_cases hd : dgB s[pos] = true
    · exact .inl ⟨hd, h1⟩
    · refine .inr ⟨by simpa using hd, ?_⟩
      rw [h1]
      unfold dgB at hd
      unfold oddR
      simp only [decide_eq_true_eq] at hd
      simp only [Bool.or_eq_true, decide_eq_true_eq]
      omega
  · refine .inr ⟨by unfold dgB; rw [decide_eq_false_iff_not]; omega, ?_⟩
    rw [h1]; unfold oddR; simp only [Bool.or_eq_true, decide_eq_true_eq]; omega
  · refine .inr ⟨by unfold dgB; rw [decide_eq_false_iff_not]; omega, ?_⟩
    rw [h1]; unfold oddR; simp only [Bool.or_eq_true, decide_eq_true_eq]; omega
  · by_cases h2 : (s[pos]).toNat < 128
    · exfalso
      rw [Lib.decodeN_ascii _ _ _ _ _ h2] at c
      simp only at c
      omega
    · refine .inr ⟨by unfold dgB; rw [decide_eq_false_iff_not]; omega, ?_⟩
      unfold oddR; simp only [Bool.or_eq_true, decide_eq_true_eq]; omega
  · by_cases h2 : (s[pos]).toNat < 128
    · exfalso
      rw [Lib.decodeN_ascii _ _ _ _ _ h2] at h1
      have := congrArg Prod.snd h1
      have := congrArg Prod.fst h1
      simp only at this
      omega
    · refine .inr ⟨by unfold dgB; rw [decide_eq_false_iff_not]; omega, ?_⟩
      rw [h1]; rfl
theorem odd_from (s : ByteArray) : ∀ (f pos : Nat), s.size ≤ pos + f → (0 ≤ Lib.idxFuncFrom oddR true s f pos ↔ ¬ ∀ b ∈ s.data.toList.drop pos, dgB b = true)
  | 0, pos, h => by
    have : s.data.toList.drop pos = [] := List.drop_eq_nil_iff.2 (by rw [← Lib.size_eq]; omega)
    rw [this]
    simp [Lib.idxFuncFrom]
  | f + 1, pos, h => by
    unfold Lib.idxFuncFrom
    by_cases hp : pos < s.size
    · have hl : pos < s.data.toList.length := by rw [← Lib.size_eq]; exact hp
      have e : s.data.toList[pos] = s[pos] := by simp; rfl
      rw [if_pos hp, List.drop_eq_getElem_cons hl, e]
      rcases decode_odd s pos hp with ⟨h1, h2⟩ | ⟨h1, h2⟩
      · have h3 : ¬ oddR (s[pos]).toNat = true := by
          unfold dgB at h1; unfold oddR
          simp only [decide_eq_true_eq] at h1
          simp only [Bool.or_eq_true, decide_eq_true_eq]; omega
        rw [h2]
        simp only
        rw [if_neg h3, odd_from s f (pos + 1) (by omega)]
        simp [h1]
      · rw [if_pos h2]
        simp [h1]
    · rw [if_neg hp]
      have : s.data.toList.drop pos = [] := List.drop_eq_nil_iff.2 (by rw [← Lib.size_eq]; omega)
      rw [this]; simp
/-- whether the predicate finds a rune. -/
theorem odd_all (s : ByteArray) : decide (0 ≤ Lib.idxFunc oddR true s) = !(s.data.toList.all dgB) := by
  have := odd_from s s.size 0 (by omega)
  rw [List.drop_zero] at this
  unfold Lib.idxFunc
  by_cases h : s.data.toList.all dgB = true
  · rw [h]
    have h2 := List.all_eq_true.1 h
    simp only [Bool.not_true, decide_eq_false_iff_not]
    rw [this]; simpa using h2
  · rw [Bool.not_eq_true] at h
    rw [h]
    simp only [Bool.not_false, decide_eq_true_eq]
    rw [this]
    intro h2
    rw [List.all_eq_true.2 h2] at h
    cases h
/-- a part of a number's text is right. -/
def wordOk (l : List UInt8) : Bool := decide (l ≠ []) && (decide (l.length ≤ 3) && (l.all dgB && !(decide (1 < l.length) && decide (l.head? = some 48))))
/-- the number of a part, behind another number. -/
def valF (n : Nat) (l : List UInt8) : Nat := l.foldl (fun n b => n * 10 + (b.toNat - 48)) n
def wordV (l : List UInt8) : Nat := valF 0 l
theorem decFrom_val : ∀ (l : List UInt8) (n : Nat), (∀ b ∈ l, dgB b = true) → Lib.decFrom n l = some (valF n l)
  | [], n, _ => rfl
  | b :: r, n, h => by
    have hb := h b (by simp)
    unfold dgB at hb
    simp only [decide_eq_true_eq] at hb
    have hd : Lib.digitVal b = some (b.toNat - 48) := by unfold Lib.digitVal; rw [if_pos hb]
    rw [Lib.decFrom, hd]
    exact decFrom_val r _ (fun x hx => h x (by simp [hx]))
theorem atoi_word (l : List UInt8) (h : wordOk l = true) : Lib.atoi l = some (wordV l : Int) := by
  unfold wordOk at h
  simp only [Bool.and_eq_true, decide_eq_true_eq, List.all_eq_true] at h
  obtain ⟨h1, h2, h3, h4⟩ := h
  cases l with
  | nil => exact absurd rfl h1
  | cons b r =>
    have hb := h3 b (by simp)
    unfold dgB at hb
    simp only [decide_eq_true_eq] at hb
    have e1 : (b == 45) = false := by rw [beq_eq_false_iff_ne]; intro e; rw [e] at hb; exact absurd hb.1 (by decide)
    have e2 : (b == 43) = false := by rw [beq_eq_false_iff_ne]; intro e; rw [e] at hb; exact absurd hb.1 (by decide)
    unfold Lib.atoi
    simp only [e1, e2, Bool.false_eq_true, if_false]
    unfold Lib.decNat
    rw [if_neg (by simp), decFrom_val _ _ h3]
    rfl
theorem valF_le : ∀ (l : List UInt8) (n : Nat), (∀ b ∈ l, dgB b = true) → valF n l + 1 ≤ (n + 1) * 10 ^ l.length
  | [], n, _ => by simp [valF]
  | b :: r, n, h => by
    have hb := h b (by simp)
    unfold dgB at hb
    simp only [decide_eq_true_eq] at hb
    have := valF_le r (n * 10 + (b.toNat - 48)) (fun x hx => h x (by simp [hx]))
    have e : valF n (b :: r) = valF (n * 10 + (b.toNat - 48)) r := rfl
    rw [e, List.length_cons, Nat.pow_succ]
    refine Nat.le_trans this ?_
    rw [Nat.mul_comm (10 ^ r.length) 10, ← Nat.mul_assoc]
    exact Nat.mul_le_mul_right _ (by omega)
theorem wordV_le (l : List UInt8) (h : wordOk l = true) : wordV l ≤ 999 := by
  unfold wordOk at h
  simp only [Bool.and_eq_true, decide_eq_true_eq, List.all_eq_true] at h
  obtain ⟨h1, h2, h3, h4⟩ := h
  have := valF_le l 0 h3
  have hp : 10 ^ l.length ≤ 10 ^ 3 := Nat.pow_le_pow_right (by decide) h2
  unfold wordV
  have : (10 : Nat) ^ 3 = 1000 := by decide
  omega
/-- the number with a text, and the error. -/
def parseV (l : List UInt8) : (Int × Int × Int) × Int := match dotsL l with
  | [x, y, z] => if (wordOk x && (wordOk y && wordOk z)) = true then (((wordV x : Int), (wordV y : Int), (wordV z : Int)), 0) else ((0, 0, 0), 3)
  | _ => ((0, 0, 0), 3)
end Go.Proofs.YtenfkejbndifdaaGreatDoor

namespace Go.Proofs.YtenfkejbndifdaaGreatDoor
set_option linter.unusedVariables false
set_option linter.unusedSimpArgs false
open Go

/-- the place of a version's text; whether the text is wrong; whether it has another major version. -/
def plV (l : List UInt8) : Int := 1000 * (parseV l).1.2.1 + (parseV l).1.2.2
def synB (l : List UInt8) : Bool := decide ((parseV l).2 ≠ 0)
def othB (m : Int) (l : List UInt8) : Bool := decide ((parseV l).1.1 ≠ m)
theorem parse_cases (l : List UInt8) : (parseV l = ((0, 0, 0), 3)) ∨ ∃ a b c : Int, parseV l = ((a, b, c), 0) ∧ (0 ≤ a ∧ a ≤ 999) ∧ (0 ≤ b ∧ b ≤ 999) ∧ 0 ≤ c ∧ c ≤ 999 := by
  unfold parseV
  split
  · rename_i x y z _
    split
    · rename_i h
      simp only [Bool.and_eq_true] at h
      have h1 := wordV_le x h.1
      have h2 := wordV_le y h.2.1
      have h3 := wordV_le z h.2.2
      exact .inr ⟨_, _, _, rfl, ⟨by omega, by omega⟩, ⟨by omega, by omega⟩, by omega, by omega⟩
    · exact .inl rfl
  · exact .inl rfl
theorem plV_bd (l : List UInt8) : 0 ≤ plV l ∧ plV l ≤ 999999 := by
  unfold plV
  rcases parse_cases l with h | ⟨a, b, c, h, h1, h2, h3⟩ <;> rw [h] <;> simp only <;> omega
/-- the span of an alternative, whether it is wrong, and whether it has another major version. -/
def spanP (m : Int) (l : List UInt8) : (Int × Int) × Bool × Bool :=
  if l.head? = some 94 then ((plV l.tail, 1000000), synB l.tail, othB m l.tail)
  else if l.head? = some 126 then ((plV l.tail, plV l.tail / 1000 * 1000 + 1000), synB l.tail, othB m l.tail)
  else if 0 ≤ Lib.index l [46, 46] then
    let a := l.take (Lib.index l [46, 46]).toNat
    let b := l.drop ((Lib.index l [46, 46]).toNat + 2)
    ((if a = [] then 0 else plV a, if b = [] then 1000000 else plV b),
      (decide (a = []) && decide (b = [])) || ((!decide (a = []) && synB a) || (!decide (b = []) && synB b)), (!decide (a = []) && othB m a) || (!decide (b = []) && othB m b))
  else ((plV l, plV l + 1), synB l, othB m l)
/-- the span of an alternative, and the error. -/
def altV (m : Int) (l : List UInt8) : (Int × Int) × Int :=
  if l = [110, 111, 110, 101] then ((0, 0), 0)
  else if l = [42] then ((0, 1000000), 0)
  else if (spanP m l).2.1 = true then ((0, 0), 3)
  else if (spanP m l).2.2 = true ∨ (spanP m l).1.2 ≤ (spanP m l).1.1 then ((0, 0), 1)
  else ((spanP m l).1, 0)
/-- the alternatives of a text. -/
def altsL (l : List UInt8) : List (List UInt8) := (barsL l).map fun a => Lib.trimB a 32
def errL (m : Int) (ps : List (List UInt8)) : Int := match ps.find? (fun a => decide ((altV m a).2 ≠ 0)) with
  | some a => (altV m a).2
  | none => 0
/-- the set of a constraint, and the error. -/
def parseC (m : Int) (l : List UInt8) : List (Int × Int) × Int :=
  if 65536 < l.length ∨ 1024 ≤ l.count 124 then ([], 7)
  else if ¬ (0 ≤ m ∧ m ≤ 999) then ([], 2)
  else if errL m (altsL l) ≠ 0 then ([], errL m (altsL l))
  else (canon ((altsL l).map fun a => (altV m a).1), 0)
theorem altV_err (m : Int) (l : List UInt8) : (altV m l).2 = 0 ∨ (altV m l).2 = 3 ∨ (altV m l).2 = 1 := by
  unfold altV
  repeat (split <;> try simp)
theorem errL_at {m : Int} {ps : List (List UInt8)} {k : Nat} (hk : k < ps.length) (h : ∀ a ∈ ps.take k, (altV m a).2 = 0) (h2 : (altV m ps[k]).2 ≠ 0) : errL m ps = (altV m ps[k]).2 := by
  unfold errL
  have e : ps = ps.take k ++ (ps[k] :: ps.drop (k + 1)) := by rw [List.getElem_cons_drop, List.take_append_drop]
  have : ps.find? (fun a => decide ((altV m a).2 ≠ 0)) = some ps[k] := by
    rw [List.find?_eq_some_iff_append]
    refine ⟨by simpa using h2, ps.take k, ps.drop (k + 1), e, fun a ha => by simp [h a ha]⟩
  rw [this]
theorem errL_none {m : Int} {ps : List (List UInt8)} (h : ∀ a ∈ ps, (altV m a).2 = 0) : errL m ps = 0 := by
  unfold errL
  have : ps.find? (fun a => decide ((altV m a).2 ≠ 0)) = none := List.find?_eq_none.2 fun a ha => by simp [h a ha]
  rw [this]
/-- what the program collects: without the alternatives that are none. -/
def collP (m : Int) (ps : List (List UInt8)) : List (Int × Int) := (ps.filter fun a => !decide (a = [110, 111, 110, 101])).map fun a => (altV m a).1
theorem collP_canon (m : Int) (ps : List (List UInt8)) : canon (collP m ps) = canon (ps.map fun a => (altV m a).1) := by
  refine canon_ext fun p _ _ => ?_
  unfold collP
  induction ps with
  | nil => rfl
  | cons a ps ih =>
    by_cases ha : a = [110, 111, 110, 101]
    · rw [List.filter_cons_of_neg (by simp [ha]), List.map_cons, inL_cons, ih]
      have : altV m a = ((0, 0), 0) := by unfold altV; rw [if_pos ha]
      rw [this]
      constructor
      · exact .inr
      · rintro (h | h)
        · simp only at h; omega
        · exact h
    · rw [List.filter_cons_of_pos (by simp [ha]), List.map_cons, List.map_cons, inL_cons, inL_cons, ih]
theorem collP_snoc (m : Int) (ps : List (List UInt8)) (a : List UInt8) : collP m (ps ++ [a]) = if a = [110, 111, 110, 101] then collP m ps else collP m ps ++ [(altV m a).1] := by
  unfold collP
  rw [List.filter_append, List.map_append]
  by_cases ha : a = [110, 111, 110, 101]
  · rw [if_pos ha, List.filter_cons_of_neg (by simp [ha])]; simp
  · rw [if_neg ha, List.filter_cons_of_pos (by simp [ha])]; simp
theorem collP_len (m : Int) (ps : List (List UInt8)) : (collP m ps).length ≤ ps.length := by
  unfold collP
  rw [List.length_map]
  exact List.length_filter_le _ _
theorem spanP_bd (m : Int) (l : List UInt8) : 0 ≤ (spanP m l).1.1 ∧ (spanP m l).1.1 ≤ 1000000 ∧ 0 ≤ (spanP m l).1.2 ∧ (spanP m l).1.2 ≤ 1000000 := by
  have hp := plV_bd
  unfold spanP
  split
  · have := hp l.tail; simp only; omega
  · split
    · have := hp l.tail; simp only; omega
    · split
      · have h1 := hp (l.take (Lib.index l [46, 46]).toNat)
        have h2 := hp (l.drop ((Lib.index l [46, 46]).toNat + 2))
        simp only
        split <;> split <;> omega
      · have := hp l; simp only; omega
theorem bars_count (l : List UInt8) : (barsL l).length = l.count 124 + 1 := by
  induction l with
  | nil => rfl
  | cons c r ih =>
    by_cases hc : c = 124
    · subst hc; rw [barsL_bar, List.length_cons, ih, List.count_cons_self]
    · cases e : barsL r with
      | nil => exact absurd e (barsL_ne r)
      | cons h t => rw [barsL_other c r h t hc e, List.count_cons_of_ne (fun h => hc (by simpa using h)), ← ih, e]; rfl
end Go.Proofs.YtenfkejbndifdaaGreatDoor

namespace Go.Proofs.YtenfkejbndifdaaGreatDoor
open Go

theorem decL_1 (n : Int) (h0 : 0 ≤ n) (h : n < 10) : decL n = [UInt8.ofNat (48 + n.toNat)] := by unfold decL; rw [Lib.decDigits, dif_pos (by omega)]
theorem decL_2 (n : Int) (h : 10 ≤ n) (h2 : n < 100) : decL n = [UInt8.ofNat (48 + n.toNat / 10), UInt8.ofNat (48 + n.toNat % 10)] := by
  unfold decL; rw [Lib.decDigits, dif_neg (by omega), Lib.decDigits, dif_pos (by omega)]; rfl
theorem decL_3 (n : Int) (h : 100 ≤ n) (h2 : n < 1000) : decL n = [UInt8.ofNat (48 + n.toNat / 100), UInt8.ofNat (48 + n.toNat / 10 % 10), UInt8.ofNat (48 + n.toNat % 10)] := by
  unfold decL; rw [Lib.decDigits, dif_neg (by omega), Lib.decDigits, dif_neg (by omega), Lib.decDigits, dif_pos (by omega), Nat.div_div_eq_div_mul]; rfl
theorem dg_of (d : Nat) (h : d < 10) : (UInt8.ofNat (48 + d)).toNat = 48 + d := by rw [UInt8.toNat_ofNat']; omega
theorem dgB_of (d : Nat) (h : d < 10) : dgB (UInt8.ofNat (48 + d)) = true := by unfold dgB; rw [dg_of d h]; simp; omega
theorem ok_1 (x : UInt8) (h : dgB x = true) : wordOk [x] = true := by unfold wordOk; simp [h]
theorem ok_2 (x y : UInt8) (h : dgB x = true) (h2 : dgB y = true) (hn : x ≠ 48) : wordOk [x, y] = true := by unfold wordOk; simp [h, h2, hn]
theorem ok_3 (x y z : UInt8) (h : dgB x = true) (h2 : dgB y = true) (h3 : dgB z = true) (hn : x ≠ 48) : wordOk [x, y, z] = true := by unfold wordOk; simp [h, h2, h3, hn]
/-- the decimal text of a part is right, and is read as this part. -/
theorem word_dec (n : Int) (h0 : 0 ≤ n) (h : n ≤ 999) : wordOk (decL n) = true ∧ (wordV (decL n) : Int) = n := by
  rcases (show n < 10 ∨ (10 ≤ n ∧ n < 100) ∨ (100 ≤ n ∧ n < 1000) by omega) with h1 | ⟨h1, h2⟩ | ⟨h1, h2⟩
  · rw [decL_1 n h0 h1]
    have d1 := dgB_of n.toNat (by omega)
    refine ⟨ok_1 _ d1, ?_⟩
    show (((0 * 10 + ((UInt8.ofNat (48 + n.toNat)).toNat - 48) : Nat)) : Int) = n
    rw [dg_of _ (by omega)]; omega
  · rw [decL_2 n h1 h2]
    have d1 := dgB_of (n.toNat / 10) (by omega)
    have d2 := dgB_of (n.toNat % 10) (by omega)
    have hne : UInt8.ofNat (48 + n.toNat / 10) ≠ 48 := fun e => by
      have := congrArg UInt8.toNat e
      rw [dg_of _ (by omega)] at this
      have h48 : (48 : UInt8).toNat = 48 := rfl
      omega
    refine ⟨ok_2 _ _ d1 d2 hne, ?_⟩
    show ((((0 * 10 + ((UInt8.ofNat (48 + n.toNat / 10)).toNat - 48)) * 10 + ((UInt8.ofNat (48 + n.toNat % 10)).toNat - 48) : Nat)) : Int) = n
    rw [dg_of _ (by omega), dg_of _ (by omega)]; omega
  · rw [decL_3 n h1 h2]
    have d1 := dgB_of (n.toNat / 100) (by omega)
    have d2 := dgB_of (n.toNat / 10 % 10) (by omega)
    have d3 := dgB_of (n.toNat % 10) (by omega)
    have hne : UInt8.ofNat (48 + n.toNat / 100) ≠ 48 := fun e => by
      have := congrArg UInt8.toNat e
      rw [dg_of _ (by omega)] at this
      have h48 : (48 : UInt8).toNat = 48 := rfl
      omega
    refine ⟨ok_3 _ _ _ d1 d2 d3 hne, ?_⟩
    show (((((0 * 10 + ((UInt8.ofNat (48 + n.toNat / 100)).toNat - 48)) * 10 + ((UInt8.ofNat (48 + n.toNat / 10 % 10)).toNat - 48)) * 10 + ((UInt8.ofNat (48 + n.toNat % 10)).toNat - 48) : Nat)) : Int) = n
    rw [dg_of _ (by omega), dg_of _ (by omega), dg_of _ (by omega)]; omega
theorem word_ne_dot (l : List UInt8) (h : wordOk l = true) : ∀ b ∈ l, b ≠ 46 := by
  intro b hb e
  subst e
  unfold wordOk at h
  simp only [Bool.and_eq_true, List.all_eq_true] at h
  have := h.2.2.1 46 hb
  exact absurd this (by decide)
/-- the text of a valid number is read as this number. -/
theorem parse_format (a b c : Int) (h : validB a b c = true) : parseV (fmtL a b c) = ((a, b, c), 0) := by
  obtain ⟨⟨a0, a1⟩, ⟨b0, b1⟩, c0, c1⟩ := valid_le h
  obtain ⟨oa, va⟩ := word_dec a a0 a1
  obtain ⟨ob, vb⟩ := word_dec b b0 b1
  obtain ⟨oc, vc⟩ := word_dec c c0 c1
  have e : dotsL (fmtL a b c) = [decL a, decL b, decL c] := by
    unfold fmtL
    rw [dotsL_cut _ _ (word_ne_dot _ oa), dotsL_cut _ _ (word_ne_dot _ ob), dotsL_one _ (word_ne_dot _ oc)]
  unfold parseV
  rw [e]
  simp only [oa, ob, oc, Bool.and_self, if_true, va, vb, vc]
theorem dg_nat {x : UInt8} (h : dgB x = true) : 48 ≤ x.toNat ∧ x.toNat ≤ 57 := by unfold dgB at h; simpa using h
theorem of_dg (x : UInt8) (d : Nat) (h : x.toNat = 48 + d) : UInt8.ofNat (48 + d) = x := by
  apply UInt8.toNat_inj.1
  rw [UInt8.toNat_ofNat', ← h]
  have := x.toNat_lt
  omega
/-- a right part is the decimal text of its number. -/
theorem dec_word (l : List UInt8) (h : wordOk l = true) : decL (wordV l : Int) = l := by
  unfold wordOk at h
  simp only [Bool.and_eq_true, decide_eq_true_eq, Bool.not_eq_true', Bool.and_eq_false_iff, decide_eq_false_iff_not] at h
  obtain ⟨h1, h2, h3, h4⟩ := h
  match l, h1, h2, h3, h4 with
  | [x], _, _, h3, _ =>
    obtain ⟨g1, g2⟩ := dg_nat (List.all_eq_true.1 h3 x (by simp))
    have e : wordV [x] = x.toNat - 48 := by show 0 * 10 + (x.toNat - 48) = _; omega
    rw [e, decL_1 _ (by omega) (by omega), of_dg x _ (by omega)]
  | [x, y], _, _, h3, h4 =>
    obtain ⟨g1, g2⟩ := dg_nat (List.all_eq_true.1 h3 x (by simp))
    obtain ⟨g3, g4⟩ := dg_nat (List.all_eq_true.1 h3 y (by simp))
    have hne : x.toNat ≠ 48 := fun e => by
      have : x = 48 := UInt8.toNat_inj.1 e
      subst this
      simp at h4
    have e : wordV [x, y] = (x.toNat - 48) * 10 + (y.toNat - 48) := by show (0 * 10 + (x.toNat - 48)) * 10 + (y.toNat - 48) = _; omega
    rw [e, decL_2 _ (by omega) (by omega), of_dg x _ (by omega), of_dg y _ (by omega)]
  | [x, y, z], _, _, h3, h4 =>
    obtain ⟨g1, g2⟩ := dg_nat (List.all_eq_true.1 h3 x (by simp))
    obtain ⟨g3, g4⟩ := dg_nat (List.all_eq_true.1 h3 y (by simp))
    obtain ⟨g5, g6⟩ := dg_nat (List.all_eq_true.1 h3 z (by simp))
    have hne : x.toNat ≠ 48 := fun e => by
      have : x = 48 := UInt8.toNat_inj.1 e
      subst this
      simp at h4
    have e : wordV [x, y, z] = ((x.toNat - 48) * 10 + (y.toNat - 48)) * 10 + (z.toNat - 48) := by show ((0 * 10 + (x.toNat - 48)) * 10 + (y.toNat - 48)) * 10 + (z.toNat - 48) = _; omega
    rw [e, decL_3 _ (by omega) (by omega), of_dg x _ (by omega), of_dg y _ (by omega), of_dg z _ (by omega)]
/-- parts with dots between them. -/
def joinD : List (List UInt8) → List UInt8
  | [] => []
  | [x] => x
  | x :: r => x ++ 46 :: joinD r
theorem joinD_cons (x : List UInt8) (r : List (List UInt8)) (h : r ≠ []) : joinD (x :: r) = x ++ 46 :: joinD r := by
  cases r with
  | nil => exact absurd rfl h
  | cons y r => rfl
theorem joinD_char (c : UInt8) (x : List UInt8) (r : List (List UInt8)) : joinD ((c :: x) :: r) = c :: joinD (x :: r) := by
  cases r with
  | nil => rfl
  | cons y r => rfl
theorem joinD_dots (l : List UInt8) : joinD (dotsL l) = l := by
  induction l with
  | nil => rfl
  | cons c r ih =>
    by_cases hc : c = 46
    · subst hc
      rw [dotsL_dot, joinD_cons _ _ (dotsL_ne r), ih]; rfl
    · cases e : dotsL r with
      | nil => exact absurd e (dotsL_ne r)
      | cons h t => rw [dotsL_other c r h t hc e, joinD_char, ← e, ih]
/-- what is read as a number is this number's text. -/
theorem format_parse (l : List UInt8) (a b c : Int) (h : parseV l = ((a, b, c), 0)) : validB a b c = true ∧ fmtL a b c = l := by
  unfold parseV at h
  split at h
  · rename_i x y z e
    split at h
    · rename_i ho
      simp only [Bool.and_eq_true] at ho
      obtain ⟨o1, o2, o3⟩ := ho
      simp only [Prod.mk.injEq, and_true] at h
      obtain ⟨rfl, rfl, rfl⟩ := h
      have v1 := wordV_le x o1
      have v2 := wordV_le y o2
      have v3 := wordV_le z o3
      refine ⟨by unfold validB partB; simp; omega, ?_⟩
      have := joinD_dots l
      rw [e] at this
      unfold fmtL
      rw [dec_word x o1, dec_word y o2, dec_word z o3]
      exact this
    · simp at h
  · simp at h
end Go.Proofs.YtenfkejbndifdaaGreatDoor
