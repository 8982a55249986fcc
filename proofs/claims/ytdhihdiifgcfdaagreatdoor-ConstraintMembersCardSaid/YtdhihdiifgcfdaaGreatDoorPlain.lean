/- Plain definitions and facts of the lexer chapter: no program in sight. -/
import Derived.Lib.Strings
import Derived.Lib.IndexBytes
import Derived.Lib.IndexMore
namespace Go.Proofs.YtdhihdiifgcfdaaGreatDoor
open Go

def smallZ (c : Int) : Bool := decide (97 ≤ c) && decide (c ≤ 122)
def capitalZ (c : Int) : Bool := decide (65 ≤ c) && decide (c ≤ 90)
def digitZ (c : Int) : Bool := decide (48 ≤ c) && decide (c ≤ 57)
def wordZ (c : Int) : Bool := smallZ c || capitalZ c || digitZ c || c == 95
def pathZ (c : Int) : Bool := smallZ c || digitZ c

/-- the value of a hexadecimal digit, or -1. -/
def hexZ (c : Int) : Int := if digitZ c then c - 48 else if 97 ≤ c ∧ c ≤ 102 then c - 87 else -1

/-- all bytes of a string satisfy a predicate on their values. -/
def allZ (p : Int → Bool) (s : ByteArray) : Bool := s.data.toList.all fun b => p b.toNat

theorem all_take (p : Int → Bool) (s : ByteArray) (k : Nat) (h : k < s.size) (hp : (s.data.toList.take k).all (fun b => p b.toNat) = true) (hb : p (s[k].toNat) = true) :
    (s.data.toList.take (k + 1)).all (fun b => p b.toNat) = true := by
  rw [List.take_succ_eq_append_getElem (by simpa using h)]
  simp only [List.all_append, hp, Bool.true_and, List.all_cons, List.all_nil, Bool.and_true]
  exact hb
theorem all_done (p : Int → Bool) (s : ByteArray) (k : Nat) (h : s.size ≤ k) (hp : (s.data.toList.take k).all (fun b => p b.toNat) = true) : allZ p s = true := by
  rw [List.take_of_length_le (by simpa using h)] at hp; exact hp
theorem all_not (p : Int → Bool) (s : ByteArray) (k : Nat) (h : k < s.size) (hb : ¬ p (s[k].toNat) = true) : allZ p s = false := by
  unfold allZ
  rw [List.all_eq_false]
  refine ⟨s[k], ?_, hb⟩
  exact Array.mem_toList_iff.2 (Array.getElem_mem _)

theorem any_take (ss : List ByteArray) (s : ByteArray) (k : Nat) (h : k < ss.length) (hp : (ss.take k).any (fun x => x.toList == s.toList) = false) (hb : ((ss.getD k ByteArray.empty).toList == s.toList) = false) :
    (ss.take (k + 1)).any (fun x => x.toList == s.toList) = false := by
  rw [List.take_succ_eq_append_getElem h, List.any_append, hp]
  have : ss.getD k ByteArray.empty = ss[k] := by simp [h]
  rw [this] at hb
  simp only [List.any_cons, List.any_nil, hb, Bool.or_false]
theorem any_done (ss : List ByteArray) (s : ByteArray) (k : Nat) (h : ss.length ≤ k) (hp : (ss.take k).any (fun x => x.toList == s.toList) = false) : ss.any (fun x => x.toList == s.toList) = false := by
  rw [List.take_of_length_le h] at hp; exact hp
theorem any_hit (ss : List ByteArray) (s : ByteArray) (k : Nat) (h : k < ss.length) (hb : ((ss.getD k ByteArray.empty).toList == s.toList) = true) : ss.any (fun x => x.toList == s.toList) = true := by
  rw [List.any_eq_true]
  have : ss.getD k ByteArray.empty = ss[k] := by simp [h]
  rw [this] at hb
  exact ⟨ss[k], List.getElem_mem h, hb⟩

def kwList : List ByteArray := [⟨#[97, 110, 100]⟩, ⟨#[97, 110, 121]⟩, ⟨#[97, 115]⟩, ⟨#[98, 111, 111, 108]⟩, ⟨#[100, 101, 112, 114, 101, 99, 97, 116, 101, 100]⟩, ⟨#[101, 108, 115, 101]⟩, ⟨#[101, 120, 112, 111, 114, 116]⟩, ⟨#[102, 97, 108, 115, 101]⟩, ⟨#[102, 110]⟩, ⟨#[102, 111, 108, 100]⟩, ⟨#[102, 114, 111, 109]⟩, ⟨#[105, 102]⟩, ⟨#[105, 109, 112, 111, 114, 116]⟩, ⟨#[105, 110]⟩, ⟨#[105, 110, 116]⟩, ⟨#[108, 101, 110, 103, 116, 104]⟩, ⟨#[108, 101, 116]⟩, ⟨#[108, 105, 115, 116]⟩, ⟨#[109, 97, 116, 99, 104]⟩, ⟨#[109, 111, 100, 117, 108, 101]⟩, ⟨#[110, 111, 110, 101]⟩, ⟨#[110, 111, 116]⟩, ⟨#[111, 114]⟩, ⟨#[116, 101, 120, 116]⟩, ⟨#[116, 104, 101, 110]⟩, ⟨#[116, 114, 117, 101]⟩, ⟨#[116, 121, 112, 101]⟩, ⟨#[117, 115, 101]⟩]
def symList : List ByteArray := [⟨#[61, 61, 61]⟩, ⟨#[58, 58]⟩, ⟨#[62, 58]⟩, ⟨#[60, 58]⟩, ⟨#[61, 62]⟩, ⟨#[61, 61]⟩, ⟨#[43, 43]⟩, ⟨#[40]⟩, ⟨#[41]⟩, ⟨#[91]⟩, ⟨#[93]⟩, ⟨#[123]⟩, ⟨#[125]⟩, ⟨#[60]⟩, ⟨#[62]⟩, ⟨#[44]⟩, ⟨#[58]⟩, ⟨#[61]⟩, ⟨#[46]⟩, ⟨#[43]⟩, ⟨#[45]⟩, ⟨#[42]⟩, ⟨#[124]⟩, ⟨#[63]⟩, ⟨#[47]⟩]

/-- the first byte of a string, as a number; 0 of the empty one. -/
def headZ (s : ByteArray) : Int := if h : 0 < s.size then ((s[0]'h).toNat : Int) else 0
theorem headZ_eq (s : ByteArray) (h : 0 < s.size) : headZ s = ((s[0]'h).toNat : Int) := by unfold headZ; rw [dif_pos h]
def kwS (s : ByteArray) : Bool := kwList.any fun x => x.toList == s.toList
theorem kwS_eq (s : ByteArray) : kwS s = kwList.any (fun x => x.data.toList == s.data.toList) := by unfold kwS; simp only [ByteArray.toList_eq]
def nameS (s : ByteArray) : Bool := decide (1 ≤ s.size) && (decide (s.size ≤ 32) && (smallZ (headZ s) && (allZ wordZ s && !kwS s)))
def typeS (s : ByteArray) : Bool := decide (1 ≤ s.size) && (decide (s.size ≤ 32) && (capitalZ (headZ s) && allZ wordZ s))


/-- all keywords, each one between blanks. -/
def kwText : List UInt8 := kwList.flatMap (fun b => 32 :: b.data.toList) ++ [32]
theorem kw_fin : ∀ j, j < 200 → kwText[j]? = some 32 → (kwText.drop (j + 1)).contains 32 = true → kwList.any (fun x => x.data.toList == (kwText.drop (j + 1)).takeWhile (· != 32)) = true := by decide +kernel
theorem kw_len : kwText.length < 200 := by decide +kernel
theorem kw_all : kwList.all (fun x => Lib.contains kwText (32 :: x.data.toList ++ [32])) = true := by decide +kernel
theorem take_no (l r : List UInt8) (h : ∀ b ∈ l, b ≠ 32) : (l ++ 32 :: r).takeWhile (· != 32) = l := by
  induction l with
  | nil => simp
  | cons b l ih => rw [List.cons_append, List.takeWhile_cons, if_pos (by simpa using h b (by simp)), ih (fun c hc => h c (by simp [hc]))]
theorem kw_contains (l : List UInt8) (h : ∀ b ∈ l, b ≠ 32) : Lib.contains kwText (32 :: l ++ [32]) = kwList.any (fun x => x.data.toList == l) := by
  rw [Bool.eq_iff_iff]
  constructor
  · intro hc
    rcases Lib.index_spec kwText (32 :: l ++ [32]) with ⟨h1, _⟩ | ⟨i, _, hi, ho, _⟩
    · rw [Lib.contains, h1] at hc; exact absurd hc (by decide)
    · simp only [Lib.occAt, List.isPrefixOf_iff_prefix] at ho
      obtain ⟨r, hr⟩ := ho
      have e1 : kwText.drop i = 32 :: (l ++ 32 :: r) := by rw [← hr]; simp
      have e2 : kwText.drop (i + 1) = l ++ 32 :: r := by rw [← List.drop_drop, e1]; rfl
      have e3 : kwText[i]? = some 32 := by rw [← Nat.add_zero i, ← List.getElem?_drop, e1]; rfl
      have := kw_fin i (by have := kw_len; omega) e3 (by rw [e2]; simp)
      rw [e2, take_no l r h] at this
      exact this
  · intro hc
    rw [List.any_eq_true] at hc
    obtain ⟨x, hx, he⟩ := hc
    have := List.all_eq_true.1 kw_all x hx
    simp only [beq_iff_eq] at he
    rw [he] at this
    exact this

theorem toList_data (s : ByteArray) : s.toList = s.data.toList := Lib.toList_data s
theorem ne_nil (s : ByteArray) (h : 1 ≤ s.size) : ¬ s.toList = [] := by
  rw [toList_data]; intro e; rw [Lib.size_eq, e] at h; exact absurd h (by decide)
theorem ne_empty (s : ByteArray) (h : 1 ≤ s.size) : s.toList.isEmpty = false := by
  have := ne_nil s h; simpa using this
theorem is_nil (s : ByteArray) (h : ¬ 1 ≤ s.size) : s.toList = [] := by
  rw [toList_data]; rw [Lib.size_eq] at h; exact List.length_eq_zero_iff.1 (by omega)

end Go.Proofs.YtdhihdiifgcfdaaGreatDoor
