/- The plain lexer: blanks, characters, literals, symbols, tokens, sources. -/
import Derived.Test.YtmlfoffahfbalaaDoorPlainQuote
namespace Go.Proofs.YtmlfoffahfbalaaDoor
open Go

/-- a blank. -/
def blankB (c : UInt8) : Bool := c == 32 || c == 9 || c == 10 || c == 13
/-- how many bytes of blanks and comments begin here; the first argument: inside a comment. -/
def skipF : Bool → List UInt8 → Nat
  | _, [] => 0
  | true, c :: r => 1 + skipF (c != 10) r
  | false, c :: r => if c == 47 && r.head? == some 47 then 1 + skipF true r else if blankB c then 1 + skipF false r else 0
theorem skipF_le : ∀ (b : Bool) (l : List UInt8), skipF b l ≤ l.length
  | _, [] => by simp [skipF]
  | true, c :: r => by have := skipF_le (c != 10) r; simp [skipF]; omega
  | false, c :: r => by
    have h1 := skipF_le true r
    have h2 := skipF_le false r
    simp only [skipF, List.length_cons]
    split
    · omega
    · split <;> omega

/-- the number of bytes of the character at the beginning; 0, if there is none. -/
def chrN : List UInt8 → Nat
  | [] => 0
  | c :: r => if c < 32 || c == 34 then 0 else if c != 92 then 1 else match r with
    | [] => 0
    | d :: q => if d == 34 || d == 92 || d == 110 then 2 else if d == 120 then match q with
        | x :: y :: _ => if 0 ≤ hexZ x.toNat ∧ 0 ≤ hexZ y.toNat then 4 else 0
        | _ => 0
      else 0
/-- its byte. -/
def chrB : List UInt8 → UInt8
  | [] => 0
  | c :: r => if c != 92 then c else match r with
    | [] => 0
    | d :: q => if d == 34 || d == 92 then d else if d == 110 then 10 else match q with
        | x :: y :: _ => (16 * hexZ x.toNat + hexZ y.toNat).toNat.toUInt8
        | _ => 0
theorem chrN_le (l : List UInt8) : chrN l ≤ l.length := by
  unfold chrN
  split
  · simp
  · split
    · simp
    · split
      · simp
      · split
        · simp
        · split
          · simp
          · split
            · split
              · split <;> simp
              · simp
            · simp
/-- the bytes of a literal behind its first quote, and the number of bytes up to the end of the last quote. -/
def litF : Nat → List UInt8 → Option (List UInt8 × Nat)
  | 0, _ => none
  | _ + 1, [] => none
  | f + 1, c :: r => if c == 34 then some ([], 1) else if chrN (c :: r) = 0 then none else
    match litF f ((c :: r).drop (chrN (c :: r))) with
    | none => none
    | some (t, n) => some (chrB (c :: r) :: t, chrN (c :: r) + n)
def litL (l : List UInt8) : Option (List UInt8 × Nat) := litF (l.length + 1) l
theorem litF_fuel : ∀ (f : Nat) (l : List UInt8), l.length < f → ∀ g, l.length < g → litF f l = litF g l
  | 0, _, h, _, _ => absurd h (by omega)
  | f + 1, l, h, g, hg => by
    cases g with
    | zero => omega
    | succ g =>
      cases l with
      | nil => rfl
      | cons c r =>
        simp only [litF]
        split
        · rfl
        · split
          · rfl
          · rename_i h0
            have hl : ((c :: r).drop (chrN (c :: r))).length < (c :: r).length := by rw [List.length_drop]; have : (c :: r).length = r.length + 1 := rfl; omega
            rw [litF_fuel f _ (by omega) g (by omega)]
theorem litL_nil : litL [] = none := rfl
theorem litL_quote (r : List UInt8) : litL (34 :: r) = some ([], 1) := rfl
theorem litL_bad (c : UInt8) (r : List UInt8) (h : c ≠ 34) (h0 : chrN (c :: r) = 0) : litL (c :: r) = none := by
  simp only [litL, litF, beq_eq_false_iff_ne.2 h, h0, if_true, Bool.false_eq_true, if_false]
theorem litL_step (c : UInt8) (r : List UInt8) (h : c ≠ 34) (h0 : chrN (c :: r) ≠ 0) :
    litL (c :: r) = match litL ((c :: r).drop (chrN (c :: r))) with
      | none => none
      | some (t, n) => some (chrB (c :: r) :: t, chrN (c :: r) + n) := by
  have hl : ((c :: r).drop (chrN (c :: r))).length < (c :: r).length := by rw [List.length_drop]; have : (c :: r).length = r.length + 1 := rfl; omega
  conv => lhs; rw [litL, List.length_cons, litF]
  rw [if_neg (by simpa using h), if_neg h0, litF_fuel (r.length + 1) _ (by simpa using hl) _ (Nat.lt_succ_self _)]
  rfl
theorem litF_le : ∀ (f : Nat) (l t : List UInt8) (n : Nat), litF f l = some (t, n) → n ≤ l.length ∧ t.length + 1 ≤ n
  | 0, _, _, _, h => by simp [litF] at h
  | f + 1, [], _, _, h => by simp [litF] at h
  | f + 1, c :: r, t, n, h => by
    simp only [litF] at h
    split at h
    · simp only [Option.some.injEq, Prod.mk.injEq] at h
      obtain ⟨rfl, rfl⟩ := h
      simp
    · split at h
      · simp at h
      · rename_i h0
        split at h
        · simp at h
        · rename_i t' n' e
          simp only [Option.some.injEq, Prod.mk.injEq] at h
          obtain ⟨rfl, rfl⟩ := h
          have := litF_le f _ t' n' e
          have h2 := chrN_le (c :: r)
          rw [List.length_drop] at this
          simp only [List.length_cons] at *
          omega
theorem litL_le {l t : List UInt8} {n : Nat} (h : litL l = some (t, n)) : n ≤ l.length ∧ t.length + 1 ≤ n := litF_le _ _ _ _ h

/-- the symbol at the beginning; nothing, if there is none. -/
def symL (l : List UInt8) : List UInt8 := match symList.find? (fun x => x.data.toList.isPrefixOf l) with
  | some x => x.data.toList
  | none => []

/-- a token: its kind, its text. -/
structure Tok where
  kind : Int
  text : List UInt8
  n : Nat
  err : Int
/-- names on lists. -/
def kwL (l : List UInt8) : Bool := kwS ⟨l.toArray⟩
def nameL (l : List UInt8) : Bool := nameS ⟨l.toArray⟩
def typeL (l : List UInt8) : Bool := typeS ⟨l.toArray⟩
def wordB (b : UInt8) : Bool := wordZ b.toNat
def digitB (b : UInt8) : Bool := digitZ b.toNat
/-- the token at the beginning of a source that is not empty and does not begin with a blank. -/
def tokL (l : List UInt8) : Tok :=
  match l with
  | [] => ⟨0, [], 0, 3⟩
  | c :: r =>
    if c == 34 then match litL r with
      | some (t, n) => ⟨4, t, n + 1, 0⟩
      | none => ⟨0, [], 0, 3⟩
    else if digitB c then
      if 19 < (l.takeWhile digitB).length ∨ (1 < (l.takeWhile digitB).length ∧ c = 48) ∨ ((l.drop (l.takeWhile digitB).length).head?.any wordB) = true then ⟨0, [], 0, 3⟩
      else ⟨3, l.takeWhile digitB, (l.takeWhile digitB).length, 0⟩
    else if smallZ c.toNat || capitalZ c.toNat then
      if kwL (l.takeWhile wordB) then ⟨5, l.takeWhile wordB, (l.takeWhile wordB).length, 0⟩
      else if nameL (l.takeWhile wordB) then ⟨1, l.takeWhile wordB, (l.takeWhile wordB).length, 0⟩
      else if typeL (l.takeWhile wordB) then ⟨2, l.takeWhile wordB, (l.takeWhile wordB).length, 0⟩
      else ⟨0, [], 0, 4⟩
    else if symL l = [] then ⟨0, [], 0, 3⟩ else ⟨6, symL l, (symL l).length, 0⟩

/-- the tokens from an offset on (no blank stands there): each kind, text and offset; or the offset and the error. -/
structure Lexed where
  toks : List (Int × List UInt8 × Nat)
  off : Nat
  err : Int
def lexF : Nat → Nat → List UInt8 → Lexed
  | 0, at_, _ => ⟨[], at_, 3⟩
  | _ + 1, at_, [] => ⟨[(0, [], at_)], 0, 0⟩
  | f + 1, at_, c :: r =>
    if (tokL (c :: r)).err = 0 then
      let m := (tokL (c :: r)).n + skipF false ((c :: r).drop (tokL (c :: r)).n)
      let x := lexF f (at_ + m) ((c :: r).drop m)
      if x.err = 0 then ⟨((tokL (c :: r)).kind, (tokL (c :: r)).text, at_) :: x.toks, 0, 0⟩ else ⟨[], x.off, x.err⟩
    else ⟨[], at_, (tokL (c :: r)).err⟩
def lexL (l : List UInt8) : Lexed := if 65536 < l.length then ⟨[], 0, 7⟩ else lexF (l.length + 1) (skipF false l) (l.drop (skipF false l))
end Go.Proofs.YtmlfoffahfbalaaDoor
