/- Plain facts on runs of tokens: a sequence of tokens from an offset to another. -/
import Derived.Test.YtmlfoffahfbalaaDoorPlainSym
import Derived.Test.YtmlfoffahfbalaaDoorPlainLit
namespace Go.Proofs.YtmlfoffahfbalaaDoor
open Go

theorem take_pos (p : UInt8 → Bool) (c : UInt8) (r : List UInt8) (h : p c = true) : 1 ≤ ((c :: r).takeWhile p).length ∧ ((c :: r).takeWhile p).length ≤ (c :: r).length := by
  refine ⟨by rw [List.takeWhile_cons, if_pos h, List.length_cons]; omega, (List.takeWhile_prefix p).length_le⟩
theorem symL_prefix (l : List UInt8) (h : symL l ≠ []) : symL l <+: l := by
  unfold symL at *
  split
  · rename_i x e
    have := List.find?_some e
    exact List.isPrefixOf_iff_prefix.1 this
  · rename_i e; rw [e] at h; exact absurd rfl h
/-- a token that is one has at least a byte, and lies in the source. -/
theorem tokL_n (c : UInt8) (r : List UInt8) (h : (tokL (c :: r)).err = 0) : 1 ≤ (tokL (c :: r)).n ∧ (tokL (c :: r)).n ≤ (c :: r).length := by
  unfold tokL at h ⊢
  simp only at h ⊢
  split
  · rename_i e1
    rw [if_pos e1] at h
    cases e : litL r with
    | none => rw [e] at h; exact absurd h (by decide)
    | some p =>
      obtain ⟨t, n⟩ := p
      have := litL_le e
      simp only [List.length_cons]; omega
  · rename_i e1
    rw [if_neg e1] at h
    split
    · rename_i e2
      rw [if_pos e2] at h
      split
      · rename_i e3; rw [if_pos e3] at h; exact absurd h (by decide)
      · exact take_pos digitB c r e2
    · rename_i e2
      rw [if_neg e2] at h
      split
      · rename_i e3
        rw [if_pos e3] at h
        have hw : wordB c = true := by
          unfold wordB wordZ
          rw [Bool.or_eq_true] at e3
          rcases e3 with e3 | e3 <;> simp [e3]
        split
        · exact take_pos wordB c r hw
        · rename_i e4
          rw [if_neg e4] at h
          split
          · exact take_pos wordB c r hw
          · rename_i e5
            rw [if_neg e5] at h
            split
            · exact take_pos wordB c r hw
            · rename_i e6; rw [if_neg e6] at h; exact absurd h (by decide)
      · rename_i e3
        rw [if_neg e3] at h
        split
        · rename_i e4; rw [if_pos e4] at h; exact absurd h (by decide)
        · rename_i e4
          have := (symL_prefix _ e4).length_le
          refine ⟨?_, this⟩
          have : 0 < (symL (c :: r)).length := List.length_pos_iff.2 e4
          exact this

/-- a token as it is yielded. -/
structure Yld where
  kind : Int
  text : ByteArray
  off : Nat
  err : Int
/-- the token at an offset. -/
def tokS (s : ByteArray) (at0 : Nat) : Tok := tokL (s.data.toList.drop at0)
/-- where the token behind the one at an offset begins. -/
def nextAt (s : ByteArray) (a : Nat) : Nat := a + (tokS s a).n + skipF false (s.data.toList.drop (a + (tokS s a).n))
/-- the tokens from an offset to another, none with an error. -/
def Runs (s : ByteArray) : Nat → List Yld → Nat → Prop
  | a, [], b => a = b
  | a, y :: ys, b => a < s.size ∧ y.off = a ∧ y.err = 0 ∧ (tokS s a).err = 0 ∧ y.kind = (tokS s a).kind ∧ y.text = ⟨(tokS s a).text.toArray⟩ ∧ Runs s (nextAt s a) ys b
theorem Runs.snoc {s : ByteArray} : ∀ {ys : List Yld} {a b : Nat} {y : Yld}, Runs s a ys b → b < s.size → y.off = b → y.err = 0 → (tokS s b).err = 0 → y.kind = (tokS s b).kind → y.text = ⟨(tokS s b).text.toArray⟩ → Runs s a (ys ++ [y]) (nextAt s b)
  | [], a, b, y, h, h1, h2, h3, h4, h5, h6 => by subst h; exact ⟨h1, h2, h3, h4, h5, h6, rfl⟩
  | x :: ys, a, b, y, h, h1, h2, h3, h4, h5, h6 => ⟨h.1, h.2.1, h.2.2.1, h.2.2.2.1, h.2.2.2.2.1, h.2.2.2.2.2.1, Runs.snoc h.2.2.2.2.2.2 h1 h2 h3 h4 h5 h6⟩
theorem drop_ne (s : ByteArray) (a : Nat) (h : a < s.size) : ∃ c r, s.data.toList.drop a = c :: r := by
  cases e : s.data.toList.drop a with
  | nil => have := congrArg List.length e; rw [List.length_drop, ← Lib.size_eq] at this; simp at this; omega
  | cons c r => exact ⟨c, r, rfl⟩
theorem tokS_n (s : ByteArray) (a : Nat) (h : a < s.size) (he : (tokS s a).err = 0) : 1 ≤ (tokS s a).n ∧ a + (tokS s a).n ≤ s.size := by
  obtain ⟨c, r, e⟩ := drop_ne s a h
  unfold tokS at *
  have hl : (s.data.toList.drop a).length = s.size - a := by rw [List.length_drop, ← Lib.size_eq]
  rw [e] at he hl ⊢
  have := tokL_n c r he
  rw [hl] at this
  omega
theorem nextAt_le (s : ByteArray) (a : Nat) (h : a < s.size) (he : (tokS s a).err = 0) : a + 1 ≤ nextAt s a ∧ nextAt s a ≤ s.size := by
  have h1 := tokS_n s a h he
  have h2 := skipF_le false (s.data.toList.drop (a + (tokS s a).n))
  rw [List.length_drop, ← Lib.size_eq] at h2
  unfold nextAt
  omega
theorem Runs.len {s : ByteArray} : ∀ {ys : List Yld} {a b : Nat}, Runs s a ys b → ys.length + a ≤ b
  | [], a, b, h => by have h : a = b := h; simp; omega
  | y :: ys, a, b, h => by
    have := Runs.len h.2.2.2.2.2.2
    have := (nextAt_le s a h.1 h.2.2.2.1).1
    simp only [List.length_cons]; omega
/-- the tokens as the plain lexer lists them. -/
def keyY (y : Yld) : Int × List UInt8 × Nat := (y.kind, y.text.data.toList, y.off)
theorem keyY_eq (y : Yld) (k : Int) (l : List UInt8) (n : Nat) (h1 : y.kind = k) (h2 : y.text = ⟨l.toArray⟩) (h3 : y.off = n) : keyY y = (k, l, n) := by
  unfold keyY; rw [h1, h2, h3]
/-- some tokens ahead of a source's. -/
def consL (acc : List (Int × List UInt8 × Nat)) (x : Lexed) : Lexed := if x.err = 0 then ⟨acc ++ x.toks, 0, 0⟩ else ⟨[], x.off, x.err⟩
theorem consL_cons (a b : List (Int × List UInt8 × Nat)) (x : Lexed) : consL a (consL b x) = consL (a ++ b) x := by
  by_cases h : x.err = 0
  · simp [consL, h]
  · simp [consL, h]
theorem lexF_norm : ∀ (f a : Nat) (l : List UInt8), consL [] (lexF f a l) = lexF f a l
  | 0, a, l => rfl
  | f + 1, a, [] => rfl
  | f + 1, a, c :: r => by
    by_cases h : (tokL (c :: r)).err = 0
    · have e : lexF (f + 1) a (c :: r) = consL [((tokL (c :: r)).kind, (tokL (c :: r)).text, a)] (lexF f (a + ((tokL (c :: r)).n + skipF false ((c :: r).drop (tokL (c :: r)).n))) ((c :: r).drop ((tokL (c :: r)).n + skipF false ((c :: r).drop (tokL (c :: r)).n)))) := by
        rw [lexF, if_pos h]; rfl
      rw [e, consL_cons]; rfl
    · have e : lexF (f + 1) a (c :: r) = ⟨[], a, (tokL (c :: r)).err⟩ := by rw [lexF, if_neg h]
      rw [e, consL, if_neg h]
theorem lexF_step (s : ByteArray) (a f : Nat) (h : a < s.size) (he : (tokS s a).err = 0) :
    lexF (f + 1) a (s.data.toList.drop a) = consL [((tokS s a).kind, (tokS s a).text, a)] (lexF f (nextAt s a) (s.data.toList.drop (nextAt s a))) := by
  obtain ⟨c, r, e⟩ := drop_ne s a h
  have e2 : s.data.toList.drop (nextAt s a) = (c :: r).drop ((tokS s a).n + skipF false ((c :: r).drop (tokS s a).n)) := by
    rw [← e, List.drop_drop, List.drop_drop]
    unfold nextAt
    congr 1
    omega
  have e3 : nextAt s a = a + ((tokS s a).n + skipF false ((c :: r).drop (tokS s a).n)) := by
    unfold nextAt
    rw [← List.drop_drop, e]; omega
  rw [e2, e3]
  have ht : tokS s a = tokL (c :: r) := by unfold tokS; rw [e]
  rw [ht] at he ⊢
  rw [e, lexF, if_pos he]
  rfl
theorem lexF_run (s : ByteArray) : ∀ (ys : List Yld) (a b f : Nat), Runs s a ys b → s.size - a < f →
    ∃ g, s.size - b < g ∧ lexF f a (s.data.toList.drop a) = consL (ys.map keyY) (lexF g b (s.data.toList.drop b))
  | [], a, b, f, h, hf => by have h : a = b := h; subst h; exact ⟨f, hf, (lexF_norm _ _ _).symm⟩
  | y :: ys, a, b, f, h, hf => by
    obtain ⟨h1, h2, h3, h4, h5, h6, h7⟩ := h
    cases f with
    | zero => omega
    | succ f =>
      have hn := nextAt_le s a h1 h4
      obtain ⟨g, hg, e⟩ := lexF_run s ys (nextAt s a) b f h7 (by omega)
      refine ⟨g, hg, ?_⟩
      rw [lexF_step s a f h1 h4, e, consL_cons, List.map_cons, keyY_eq y _ _ _ h5 h6 h2]
      rfl
/-- where the first token begins. -/
def startS (s : ByteArray) : Nat := skipF false s.data.toList
theorem startS_le (s : ByteArray) : startS s ≤ s.size := by unfold startS; rw [Lib.size_eq]; exact skipF_le _ _
/-- the tokens of a source. -/
def lexS (s : ByteArray) : Lexed := lexL s.data.toList
theorem lexS_eq (s : ByteArray) (h : s.size ≤ 65536) : lexS s = lexF (s.size + 1) (startS s) (s.data.toList.drop (startS s)) := by
  unfold lexS lexL startS
  rw [if_neg (by rw [← Lib.size_eq]; omega), ← Lib.size_eq]
theorem lexS_big (s : ByteArray) (h : 65536 < s.size) : lexS s = ⟨[], 0, 7⟩ := by
  unfold lexS lexL
  rw [if_pos (by rw [← Lib.size_eq]; omega)]
theorem lex_done (s : ByteArray) (hs : s.size ≤ 65536) (ys : List Yld) (h : Runs s (startS s) ys s.size) : lexS s = ⟨ys.map keyY ++ [(0, [], s.size)], 0, 0⟩ := by
  obtain ⟨g, hg, e⟩ := lexF_run s ys _ _ (s.size + 1) h (by omega)
  rw [lexS_eq s hs, e]
  cases g with
  | zero => omega
  | succ g => rw [List.drop_eq_nil_of_le (by rw [← Lib.size_eq]; exact Nat.le_refl _)]; rfl
theorem lex_stop (s : ByteArray) (hs : s.size ≤ 65536) (ys : List Yld) (b : Nat) (h : Runs s (startS s) ys b) (hb : b < s.size) (he : (tokS s b).err ≠ 0) : lexS s = ⟨[], b, (tokS s b).err⟩ := by
  obtain ⟨g, hg, e⟩ := lexF_run s ys _ _ (s.size + 1) h (by omega)
  rw [lexS_eq s hs, e]
  cases g with
  | zero => omega
  | succ g =>
    obtain ⟨c, r, e2⟩ := drop_ne s b hb
    have ht : tokS s b = tokL (c :: r) := by unfold tokS; rw [e2]
    rw [ht] at he ⊢
    rw [e2, lexF, if_neg he, consL, if_neg he]
end Go.Proofs.YtmlfoffahfbalaaDoor
