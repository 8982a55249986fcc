/- Constraints as texts, plain: trimming, joining; the text of a set is read as this set. The text of a set, plain; it is read as this set. -/
import Derived.Test.YtenfkejbndifdaaGreatDoorRD
import Derived.Test.YtenfkejbndifdaaGreatDoorQV
import Derived.Lib.Join
import Derived.Test.YtenfkejbndifdaaGreatDoorQB
namespace Go.Proofs.YtenfkejbndifdaaGreatDoor
set_option linter.unusedVariables false
set_option linter.unusedSimpArgs false
open Go

/-- trimming, from the left and from the right. -/
theorem dropW_snoc (p : UInt8 → Bool) (l : List UInt8) (c : UInt8) : (l ++ [c]).dropWhile p = if (l.dropWhile p) = [] then [c].dropWhile p else l.dropWhile p ++ [c] := by
  rw [List.dropWhile_append]
  by_cases h : l.dropWhile p = []
  · rw [if_pos h, h]; rfl
  · rw [if_neg h, if_neg (by simpa using h)]
theorem trim_nil : Lib.trimB [] 32 = [] := rfl
theorem trim_snoc (l : List UInt8) : Lib.trimB (l ++ [32]) 32 = Lib.trimB l 32 := by
  unfold Lib.trimB Lib.trimRightB
  rw [List.reverse_append]
  rfl
theorem trim_cons (l : List UInt8) : Lib.trimB (32 :: l) 32 = Lib.trimB l 32 := by
  unfold Lib.trimB Lib.trimRightB
  rw [List.reverse_cons, dropW_snoc]
  by_cases h : l.reverse.dropWhile (· == 32) = []
  · rw [if_pos h, h]; rfl
  · rw [if_neg h, List.reverse_append]
    rfl
theorem trim_done (l : List UInt8) (h1 : l.head? ≠ some 32) (h2 : l.getLast? ≠ some 32) : Lib.trimB l 32 = l := by
  unfold Lib.trimB Lib.trimRightB Lib.trimLeftB
  have e1 : l.reverse.dropWhile (· == 32) = l.reverse := by
    rw [← List.head?_reverse] at h2
    cases h : l.reverse with
    | nil => rfl
    | cons c r =>
      rw [h] at h2
      rw [List.dropWhile_cons_of_neg (by simpa using h2)]
  rw [e1, List.reverse_reverse]
  cases l with
  | nil => rfl
  | cons c r => rw [List.dropWhile_cons_of_neg (by simpa using h1)]
/-- the alternatives of texts with bars between them. -/
theorem alts_one (a : List UInt8) (h : ∀ b ∈ a, b ≠ 124) : altsL a = [Lib.trimB a 32] := by unfold altsL; rw [barsL_one a h]; rfl
theorem alts_cut (a r : List UInt8) (h : ∀ b ∈ a, b ≠ 124) : altsL (a ++ 124 :: r) = Lib.trimB a 32 :: altsL r := by unfold altsL; rw [barsL_cut a r h]; rfl
theorem alts_blank (r : List UInt8) : altsL (32 :: r) = altsL r := by
  unfold altsL
  cases e : barsL r with
  | nil => exact absurd e (barsL_ne r)
  | cons h t =>
    rw [barsL_other 32 r h t (by decide) e, List.map_cons, List.map_cons, trim_cons]
/-- a text of an alternative: no bar, no blank at its ends. -/
def PieceOk (x : List UInt8) : Prop := (∀ b ∈ x, b ≠ 124) ∧ x.head? ≠ some 32 ∧ x.getLast? ≠ some 32
theorem PieceOk.trim {x : List UInt8} (h : PieceOk x) : Lib.trimB x 32 = x := trim_done x h.2.1 h.2.2
theorem join_cons2 (x y : List UInt8) (r : List (List UInt8)) (sep : List UInt8) : Lib.join (x :: y :: r) sep = x ++ sep ++ Lib.join (y :: r) sep := by
  rw [Lib.join_cons, Lib.join_cons]
  simp [Lib.joinTail]
theorem alts_join : ∀ (l : List (List UInt8)), l ≠ [] → (∀ x ∈ l, PieceOk x) → altsL (Lib.join l [32, 124, 32]) = l
  | [], h, _ => absurd rfl h
  | [x], _, h => by
    have hx := h x (by simp)
    rw [Lib.join_one, alts_one x hx.1, hx.trim]
  | x :: y :: r, _, h => by
    have hx := h x (by simp)
    have e : Lib.join (x :: y :: r) [32, 124, 32] = (x ++ [32]) ++ 124 :: (32 :: Lib.join (y :: r) [32, 124, 32]) := by
      rw [join_cons2]; simp
    rw [e, alts_cut (x ++ [32]) _ (fun b hb => by
      rcases List.mem_append.1 hb with hb | hb
      · exact hx.1 b hb
      · rcases List.mem_singleton.1 hb with rfl
        decide), alts_blank, alts_join (y :: r) (by simp) (fun z hz => h z (List.mem_cons_of_mem _ hz)), trim_snoc, hx.trim]
theorem join_snoc (l : List (List UInt8)) (x sep : List UInt8) : Lib.join (l ++ [x]) sep = if l = [] then x else Lib.join l sep ++ sep ++ x := by
  cases l with
  | nil => rw [if_pos rfl, List.nil_append, Lib.join_one]
  | cons y r =>
    rw [if_neg (by simp), List.cons_append, Lib.join_cons, Lib.join_cons]
    simp [Lib.joinTail]

/-- where two dots stand. -/
def shI (i : Int) (n : Nat) : Int := if i = -1 then -1 else i + n
theorem idx_cons (c : UInt8) (r : List UInt8) (h : ([46, 46] : List UInt8).isPrefixOf (c :: r) = false) : Lib.index (c :: r) [46, 46] = shI (Lib.index r [46, 46]) 1 := by
  rw [Lib.index, h]
  unfold shI
  by_cases h2 : Lib.index r [46, 46] = -1
  · rw [if_pos h2, h2]; rfl
  · rw [if_neg h2, if_neg (by simp), if_neg (by simpa using h2)]; rfl
theorem shI_shI (i : Int) (h : -1 ≤ i) (a b : Nat) : shI (shI i a) b = shI i (a + b) := by
  unfold shI
  by_cases h2 : i = -1
  · simp [h2]
  · rw [if_neg h2, if_neg h2, if_neg (by omega)]; omega
theorem idx_word : ∀ (a r : List UInt8), (∀ b ∈ a, b ≠ 46) → Lib.index (a ++ r) [46, 46] = shI (Lib.index r [46, 46]) a.length
  | [], r, _ => by unfold shI; split <;> simp_all
  | c :: a, r, h => by
    have hc : c ≠ 46 := h c (by simp)
    rw [List.cons_append, idx_cons _ _ (by simp [List.isPrefixOf, Ne.symm hc]), idx_word a r (fun b hb => h b (by simp [hb])), shI_shI _ (Lib.index_ge _ _)]
    rfl
theorem idx_dot (r : List UInt8) (h : r.head? ≠ some 46) : Lib.index (46 :: r) [46, 46] = shI (Lib.index r [46, 46]) 1 := by
  refine idx_cons _ _ ?_
  cases r with
  | nil => rfl
  | cons c r =>
    have hc : c ≠ 46 := by simpa using h
    simp [List.isPrefixOf, Ne.symm hc]
/-- a number's text: digits, then a dot, .. -/
theorem word_facts {l : List UInt8} (h : wordOk l = true) : l ≠ [] ∧ (∀ b ∈ l, dgB b = true) ∧ l.length ≤ 3 := by
  unfold wordOk at h
  simp only [Bool.and_eq_true, decide_eq_true_eq, List.all_eq_true] at h
  exact ⟨h.1, h.2.2.1, h.2.1⟩
theorem dg_ne {b : UInt8} (h : dgB b = true) : b ≠ 46 ∧ b ≠ 124 ∧ b ≠ 32 ∧ b ≠ 94 ∧ b ≠ 126 ∧ b ≠ 42 ∧ b ≠ 110 := by
  have := dg_nat h
  refine ⟨?_, ?_, ?_, ?_, ?_, ?_, ?_⟩ <;> (intro e; subst e; revert this; decide)
theorem dec_head {n : Int} (h0 : 0 ≤ n) (h1 : n ≤ 999) (r : List UInt8) : ∃ d t, dgB d = true ∧ decL n ++ r = d :: t := by
  have hw := word_facts (word_dec n h0 h1).1
  cases e : decL n with
  | nil => exact absurd e hw.1
  | cons d t => exact ⟨d, t ++ r, hw.2.1 d (by rw [e]; simp), rfl⟩
theorem dec_nodot {n : Int} (h0 : 0 ≤ n) (h1 : n ≤ 999) : ∀ b ∈ decL n, b ≠ 46 := fun b hb => (dg_ne ((word_facts (word_dec n h0 h1).1).2.1 b hb)).1
theorem fmt_idx {a b c : Int} (h : validB a b c = true) (r : List UInt8) : Lib.index (fmtL a b c ++ r) [46, 46] = shI (Lib.index r [46, 46]) (fmtL a b c).length := by
  obtain ⟨⟨a0, a1⟩, ⟨b0, b1⟩, c0, c1⟩ := valid_le h
  have g := Lib.index_ge r [46, 46]
  have e : fmtL a b c ++ r = decL a ++ (46 :: (decL b ++ (46 :: (decL c ++ r)))) := by unfold fmtL; simp
  have h1 : (decL c ++ r).head? ≠ some 46 := by
    obtain ⟨d, t, hd, e2⟩ := dec_head c0 c1 r
    rw [e2]; simpa using (dg_ne hd).1
  have h2 : (decL b ++ (46 :: (decL c ++ r))).head? ≠ some 46 := by
    obtain ⟨d, t, hd, e2⟩ := dec_head b0 b1 (46 :: (decL c ++ r))
    rw [e2]; simpa using (dg_ne hd).1
  rw [e, idx_word _ _ (dec_nodot a0 a1), idx_dot _ h2, idx_word _ _ (dec_nodot b0 b1), idx_dot _ h1, idx_word _ _ (dec_nodot c0 c1), shI_shI _ g, shI_shI _ g, shI_shI _ g, shI_shI _ g]
  congr 1
  unfold fmtL
  simp only [List.length_append, List.length_cons]
  omega
theorem fmt_mem {a b c : Int} (h : validB a b c = true) : ∀ x ∈ fmtL a b c, dgB x = true ∨ x = 46 := by
  obtain ⟨⟨a0, a1⟩, ⟨b0, b1⟩, c0, c1⟩ := valid_le h
  have ha := (word_facts (word_dec a a0 a1).1).2.1
  have hb := (word_facts (word_dec b b0 b1).1).2.1
  have hc := (word_facts (word_dec c c0 c1).1).2.1
  intro x hx
  unfold fmtL at hx
  simp only [List.mem_append, List.mem_cons] at hx
  rcases hx with hx | rfl | hx | rfl | hx
  · exact .inl (ha x hx)
  · exact .inr rfl
  · exact .inl (hb x hx)
  · exact .inr rfl
  · exact .inl (hc x hx)
theorem fmt_head {a b c : Int} (h : validB a b c = true) (r : List UInt8) : ∃ d t, dgB d = true ∧ fmtL a b c ++ r = d :: t := by
  obtain ⟨⟨a0, a1⟩, _⟩ := valid_le h
  unfold fmtL
  rw [List.append_assoc]
  exact dec_head a0 a1 _
theorem fmt_last {a b c : Int} (h : validB a b c = true) : ∃ d, dgB d = true ∧ (fmtL a b c).getLast? = some d := by
  obtain ⟨⟨a0, a1⟩, ⟨b0, b1⟩, c0, c1⟩ := valid_le h
  have hc := word_facts (word_dec c c0 c1).1
  rcases List.eq_nil_or_concat (decL c) with e | ⟨t, d, e⟩
  · exact absurd e hc.1
  · rw [List.concat_eq_append] at e
    refine ⟨d, hc.2.1 d (by rw [e]; simp), ?_⟩
    unfold fmtL
    rw [e, show decL a ++ 46 :: (decL b ++ 46 :: (t ++ [d])) = (decL a ++ 46 :: (decL b ++ 46 :: t)) ++ [d] by simp, List.getLast?_concat]
theorem fmt_len {a b c : Int} (h : validB a b c = true) : (fmtL a b c).length ≤ 11 := by
  obtain ⟨⟨a0, a1⟩, ⟨b0, b1⟩, c0, c1⟩ := valid_le h
  have ha := (word_facts (word_dec a a0 a1).1).2.2
  have hb := (word_facts (word_dec b b0 b1).1).2.2
  have hc := (word_facts (word_dec c c0 c1).1).2.2
  unfold fmtL
  simp only [List.length_append, List.length_cons]
  omega
theorem fmt_ne {a b c : Int} (h : validB a b c = true) : fmtL a b c ≠ [] := by
  obtain ⟨d, t, _, e⟩ := fmt_head h []
  rw [List.append_nil] at e
  rw [e]; simp
/-- the text of a number, alone or with dots. -/
theorem fmt_pl {a b c : Int} (h : validB a b c = true) : plV (fmtL a b c) = 1000 * b + c ∧ synB (fmtL a b c) = false ∧ othB a (fmtL a b c) = false := by
  unfold plV synB othB
  rw [parse_format a b c h]
  simp
theorem shI_no (n : Nat) : shI (-1) n = -1 := if_pos rfl
theorem hat_head (r : List UInt8) : ((94 : UInt8) :: r).head? = some 94 := rfl
theorem tilde_head (r : List UInt8) : ¬ ((126 : UInt8) :: r).head? = some 94 ∧ ((126 : UInt8) :: r).head? = some 126 := ⟨by rw [List.head?_cons]; exact fun e => absurd (Option.some.inj e) (by decide), rfl⟩
theorem idx_nil : Lib.index [] [46, 46] = -1 := by decide
/-- an alternative that begins with a digit or a dot. -/
theorem alt_plain {m : Int} {l : List UInt8} (h : ∃ d t, (dgB d = true ∨ d = 46) ∧ l = d :: t) : l ≠ [110, 111, 110, 101] ∧ l ≠ [42] ∧ l.head? ≠ some 94 ∧ l.head? ≠ some 126 := by
  obtain ⟨d, t, hd, rfl⟩ := h
  have key : d ≠ 94 ∧ d ≠ 126 ∧ d ≠ 42 ∧ d ≠ 110 := by
    rcases hd with hd | rfl
    · have := dg_ne hd; exact ⟨this.2.2.2.1, this.2.2.2.2.1, this.2.2.2.2.2.1, this.2.2.2.2.2.2⟩
    · decide
  exact ⟨fun e => key.2.2.2 (List.cons.inj e).1, fun e => key.2.2.1 (List.cons.inj e).1, by simpa using key.1, by simpa using key.2.1⟩
theorem alt_one {a b c : Int} (h : validB a b c = true) : altV a (fmtL a b c) = ((1000 * b + c, 1000 * b + c + 1), 0) := by
  obtain ⟨d, t, hd, e⟩ := fmt_head h []
  rw [List.append_nil] at e
  obtain ⟨n1, n2, n3, n4⟩ := alt_plain (m := a) ⟨d, t, .inl hd, e⟩
  obtain ⟨p1, p2, p3⟩ := fmt_pl h
  have hi := fmt_idx h []
  rw [List.append_nil, idx_nil, shI_no] at hi
  have hs : spanP a (fmtL a b c) = ((1000 * b + c, 1000 * b + c + 1), false, false) := by
    unfold spanP
    rw [if_neg n3, if_neg n4, hi, if_neg (by decide), p1, p2, p3]
  unfold altV
  rw [if_neg n1, if_neg n2, hs]
  simp only [Bool.false_eq_true, if_false, false_or]
  rw [if_neg (by omega)]
theorem alt_hat {a b c : Int} (h : validB a b c = true) : altV a (94 :: fmtL a b c) = ((1000 * b + c, 1000000), 0) := by
  obtain ⟨⟨a0, a1⟩, ⟨b0, b1⟩, c0, c1⟩ := valid_le h
  obtain ⟨p1, p2, p3⟩ := fmt_pl h
  have hs : spanP a (94 :: fmtL a b c) = ((1000 * b + c, 1000000), false, false) := by
    unfold spanP
    rw [if_pos (hat_head _), List.tail_cons, p1, p2, p3]
  unfold altV
  rw [if_neg (fun e => absurd (List.cons.inj e).1 (by decide)), if_neg (fun e => absurd (List.cons.inj e).1 (by decide)), hs]
  simp only [Bool.false_eq_true, if_false, false_or]
  rw [if_neg (by omega)]
theorem alt_tilde {a b c : Int} (h : validB a b c = true) : altV a (126 :: fmtL a b c) = ((1000 * b + c, 1000 * b + 1000), 0) := by
  obtain ⟨⟨a0, a1⟩, ⟨b0, b1⟩, c0, c1⟩ := valid_le h
  obtain ⟨p1, p2, p3⟩ := fmt_pl h
  have hs : spanP a (126 :: fmtL a b c) = ((1000 * b + c, 1000 * b + 1000), false, false) := by
    unfold spanP
    rw [if_neg (tilde_head _).1, if_pos (tilde_head _).2, List.tail_cons, p1, p2, p3, show (1000 * b + c) / 1000 * 1000 + 1000 = 1000 * b + 1000 by omega]
  unfold altV
  rw [if_neg (fun e => absurd (List.cons.inj e).1 (by decide)), if_neg (fun e => absurd (List.cons.inj e).1 (by decide)), hs]
  simp only [Bool.false_eq_true, if_false, false_or]
  rw [if_neg (by omega)]
theorem alt_from {a b c : Int} (h : validB a b c = true) : altV a (fmtL a b c ++ [46, 46]) = ((1000 * b + c, 1000000), 0) := by
  obtain ⟨⟨a0, a1⟩, ⟨b0, b1⟩, c0, c1⟩ := valid_le h
  obtain ⟨d, t, hd, e⟩ := fmt_head h [46, 46]
  obtain ⟨n1, n2, n3, n4⟩ := alt_plain (m := a) ⟨d, t, .inl hd, e⟩
  obtain ⟨p1, p2, p3⟩ := fmt_pl h
  have hn := fmt_ne h
  have hi : Lib.index (fmtL a b c ++ [46, 46]) [46, 46] = ((fmtL a b c).length : Int) := by
    rw [fmt_idx h, show Lib.index [46, 46] [46, 46] = 0 by decide]; unfold shI; rw [if_neg (by decide)]; omega
  have hs : spanP a (fmtL a b c ++ [46, 46]) = ((1000 * b + c, 1000000), false, false) := by
    unfold spanP
    rw [if_neg n3, if_neg n4, hi, if_pos (by omega)]
    simp only [Int.toNat_natCast, List.take_left, List.drop_length_add_append, hn, p1, p2, p3]
    simp
  unfold altV
  rw [if_neg n1, if_neg n2, hs]
  simp only [Bool.false_eq_true, if_false, false_or]
  rw [if_neg (by omega)]
theorem alt_to {a b c : Int} (h : validB a b c = true) (hp : 0 < 1000 * b + c) : altV a ([46, 46] ++ fmtL a b c) = ((0, 1000 * b + c), 0) := by
  obtain ⟨n1, n2, n3, n4⟩ := alt_plain (m := a) ⟨46, 46 :: fmtL a b c, .inr rfl, rfl⟩
  obtain ⟨p1, p2, p3⟩ := fmt_pl h
  have hn := fmt_ne h
  have hi : Lib.index ([46, 46] ++ fmtL a b c) [46, 46] = 0 := by
    rw [List.cons_append, Lib.index, if_pos (by simp [List.isPrefixOf])]
  have hs : spanP a ([46, 46] ++ fmtL a b c) = ((0, 1000 * b + c), false, false) := by
    unfold spanP
    rw [show [46, 46] ++ fmtL a b c = 46 :: 46 :: fmtL a b c from rfl] at hi ⊢
    rw [if_neg n3, if_neg n4, hi, if_pos (by decide)]
    simp [hn, p1, p2, p3]
  unfold altV
  rw [show [46, 46] ++ fmtL a b c = 46 :: 46 :: fmtL a b c from rfl] at hs ⊢
  rw [if_neg n1, if_neg n2, hs]
  simp only [Bool.false_eq_true, if_false, false_or]
  rw [if_neg (by omega)]
theorem alt_both {a b c b' c' : Int} (h : validB a b c = true) (h' : validB a b' c' = true) (hp : 1000 * b + c < 1000 * b' + c') : altV a (fmtL a b c ++ [46, 46] ++ fmtL a b' c') = ((1000 * b + c, 1000 * b' + c'), 0) := by
  obtain ⟨d, t, hd, e⟩ := fmt_head h ([46, 46] ++ fmtL a b' c')
  obtain ⟨n1, n2, n3, n4⟩ := alt_plain (m := a) ⟨d, t, .inl hd, e⟩
  obtain ⟨p1, p2, p3⟩ := fmt_pl h
  obtain ⟨q1, q2, q3⟩ := fmt_pl h'
  have hn := fmt_ne h
  have hn' := fmt_ne h'
  have hi : Lib.index (fmtL a b c ++ ([46, 46] ++ fmtL a b' c')) [46, 46] = ((fmtL a b c).length : Int) := by
    rw [fmt_idx h, show Lib.index ([46, 46] ++ fmtL a b' c') [46, 46] = 0 by rw [List.cons_append, Lib.index, if_pos (by simp [List.isPrefixOf])]]; unfold shI; rw [if_neg (by decide)]; omega
  rw [List.append_assoc]
  have hs : spanP a (fmtL a b c ++ ([46, 46] ++ fmtL a b' c')) = ((1000 * b + c, 1000 * b' + c'), false, false) := by
    unfold spanP
    rw [if_neg n3, if_neg n4, hi, if_pos (by omega)]
    have ed : (fmtL a b c ++ ([46, 46] ++ fmtL a b' c')).drop ((fmtL a b c).length + 2) = fmtL a b' c' := by
      rw [← List.drop_drop, List.drop_left]; rfl
    simp only [Int.toNat_natCast, List.take_left, ed, hn, hn', p1, p2, p3, q1, q2, q3]
    simp
  unfold altV
  rw [if_neg n1, if_neg n2, hs]
  simp only [Bool.false_eq_true, if_false, false_or]
  rw [if_neg (by omega)]
end Go.Proofs.YtenfkejbndifdaaGreatDoor

namespace Go.Proofs.YtenfkejbndifdaaGreatDoor
set_option linter.unusedVariables false
set_option linter.unusedSimpArgs false
open Go

/-- the text of a place. -/
def textV (m p : Int) : List UInt8 := (formatV (atV m p).1.1 (atV m p).1.2.1 (atV m p).1.2.2).1
def textB (m p : Int) : ByteArray := ⟨(textV m p).toArray⟩
/-- the text of a span. -/
def spanB (m : Int) (x : Int × Int) : ByteArray :=
  if x = (0, 1000000) then ⟨#[42]⟩ else if x.2 = x.1 + 1 then textB m x.1 else if x.2 = 1000000 then textB m x.1 ++ ⟨#[46, 46]⟩
  else if x.1 = 0 then ⟨#[46, 46]⟩ ++ textB m x.2 else textB m x.1 ++ ⟨#[46, 46]⟩ ++ textB m x.2
def spanT (m : Int) (x : Int × Int) : List UInt8 := (spanB m x).data.toList
/-- the text of a set, and the error. -/
def formatC (m : Int) (s : List (Int × Int)) : List UInt8 × Int :=
  if ¬ (0 ≤ m ∧ m ≤ 999) then ([], 2) else if canon s = [] then ([110, 111, 110, 101], 0) else (Lib.join ((canon s).map (spanT m)) [32, 124, 32], 0)
theorem format_len (a b c : Int) : (formatV a b c).1.length ≤ 11 := by
  unfold formatV
  split
  · rename_i h
    obtain ⟨⟨a0, a1⟩, ⟨b0, b1⟩, c0, c1⟩ := valid_le h
    have h1 := decL_len a a1
    have h2 := decL_len b b1
    have h3 := decL_len c c1
    unfold fmtL
    simp only [List.length_append, List.length_cons]
    omega
  · simp
theorem textB_size (m p : Int) : (textB m p).size ≤ 11 := by
  rw [Lib.size_eq]
  unfold textB textV
  simpa using format_len _ _ _
theorem size_app2 (a b : ByteArray) : (a ++ b).size = a.size + b.size := by
  rw [Lib.size_eq, Lib.size_eq a, Lib.size_eq b, ByteArray.data_append]
  simp
theorem spanB_size (m : Int) (x : Int × Int) : (spanB m x).size ≤ 24 := by
  have h1 := textB_size m x.1
  have h2 := textB_size m x.2
  have h3 : (⟨#[46, 46]⟩ : ByteArray).size = 2 := rfl
  have h4 : (⟨#[42]⟩ : ByteArray).size = 1 := rfl
  unfold spanB
  split
  · omega
  · split
    · omega
    · split
      · rw [size_app2]; omega
      · split
        · rw [size_app2]; omega
        · rw [size_app2, size_app2]; omega
theorem jtext_len (sep : List UInt8) (C : Nat) : ∀ (l : List (List UInt8)), (∀ x ∈ l, x.length ≤ C) → (Lib.join l sep).length ≤ l.length * (C + sep.length)
  | [], _ => by simp [Lib.join]
  | x :: l, h => by
    rw [Lib.join_cons]
    have hx := h x List.mem_cons_self
    have : ∀ (l : List (List UInt8)), (∀ x ∈ l, x.length ≤ C) → (Lib.joinTail sep l).length ≤ l.length * (C + sep.length) := fun l => by
      induction l with
      | nil => intro _; simp [Lib.joinTail]
      | cons y l ih =>
        intro h2
        have hy := h2 y List.mem_cons_self
        have := ih fun z hz => h2 z (List.mem_cons_of_mem _ hz)
        simp only [Lib.joinTail, List.map_cons, List.flatten_cons, List.length_append, List.length_cons, Nat.add_mul] at *
        omega
    have := this l fun z hz => h z (List.mem_cons_of_mem _ hz)
    simp only [List.length_append, List.length_cons, Nat.add_mul] at *
    omega
theorem spanB_cases (m : Int) (x : Int × Int) : (x = (0, 1000000) ∧ spanB m x = ⟨#[42]⟩) ∨ (x ≠ (0, 1000000) ∧ x.2 = x.1 + 1 ∧ spanB m x = textB m x.1) ∨ (x ≠ (0, 1000000) ∧ x.2 ≠ x.1 + 1 ∧ x.2 = 1000000 ∧ spanB m x = textB m x.1 ++ ⟨#[46, 46]⟩) ∨
    (x ≠ (0, 1000000) ∧ x.2 ≠ x.1 + 1 ∧ x.2 ≠ 1000000 ∧ x.1 = 0 ∧ spanB m x = ⟨#[46, 46]⟩ ++ textB m x.2) ∨ (x ≠ (0, 1000000) ∧ x.2 ≠ x.1 + 1 ∧ x.2 ≠ 1000000 ∧ x.1 ≠ 0 ∧ spanB m x = textB m x.1 ++ ⟨#[46, 46]⟩ ++ textB m x.2) := by
  unfold spanB
  by_cases h1 : x = (0, 1000000)
  · exact .inl ⟨h1, if_pos h1⟩
  · by_cases h2 : x.2 = x.1 + 1
    · exact .inr (.inl ⟨h1, h2, by rw [if_neg h1, if_pos h2]⟩)
    · by_cases h3 : x.2 = 1000000
      · exact .inr (.inr (.inl ⟨h1, h2, h3, by rw [if_neg h1, if_neg h2, if_pos h3]⟩))
      · by_cases h4 : x.1 = 0
        · exact .inr (.inr (.inr (.inl ⟨h1, h2, h3, h4, by rw [if_neg h1, if_neg h2, if_neg h3, if_pos h4]⟩)))
        · exact .inr (.inr (.inr (.inr ⟨h1, h2, h3, h4, by rw [if_neg h1, if_neg h2, if_neg h3, if_neg h4]⟩)))

theorem at_valid {m p : Int} (hm : 0 ≤ m ∧ m ≤ 999) (h0 : 0 ≤ p) (h1 : p < 1000000) : validB m (p / 1000) (p % 1000) = true := by
  rw [valid_at h0 h1]; unfold partB; simp; omega
theorem textV_eq {m p : Int} (hm : 0 ≤ m ∧ m ≤ 999) (h0 : 0 ≤ p) (h1 : p < 1000000) : textV m p = fmtL m (p / 1000) (p % 1000) := by
  unfold textV atV
  rw [if_pos ⟨by unfold partB; simp; omega, h0, h1⟩]
  unfold formatV
  rw [if_pos (at_valid hm h0 h1)]
theorem textB_mk (m p : Int) : (textB m p).data.toList = textV m p := by unfold textB; simp
theorem alt_star (m : Int) : altV m [42] = ((0, 1000000), 0) := by unfold altV; rw [if_neg (by decide), if_pos rfl]
theorem alt_none (m : Int) : altV m [110, 111, 110, 101] = ((0, 0), 0) := by unfold altV; rw [if_pos rfl]
theorem canon_zero : canon [(0, 0)] = [] := (can_nil_iff (canon_can _)).2 fun p hp => by
  rw [canon_in, inL_one] at hp
  simp only at hp
  omega
/-- the text of a span is an alternative that gives this span. -/
theorem spanT_facts {m : Int} (hm : 0 ≤ m ∧ m ≤ 999) (x : Int × Int) (h0 : 0 ≤ x.1) (h1 : x.1 < x.2) (h2 : x.2 ≤ 1000000) : altV m (spanT m x) = (x, 0) ∧ PieceOk (spanT m x) ∧ spanT m x ≠ [] := by
  have vx := at_valid (p := x.1) hm h0 (by omega)
  have ex := textV_eq (p := x.1) hm h0 (by omega)
  have pc : ∀ l : List UInt8, (∀ b ∈ l, dgB b = true ∨ b = 46) → PieceOk l := fun l h => by
    have key : ∀ b ∈ l, b ≠ 124 ∧ b ≠ 32 := fun b hb => by
      rcases h b hb with h | rfl
      · exact ⟨(dg_ne h).2.1, (dg_ne h).2.2.1⟩
      · decide
    refine ⟨fun b hb => (key b hb).1, fun e => (key 32 (List.mem_of_mem_head? (by rw [e]; rfl))).2 rfl, fun e => (key 32 (List.mem_of_getLast? e)).2 rfl⟩
  unfold spanT
  obtain ⟨x1, x2⟩ := x
  simp only at h0 h1 h2 vx ex
  have dot2 : (⟨#[46, 46]⟩ : ByteArray).data.toList = [46, 46] := rfl
  rcases spanB_cases m (x1, x2) with ⟨h3, hs⟩ | ⟨h3, h4, hs⟩ | ⟨h3, h4, h5, hs⟩ | ⟨h3, h4, h5, h6, hs⟩ | ⟨h3, h4, h5, h6, hs⟩
  · rw [hs, h3]
    refine ⟨alt_star m, ?_, by decide⟩
    exact ⟨by decide, by decide, by decide⟩
  · simp only at h4
    rw [hs, textB_mk, ex]
    refine ⟨?_, pc _ (fmt_mem vx), fmt_ne vx⟩
    rw [alt_one vx, h4, show 1000 * (x1 / 1000) + x1 % 1000 = x1 by omega]
  · simp only at h5
    rw [hs, ByteArray.data_append, Array.toList_append, dot2, textB_mk, ex]
    refine ⟨?_, pc _ (fun b hb => ?_), by simp⟩
    · rw [alt_from vx, h5, show 1000 * (x1 / 1000) + x1 % 1000 = x1 by omega]
    · rcases List.mem_append.1 hb with hb | hb
      · exact fmt_mem vx b hb
      · simp at hb; exact .inr hb
  · simp only at h5 h6
    have vy := at_valid (p := x2) hm (by omega) (by omega)
    have ey := textV_eq (p := x2) hm (by omega) (by omega)
    rw [hs, ByteArray.data_append, Array.toList_append, dot2, textB_mk, ey]
    refine ⟨?_, pc _ (fun b hb => ?_), by simp⟩
    · rw [alt_to vy (by omega), h6, show 1000 * (x2 / 1000) + x2 % 1000 = x2 by omega]
    · rcases List.mem_append.1 hb with hb | hb
      · simp at hb; exact .inr hb
      · exact fmt_mem vy b hb
  · simp only at h5 h6
    have vy := at_valid (p := x2) hm (by omega) (by omega)
    have ey := textV_eq (p := x2) hm (by omega) (by omega)
    rw [hs, ByteArray.data_append, Array.toList_append, ByteArray.data_append, Array.toList_append, dot2, textB_mk, textB_mk, ex, ey]
    refine ⟨?_, pc _ (fun b hb => ?_), by simp⟩
    · rw [alt_both vx vy (by omega), show 1000 * (x1 / 1000) + x1 % 1000 = x1 by omega, show 1000 * (x2 / 1000) + x2 % 1000 = x2 by omega]
    · rcases List.mem_append.1 hb with hb | hb
      · rcases List.mem_append.1 hb with hb | hb
        · exact fmt_mem vx b hb
        · simp at hb; exact .inr hb
      · exact fmt_mem vy b hb
theorem parseC_of {m : Int} {l : List UInt8} (hm : 0 ≤ m ∧ m ≤ 999) (h1 : l.length ≤ 65536) (h2 : (altsL l).length ≤ 1024) (h3 : ∀ a ∈ altsL l, (altV m a).2 = 0) : parseC m l = (canon ((altsL l).map fun a => (altV m a).1), 0) := by
  have hc : (altsL l).length = l.count 124 + 1 := by unfold altsL; rw [List.length_map, bars_count]
  unfold parseC
  rw [if_neg (by omega), if_neg (by omega), errL_none h3, if_neg (by decide)]
/-- the text of a set is read as its canonical form. -/
theorem parse_formatC {m : Int} (hm : 0 ≤ m ∧ m ≤ 999) (s : List (Int × Int)) (hs : s.length ≤ 1000) : (formatC m s).2 = 0 ∧ parseC m (formatC m s).1 = (canon s, 0) := by
  have hcl := canon_len s
  have hcm := (canon_can s).2
  have hcc := canon_of_can (canon_can s)
  unfold formatC
  rw [if_neg (by omega)]
  by_cases h0 : canon s = []
  · rw [if_pos h0, h0]
    refine ⟨rfl, ?_⟩
    have e : altsL [110, 111, 110, 101] = [[110, 111, 110, 101]] := by decide
    show parseC m [110, 111, 110, 101] = ([], 0)
    rw [parseC_of hm (by decide) (by decide) (fun a ha => by rw [e] at ha; rcases List.mem_singleton.1 ha with rfl; rw [alt_none]), e]
    simp only [List.map_cons, List.map_nil, alt_none, canon_zero]
  · rw [if_neg h0]
    refine ⟨rfl, ?_⟩
    generalize canon s = c at *
    show parseC m (Lib.join (c.map (spanT m)) [32, 124, 32]) = (c, 0)
    have ha : altsL (Lib.join (c.map (spanT m)) [32, 124, 32]) = c.map (spanT m) := by
      refine alts_join _ (by simpa using h0) fun x hx => ?_
      obtain ⟨y, hy, rfl⟩ := List.mem_map.1 hx
      have := hcm y hy
      exact (spanT_facts hm y this.1 this.2.1 this.2.2).2.1
    have hl : (Lib.join (c.map (spanT m)) [32, 124, 32]).length ≤ (c.map (spanT m)).length * (24 + 3) := jtext_len [32, 124, 32] 24 _ fun x hx => by
      obtain ⟨y, hy, rfl⟩ := List.mem_map.1 hx
      have := spanB_size m y
      unfold spanT
      rw [← Lib.size_eq]
      exact this
    rw [List.length_map] at hl
    rw [parseC_of hm (by omega) (by rw [ha, List.length_map]; omega) (fun a ha2 => ?_)]
    · rw [ha, List.map_map]
      have : c.map ((fun a => (altV m a).1) ∘ spanT m) = c := by
        have e : ∀ y ∈ c, ((fun a => (altV m a).1) ∘ spanT m) y = id y := fun y hy => by
          have := hcm y hy
          show (altV m (spanT m y)).1 = y
          rw [(spanT_facts hm y this.1 this.2.1 this.2.2).1]
        rw [List.map_congr_left e, List.map_id]
      rw [this, hcc]
    · rw [ha] at ha2
      obtain ⟨y, hy, rfl⟩ := List.mem_map.1 ha2
      have := hcm y hy
      rw [(spanT_facts hm y this.1 this.2.1 this.2.2).1]
/-- the canonical form has the same text. -/
theorem format_canon (m : Int) (s : List (Int × Int)) : formatC m (canon s) = formatC m s := by
  unfold formatC
  rw [canon_of_can (canon_can s)]
/-- what a version's text means, alone, with ^, with ~. -/
theorem parse_alone {m : Int} {l : List UInt8} {x : Int × Int} (hm : 0 ≤ m ∧ m ≤ 999) (h1 : l.length ≤ 1000) (h2 : PieceOk l) (h3 : altV m l = (x, 0)) : parseC m l = (canon [x], 0) := by
  have e : altsL l = [l] := by rw [alts_one l h2.1, h2.trim]
  rw [parseC_of hm (by omega) (by rw [e]; simp) (fun a ha => by rw [e] at ha; rcases List.mem_singleton.1 ha with rfl; rw [h3]), e]
  simp only [List.map_cons, List.map_nil, h3]
theorem piece_of (l : List UInt8) (h : ∀ b ∈ l, dgB b = true ∨ b = 46 ∨ b = 94 ∨ b = 126) : PieceOk l := by
  have key : ∀ b ∈ l, b ≠ 124 ∧ b ≠ 32 := fun b hb => by
    rcases h b hb with h | rfl | rfl | rfl
    · exact ⟨(dg_ne h).2.1, (dg_ne h).2.2.1⟩
    · decide
    · decide
    · decide
  exact ⟨fun b hb => (key b hb).1, fun e => (key 32 (List.mem_of_mem_head? (by rw [e]; rfl))).2 rfl, fun e => (key 32 (List.mem_of_getLast? e)).2 rfl⟩
theorem canon_one {x : Int × Int} (h0 : 0 ≤ x.1) (h1 : x.1 < x.2) (h2 : x.2 ≤ 1000000) : canon [x] = [x] := canon_of_can (can_cons.2 ⟨⟨h0, h1, h2⟩, fun y hy => (List.not_mem_nil hy).elim, can_nil⟩)
theorem parse_vers {a b c : Int} (h : validB a b c = true) :
    parseC a (fmtL a b c) = ([(1000 * b + c, 1000 * b + c + 1)], 0) ∧ parseC a (94 :: fmtL a b c) = (canon [(1000 * b + c, 1000000)], 0) ∧ parseC a (126 :: fmtL a b c) = (minusS (canon [(1000 * b + c, 1000000)]) [(1000 * b + 1000, 1000000)], 0) := by
  obtain ⟨⟨a0, a1⟩, ⟨b0, b1⟩, c0, c1⟩ := valid_le h
  have hl := fmt_len h
  have hm := fmt_mem h
  refine ⟨?_, ?_, ?_⟩
  · rw [parse_alone ⟨a0, a1⟩ (by omega) (piece_of _ fun x hx => (hm x hx).elim .inl (fun e => .inr (.inl e))) (alt_one h), canon_one (by simp only; omega) (by simp only; omega) (by simp only; omega)]
  · exact parse_alone ⟨a0, a1⟩ (by simp only [List.length_cons]; omega) (piece_of _ fun x hx => by
      rcases List.mem_cons.1 hx with rfl | hx
      · exact .inr (.inr (.inl rfl))
      · exact (hm x hx).elim .inl (fun e => .inr (.inl e))) (alt_hat h)
  · rw [parse_alone ⟨a0, a1⟩ (by simp only [List.length_cons]; omega) (piece_of _ fun x hx => by
      rcases List.mem_cons.1 hx with rfl | hx
      · exact .inr (.inr (.inr rfl))
      · exact (hm x hx).elim .inl (fun e => .inr (.inl e))) (alt_tilde h)]
    congr 1
    refine can_unique (canon_can _) (minus_can _ _) fun p => ?_
    rw [canon_in, minus_in, canon_in, inL_one, inL_one, inL_one]
    simp only
    constructor
    · rintro ⟨⟨h1, h2⟩, h3⟩
      exact ⟨⟨⟨⟨h1, by omega⟩, h3⟩, by omega⟩, h3⟩
    · rintro ⟨⟨⟨⟨h1, _⟩, h3⟩, h4⟩, _⟩
      exact ⟨⟨h1, by omega⟩, h3⟩
end Go.Proofs.YtenfkejbndifdaaGreatDoor
