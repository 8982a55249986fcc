/- Constraints as texts, plain: trimming, joining; the text of a set is read as this set. -/
import Derived.Test.YtdhihdiifgcfdaaGreatDoorCPlainText
import Derived.Test.YtdhihdiifgcfdaaGreatDoorVPlainBack
import Derived.Test.YtdhihdiifgcfdaaGreatDoorCPlace
import Derived.Lib.Join
namespace Go.Proofs.YtdhihdiifgcfdaaGreatDoor
set_option linter.unusedVariables false
set_option linter.unusedSimpArgs false
open Go

/-- trimming, from the left and from the right. -/
theorem dropW_snoc (p : UInt8 → Bool) (l : List UInt8) (c : UInt8) : (l ++ [c]).dropWhile p = if (l.dropWhile p) = [] then [c].dropWhile p else l.dropWhile p ++ [c] := by
  rw [List.dropWhile_append]
  by_cases h : l.dropWhile p = []
  · rw [if_pos h, h]; rfl
  · rw [if_neg h, if_neg (by simpa using h)]
theorem trim_nil : Lib.trimB [] 32 = [] := rfl
theorem trim_snoc (l : List UInt8) : Lib.trimB (l ++ [32]) 32 = Lib.trimB l 32 := by
  unfold Lib.trimB Lib.trimRightB
  rw [List.reverse_append]
  rfl
theorem trim_cons (l : List UInt8) : Lib.trimB (32 :: l) 32 = Lib.trimB l 32 := by
  unfold Lib.trimB Lib.trimRightB
  rw [List.reverse_cons, dropW_snoc]
  by_cases h : l.reverse.dropWhile (· == 32) = []
  · rw [if_pos h, h]; rfl
  · rw [if_neg h, List.reverse_append]
    rfl
theorem trim_done (l : List UInt8) (h1 : l.head? ≠ some 32) (h2 : l.getLast? ≠ some 32) : Lib.trimB l 32 = l := by
  unfold Lib.trimB Lib.trimRightB Lib.trimLeftB
  have e1 : l.reverse.dropWhile (· == 32) = l.reverse := by
    rw [← List.head?_reverse] at h2
    cases h : l.reverse with
    | nil => rfl
    | cons c r =>
      rw [h] at h2
      rw [List.dropWhile_cons_of_neg (by simpa using h2)]
  rw [e1, List.reverse_reverse]
  cases l with
  | nil => rfl
  | cons c r => rw [List.dropWhile_cons_of_neg (by simpa using h1)]
/-- the alternatives of texts with bars between them. -/
theorem alts_one (a : List UInt8) (h : ∀ b ∈ a, b ≠ 124) : altsL a = [Lib.trimB a 32] := by unfold altsL; rw [barsL_one a h]; rfl
theorem alts_cut (a r : List UInt8) (h : ∀ b ∈ a, b ≠ 124) : altsL (a ++ 124 :: r) = Lib.trimB a 32 :: altsL r := by unfold altsL; rw [barsL_cut a r h]; rfl
theorem alts_blank (r : List UInt8) : altsL (32 :: r) = altsL r := by
  unfold altsL
  cases e : barsL r with
  | nil => exact absurd e (barsL_ne r)
  | cons h t =>
    rw [barsL_other 32 r h t (by decide) e, List.map_cons, List.map_cons, trim_cons]
/-- a text of an alternative: no bar, no blank at its ends. -/
def PieceOk (x : List UInt8) : Prop := (∀ b ∈ x, b ≠ 124) ∧ x.head? ≠ some 32 ∧ x.getLast? ≠ some 32
theorem PieceOk.trim {x : List UInt8} (h : PieceOk x) : Lib.trimB x 32 = x := trim_done x h.2.1 h.2.2
theorem join_cons2 (x y : List UInt8) (r : List (List UInt8)) (sep : List UInt8) : Lib.join (x :: y :: r) sep = x ++ sep ++ Lib.join (y :: r) sep := by
  rw [Lib.join_cons, Lib.join_cons]
  simp [Lib.joinTail]
theorem alts_join : ∀ (l : List (List UInt8)), l ≠ [] → (∀ x ∈ l, PieceOk x) → altsL (Lib.join l [32, 124, 32]) = l
  | [], h, _ => absurd rfl h
  | [x], _, h => by
    have hx := h x (by simp)
    rw [Lib.join_one, alts_one x hx.1, hx.trim]
  | x :: y :: r, _, h => by
    have hx := h x (by simp)
    have e : Lib.join (x :: y :: r) [32, 124, 32] = (x ++ [32]) ++ 124 :: (32 :: Lib.join (y :: r) [32, 124, 32]) := by
      rw [join_cons2]; simp
    rw [e, alts_cut (x ++ [32]) _ (fun b hb => by
      rcases List.mem_append.1 hb with hb | hb
      · exact hx.1 b hb
      · rcases List.mem_singleton.1 hb with rfl
        decide), alts_blank, alts_join (y :: r) (by simp) (fun z hz => h z (List.mem_cons_of_mem _ hz)), trim_snoc, hx.trim]
theorem join_snoc (l : List (List UInt8)) (x sep : List UInt8) : Lib.join (l ++ [x]) sep = if l = [] then x else Lib.join l sep ++ sep ++ x := by
  cases l with
  | nil => rw [if_pos rfl, List.nil_append, Lib.join_one]
  | cons y r =>
    rw [if_neg (by simp), List.cons_append, Lib.join_cons, Lib.join_cons]
    simp [Lib.joinTail]

/-- where two dots stand. -/
def shI (i : Int) (n : Nat) : Int := if i = -1 then -1 else i + n
theorem idx_cons (c : UInt8) (r : List UInt8) (h : ([46, 46] : List UInt8).isPrefixOf (c :: r) = false) : Lib.index (c :: r) [46, 46] = shI (Lib.index r [46, 46]) 1 := by
  rw [Lib.index, h]
  unfold shI
  by_cases h2 : Lib.index r [46, 46] = -1
  · rw [if_pos h2, h2]; rfl
  · rw [if_neg h2, if_neg (by simp), if_neg (by simpa using h2)]; rfl
theorem shI_shI (i : Int) (h : -1 ≤ i) (a b : Nat) : shI (shI i a) b = shI i (a + b) := by
  unfold shI
  by_cases h2 : i = -1
  · simp [h2]
  · rw [if_neg h2, if_neg h2, if_neg (by omega)]; omega
theorem idx_word : ∀ (a r : List UInt8), (∀ b ∈ a, b ≠ 46) → Lib.index (a ++ r) [46, 46] = shI (Lib.index r [46, 46]) a.length
  | [], r, _ => by unfold shI; split <;> simp_all
  | c :: a, r, h => by
    have hc : c ≠ 46 := h c (by simp)
    rw [List.cons_append, idx_cons _ _ (by simp [List.isPrefixOf, Ne.symm hc]), idx_word a r (fun b hb => h b (by simp [hb])), shI_shI _ (Lib.index_ge _ _)]
    rfl
theorem idx_dot (r : List UInt8) (h : r.head? ≠ some 46) : Lib.index (46 :: r) [46, 46] = shI (Lib.index r [46, 46]) 1 := by
  refine idx_cons _ _ ?_
  cases r with
  | nil => rfl
  | cons c r =>
    have hc : c ≠ 46 := by simpa using h
    simp [List.isPrefixOf, Ne.symm hc]
/-- a number's text: digits, then a dot, .. -/
theorem word_facts {l : List UInt8} (h : wordOk l = true) : l ≠ [] ∧ (∀ b ∈ l, dgB b = true) ∧ l.length ≤ 3 := by
  unfold wordOk at h
  simp only [Bool.and_eq_true, decide_eq_true_eq, List.all_eq_true] at h
  exact ⟨h.1, h.2.2.1, h.2.1⟩
theorem dg_ne {b : UInt8} (h : dgB b = true) : b ≠ 46 ∧ b ≠ 124 ∧ b ≠ 32 ∧ b ≠ 94 ∧ b ≠ 126 ∧ b ≠ 42 ∧ b ≠ 110 := by
  have := dg_nat h
  refine ⟨?_, ?_, ?_, ?_, ?_, ?_, ?_⟩ <;> (intro e; subst e; revert this; decide)
theorem dec_head {n : Int} (h0 : 0 ≤ n) (h1 : n ≤ 999) (r : List UInt8) : ∃ d t, dgB d = true ∧ decL n ++ r = d :: t := by
  have hw := word_facts (word_dec n h0 h1).1
  cases e : decL n with
  | nil => exact absurd e hw.1
  | cons d t => exact ⟨d, t ++ r, hw.2.1 d (by rw [e]; simp), rfl⟩
theorem dec_nodot {n : Int} (h0 : 0 ≤ n) (h1 : n ≤ 999) : ∀ b ∈ decL n, b ≠ 46 := fun b hb => (dg_ne ((word_facts (word_dec n h0 h1).1).2.1 b hb)).1
theorem fmt_idx {a b c : Int} (h : validB a b c = true) (r : List UInt8) : Lib.index (fmtL a b c ++ r) [46, 46] = shI (Lib.index r [46, 46]) (fmtL a b c).length := by
  obtain ⟨⟨a0, a1⟩, ⟨b0, b1⟩, c0, c1⟩ := valid_le h
  have g := Lib.index_ge r [46, 46]
  have e : fmtL a b c ++ r = decL a ++ (46 :: (decL b ++ (46 :: (decL c ++ r)))) := by unfold fmtL; simp
  have h1 : (decL c ++ r).head? ≠ some 46 := by
    obtain ⟨d, t, hd, e2⟩ := dec_head c0 c1 r
    rw [e2]; simpa using (dg_ne hd).1
  have h2 : (decL b ++ (46 :: (decL c ++ r))).head? ≠ some 46 := by
    obtain ⟨d, t, hd, e2⟩ := dec_head b0 b1 (46 :: (decL c ++ r))
    rw [e2]; simpa using (dg_ne hd).1
  rw [e, idx_word _ _ (dec_nodot a0 a1), idx_dot _ h2, idx_word _ _ (dec_nodot b0 b1), idx_dot _ h1, idx_word _ _ (dec_nodot c0 c1), shI_shI _ g, shI_shI _ g, shI_shI _ g, shI_shI _ g]
  congr 1
  unfold fmtL
  simp only [List.length_append, List.length_cons]
  omega
theorem fmt_mem {a b c : Int} (h : validB a b c = true) : ∀ x ∈ fmtL a b c, dgB x = true ∨ x = 46 := by
  obtain ⟨⟨a0, a1⟩, ⟨b0, b1⟩, c0, c1⟩ := valid_le h
  have ha := (word_facts (word_dec a a0 a1).1).2.1
  have hb := (word_facts (word_dec b b0 b1).1).2.1
  have hc := (word_facts (word_dec c c0 c1).1).2.1
  intro x hx
  unfold fmtL at hx
  simp only [List.mem_append, List.mem_cons] at hx
  rcases hx with hx | rfl | hx | rfl | hx
  · exact .inl (ha x hx)
  · exact .inr rfl
  · exact .inl (hb x hx)
  · exact .inr rfl
  · exact .inl (hc x hx)
theorem fmt_head {a b c : Int} (h : validB a b c = true) (r : List UInt8) : ∃ d t, dgB d = true ∧ fmtL a b c ++ r = d :: t := by
  obtain ⟨⟨a0, a1⟩, _⟩ := valid_le h
  unfold fmtL
  rw [List.append_assoc]
  exact dec_head a0 a1 _
theorem fmt_last {a b c : Int} (h : validB a b c = true) : ∃ d, dgB d = true ∧ (fmtL a b c).getLast? = some d := by
  obtain ⟨⟨a0, a1⟩, ⟨b0, b1⟩, c0, c1⟩ := valid_le h
  have hc := word_facts (word_dec c c0 c1).1
  rcases List.eq_nil_or_concat (decL c) with e | ⟨t, d, e⟩
  · exact absurd e hc.1
  · rw [List.concat_eq_append] at e
    refine ⟨d, hc.2.1 d (by rw [e]; simp), ?_⟩
    unfold fmtL
    rw [e, show decL a ++ 46 :: (decL b ++ 46 :: (t ++ [d])) = (decL a ++ 46 :: (decL b ++ 46 :: t)) ++ [d] by simp, List.getLast?_concat]
theorem fmt_len {a b c : Int} (h : validB a b c = true) : (fmtL a b c).length ≤ 11 := by
  obtain ⟨⟨a0, a1⟩, ⟨b0, b1⟩, c0, c1⟩ := valid_le h
  have ha := (word_facts (word_dec a a0 a1).1).2.2
  have hb := (word_facts (word_dec b b0 b1).1).2.2
  have hc := (word_facts (word_dec c c0 c1).1).2.2
  unfold fmtL
  simp only [List.length_append, List.length_cons]
  omega
theorem fmt_ne {a b c : Int} (h : validB a b c = true) : fmtL a b c ≠ [] := by
  obtain ⟨d, t, _, e⟩ := fmt_head h []
  rw [List.append_nil] at e
  rw [e]; simp
/-- the text of a number, alone or with dots. -/
theorem fmt_pl {a b c : Int} (h : validB a b c = true) : plV (fmtL a b c) = 1000 * b + c ∧ synB (fmtL a b c) = false ∧ othB a (fmtL a b c) = false := by
  unfold plV synB othB
  rw [parse_format a b c h]
  simp
theorem shI_no (n : Nat) : shI (-1) n = -1 := if_pos rfl
theorem hat_head (r : List UInt8) : ((94 : UInt8) :: r).head? = some 94 := rfl
theorem tilde_head (r : List UInt8) : ¬ ((126 : UInt8) :: r).head? = some 94 ∧ ((126 : UInt8) :: r).head? = some 126 := ⟨by rw [List.head?_cons]; exact fun e => absurd (Option.some.inj e) (by decide), rfl⟩
theorem idx_nil : Lib.index [] [46, 46] = -1 := by decide
/-- an alternative that begins with a digit or a dot. -/
theorem alt_plain {m : Int} {l : List UInt8} (h : ∃ d t, (dgB d = true ∨ d = 46) ∧ l = d :: t) : l ≠ [110, 111, 110, 101] ∧ l ≠ [42] ∧ l.head? ≠ some 94 ∧ l.head? ≠ some 126 := by
  obtain ⟨d, t, hd, rfl⟩ := h
  have key : d ≠ 94 ∧ d ≠ 126 ∧ d ≠ 42 ∧ d ≠ 110 := by
    rcases hd with hd | rfl
    · have := dg_ne hd; exact ⟨this.2.2.2.1, this.2.2.2.2.1, this.2.2.2.2.2.1, this.2.2.2.2.2.2⟩
    · decide
  exact ⟨fun e => key.2.2.2 (List.cons.inj e).1, fun e => key.2.2.1 (List.cons.inj e).1, by simpa using key.1, by simpa using key.2.1⟩
theorem alt_one {a b c : Int} (h : validB a b c = true) : altV a (fmtL a b c) = ((1000 * b + c, 1000 * b + c + 1), 0) := by
  obtain ⟨d, t, hd, e⟩ := fmt_head h []
  rw [List.append_nil] at e
  obtain ⟨n1, n2, n3, n4⟩ := alt_plain (m := a) ⟨d, t, .inl hd, e⟩
  obtain ⟨p1, p2, p3⟩ := fmt_pl h
  have hi := fmt_idx h []
  rw [List.append_nil, idx_nil, shI_no] at hi
  have hs : spanP a (fmtL a b c) = ((1000 * b + c, 1000 * b + c + 1), false, false) := by
    unfold spanP
    rw [if_neg n3, if_neg n4, hi, if_neg (by decide), p1, p2, p3]
  unfold altV
  rw [if_neg n1, if_neg n2, hs]
  simp only [Bool.false_eq_true, if_false, false_or]
  rw [if_neg (by omega)]
theorem alt_hat {a b c : Int} (h : validB a b c = true) : altV a (94 :: fmtL a b c) = ((1000 * b + c, 1000000), 0) := by
  obtain ⟨⟨a0, a1⟩, ⟨b0, b1⟩, c0, c1⟩ := valid_le h
  obtain ⟨p1, p2, p3⟩ := fmt_pl h
  have hs : spanP a (94 :: fmtL a b c) = ((1000 * b + c, 1000000), false, false) := by
    unfold spanP
    rw [if_pos (hat_head _), List.tail_cons, p1, p2, p3]
  unfold altV
  rw [if_neg (fun e => absurd (List.cons.inj e).1 (by decide)), if_neg (fun e => absurd (List.cons.inj e).1 (by decide)), hs]
  simp only [Bool.false_eq_true, if_false, false_or]
  rw [if_neg (by omega)]
theorem alt_tilde {a b c : Int} (h : validB a b c = true) : altV a (126 :: fmtL a b c) = ((1000 * b + c, 1000 * b + 1000), 0) := by
  obtain ⟨⟨a0, a1⟩, ⟨b0, b1⟩, c0, c1⟩ := valid_le h
  obtain ⟨p1, p2, p3⟩ := fmt_pl h
  have hs : spanP a (126 :: fmtL a b c) = ((1000 * b + c, 1000 * b + 1000), false, false) := by
    unfold spanP
    rw [if_neg (tilde_head _).1, if_pos (tilde_head _).2, List.tail_cons, p1, p2, p3, show (1000 * b + c) / 1000 * 1000 + 1000 = 1000 * b + 1000 by omega]
  unfold altV
  rw [if_neg (fun e => absurd (List.cons.inj e).1 (by decide)), if_neg (fun e => absurd (List.cons.inj e).1 (by decide)), hs]
  simp only [Bool.false_eq_true, if_false, false_or]
  rw [if_neg (by omega)]
theorem alt_from {a b c : Int} (h : validB a b c = true) : altV a (fmtL a b c ++ [46, 46]) = ((1000 * b + c, 1000000), 0) := by
  obtain ⟨⟨a0, a1⟩, ⟨b0, b1⟩, c0, c1⟩ := valid_le h
  obtain ⟨d, t, hd, e⟩ := fmt_head h [46, 46]
  obtain ⟨n1, n2, n3, n4⟩ := alt_plain (m := a) ⟨d, t, .inl hd, e⟩
  obtain ⟨p1, p2, p3⟩ := fmt_pl h
  have hn := fmt_ne h
  have hi : Lib.index (fmtL a b c ++ [46, 46]) [46, 46] = ((fmtL a b c).length : Int) := by
    rw [fmt_idx h, show Lib.index [46, 46] [46, 46] = 0 by decide]; unfold shI; rw [if_neg (by decide)]; omega
  have hs : spanP a (fmtL a b c ++ [46, 46]) = ((1000 * b + c, 1000000), false, false) := by
    unfold spanP
    rw [if_neg n3, if_neg n4, hi, if_pos (by omega)]
    simp only [Int.toNat_natCast, List.take_left, List.drop_length_add_append, hn, p1, p2, p3]
    simp
  unfold altV
  rw [if_neg n1, if_neg n2, hs]
  simp only [Bool.false_eq_true, if_false, false_or]
  rw [if_neg (by omega)]
theorem alt_to {a b c : Int} (h : validB a b c = true) (hp : 0 < 1000 * b + c) : altV a ([46, 46] ++ fmtL a b c) = ((0, 1000 * b + c), 0) := by
  obtain ⟨n1, n2, n3, n4⟩ := alt_plain (m := a) ⟨46, 46 :: fmtL a b c, .inr rfl, rfl⟩
  obtain ⟨p1, p2, p3⟩ := fmt_pl h
  have hn := fmt_ne h
  have hi : Lib.index ([46, 46] ++ fmtL a b c) [46, 46] = 0 := by
    rw [List.cons_append, Lib.index, if_pos (by simp [List.isPrefixOf])]
  have hs : spanP a ([46, 46] ++ fmtL a b c) = ((0, 1000 * b + c), false, false) := by
    unfold spanP
    rw [show [46, 46] ++ fmtL a b c = 46 :: 46 :: fmtL a b c from rfl] at hi ⊢
    rw [if_neg n3, if_neg n4, hi, if_pos (by decide)]
    simp [hn, p1, p2, p3]
  unfold altV
  rw [show [46, 46] ++ fmtL a b c = 46 :: 46 :: fmtL a b c from rfl] at hs ⊢
  rw [if_neg n1, if_neg n2, hs]
  simp only [Bool.false_eq_true, if_false, false_or]
  rw [if_neg (by omega)]
theorem alt_both {a b c b' c' : Int} (h : validB a b c = true) (h' : validB a b' c' = true) (hp : 1000 * b + c < 1000 * b' + c') : altV a (fmtL a b c ++ [46, 46] ++ fmtL a b' c') = ((1000 * b + c, 1000 * b' + c'), 0) := by
  obtain ⟨d, t, hd, e⟩ := fmt_head h ([46, 46] ++ fmtL a b' c')
  obtain ⟨n1, n2, n3, n4⟩ := alt_plain (m := a) ⟨d, t, .inl hd, e⟩
  obtain ⟨p1, p2, p3⟩ := fmt_pl h
  obtain ⟨q1, q2, q3⟩ := fmt_pl h'
  have hn := fmt_ne h
  have hn' := fmt_ne h'
  have hi : Lib.index (fmtL a b c ++ ([46, 46] ++ fmtL a b' c')) [46, 46] = ((fmtL a b c).length : Int) := by
    rw [fmt_idx h, show Lib.index ([46, 46] ++ fmtL a b' c') [46, 46] = 0 by rw [List.cons_append, Lib.index, if_pos (by simp [List.isPrefixOf])]]; unfold shI; rw [if_neg (by decide)]; omega
  rw [List.append_assoc]
  have hs : spanP a (fmtL a b c ++ ([46, 46] ++ fmtL a b' c')) = ((1000 * b + c, 1000 * b' + c'), false, false) := by
    unfold spanP
    rw [if_neg n3, if_neg n4, hi, if_pos (by omega)]
    have ed : (fmtL a b c ++ ([46, 46] ++ fmtL a b' c')).drop ((fmtL a b c).length + 2) = fmtL a b' c' := by
      rw [← List.drop_drop, List.drop_left]; rfl
    simp only [Int.toNat_natCast, List.take_left, ed, hn, hn', p1, p2, p3, q1, q2, q3]
    simp
  unfold altV
  rw [if_neg n1, if_neg n2, hs]
  simp only [Bool.false_eq_true, if_false, false_or]
  rw [if_neg (by omega)]
end Go.Proofs.YtdhihdiifgcfdaaGreatDoor
