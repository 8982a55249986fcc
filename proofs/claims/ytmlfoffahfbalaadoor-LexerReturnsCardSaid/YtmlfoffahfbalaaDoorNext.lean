/- Contract of the lexer's next: words. -/
import Derived.Test.YtmlfoffahfbalaaDoorLiteral
import Derived.Test.YtmlfoffahfbalaaDoorSymbol
import Derived.Test.YtmlfoffahfbalaaDoorPlainRuns
namespace Go.Proofs.YtmlfoffahfbalaaDoor
open Go Go.RowKit

def nxEnd (s : ByteArray) (at0 : Nat) : Int := if (tokS s at0).err = 0 then ((at0 + (tokS s at0).n : Nat) : Int) else at0
/-- what next leaves. -/
def NextR (s : ByteArray) (at0 : Nat) (w : World) (e : Ending) (w' : World) : Prop :=
  (∃ (k : Int) (t : ByteArray), e = .returned (.tuple #[.agg #[.int .i64 k, .string t, .int .i64 at0], .int .i64 (nxEnd s at0), .int .i64 (tokS s at0).err]) ∧ ((tokS s at0).err = 0 → k = (tokS s at0).kind ∧ t = ⟨(tokS s at0).text.toArray⟩)) ∧ Below w.heap.size w w'
theorem NextR.ok {s : ByteArray} {at0 : Nat} {w : World} {k : Int} {l : List UInt8} {t : ByteArray} {n : Nat} (h : Hid (tokS s at0 = ⟨k, l, n, 0⟩)) (ht : t = ⟨l.toArray⟩) {en : Int} (hen : en = at0 + n) {w' : World} (hb : Below w.heap.size w w') :
    NextR s at0 w (.returned (.tuple #[.agg #[.int .i64 k, .string t, .int .i64 at0], .int .i64 en, .int .i64 0])) w' := by
  have h := h.out
  refine ⟨⟨k, t, ?_, fun _ => ?_⟩, hb⟩
  · rw [nxEnd, h, hen]; rfl
  · rw [h]; exact ⟨rfl, ht⟩
theorem NextR.bad {s : ByteArray} {at0 : Nat} {w : World} {k : Int} {t : ByteArray} {x : Int} (h : Hid ((tokS s at0).err = x ∧ x ≠ 0)) {w' : World} (hb : Below w.heap.size w w') :
    NextR s at0 w (.returned (.tuple #[.agg #[.int .i64 k, .string t, .int .i64 at0], .int .i64 at0, .int .i64 x])) w' := by
  obtain ⟨h1, h2⟩ := h.out
  refine ⟨⟨k, t, ?_, fun h => absurd (h1.symm.trans h) h2⟩, hb⟩
  rw [nxEnd, h1, if_neg h2]

/-- a word at an offset. -/
def wordAt (s : ByteArray) (at0 : Nat) : List UInt8 := (s.data.toList.drop at0).takeWhile wordB
theorem wordAt_len (s : ByteArray) (at0 : Nat) : (wordAt s at0).length = spanZ wordZ (s.data.toList.drop at0) := rfl
theorem wordAt_ext (s : ByteArray) (at0 : Nat) : s.extract at0 (at0 + spanZ wordZ (s.data.toList.drop at0)) = ⟨(wordAt s at0).toArray⟩ := by
  rw [Lib.extract_eq]
  congr 2
  rw [Nat.add_sub_cancel_left, ← wordAt_len]
  exact List.prefix_iff_eq_take.1 (List.takeWhile_prefix wordB) |>.symm
theorem wordAt_all (s : ByteArray) (at0 : Nat) : allZ wordZ ⟨(wordAt s at0).toArray⟩ = true := by
  unfold allZ
  rw [List.all_eq_true]
  intro b hb
  have := List.all_takeWhile (l := s.data.toList.drop at0) (p := wordB)
  exact List.all_eq_true.1 this b (by simpa [wordAt] using hb)
theorem tok_word (s : ByteArray) (at0 : Nat) (h0 : at0 < s.size) (hc : smallZ (s[at0].toNat : Int) = true ∨ capitalZ (s[at0].toNat : Int) = true) :
    tokS s at0 = if kwL (wordAt s at0) then ⟨5, wordAt s at0, (wordAt s at0).length, 0⟩ else if nameL (wordAt s at0) then ⟨1, wordAt s at0, (wordAt s at0).length, 0⟩ else if typeL (wordAt s at0) then ⟨2, wordAt s at0, (wordAt s at0).length, 0⟩ else ⟨0, [], 0, 4⟩ := by
  unfold tokS wordAt
  rw [drop_cons s at0 h0]
  generalize s[at0] = c at *
  have hb : 65 ≤ c.toNat := by
    simp only [smallZ, capitalZ, Bool.and_eq_true, decide_eq_true_eq] at hc
    omega
  have e1 : (c == 34) = false := by rw [beq_eq_false_iff_ne]; intro e; rw [e] at hb; exact absurd hb (by decide)
  have e2 : digitB c = false := by unfold digitB digitZ; simp; omega
  have e3 : (smallZ c.toNat || capitalZ c.toNat) = true := by rcases hc with h | h <;> simp [h]
  rw [tokL, e1, e2, e3]
  rfl

set_option maxRecDepth 100000 in
set_option maxHeartbeats 4000000 in
theorem next_word1 (s : ByteArray) (at0 : Nat) (w : World) (hs : s.size ≤ 1000000) (h0 : at0 < s.size) (hm : MaxOk w) (h1 : smallZ (s[at0].toNat : Int) = true) (h2 : true = true ∨ capitalZ (s[at0].toNat : Int) = true) :
    Calls Tryd.prog 62 #[.string s, .int .i64 at0] w (NextR s at0 w) := by
  have HT := Lib.hid (tok_word s at0 h0 (by rw [h1]; exact h2))
  have hle := spanZ_le wordZ (s.data.toList.drop at0)
  rw [List.length_drop, ← Lib.size_eq] at hle
  have HW := Lib.hid (wordAt_ext s at0)
  have HA := Lib.hid (wordAt_all s at0)
  have HSP := Lib.hid (fun w' : World => span_wordZ s at0 w' hs (by omega))
  have HLN := Lib.hid (wordAt_len s at0)
  clear h2
  obtain ⟨en, hen⟩ : ∃ en, at0 + spanZ wordZ (s.data.toList.drop at0) = en := ⟨_, rfl⟩
  rw [hen] at HSP HW
  have HEN : Hid (en = at0 + (wordAt s at0).length) := Lib.hid (by rw [HLN.out, hen])
  have hen1 : at0 ≤ en := by omega
  have hen2 : en ≤ s.size := by omega
  clear hen hle HLN
  obtain ⟨tx, htx⟩ : ∃ tx, s.extract at0 en = tx := ⟨_, rfl⟩
  have HX : Hid (tx = ⟨(wordAt s at0).toArray⟩) := Lib.hid (by rw [← htx, HW.out])
  have htl : tx.size ≤ s.size := by rw [← htx, ByteArray.size_extract]; omega
  have HTX := Lib.hid htx
  have HAT : Hid (allZ wordZ tx = true) := Lib.hid (by rw [HX.out]; exact HA.out)
  have hml : tx.size ≤ maxLen := by unfold maxLen; omega
  have hm2 := fun o1 o2 => (hm.alloc o1).alloc o2
  have HM2 := Lib.hid hm2
  clear htx HA HW hm hm2
  have hq : ∀ b : Bool, b = false ∨ b = true := by decide
  have HQ := Lib.hid hq
  clear hq
  go_enter Tryd.func62, Tryd.ntmps62
  go_wp2_with (first | (go_at_call 40; refine (small_any _ _).mono ?_; rintro e w' ⟨rfl, rfl⟩) | (go_at_call 51; refine (capital_any _ _).mono ?_; rintro e w' ⟨rfl, rfl⟩))
  refine (HSP.out _).mono ?_
  rintro e w' ⟨rfl, rfl⟩
  go_wp2_with fail
  rw [HTX.out]
  refine (keyword_any tx _ (by omega) (HM2.out _ _) HAT).mono ?_
  rintro e w' ⟨rfl, rfl⟩
  rcases HQ.out (kwS tx) with k1 | k1
  case inr =>
    have HE : Hid (tokS s at0 = ⟨5, wordAt s at0, (wordAt s at0).length, 0⟩) := Lib.hid (by rw [HT.out, kwL, ← HX.out, k1]; rfl)
    rw [k1]
    clear k1
    go_wp2
    refine bodyPost_ret (v := .tuple #[.agg #[.int .i64 5, .string tx, .int .i64 at0], .int .i64 en, .int .i64 0]) (by simp [results, Tryd.results62, go_sem]) rfl ?_
    exact NextR.ok HE HX.out (by have := HEN.out; omega) (((Below.refl _ _).alloc (Nat.le_refl _) _).alloc (by simp) _)
  rw [k1]
  have K1 := Lib.hid k1
  clear k1
  go_wp2_with fail
  refine (IsName_any tx _ hml (HM2.out _ _)).mono ?_
  rintro e w' ⟨rfl, rfl⟩
  rcases HQ.out (nameS tx) with k2 | k2
  case inr =>
    have HE : Hid (tokS s at0 = ⟨1, wordAt s at0, (wordAt s at0).length, 0⟩) := Lib.hid (by rw [HT.out, kwL, nameL, ← HX.out, K1.out, k2]; rfl)
    rw [k2]
    clear k2
    go_wp2
    refine bodyPost_ret (v := .tuple #[.agg #[.int .i64 1, .string tx, .int .i64 at0], .int .i64 en, .int .i64 0]) (by simp [results, Tryd.results62, go_sem]) rfl ?_
    exact NextR.ok HE HX.out (by have := HEN.out; omega) (((Below.refl _ _).alloc (Nat.le_refl _) _).alloc (by simp) _)
  rw [k2]
  have K2 := Lib.hid k2
  clear k2
  go_wp2_with fail
  refine (IsType_any tx _ hml).mono ?_
  rintro e w' ⟨rfl, rfl⟩
  rcases HQ.out (typeS tx) with k3 | k3
  case inr =>
    have HE : Hid (tokS s at0 = ⟨2, wordAt s at0, (wordAt s at0).length, 0⟩) := Lib.hid (by rw [HT.out, kwL, nameL, typeL, ← HX.out, K1.out, K2.out, k3]; rfl)
    rw [k3]
    clear k3
    go_wp2
    refine bodyPost_ret (v := .tuple #[.agg #[.int .i64 2, .string tx, .int .i64 at0], .int .i64 en, .int .i64 0]) (by simp [results, Tryd.results62, go_sem]) rfl ?_
    exact NextR.ok HE HX.out (by have := HEN.out; omega) (((Below.refl _ _).alloc (Nat.le_refl _) _).alloc (by simp) _)
  have HE : Hid ((tokS s at0).err = 4 ∧ (4 : Int) ≠ 0) := Lib.hid ⟨by rw [HT.out, kwL, nameL, typeL, ← HX.out, K1.out, K2.out, k3]; rfl, by decide⟩
  rw [k3]
  clear k3
  go_wp2
  refine bodyPost_ret (v := .tuple #[.agg #[.int .i64 0, .string tx, .int .i64 at0], .int .i64 at0, .int .i64 4]) (by simp [results, Tryd.results62, go_sem]) rfl ?_
  exact NextR.bad HE (((Below.refl _ _).alloc (Nat.le_refl _) _).alloc (by simp) _)
set_option maxRecDepth 100000 in
set_option maxHeartbeats 4000000 in
theorem next_word2 (s : ByteArray) (at0 : Nat) (w : World) (hs : s.size ≤ 1000000) (h0 : at0 < s.size) (hm : MaxOk w) (h1 : smallZ (s[at0].toNat : Int) = false) (h2 : false = true ∨ capitalZ (s[at0].toNat : Int) = true) :
    Calls Tryd.prog 62 #[.string s, .int .i64 at0] w (NextR s at0 w) := by
  have HT := Lib.hid (tok_word s at0 h0 (by rw [h1]; exact h2))
  have hle := spanZ_le wordZ (s.data.toList.drop at0)
  rw [List.length_drop, ← Lib.size_eq] at hle
  have HW := Lib.hid (wordAt_ext s at0)
  have HA := Lib.hid (wordAt_all s at0)
  have HSP := Lib.hid (fun w' : World => span_wordZ s at0 w' hs (by omega))
  have HLN := Lib.hid (wordAt_len s at0)
  replace h2 := h2.resolve_left (by decide)
  obtain ⟨en, hen⟩ : ∃ en, at0 + spanZ wordZ (s.data.toList.drop at0) = en := ⟨_, rfl⟩
  rw [hen] at HSP HW
  have HEN : Hid (en = at0 + (wordAt s at0).length) := Lib.hid (by rw [HLN.out, hen])
  have hen1 : at0 ≤ en := by omega
  have hen2 : en ≤ s.size := by omega
  clear hen hle HLN
  obtain ⟨tx, htx⟩ : ∃ tx, s.extract at0 en = tx := ⟨_, rfl⟩
  have HX : Hid (tx = ⟨(wordAt s at0).toArray⟩) := Lib.hid (by rw [← htx, HW.out])
  have htl : tx.size ≤ s.size := by rw [← htx, ByteArray.size_extract]; omega
  have HTX := Lib.hid htx
  have HAT : Hid (allZ wordZ tx = true) := Lib.hid (by rw [HX.out]; exact HA.out)
  have hml : tx.size ≤ maxLen := by unfold maxLen; omega
  have hm2 := fun o1 o2 => (hm.alloc o1).alloc o2
  have HM2 := Lib.hid hm2
  clear htx HA HW hm hm2
  have hq : ∀ b : Bool, b = false ∨ b = true := by decide
  have HQ := Lib.hid hq
  clear hq
  go_enter Tryd.func62, Tryd.ntmps62
  go_wp2_with (first | (go_at_call 40; refine (small_any _ _).mono ?_; rintro e w' ⟨rfl, rfl⟩) | (go_at_call 51; refine (capital_any _ _).mono ?_; rintro e w' ⟨rfl, rfl⟩))
  refine (HSP.out _).mono ?_
  rintro e w' ⟨rfl, rfl⟩
  go_wp2_with fail
  rw [HTX.out]
  refine (keyword_any tx _ (by omega) (HM2.out _ _) HAT).mono ?_
  rintro e w' ⟨rfl, rfl⟩
  rcases HQ.out (kwS tx) with k1 | k1
  case inr =>
    have HE : Hid (tokS s at0 = ⟨5, wordAt s at0, (wordAt s at0).length, 0⟩) := Lib.hid (by rw [HT.out, kwL, ← HX.out, k1]; rfl)
    rw [k1]
    clear k1
    go_wp2
    refine bodyPost_ret (v := .tuple #[.agg #[.int .i64 5, .string tx, .int .i64 at0], .int .i64 en, .int .i64 0]) (by simp [results, Tryd.results62, go_sem]) rfl ?_
    exact NextR.ok HE HX.out (by have := HEN.out; omega) (((Below.refl _ _).alloc (Nat.le_refl _) _).alloc (by simp) _)
  rw [k1]
  have K1 := Lib.hid k1
  clear k1
  go_wp2_with fail
  refine (IsName_any tx _ hml (HM2.out _ _)).mono ?_
  rintro e w' ⟨rfl, rfl⟩
  rcases HQ.out (nameS tx) with k2 | k2
  case inr =>
    have HE : Hid (tokS s at0 = ⟨1, wordAt s at0, (wordAt s at0).length, 0⟩) := Lib.hid (by rw [HT.out, kwL, nameL, ← HX.out, K1.out, k2]; rfl)
    rw [k2]
    clear k2
    go_wp2
    refine bodyPost_ret (v := .tuple #[.agg #[.int .i64 1, .string tx, .int .i64 at0], .int .i64 en, .int .i64 0]) (by simp [results, Tryd.results62, go_sem]) rfl ?_
    exact NextR.ok HE HX.out (by have := HEN.out; omega) (((Below.refl _ _).alloc (Nat.le_refl _) _).alloc (by simp) _)
  rw [k2]
  have K2 := Lib.hid k2
  clear k2
  go_wp2_with fail
  refine (IsType_any tx _ hml).mono ?_
  rintro e w' ⟨rfl, rfl⟩
  rcases HQ.out (typeS tx) with k3 | k3
  case inr =>
    have HE : Hid (tokS s at0 = ⟨2, wordAt s at0, (wordAt s at0).length, 0⟩) := Lib.hid (by rw [HT.out, kwL, nameL, typeL, ← HX.out, K1.out, K2.out, k3]; rfl)
    rw [k3]
    clear k3
    go_wp2
    refine bodyPost_ret (v := .tuple #[.agg #[.int .i64 2, .string tx, .int .i64 at0], .int .i64 en, .int .i64 0]) (by simp [results, Tryd.results62, go_sem]) rfl ?_
    exact NextR.ok HE HX.out (by have := HEN.out; omega) (((Below.refl _ _).alloc (Nat.le_refl _) _).alloc (by simp) _)
  have HE : Hid ((tokS s at0).err = 4 ∧ (4 : Int) ≠ 0) := Lib.hid ⟨by rw [HT.out, kwL, nameL, typeL, ← HX.out, K1.out, K2.out, k3]; rfl, by decide⟩
  rw [k3]
  clear k3
  go_wp2
  refine bodyPost_ret (v := .tuple #[.agg #[.int .i64 0, .string tx, .int .i64 at0], .int .i64 at0, .int .i64 4]) (by simp [results, Tryd.results62, go_sem]) rfl ?_
  exact NextR.bad HE (((Below.refl _ _).alloc (Nat.le_refl _) _).alloc (by simp) _)
end Go.Proofs.YtmlfoffahfbalaaDoor
