/- Contract of the lexer's next: literals and symbols. -/
import Derived.Test.YtmlfoffahfbalaaDoorNext2
namespace Go.Proofs.YtmlfoffahfbalaaDoor
open Go Go.RowKit

theorem sym_len (l : List UInt8) : (symL l).length ≤ 3 := by
  unfold symL
  split
  · rename_i x e
    have : x ∈ symList := List.mem_of_find?_eq_some e
    have all : ∀ x ∈ symList, x.data.toList.length ≤ 3 := by decide
    exact all x this
  · simp

theorem tok_quote (s : ByteArray) (at0 : Nat) (h0 : at0 < s.size) (hc : s[at0] = 34) :
    tokS s at0 = match litL (s.data.toList.drop (at0 + 1)) with | some (t, n) => ⟨4, t, n + 1, 0⟩ | none => ⟨0, [], 0, 3⟩ := by
  unfold tokS
  rw [drop_cons s at0 h0, hc]
  rfl

set_option maxRecDepth 100000 in
set_option maxHeartbeats 4000000 in
theorem next_quote (s : ByteArray) (at0 : Nat) (w : World) (hs : s.size ≤ 1000000) (h0 : at0 < s.size) (hc : s[at0] = 34) :
    Calls Tryd.prog 62 #[.string s, .int .i64 at0] w (NextR s at0 w) := by
  have HT := Lib.hid (tok_quote s at0 h0 hc)
  have h1 : smallZ ((34 : UInt8).toNat : Int) = false := by decide
  have h2 : capitalZ ((34 : UInt8).toNat : Int) = false := by decide
  have h3 : digitZ ((34 : UInt8).toNat : Int) = false := by decide
  have h1' : smallZ 34 = false := by decide
  have h2' : capitalZ 34 = false := by decide
  have h3' : digitZ 34 = false := by decide
  obtain ⟨tx, htx⟩ : ∃ tx, ByteArray.mk (litT s at0).toArray = tx := ⟨_, rfl⟩
  obtain ⟨en, hen⟩ : ∃ en, litE s at0 = en := ⟨_, rfl⟩
  have HL := Lib.hid (fun w' : World => literal_any s at0 w' hs h0)
  have HTX := Lib.hid htx
  have HEN := Lib.hid hen
  clear htx hen
  cases hk : litK s at0
  · have HE : Hid ((tokS s at0).err = 3 ∧ (3 : Int) ≠ 0) := Lib.hid ⟨by
      rw [HT.out]
      unfold litK at hk
      cases e : litL (s.data.toList.drop (at0 + 1)) with
      | none => rfl
      | some p => rw [e] at hk; exact absurd hk (by simp), by decide⟩
    have HK := Lib.hid hk
    clear hk
    go_enter Tryd.func62, Tryd.ntmps62
    go_wp2_with (first | (go_at_call 40; refine (small_any _ _).mono ?_; rintro e w' ⟨rfl, rfl⟩) | (go_at_call 51; refine (capital_any _ _).mono ?_; rintro e w' ⟨rfl, rfl⟩) | (go_at_call 41; refine (digit_any _ _).mono ?_; rintro e w' ⟨rfl, rfl⟩))
    refine (HL.out _).mono ?_
    rintro e w' ⟨rfl, hb⟩
    rw [HTX.out, HEN.out, HK.out]
    have hc0 := cells_of_two hb
    obtain ⟨c1, c2, c3, c4, c5, c6, f1, f2, f3, f4, f5, f6, hz⟩ := hc0
    have hbW : Below w.heap.size w w' := (((Below.refl _ _).alloc (Nat.le_refl _) _).alloc (by simp) _).trans (hb.mono (by simp only [World.size_alloc]; omega))
    go_wp2
    refine bodyPost_ret (v := .tuple #[.agg #[.int .i64 0, .string ⟨#[]⟩, .int .i64 at0], .int .i64 at0, .int .i64 3]) (by simp [results, Tryd.results62, go_sem, c1, c2, c3]) rfl ?_
    exact NextR.bad HE (((hbW.setCell (Nat.le_refl _) _).setCell (Nat.le_refl _) _).setCell (Nat.le_refl _) _)
  · have HE : Hid (∃ t n, tokS s at0 = ⟨4, t, n, 0⟩ ∧ tx = ⟨t.toArray⟩ ∧ en = at0 + n) := Lib.hid (by
      rw [HT.out, ← HTX.out, ← HEN.out]
      unfold litK at hk
      cases e : litL (s.data.toList.drop (at0 + 1)) with
      | none => rw [e] at hk; exact absurd hk (by simp)
      | some p =>
        obtain ⟨t, n⟩ := p
        obtain ⟨a1, a2, _⟩ := lit_some e
        exact ⟨t, n + 1, rfl, by rw [a1], by rw [a2]; omega⟩)
    have HK := Lib.hid hk
    clear hk
    go_enter Tryd.func62, Tryd.ntmps62
    go_wp2_with (first | (go_at_call 40; refine (small_any _ _).mono ?_; rintro e w' ⟨rfl, rfl⟩) | (go_at_call 51; refine (capital_any _ _).mono ?_; rintro e w' ⟨rfl, rfl⟩) | (go_at_call 41; refine (digit_any _ _).mono ?_; rintro e w' ⟨rfl, rfl⟩))
    refine (HL.out _).mono ?_
    rintro e w' ⟨rfl, hb⟩
    rw [HTX.out, HEN.out, HK.out]
    obtain ⟨c1, c2, c3, c4, c5, c6, f1, f2, f3, f4, f5, f6, hz⟩ := cells_of_two hb
    have hbW : Below w.heap.size w w' := (((Below.refl _ _).alloc (Nat.le_refl _) _).alloc (by simp) _).trans (hb.mono (by simp only [World.size_alloc]; omega))
    go_wp2
    refine bodyPost_ret (v := .tuple #[.agg #[.int .i64 4, .string tx, .int .i64 at0], .int .i64 en, .int .i64 0]) (by simp [results, Tryd.results62, go_sem, c1, c2, c3]) rfl ?_
    obtain ⟨t, n, a1, a2, a3⟩ := HE.out
    exact NextR.ok (Lib.hid a1) a2 a3 (((((hbW.setCell (Nat.le_succ _) _).setCell (Nat.le_succ _) _).setCell (Nat.le_refl _) _).setCell (Nat.le_refl _) _).setCell (Nat.le_refl _) _)

theorem tok_other (s : ByteArray) (at0 : Nat) (h0 : at0 < s.size) (h1 : smallZ (s[at0].toNat : Int) = false) (h2 : capitalZ (s[at0].toNat : Int) = false) (h3 : digitZ (s[at0].toNat : Int) = false) (hc : ¬ s[at0] = 34) :
    tokS s at0 = if symL (s.data.toList.drop at0) = [] then ⟨0, [], 0, 3⟩ else ⟨6, symL (s.data.toList.drop at0), (symL (s.data.toList.drop at0)).length, 0⟩ := by
  unfold tokS
  rw [drop_cons s at0 h0]
  generalize s[at0] = c at *
  have e1 : (c == 34) = false := by rw [beq_eq_false_iff_ne]; exact hc
  have e2 : digitB c = false := h3
  rw [tokL, e1, e2, h1, h2]
  rfl

set_option maxRecDepth 100000 in
set_option maxHeartbeats 4000000 in
theorem next_other (s : ByteArray) (at0 : Nat) (w : World) (hs : s.size ≤ 1000000) (h0 : at0 < s.size) (h1 : smallZ (s[at0].toNat : Int) = false) (h2 : capitalZ (s[at0].toNat : Int) = false) (h3 : digitZ (s[at0].toNat : Int) = false) (hc : ¬ s[at0] = 34) :
    Calls Tryd.prog 62 #[.string s, .int .i64 at0] w (NextR s at0 w) := by
  have HT := Lib.hid (tok_other s at0 h0 h1 h2 h3 hc)
  have h4 : ((s[at0].toNat : Int) == 34) = false := by
    rw [beq_eq_false_iff_ne]; intro e; exact hc (UInt8.toNat_inj.1 (by have : ((34 : UInt8).toNat) = 34 := rfl; omega))
  clear hc
  have hsz : (s.extract at0 s.size).size ≤ 1000000 := by rw [ByteArray.size_extract]; omega
  have HX := Lib.hid (Lib.extract_to_end s at0)
  have HS := Lib.hid (fun w' : World => symbol_any (s.extract at0 s.size) w' hsz)
  rw [HX.out] at HS
  have hsl := sym_len (s.data.toList.drop at0)
  obtain ⟨sy, hsy⟩ : ∃ sy, symL (s.data.toList.drop at0) = sy := ⟨_, rfl⟩
  rw [hsy] at HT HS hsl
  clear hsy
  have hso : (ByteArray.mk sy.toArray).size = sy.length := by rw [Lib.size_eq]
  obtain ⟨tx, htx⟩ : ∃ tx, ByteArray.mk sy.toArray = tx := ⟨_, rfl⟩
  rw [htx] at HS hso
  have HTX := Lib.hid htx
  have hlo : sy.length ≤ tx.size := by omega
  have hle : tx.size ≤ 3 := by omega
  have HSO := Lib.hid hso
  clear htx hso
  by_cases hne : 1 ≤ tx.size
  · have he1 := ne_nil tx hne
    have he2 := ne_empty tx hne
    have HE : Hid (tokS s at0 = ⟨6, sy, sy.length, 0⟩) := Lib.hid (by
      rw [HT.out, if_neg]
      intro e
      have := HSO.out
      rw [e, List.length_nil] at this
      omega)
    go_enter Tryd.func62, Tryd.ntmps62
    go_wp2_with (first | (go_at_call 40; refine (small_any _ _).mono ?_; rintro e w' ⟨rfl, rfl⟩) | (go_at_call 51; refine (capital_any _ _).mono ?_; rintro e w' ⟨rfl, rfl⟩) | (go_at_call 41; refine (digit_any _ _).mono ?_; rintro e w' ⟨rfl, rfl⟩))
    refine (HS.out _).mono ?_
    rintro e w' ⟨rfl, rfl⟩
    go_wp2_with fail
    go_region
    go_wp2
    refine bodyPost_ret (v := .tuple #[.agg #[.int .i64 6, .string tx, .int .i64 at0], .int .i64 (at0 + tx.size), .int .i64 0]) (by simp [results, Tryd.results62, go_sem]) rfl ?_
    exact NextR.ok HE HTX.out.symm (by have := HSO.out; omega) ((((Below.refl _ _).alloc (Nat.le_refl _) _).alloc (by simp) _).drew)
  · have he1 := is_nil tx hne
    have HE : Hid ((tokS s at0).err = 3 ∧ (3 : Int) ≠ 0) := Lib.hid ⟨by
      rw [HT.out, if_pos (List.length_eq_zero_iff.1 (by omega))], by decide⟩
    go_enter Tryd.func62, Tryd.ntmps62
    go_wp2_with (first | (go_at_call 40; refine (small_any _ _).mono ?_; rintro e w' ⟨rfl, rfl⟩) | (go_at_call 51; refine (capital_any _ _).mono ?_; rintro e w' ⟨rfl, rfl⟩) | (go_at_call 41; refine (digit_any _ _).mono ?_; rintro e w' ⟨rfl, rfl⟩))
    refine (HS.out _).mono ?_
    rintro e w' ⟨rfl, rfl⟩
    go_wp2
    refine bodyPost_ret (v := .tuple #[.agg #[.int .i64 6, .string tx, .int .i64 at0], .int .i64 at0, .int .i64 3]) (by simp [results, Tryd.results62, go_sem]) rfl ?_
    exact NextR.bad HE (((Below.refl _ _).alloc (Nat.le_refl _) _).alloc (by simp) _)

theorem next_any (s : ByteArray) (at0 : Nat) (w : World) (hs : s.size ≤ 1000000) (h0 : at0 < s.size) (hm : MaxOk w) :
    Calls Tryd.prog 62 #[.string s, .int .i64 at0] w (NextR s at0 w) := by
  cases h1 : smallZ (s[at0].toNat : Int)
  · cases h2 : capitalZ (s[at0].toNat : Int)
    · cases h3 : digitZ (s[at0].toNat : Int)
      · by_cases hc : s[at0] = 34
        · exact next_quote s at0 w hs h0 hc
        · exact next_other s at0 w hs h0 h1 h2 h3 hc
      · exact next_digit s at0 w hs h0 h3
    · exact next_word2 s at0 w hs h0 hm h1 (.inr h2)
  · exact next_word1 s at0 w hs h0 hm h1 (.inl rfl)
end Go.Proofs.YtmlfoffahfbalaaDoor
