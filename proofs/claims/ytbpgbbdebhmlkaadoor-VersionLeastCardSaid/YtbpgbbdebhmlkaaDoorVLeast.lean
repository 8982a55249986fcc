/- The statement on the least number: its plain law, and its walk. -/
import Derived.Test.YtbpgbbdebhmlkaaDoorVSteps
namespace Go.Proofs.YtbpgbbdebhmlkaaDoor
open Go Go.RowKit

theorem next_spec (a b c l : Int) : nextV a b c l = ((0, 0, 0), 1) ∨ (nextV a b c l = ((0, 0, 0), 2) ∧ ∀ x y z, permitsV a b c x y z l = false) ∨
    ∃ p q r, nextV a b c l = ((p, q, r), 0) ∧ permitsV a b c p q r l = true ∧ ∀ x y z, permitsV a b c x y z l = true → ¬ cmpV x y z p q r < 0 := by
  unfold nextV
  by_cases h0 : (validB a b c && knownB l) = false
  · exact .inl (by rw [if_pos h0])
  right
  rw [if_neg h0]
  have h0 : validB a b c = true ∧ knownB l = true := by simpa using h0
  obtain ⟨hv, hk⟩ := h0
  have hv2 := (valid_iff _ _ _).1 hv
  have hk2 := (known_iff _).1 hk
  have no : ∀ x y z, (¬ ((validB a b c = true ∧ validB x y z = true ∧ Gt x y z a b c) ∧ (0 ≤ l ∧ l ≤ 2) ∧ (l = 0 ∨ (l = 1 ∧ (a ≠ x ∨ b ≠ y)) ∨ (l = 2 ∧ a ≠ x)))) → permitsV a b c x y z l = false := fun x y z h => by
    cases hp : permitsV a b c x y z l with
    | false => rfl
    | true => exact absurd ((permits_iff _ _ _ _ _ _ _).1 hp) h
  by_cases h1 : (decide (l = 0) && validB a b (c + 1)) = true
  · rw [if_pos h1]
    simp only [Bool.and_eq_true, decide_eq_true_eq] at h1
    obtain ⟨rfl, h1⟩ := h1
    have h2 := (valid_iff _ _ _).1 h1
    refine .inr ⟨a, b, c + 1, rfl, (permits_iff _ _ _ _ _ _ _).2 ⟨⟨hv, h1, by unfold Gt; omega⟩, by omega, by omega⟩, fun x y z hp => ?_⟩
    obtain ⟨⟨_, g1, g2⟩, _, _⟩ := (permits_iff _ _ _ _ _ _ _).1 hp
    unfold Gt at g2
    rcases cmpV_cases x y z a b (c + 1) with ⟨e, h⟩ | ⟨e, h⟩ | ⟨e, h⟩ <;> rw [e] <;> omega
  rw [if_neg h1]
  have h1 : ¬ (l = 0 ∧ validB a b (c + 1) = true) := by simpa using h1
  rw [valid_iff] at h1
  by_cases h2 : (decide (l ≠ 2) && validB a (b + 1) 0) = true
  · rw [if_pos h2]
    simp only [Bool.and_eq_true, decide_eq_true_eq] at h2
    obtain ⟨h2, h3⟩ := h2
    have h4 := (valid_iff _ _ _).1 h3
    refine .inr ⟨a, b + 1, 0, rfl, (permits_iff _ _ _ _ _ _ _).2 ⟨⟨hv, h3, by unfold Gt; omega⟩, by omega, by omega⟩, fun x y z hp => ?_⟩
    obtain ⟨⟨_, g1, g2⟩, _, g3⟩ := (permits_iff _ _ _ _ _ _ _).1 hp
    have g4 := (valid_iff _ _ _).1 g1
    unfold Gt at g2
    rcases cmpV_cases x y z a (b + 1) 0 with ⟨e, h⟩ | ⟨e, h⟩ | ⟨e, h⟩ <;> rw [e] <;> omega
  rw [if_neg h2]
  have h2 : ¬ (l ≠ 2 ∧ validB a (b + 1) 0 = true) := by simpa using h2
  rw [valid_iff] at h2
  by_cases h3 : validB (a + 1) 0 0 = true
  · rw [if_pos h3]
    have h4 := (valid_iff _ _ _).1 h3
    refine .inr ⟨a + 1, 0, 0, rfl, (permits_iff _ _ _ _ _ _ _).2 ⟨⟨hv, h3, by unfold Gt; omega⟩, by omega, by omega⟩, fun x y z hp => ?_⟩
    obtain ⟨⟨_, g1, g2⟩, _, g3⟩ := (permits_iff _ _ _ _ _ _ _).1 hp
    have g4 := (valid_iff _ _ _).1 g1
    unfold Gt at g2
    rcases cmpV_cases x y z (a + 1) 0 0 with ⟨e, h⟩ | ⟨e, h⟩ | ⟨e, h⟩ <;> rw [e] <;> omega
  rw [if_neg h3]
  rw [valid_iff] at h3
  refine .inl ⟨rfl, fun x y z => no x y z (fun h => ?_)⟩
  obtain ⟨⟨_, g1, g2⟩, _, g3⟩ := h
  have g4 := (valid_iff _ _ _).1 g1
  unfold Gt at g2
  omega
theorem permits_claims (a b c x y z l : Int) (h : permitsV a b c x y z l = true) : (claimsV a b c x y z).2 = 0 ∧ l ≤ (claimsV a b c x y z).1 := by
  unfold permitsV at h
  simp only [Bool.and_eq_true, decide_eq_true_eq] at h
  exact ⟨h.1, h.2.2⟩

set_option maxRecDepth 100000 in
set_option maxHeartbeats 8000000 in
theorem VersionLeast_any (a0 a1 a2 b0 b1 b2 l : Int) (w : World) (hm : EnvOk w) :
    Calls Tryd.prog 6 #[.agg #[.int .i64 a0, .int .i64 a1, .int .i64 a2], .agg #[.int .i64 b0, .int .i64 b1, .int .i64 b2], .int .i64 l] w fun e w' => e = .returned (.bool true) ∧ Below w.heap.size w w' := by
  have HS0 : Hid (AwS w ((w.alloc (.cells #[.int .i64 a0, .int .i64 a1, .int .i64 a2] 23)).alloc (.cells #[.int .i64 b0, .int .i64 b1, .int .i64 b2] 23)) [(w.heap.size + 1, (b0, b1, b2)), (w.heap.size, (a0, a1, a2))]) := Lib.hid (by
    have := ((AwS.start w).box a0 a1 a2).box b0 b1 b2
    simp only [World.size_alloc] at this; exact this)
  have HA := Lib.hid (awake_any _ (hm.below HS0.out.1))
  clear hm
  have HN := Lib.hid (fun W => Next_any a0 a1 a2 l W)
  have HPB := Lib.hid (fun W => Permits_any a0 a1 a2 b0 b1 b2 l W)
  rcases next_spec a0 a1 a2 l with h1 | ⟨h1, h2⟩ | ⟨p, q, r, h1, h2, h3⟩
  · rw [h1] at HN
    clear h1 HPB
    simp only at HN
    go_enter Tryd.func6, Tryd.ntmps6
    go_wp2_with fail
    (with_reducible refine HA.out.mono ?_)
    rintro e w1 ⟨rfl, hb1⟩
    have HS1 := Lib.hid (HS0.out.below hb1)
    obtain ⟨d0, d1, d2⟩ := HS1.out.get 1 w.heap.size a0 a1 a2 rfl
    clear hb1
    go_wp2_with fail
    (with_reducible refine (HN.out _).mono ?_)
    rintro e w2 ⟨rfl, hb2⟩
    have HS2 := Lib.hid ((HS1.out.below hb2).box 0 0 0)
    clear hb2
    go_wp2_with fail
    go_ret
    exact ⟨rfl, HS2.out.1⟩
  · rw [h1] at HN
    rw [h2] at HPB
    clear h1 h2
    simp only at HN
    go_enter Tryd.func6, Tryd.ntmps6
    go_wp2_with fail
    (with_reducible refine HA.out.mono ?_)
    rintro e w1 ⟨rfl, hb1⟩
    have HS1 := Lib.hid (HS0.out.below hb1)
    obtain ⟨d0, d1, d2⟩ := HS1.out.get 1 w.heap.size a0 a1 a2 rfl
    clear hb1
    go_wp2_with fail
    (with_reducible refine (HN.out _).mono ?_)
    rintro e w2 ⟨rfl, hb2⟩
    have HS2 := Lib.hid ((HS1.out.below hb2).box 0 0 0)
    clear hb2 d0 d1 d2
    obtain ⟨d0, d1, d2⟩ := HS2.out.get 2 w.heap.size a0 a1 a2 rfl
    obtain ⟨e0, e1, e2⟩ := HS2.out.get 1 (w.heap.size + 1) b0 b1 b2 rfl
    go_wp2_with fail
    (with_reducible refine (HPB.out _).mono ?_)
    rintro e w3 ⟨rfl, hb3⟩
    have HS3 := Lib.hid (HS2.out.below hb3)
    clear hb3
    go_wp2_with fail
    go_ret
    exact ⟨rfl, HS3.out.1⟩
  · obtain ⟨c1, c2⟩ := permits_claims _ _ _ _ _ _ _ h2
    obtain ⟨⟨cn, ce⟩, hce⟩ : ∃ x, claimsV a0 a1 a2 p q r = x := ⟨_, rfl⟩
    have HC := Lib.hid (fun W => Claims_any a0 a1 a2 p q r W)
    have HPN := Lib.hid (fun W => Permits_any a0 a1 a2 p q r l W)
    have HCM := Lib.hid (fun W => Compare_any b0 b1 b2 p q r W)
    rw [hce] at HC c1 c2
    rw [h2] at HPN
    rw [h1] at HN
    simp only at HN HC c1 c2
    subst c1
    have HX := Lib.hid h3
    clear h1 h2 h3 hce
    cases hb : permitsV a0 a1 a2 b0 b1 b2 l with
    | false =>
      rw [hb] at HPB
      clear hb
      go_enter Tryd.func6, Tryd.ntmps6
      go_wp2_with fail
      (with_reducible refine HA.out.mono ?_)
      rintro e w1 ⟨rfl, hb1⟩
      have HS1 := Lib.hid (HS0.out.below hb1)
      obtain ⟨d0, d1, d2⟩ := HS1.out.get 1 w.heap.size a0 a1 a2 rfl
      clear hb1
      go_wp2_with fail
      (with_reducible refine (HN.out _).mono ?_)
      rintro e w2 ⟨rfl, hb2⟩
      have HS2 := Lib.hid ((HS1.out.below hb2).box p q r)
      clear hb2 d0 d1 d2
      obtain ⟨d0, d1, d2⟩ := HS2.out.get 2 w.heap.size a0 a1 a2 rfl
      go_wp2_with fail
      (with_reducible refine (HPN.out _).mono ?_)
      rintro e w3 ⟨rfl, hb3⟩
      have HS3 := Lib.hid (HS2.out.below hb3)
      clear hb3 d0 d1 d2
      obtain ⟨d0, d1, d2⟩ := HS3.out.get 2 w.heap.size a0 a1 a2 rfl
      obtain ⟨e0, e1, e2⟩ := HS3.out.get 1 (w.heap.size + 1) b0 b1 b2 rfl
      go_wp2_with fail
      (with_reducible refine (HPB.out _).mono ?_)
      rintro e w4 ⟨rfl, hb4⟩
      have HS4 := Lib.hid (HS3.out.below hb4)
      clear hb4 d0 d1 d2 e0 e1 e2
      obtain ⟨d0, d1, d2⟩ := HS4.out.get 2 w.heap.size a0 a1 a2 rfl
      obtain ⟨e0, e1, e2⟩ := HS4.out.get 0 w2.heap.size p q r rfl
      go_wp2_with fail
      (with_reducible refine (HC.out _).mono ?_)
      rintro e w5 ⟨rfl, hb5⟩
      have HS5 := Lib.hid (HS4.out.below hb5)
      clear hb5
      go_wp2_with fail
      go_ret
      exact ⟨rfl, HS5.out.1⟩
    | true =>
      have hno := HX.out _ _ _ hb
      rw [hb] at HPB
      clear hb
      go_enter Tryd.func6, Tryd.ntmps6
      go_wp2_with fail
      (with_reducible refine HA.out.mono ?_)
      rintro e w1 ⟨rfl, hb1⟩
      have HS1 := Lib.hid (HS0.out.below hb1)
      obtain ⟨d0, d1, d2⟩ := HS1.out.get 1 w.heap.size a0 a1 a2 rfl
      clear hb1
      go_wp2_with fail
      (with_reducible refine (HN.out _).mono ?_)
      rintro e w2 ⟨rfl, hb2⟩
      have HS2 := Lib.hid ((HS1.out.below hb2).box p q r)
      clear hb2 d0 d1 d2
      obtain ⟨d0, d1, d2⟩ := HS2.out.get 2 w.heap.size a0 a1 a2 rfl
      go_wp2_with fail
      (with_reducible refine (HPN.out _).mono ?_)
      rintro e w3 ⟨rfl, hb3⟩
      have HS3 := Lib.hid (HS2.out.below hb3)
      clear hb3 d0 d1 d2
      obtain ⟨d0, d1, d2⟩ := HS3.out.get 2 w.heap.size a0 a1 a2 rfl
      obtain ⟨e0, e1, e2⟩ := HS3.out.get 1 (w.heap.size + 1) b0 b1 b2 rfl
      go_wp2_with fail
      (with_reducible refine (HPB.out _).mono ?_)
      rintro e w4 ⟨rfl, hb4⟩
      have HS4 := Lib.hid (HS3.out.below hb4)
      clear hb4 d0 d1 d2 e0 e1 e2
      obtain ⟨d0, d1, d2⟩ := HS4.out.get 1 (w.heap.size + 1) b0 b1 b2 rfl
      obtain ⟨e0, e1, e2⟩ := HS4.out.get 0 w2.heap.size p q r rfl
      go_wp2_with fail
      (with_reducible refine (HCM.out _).mono ?_)
      rintro e w5 ⟨rfl, hb5⟩
      have HS5 := Lib.hid (HS4.out.below hb5)
      clear hb5 d0 d1 d2 e0 e1 e2
      obtain ⟨d0, d1, d2⟩ := HS5.out.get 2 w.heap.size a0 a1 a2 rfl
      obtain ⟨e0, e1, e2⟩ := HS5.out.get 0 w2.heap.size p q r rfl
      go_wp2_with fail
      (with_reducible refine (HC.out _).mono ?_)
      rintro e w6 ⟨rfl, hb6⟩
      have HS6 := Lib.hid (HS5.out.below hb6)
      clear hb6
      go_wp2_with fail
      go_ret
      exact ⟨rfl, HS6.out.1⟩
end Go.Proofs.YtbpgbbdebhmlkaaDoor
