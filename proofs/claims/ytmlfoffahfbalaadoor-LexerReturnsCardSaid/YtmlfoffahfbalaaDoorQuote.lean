/- Contract of the lexer's Quote. -/
import Derived.Test.YtmlfoffahfbalaaDoorLib
import Derived.Test.YtmlfoffahfbalaaDoorBuilder
import Derived.Test.YtmlfoffahfbalaaDoorPlainQuote
namespace Go.Proofs.YtmlfoffahfbalaaDoor
open Go Go.RowKit

/-- the builder in block B holds some bytes. -/
def BB (B : Nat) (l : List UInt8) (w : World) : Prop := Lib.IsBuilder 40 5 B B (Lib.byteCells l) w ∧ B < w.heap.size

theorem BB_byte (B : Nat) (l : List UInt8) (b : UInt8) (c : Int) (hc : c = b.toNat) (w : World) (h : Hid (BB B l w)) (hl : l.length ≤ 140737488355000) :
    Calls Tryd.prog 53 #[.pointer (some ⟨B, 0, none⟩), .int .u8 c] w fun e w' => e = .returned .nilIface ∧ Hid (BB B (l ++ [b]) w') ∧ Below B w w' := by
  obtain ⟨h1, h2⟩ := h.out
  refine (Tryd.WriteByte_k B B _ c w h1 (by simp [Lib.byteCells]; omega) (by omega)).mono ?_
  rintro e w' ⟨rfl, h3, h4⟩
  refine ⟨rfl, Lib.hid ⟨.inr ?_, by have := h4.size; omega⟩, h4⟩
  have : Lib.byteCells (l ++ [b]) = Lib.byteCells l ++ [.int .u8 c] := by simp [Lib.byteCells, hc]
  rw [this]; exact h3
theorem BB_string (B : Nat) (l : List UInt8) (s : ByteArray) (w : World) (h : Hid (BB B l w)) (hl : l.length + s.size ≤ 140737488355328) :
    Calls Tryd.prog 27 #[.pointer (some ⟨B, 0, none⟩), .string s] w fun e w' => e = .returned (.tuple #[.int .i64 s.size, .nilIface]) ∧ Hid (BB B (l ++ s.data.toList) w') ∧ Below B w w' := by
  obtain ⟨h1, h2⟩ := h.out
  refine (Tryd.WriteString_k B B _ s w h1 (by simp [Lib.byteCells]; omega) (by omega)).mono ?_
  rintro e w' ⟨rfl, h3, h4⟩
  refine ⟨rfl, Lib.hid ⟨.inr ?_, by have := h4.size; omega⟩, h4⟩
  have : Lib.byteCells (l ++ s.data.toList) = Lib.byteCells l ++ Lib.strCells s := by simp [Lib.byteCells, Lib.strCells]
  rw [this]; exact h3
theorem BB_get (B : Nat) (l : List UInt8) (w : World) (h : Hid (BB B l w)) :
    Calls Tryd.prog 29 #[.pointer (some ⟨B, 0, none⟩)] w fun e w' => e = .returned (.string ⟨l.toArray⟩) ∧ Below B w w' := by
  obtain ⟨h1, h2⟩ := h.out
  exact Tryd.Builder_String_any B B l w h1 (by omega)
theorem BB_new (w : World) : Hid (BB w.heap.size [] (w.alloc (.cells #[.pointer none, .slice none 0 0] 40))) :=
  Lib.hid ⟨Lib.fresh_isBuilder _ _ w, by simp⟩

set_option maxHeartbeats 800000 in
theorem Quote_any (s : ByteArray) (w : World) (hs : s.size ≤ 1000000) :
    Calls Tryd.prog 25 #[.string s] w fun e w' => e = .returned (.string ⟨(quoteL s.data.toList).toArray⟩) ∧ Below w.heap.size w w' := by
  have HB0 := BB_new w
  have hb0 : Below w.heap.size w (w.alloc (.cells #[.pointer none, .slice none 0 0] 40)) := (Below.refl _ w).alloc (Nat.le_refl _) _
  go_enter Tryd.func25, Tryd.ntmps25
  go_wp2_with fail
  refine (BB_byte w.heap.size [] 34 _ rfl _ HB0 (by simp)).mono ?_
  rintro e w1 ⟨rfl, HB1, hb1⟩
  have hb1' := hb0.trans hb1
  clear hb0 HB0 hb1
  go_wp2_with fail
  have HBB : Hid (w.heap.size = w.heap.size) := Lib.hid rfl
  revert HB1 hb1'
  obtain ⟨B, hB⟩ : ∃ B, B = w.heap.size := ⟨_, rfl⟩
  rw [← hB]
  clear HBB
  have HBB := Lib.hid hB
  clear hB
  intro HB1 hb1'
  go_loopw [9] (fun i wr => ∃ k : Nat, k ≤ s.size ∧ i = .int .i64 k ∧ Hid (BB B (34 :: (s.data.toList.take k).flatMap qB) wr) ∧ Below B w wr) (fun i _ => s.size - (intOf i).toNat)
  case atStart => exact ⟨0, Nat.zero_le _, rfl, HB1, hb1'⟩
  case round =>
    clear HB1 hb1'
    obtain ⟨k, hk, rfl, HB, hbel⟩ := hrel
    by_cases hlt : k < s.size
    · have HF := Lib.hid (flat_take s k hlt)
      have hfl := flat_len (s.data.toList.take k)
      have htl : (s.data.toList.take k).length ≤ k := List.length_take_le _ _
      have h255 : (s[k]).toNat ≤ 255 := by have := (s[k]).toNat_lt; omega
      have HL : Hid ((34 :: (s.data.toList.take k).flatMap qB).length ≤ 4000001) := Lib.hid (by rw [List.length_cons]; omega)
      clear hfl htl
      generalize hcs : s[k] = c at *
      generalize (s.data.toList.take k).flatMap qB = acc at *
      by_cases h1 : c = 34 ∨ c = 92
      · have HQ : Hid (qB c = [92, c]) := Lib.hid (by rw [qB, if_pos h1])
        cases e1 : ((c.toNat : Int) == 34)
        · have e2 : ((c.toNat : Int) == 92) = true := by
            rcases h1 with h1 | h1
            · rw [h1] at e1; exact absurd e1 (by decide)
            · rw [h1]; rfl
          clear h1
          go_wp2_with fail
          refine (BB_byte B _ 92 _ rfl _ HB (by have := HL.out; simp at this ⊢; omega)).mono ?_
          rintro e w2 ⟨rfl, Hw2, hw2⟩
          go_wp2_with fail
          refine (BB_byte B _ c _ rfl _ Hw2 (by have := HL.out; simp at this ⊢; omega)).mono ?_
          rintro e w3 ⟨rfl, Hw3, hw3⟩
          go_wp2
          go_roundw
          case rel => exact ⟨k + 1, by omega, by go_num, Lib.hid (by rw [HF.out, HQ.out]; have := Hw3.out; simpa using this), (hbel.trans hw2).trans hw3⟩
          case measure => simp [intOf]; omega
        · skip
          clear h1
          go_wp2_with fail
          refine (BB_byte B _ 92 _ rfl _ HB (by have := HL.out; simp at this ⊢; omega)).mono ?_
          rintro e w2 ⟨rfl, Hw2, hw2⟩
          go_wp2_with fail
          refine (BB_byte B _ c _ rfl _ Hw2 (by have := HL.out; simp at this ⊢; omega)).mono ?_
          rintro e w3 ⟨rfl, Hw3, hw3⟩
          go_wp2
          go_roundw
          case rel => exact ⟨k + 1, by omega, by go_num, Lib.hid (by rw [HF.out, HQ.out]; have := Hw3.out; simpa using this), (hbel.trans hw2).trans hw3⟩
          case measure => simp [intOf]; omega
      · have e1 : ((c.toNat : Int) == 34) = false := by
          rw [beq_eq_false_iff_ne]; intro e; exact h1 (.inl (UInt8.toNat_inj.1 (by have : ((34 : UInt8).toNat) = 34 := rfl; omega)))
        have e2 : ((c.toNat : Int) == 92) = false := by
          rw [beq_eq_false_iff_ne]; intro e; exact h1 (.inr (UInt8.toNat_inj.1 (by have : ((92 : UInt8).toNat) = 92 := rfl; omega)))
        by_cases h2 : c = 10
        · have HQ : Hid (qB c = [92, 110]) := Lib.hid (by rw [qB, if_neg h1, if_pos h2])
          have e3 : ((c.toNat : Int) == 10) = true := by rw [h2]; rfl
          clear h1 h2
          go_wp2_with fail
          refine (BB_string B _ _ _ HB (by have := HL.out; have e : ByteArray.size ⟨#[92, 110]⟩ = 2 := rfl; simp at this ⊢; omega)).mono ?_
          rintro e w2 ⟨rfl, Hw2, hw2⟩
          go_wp2
          go_roundw
          case rel => exact ⟨k + 1, by omega, by go_num, Lib.hid (by rw [HF.out, HQ.out]; have := Hw2.out; simpa using this), hbel.trans hw2⟩
          case measure => simp [intOf]; omega
        · have e3 : ((c.toNat : Int) == 10) = false := by
            rw [beq_eq_false_iff_ne]; intro e; exact h2 (UInt8.toNat_inj.1 (by have : ((10 : UInt8).toNat) = 10 := rfl; omega))
          by_cases h3 : 32 ≤ c.toNat ∧ c.toNat ≤ 126
          · have HQ : Hid (qB c = [c]) := Lib.hid (by rw [qB, if_neg h1, if_neg h2, if_pos h3])
            obtain ⟨h3, h4⟩ := h3
            clear h1 h2
            go_wp2_with fail
            refine (BB_byte B _ c _ rfl _ HB (by have := HL.out; simp at this ⊢; omega)).mono ?_
            rintro e w2 ⟨rfl, Hw2, hw2⟩
            go_wp2
            go_roundw
            case rel => exact ⟨k + 1, by omega, by go_num, Lib.hid (by rw [HF.out, HQ.out]; have := Hw2.out; simpa using this), hbel.trans hw2⟩
            case measure => simp [intOf]; omega
          · have HQ : Hid (qB c = [92, 120, hexC (c.toNat / 16), hexC (c.toNat % 16)]) := Lib.hid (by rw [qB, if_neg h1, if_neg h2, if_neg h3])
            clear h1 h2
            rcases (show c.toNat < 32 ∨ 126 < c.toNat from by omega) with h4 | h4
            all_goals
              clear h3
              go_wp2_with fail
              refine (BB_string B _ _ _ HB (by have := HL.out; have e : ByteArray.size ⟨#[92, 120]⟩ = 2 := rfl; simp at this ⊢; omega)).mono ?_
              rintro e w2 ⟨rfl, Hw2, hw2⟩
              go_wp2_with fail
              refine (BB_byte B _ (hexC (c.toNat / 16)) _ (hex_at _ _) _ Hw2 (by have := HL.out; simp at this ⊢; omega)).mono ?_
              rintro e w3 ⟨rfl, Hw3, hw3⟩
              go_wp2_with fail
              refine (BB_byte B _ (hexC (c.toNat % 16)) _ (hex_at _ _) _ Hw3 (by have := HL.out; simp at this ⊢; omega)).mono ?_
              rintro e w4 ⟨rfl, Hw4, hw4⟩
              go_wp2
              go_roundw
              case rel => exact ⟨k + 1, by omega, by go_num, Lib.hid (by rw [HF.out, HQ.out]; have := Hw4.out; simpa using this), ((hbel.trans hw2).trans hw3).trans hw4⟩
              case measure => simp [intOf]; omega
    · obtain rfl : k = s.size := by omega
      have hfl := flat_len s.data.toList
      rw [← Lib.size_eq] at hfl
      have HX : Hid (s.data.toList.take s.size = s.data.toList) := Lib.hid (List.take_of_length_le (by simp))
      have HY := Lib.hid hfl
      clear hfl
      rw [HX.out] at HB
      go_wp2_with fail
      refine (BB_byte B _ 34 _ rfl _ HB (by have := HY.out; simp at this ⊢; omega)).mono ?_
      rintro e w2 ⟨rfl, Hw2, hw2⟩
      go_wp2_with fail
      refine (BB_get B _ _ Hw2).mono ?_
      rintro e w3 ⟨rfl, hw3⟩
      go_wp2
      go_ret
      exact ⟨rfl, by rw [← HBB.out]; exact (hbel.trans hw2).trans hw3⟩
end Go.Proofs.YtmlfoffahfbalaaDoor
