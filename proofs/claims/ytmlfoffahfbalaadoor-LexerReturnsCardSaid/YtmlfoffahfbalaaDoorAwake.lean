/- The chapter's examples hold. -/
import Derived.Test.YtmlfoffahfbalaaDoorLex0
import Derived.Test.YtmlfoffahfbalaaDoorPos
import Derived.Test.YtmlfoffahfbalaaDoorMajor
import Derived.Test.YtmlfoffahfbalaaDoorQuote
namespace Go.Proofs.YtmlfoffahfbalaaDoor
open Go Go.RowKit

def awS : ByteArray := ⟨#[0x66, 0x6e, 0x28, 0x61, 0x3f, 0x3a, 0x20, 0x69, 0x6e, 0x74, 0x29, 0x20, 0x3d, 0x3e, 0x20, 0x61]⟩
theorem aw_err : (lexS awS).err = 0 ∧ (lexS awS).off = 0 ∧ (lexS awS).toks.length = 10 ∧ (lexS awS).toks[7]? = some (6, [61, 62], 12) ∧ (lexS awS).toks[9]? = some (0, [], 16) := by decide +kernel
def awP : ByteArray := ⟨#[103, 101, 111, 47, 115, 104, 97, 112, 101, 115, 47, 118, 49, 50]⟩
theorem aw_maj : majN awP = 12 ∧ majE awP = 0 := by decide +kernel
def awQ : ByteArray := ⟨#[97, 10, 98, 99]⟩
theorem aw_pos : lineL (headS awQ 3) = 2 ∧ colL (headS awQ 3) = 2 := by decide +kernel
theorem aw_quote : (⟨(quoteL [97, 34, 10]).toArray⟩ : ByteArray) = ⟨#[34, 97, 92, 34, 92, 110, 34]⟩ := by
  have : quoteL [97, 34, 10] = [34, 97, 92, 34, 92, 110, 34] := by decide +kernel
  rw [this]
theorem aw_names : nameS ⟨#[97]⟩ = true ∧ typeS ⟨#[65]⟩ = true ∧ pathOk ⟨#[97, 47, 118, 48]⟩ = true := by decide +kernel
/-- a token's cells. -/
theorem tokCells_get (l : List (Int × List UInt8 × Nat)) (i : Nat) (x : Int × List UInt8 × Nat) (h : l[i]? = some x) :
    (tokCells l)[3 * i]? = some (.int .i64 x.1) ∧ (tokCells l)[3 * i + 1]? = some (.string ⟨x.2.1.toArray⟩) ∧ (tokCells l)[3 * i + 2]? = some (.int .i64 (x.2.2 : Int)) := by
  induction l generalizing i with
  | nil => simp at h
  | cons y l ih =>
    have e : tokCells (y :: l) = .int .i64 y.1 :: .string ⟨y.2.1.toArray⟩ :: .int .i64 (y.2.2 : Int) :: tokCells l := rfl
    rw [e]
    cases i with
    | zero => simp at h; subst h; simp
    | succ i =>
      have := ih i (by simpa using h)
      have a1 : 3 * (i + 1) = 3 * i + 1 + 1 + 1 := by omega
      rw [a1]
      simpa using this
theorem tokCells_length (l : List (Int × List UInt8 × Nat)) : (tokCells l).length = 3 * l.length := by
  induction l with
  | nil => rfl
  | cons y l ih =>
    have e : tokCells (y :: l) = .int .i64 y.1 :: .string ⟨y.2.1.toArray⟩ :: .int .i64 (y.2.2 : Int) :: tokCells l := rfl
    rw [e]; simp [ih]; omega
/-- a token in a row of tokens of the call's own. -/
theorem Mine.tok {B g cap : Nat} {l : List (Int × List UInt8 × Nat)} {w : World} (h : Mine 36 3 B (.slice (some ⟨g, 0, none⟩) l.length cap) l.length (tokCells l) w) (i : Nat) (x : Int × List UInt8 × Nat) (hx : l[i]? = some x) :
    w.cell? ⟨g, 3 * i, none⟩ = some (.int .i64 x.1) ∧ w.cell? ⟨g, 3 * i + 1, none⟩ = some (.string ⟨x.2.1.toArray⟩) ∧ w.cell? ⟨g, 3 * i + 2, none⟩ = some (.int .i64 (x.2.2 : Int)) := by
  obtain ⟨hi, _⟩ := List.getElem?_eq_some_iff.1 hx
  obtain ⟨h1, h2, h3⟩ := tokCells_get l i x hx
  exact ⟨(h.cell _ (by omega)).trans h1, (h.cell _ (by omega)).trans h2, (h.cell _ (by omega)).trans h3⟩

set_option maxRecDepth 100000 in
set_option maxHeartbeats 4000000 in
theorem awake_any (w : World) (hm : MaxOk w) : Calls Tryd.prog 11 #[] w fun e w' => e = .returned (.bool true) ∧ Below w.heap.size w w' := by
  obtain ⟨a1, a2, a3, a4, a5⟩ := aw_err
  have HL := Lib.hid (Lex_any awS w hm)
  go_enter Tryd.func11, Tryd.ntmps11
  go_wp2_with fail
  refine HL.out.mono ?_
  rintro e w1 ⟨v, rfl, hv, -, hb⟩
  rw [a1, a2]
  rw [a3] at hv
  obtain ⟨g, cap, rfl⟩ := hv.shape (by decide)
  rw [← a3] at hv
  obtain ⟨c1, c2, c3⟩ := hv.tok 7 _ a4
  obtain ⟨c4, c5, c6⟩ := hv.tok 9 _ a5
  have hg := hv.ge
  rw [a3] at hv
  simp only [Nat.reduceMul, Nat.reduceAdd] at c1 c2 c3 c4 c5 c6
  have hm1 := hm.below hb hm.pos
  have HB := Lib.hid hb
  clear a1 a2 a3 a4 a5 hb HL hv
  go_wp2_with fail
  refine (Major_any awP w1 (by decide) hm1).mono ?_
  rintro e w2 ⟨rfl, hb2⟩
  rw [aw_maj.1, aw_maj.2]
  have hm2 := hm1.below hb2 hm1.pos
  rw [← hb2.cell (p := ⟨g, 21, none⟩) hg.2] at c1
  rw [← hb2.cell (p := ⟨g, 22, none⟩) hg.2] at c2
  rw [← hb2.cell (p := ⟨g, 23, none⟩) hg.2] at c3
  rw [← hb2.cell (p := ⟨g, 27, none⟩) hg.2] at c4
  rw [← hb2.cell (p := ⟨g, 28, none⟩) hg.2] at c5
  rw [← hb2.cell (p := ⟨g, 29, none⟩) hg.2] at c6
  have HB2 := Lib.hid hb2
  clear hb2
  go_wp2_with fail
  refine (Position_any awQ 3 w2 (by decide)).mono ?_
  rintro e w3 ⟨rfl, rfl⟩
  rw [aw_pos.1, aw_pos.2]
  clear c1 c2 c3 c4 c5 c6
  go_wp2_with fail
  refine (Quote_any ⟨#[97, 34, 10]⟩ w2 (by decide)).mono ?_
  rintro e w3 ⟨rfl, hb3⟩
  have hm3 := hm2.below hb3 hm2.pos
  have HB3 := Lib.hid hb3
  clear hb3
  rw [show (⟨#[97, 34, 10]⟩ : ByteArray).data.toList = [97, 34, 10] from rfl, aw_quote]
  go_wp2_with fail
  refine (IsName_any ⟨#[97]⟩ w3 (by decide) hm3).mono ?_
  rintro e w4 ⟨rfl, rfl⟩
  rw [aw_names.1]
  go_wp2_with fail
  refine (IsType_any ⟨#[65]⟩ w3 (by decide)).mono ?_
  rintro e w4 ⟨rfl, rfl⟩
  rw [aw_names.2.1]
  go_wp2_with fail
  refine (IsPath_any ⟨#[97, 47, 118, 48]⟩ w3 (by decide) hm3).mono ?_
  rintro e w4 ⟨rfl, hb4⟩
  rw [aw_names.2.2]
  go_wp2_with fail
  go_ret
  exact ⟨rfl, ((HB.out.trans (HB2.out.mono HB.out.size)).trans (HB3.out.mono (HB.out.trans (HB2.out.mono HB.out.size)).size)).trans (hb4.mono ((HB.out.trans (HB2.out.mono HB.out.size)).trans (HB3.out.mono (HB.out.trans (HB2.out.mono HB.out.size)).size)).size)⟩
end Go.Proofs.YtmlfoffahfbalaaDoor
