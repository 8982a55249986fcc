/- Contracts of the constraint's reader: place, span. -/
import Derived.Test.YtdhihdiifgcfdaaGreatDoorVParse2
import Derived.Test.YtdhihdiifgcfdaaGreatDoorCPlace
import Derived.Test.YtdhihdiifgcfdaaGreatDoorCPlainText
import Derived.RegionTactic
import Derived.StillTailTactics
import Derived.Maps.AppendAt
namespace Go.Proofs.YtdhihdiifgcfdaaGreatDoor
set_option linter.unusedVariables false
set_option linter.unusedSimpArgs false
open Go Go.RowKit

/-- a reader in memory. -/
def RdrAt (W : World) (R : Nat) (m : Int) (sy ot : Bool) : Prop := W.heap[R]? = some (.cells #[.int .i64 m, .bool sy, .bool ot] 66 (0, 0))
theorem RdrAt.lt {W : World} {R : Nat} {m : Int} {sy ot : Bool} (h : RdrAt W R m sy ot) : R < W.heap.size := (Array.getElem?_eq_some_iff.1 h).1
theorem RdrAt.cells {W : World} {R : Nat} {m : Int} {sy ot : Bool} (h : RdrAt W R m sy ot) : W.cell? ⟨R, 0, none⟩ = some (.int .i64 m) ∧ W.cell? ⟨R, 1, none⟩ = some (.bool sy) ∧ W.cell? ⟨R, 2, none⟩ = some (.bool ot) :=
  ⟨by rw [Lib.cell_of_heap h]; rfl, by rw [Lib.cell_of_heap h]; rfl, by rw [Lib.cell_of_heap h]; rfl⟩
theorem RdrAt.free {W : World} {R : Nat} {m : Int} {sy ot : Bool} (h : RdrAt W R m sy ot) (j : Nat) : W.frozen? ⟨R, j, none⟩ = false := frozen_of_row W R j _ _ h
theorem RdrAt.below {W W' : World} {R : Nat} {m : Int} {sy ot : Bool} (h : RdrAt W R m sy ot) (hb : Below W.heap.size W W') : RdrAt W' R m sy ot := (hb.block R h.lt).trans h
theorem RdrAt.alloc {W : World} {R : Nat} {m : Int} {sy ot : Bool} (h : RdrAt W R m sy ot) (o : Obj) : RdrAt (W.alloc o) R m sy ot := h.below ((Below.refl _ _).alloc (Nat.le_refl _) o)
theorem RdrAt.set1 {W : World} {R : Nat} {m : Int} {sy ot : Bool} (h : RdrAt W R m sy ot) (b : Bool) : RdrAt (W.setCell ⟨R, 1, none⟩ (.bool b)) R m b ot := heap_setCell_same W R 1 _ _ _ h
theorem RdrAt.set2 {W : World} {R : Nat} {m : Int} {sy ot : Bool} (h : RdrAt W R m sy ot) (b : Bool) : RdrAt (W.setCell ⟨R, 2, none⟩ (.bool b)) R m sy b := heap_setCell_same W R 2 _ _ _ h
theorem RdrAt.drewN {W : World} {R : Nat} {m : Int} {sy ot : Bool} (h : RdrAt W R m sy ot) (n : Nat) : RdrAt (W.drewN n) R m sy ot := h
theorem RdrAt.drew {W : World} {R : Nat} {m : Int} {sy ot : Bool} (h : RdrAt W R m sy ot) : RdrAt W.drew R m sy ot := h
theorem gbB {w w1 : World} (h : Below w.heap.size w w1) (row : Option Nat) : w.grownBy w1 row := ⟨h.os, h.tape, h.output, h.size, fun i hi _ => h.block i hi⟩
theorem gbA {w w1 : World} {row : Option Nat} (h : w.grownBy w1 row) (o : Obj) : w.grownBy (w1.alloc o) row :=
  ⟨h.os, h.tape, h.output, Nat.le_trans h.size (by simp), fun i hi hne => (Below.heap_alloc w1 o i (Nat.lt_of_lt_of_le hi h.size)).trans (h.block i hi hne)⟩
theorem gbS {w w1 : World} {R : Nat} (h : w.grownBy w1 (some R)) (j : Nat) (u : Value) : w.grownBy (w1.setCell ⟨R, j, none⟩ u) (some R) :=
  ⟨h.os, h.tape, h.output, by simpa [World.setCell] using h.size, fun i hi hne => (Below.heap_setCell w1 _ u i (fun e => hne (by rw [e]))).trans (h.block i hi hne)⟩
theorem gbD {w w1 : World} {row : Option Nat} (h : w.grownBy w1 row) : w.grownBy w1.drew row := ⟨h.os, h.tape, h.output, h.size, h.block⟩
theorem gbDN {w w1 : World} {row : Option Nat} (h : w.grownBy w1 row) (n : Nat) : w.grownBy (w1.drewN n) row := ⟨h.os, h.tape, h.output, h.size, h.block⟩
theorem gbT {a b c : World} {row : Option Nat} (h : a.grownBy b row) (k : Below b.heap.size b c) : a.grownBy c row :=
  ⟨k.os.trans h.os, k.tape.trans h.tape, k.output.trans h.output, Nat.le_trans h.size k.size, fun i hi hn => (k.block i (Nat.lt_of_lt_of_le hi h.size)).trans (h.block i hi hn)⟩
theorem gb_below {B : Nat} {a b c : World} {R : Nat} (h : Below B a b) (k : b.grownBy c (some R)) (hR : B ≤ R) (hz : B ≤ b.heap.size) : Below B a c :=
  h.grown k hz (fun j hj => by cases hj; exact hR)
theorem place_pl (l : List UInt8) : placeV (parseV l).1.1 (parseV l).1.2.1 (parseV l).1.2.2 = (plV l, 0) := by
  unfold plV
  rcases parse_cases l with h | ⟨a, b, c, h, h1, h2, h3⟩
  · rw [h]; decide
  · rw [h]
    simp only
    unfold placeV validB partB
    rw [if_pos (by simp; omega)]
set_option maxRecDepth 100000 in
set_option maxHeartbeats 16000000 in
theorem place_any (R : Nat) (m : Int) (sy ot : Bool) (s : ByteArray) (w : World) (hs : s.size ≤ 1000000) (hm : MaxOk w) (hR : RdrAt w R m sy ot) :
    Calls Tryz.prog 82 #[.pointer (some ⟨R, 0, none⟩), .string s] w fun e w' => e = .returned (.int .i64 (plV s.data.toList)) ∧ RdrAt w' R m (sy || synB s.data.toList) (ot || othB m s.data.toList) ∧ w.grownBy w' (some R) := by
  have HP := Lib.hid (Parse_any s w hs hm)
  obtain ⟨⟨⟨a, b, c⟩, er⟩, hp⟩ : ∃ x, parseV s.data.toList = x := ⟨_, rfl⟩
  have HPL := Lib.hid (place_pl s.data.toList)
  have hsy : synB s.data.toList = decide (er ≠ 0) := by unfold synB; rw [hp]
  have hot : othB m s.data.toList = decide (a ≠ m) := by unfold othB; rw [hp]
  rw [hp] at HP HPL
  rw [hsy, hot]
  generalize plV s.data.toList = q at *
  simp only at HP HPL
  have HPC : Hid (∀ W, Calls Tryz.prog 12 #[.agg #[.int .i64 a, .int .i64 b, .int .i64 c]] W fun e w' => e = .returned (.tuple #[.int .i64 q, .int .i64 0]) ∧ Below W.heap.size W w') := Lib.hid (fun W => by
    have := Place_any a b c W
    rw [HPL.out] at this
    exact this)
  have HR := Lib.hid hR
  clear hR hp hsy hot HPL
  have key : ∀ sx ox : Bool, ((sy || decide (er ≠ 0)) = sx ∧ (ot || decide (a ≠ m)) = ox) → (sy = true ∨ (sy = false ∧ er = 0) ∨ (sy = false ∧ er ≠ 0)) → (ot = true ∨ (ot = false ∧ a = m) ∨ (ot = false ∧ a ≠ m)) →
      Calls Tryz.prog 82 #[.pointer (some ⟨R, 0, none⟩), .string s] w fun e w' => e = .returned (.int .i64 q) ∧ RdrAt w' R m sx ox ∧ w.grownBy w' (some R) := by
    intro sx ox hx h1 h2
    rcases h1 with rfl | ⟨rfl, rfl⟩ | ⟨rfl, h1⟩
    all_goals
      rcases h2 with rfl | ⟨rfl, rfl⟩ | ⟨rfl, h2⟩
    all_goals
      simp only [Bool.true_or, Bool.false_or, decide_true, decide_false, ne_eq, not_true_eq_false, not_false_eq_true, *] at hx
      obtain ⟨rfl, rfl⟩ := hx
      try have h1b : (er != 0) = true := by simpa using h1
      try have h2b : (a != m) = true := by simpa using h2
      go_enter Tryz.func82, Tryz.ntmps82
      go_wp2_with fail
      (with_reducible refine HP.out.mono ?_)
      rintro e w1 ⟨rfl, hb1⟩
      have HR1 := Lib.hid (HR.out.below hb1)
      obtain ⟨c0, c1, c2⟩ := HR1.out.cells
      have f1 := HR1.out.free 1
      have f2 := HR1.out.free 2
      have hlt := HR1.out.lt
      have hlt2 : R ≠ w1.heap.size := by omega
      have HG1 := Lib.hid (gbB hb1 (some R))
      clear hb1
      go_wp2_with fail
      go_region
      all_goals
        go_wp2_with fail
        (with_reducible refine (HPC.out _).mono ?_)
        rintro e w2 ⟨rfl, hb2⟩
        have HB2 := Lib.hid hb2
        clear hb2
        go_wp2_with fail
        go_ret
        refine ⟨rfl, ?_, ?_⟩
        · refine RdrAt.below ?_ HB2.out
          exact (((HR1.out.set1 _).set2 _).alloc _).drew
        · refine gbT ?_ HB2.out
          exact gbD (gbA (gbS (gbS HG1.out _ _) _ _) _)
  refine key _ _ ⟨rfl, rfl⟩ ?_ ?_
  · cases sy
    · by_cases h : er = 0
      · exact .inr (.inl ⟨rfl, h⟩)
      · exact .inr (.inr ⟨rfl, h⟩)
    · exact .inl rfl
  · cases ot
    · by_cases h : a = m
      · exact .inr (.inl ⟨rfl, h⟩)
      · exact .inr (.inr ⟨rfl, h⟩)
    · exact .inl rfl
end Go.Proofs.YtdhihdiifgcfdaaGreatDoor
