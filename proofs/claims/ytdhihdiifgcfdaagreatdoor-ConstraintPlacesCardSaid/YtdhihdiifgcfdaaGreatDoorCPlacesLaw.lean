/- ConstraintPlaces returns true at every input. -/
import Derived.Test.YtdhihdiifgcfdaaGreatDoorCLawKit
namespace Go.Proofs.YtdhihdiifgcfdaaGreatDoor
set_option linter.unusedVariables false
set_option linter.unusedSimpArgs false
open Go Go.RowKit

set_option maxRecDepth 100000 in
set_option maxHeartbeats 16000000 in
theorem ConstraintPlaces_any (a b c m p : Int) (w : World) (hm : EnvOk w) :
    Calls Tryz.prog 3 #[.agg #[.int .i64 a, .int .i64 b, .int .i64 c], .int .i64 m, .int .i64 p] w fun e w' => e = .returned (.bool true) ∧ Below w.heap.size w w' := by
  have HC1 := Lib.hid (fun W => Place_any a b c W)
  have HC2 := Lib.hid (fun W => rPlace_any a b c W)
  have HC3 := Lib.hid (fun W => At_any m p W)
  have HC4 := Lib.hid (fun W => rAt_any m p W)
  obtain ⟨⟨pl, pe⟩, hpl⟩ : ∃ x, placeV a b c = x := ⟨_, rfl⟩
  obtain ⟨⟨⟨x, y, z⟩, ae⟩, hat⟩ : ∃ q, atV m p = q := ⟨_, rfl⟩
  rw [hpl] at HC1 HC2
  rw [hat] at HC3 HC4
  simp only at HC1 HC2 HC3 HC4
  clear hpl hat
  have HA := Lib.hid (cawake_any (w.alloc (.cells #[.int .i64 a, .int .i64 b, .int .i64 c] 23)) (hm.alloc _))
  have HB0 := Lib.hid (bel1 w (.cells #[.int .i64 a, .int .i64 b, .int .i64 c] 23))
  have HX0 := Lib.hid (VBox.new w a b c)
  clear hm
  go_enter Tryz.func3, Tryz.ntmps3
  go_wp2_with fail
  (with_reducible refine HA.out.mono ?_)
  rintro e w1 ⟨rfl, hb1⟩
  have HB1 := Lib.hid (belT HB0.out hb1)
  have HX1 := Lib.hid (HX0.out.below hb1)
  clear hb1 HA
  obtain ⟨c0, c1, c2⟩ := HX1.out.cells
  go_wp2_with fail
  (with_reducible refine (HC1.out _).mono ?_)
  rintro e w2 ⟨rfl, hb2⟩
  have HB2 := Lib.hid (belT HB1.out hb2)
  have HX2 := Lib.hid (HX1.out.below hb2)
  clear hb2 c0 c1 c2
  obtain ⟨c0, c1, c2⟩ := HX2.out.cells
  go_wp2_with fail
  (with_reducible refine (HC2.out _).mono ?_)
  rintro e w3 ⟨rfl, hb3⟩
  have HB3 := Lib.hid (belT HB2.out hb3)
  clear hb3 c0 c1 c2
  go_wp2_with fail
  (with_reducible refine (HC3.out _).mono ?_)
  rintro e w4 ⟨rfl, hb4⟩
  have HB4 := Lib.hid (belT (belT HB3.out hb4) (bel1 w4 (.cells #[.int .i64 x, .int .i64 y, .int .i64 z] 23)))
  have HY4 := Lib.hid (VBox.new w4 x y z)
  clear hb4
  go_wp2_with fail
  (with_reducible refine (HC4.out _).mono ?_)
  rintro e w5 ⟨rfl, hb5⟩
  have HB5 := Lib.hid (belT (belT HB4.out hb5) (bel1 w5 (.cells #[.int .i64 x, .int .i64 y, .int .i64 z] 23)))
  have HY5 := Lib.hid (HY4.out.below hb5)
  obtain ⟨c0, c1, c2⟩ := HY5.out.cells
  have hlt : w4.heap.size < w5.heap.size := HY5.out.lt
  have hne : w4.heap.size ≠ w5.heap.size := Nat.ne_of_lt HY5.out.lt
  clear hb5
  go_wp2_with fail

  go_ret
  exact ⟨rfl, HB5.out⟩
end Go.Proofs.YtdhihdiifgcfdaaGreatDoor
