/- The chapter's examples hold. -/
import Derived.Test.YtbpgbbdebhmlkaaDoorVParse2
import Derived.Test.YtbpgbbdebhmlkaaDoorVLine
import Derived.Test.YtbpgbbdebhmlkaaDoorVLatest
import Derived.Test.YtbpgbbdebhmlkaaDoorVNext
namespace Go.Proofs.YtbpgbbdebhmlkaaDoor
open Go Go.RowKit

def awP : ByteArray := ⟨#[103, 101, 111, 47, 115, 104, 97, 112, 101, 115, 47, 118, 50]⟩
def awN : ByteArray := ⟨#[103, 101, 111, 47, 115, 104, 97, 112, 101, 115]⟩
theorem aw_parse : parseV [49, 46, 52, 46, 57] = ((1, 4, 9), 0) := by decide +kernel
theorem aw_next : nextV 1 4 9 0 = ((1, 4, 10), 0) ∧ nextV 1 4 9 1 = ((1, 5, 0), 0) ∧ nextV 1 4 9 2 = ((2, 0, 0), 0) := by decide +kernel
theorem decL_lt (n : Int) (h0 : 0 ≤ n) (h : n < 10) : decL n = [UInt8.ofNat (48 + n.toNat)] := by unfold decL; rw [Lib.decDigits, dif_pos (by omega)]
theorem decL_two (n : Int) (h0 : 10 ≤ n) (h : n < 100) : decL n = [UInt8.ofNat (48 + n.toNat / 10), UInt8.ofNat (48 + n.toNat % 10)] := by
  unfold decL; rw [Lib.decDigits, dif_neg (by omega), Lib.decDigits, dif_pos (by omega)]; rfl
theorem aw_format : formatV 1 4 10 = ([49, 46, 52, 46, 49, 48], 0) := by
  unfold formatV
  rw [if_pos (by decide +kernel)]
  unfold fmtL
  rw [decL_lt 1 (by decide) (by decide), decL_lt 4 (by decide) (by decide), decL_two 10 (by decide) (by decide)]
  rfl
theorem aw_path : pathOk awP = true ∧ slashI awP = 10 ∧ majN awP = 2 := by decide +kernel
theorem aw_line : lineV awP = (awN, 2, 0) := by
  unfold lineV
  rw [aw_path.1, aw_path.2.1, aw_path.2.2]
  have : awP.extract 0 (10 : Int).toNat = awN := ba_ext (by rw [Lib.extract_data]; decide)
  rw [this]; rfl
theorem aw_pathB : pathB awN 2 = awP := ba_ext (by
  unfold pathB
  rw [decL_lt 2 (by decide) (by decide), ByteArray.data_append, ByteArray.data_append]
  decide)
theorem aw_pathV : pathV awN 2 = (awP, 0) := by
  unfold pathV
  rw [aw_pathB, if_pos (by decide +kernel), if_pos aw_path.1]
theorem aw_max : maxV [(1, 4, 9), (1, 5, 0), (1, 4, 10)] = (1, 5, 0) := by decide +kernel
theorem aw_rest : cmpV 1 4 10 1 5 0 = -1 ∧ permitsV 1 4 9 1 5 0 0 = true ∧ validB 1 4 9 = true := by decide +kernel
/-- a number in a block of its own. -/
def VBox (B : Nat) (a b c : Int) (w : World) : Prop := w.heap[B]? = some (.cells #[.int .i64 a, .int .i64 b, .int .i64 c] 23 (0, 0))
theorem VBox.below {B : Nat} {a b c : Int} {w w' : World} (h : VBox B a b c w) (hb : Below w.heap.size w w') : VBox B a b c w' := (hb.block _ (lt_of_block h)).trans h
theorem VBox.new (w : World) (a b c : Int) : VBox w.heap.size a b c (w.alloc (.cells #[.int .i64 a, .int .i64 b, .int .i64 c] 23)) := heap_alloc_new _ _
theorem VBox.alloc {B : Nat} {a b c : Int} {w : World} (h : VBox B a b c w) (o : Obj) : VBox B a b c (w.alloc o) := (Below.heap_alloc _ _ _ (lt_of_block h)).trans h
theorem VBox.cells {B : Nat} {a b c : Int} {w : World} (h : VBox B a b c w) : w.cell? ⟨B, 0, none⟩ = some (.int .i64 a) ∧ w.cell? ⟨B, 1, none⟩ = some (.int .i64 b) ∧ w.cell? ⟨B, 2, none⟩ = some (.int .i64 c) :=
  ⟨by rw [Lib.cell_of_heap h]; rfl, by rw [Lib.cell_of_heap h]; rfl, by rw [Lib.cell_of_heap h]; rfl⟩
/-- what the chapter's contracts ask of a world. -/
def EnvOk (w : World) : Prop := MaxOk w ∧ TabOk w
theorem EnvOk.below {w w' : World} (h : EnvOk w) (hb : Below w.heap.size w w') : EnvOk w' := ⟨h.1.below hb h.1.pos, h.2.below hb⟩
/-- the state behind some of the examples: the first world's facts, and the boxes' cells. -/
def AwS (w0 w : World) (l : List (Nat × V3)) : Prop := Below w0.heap.size w0 w ∧ ∀ x ∈ l, VBox x.1 x.2.1 x.2.2.1 x.2.2.2 w
theorem AwS.below {w0 w w' : World} {l : List (Nat × V3)} (h : AwS w0 w l) (hb : Below w.heap.size w w') : AwS w0 w' l := ⟨h.1.trans (hb.mono h.1.size), fun x hx => (h.2 x hx).below hb⟩
theorem AwS.box {w0 w : World} {l : List (Nat × V3)} (h : AwS w0 w l) (x y z : Int) : AwS w0 (w.alloc (.cells #[.int .i64 x, .int .i64 y, .int .i64 z] 23)) ((w.heap.size, (x, y, z)) :: l) :=
  ⟨h.1.alloc h.1.size _, fun p hp => by
    rcases List.mem_cons.1 hp with rfl | hp
    · exact VBox.new _ _ _ _
    · exact (h.2 p hp).alloc _⟩
theorem AwS.alloc {w0 w : World} {l : List (Nat × V3)} (h : AwS w0 w l) (o : Obj) : AwS w0 (w.alloc o) l := h.below ((Below.refl _ w).alloc (Nat.le_refl _) o)
theorem AwS.get {w0 w : World} {l : List (Nat × V3)} (h : AwS w0 w l) (i : Nat) (B : Nat) (x y z : Int) (hi : l[i]? = some (B, (x, y, z))) : w.cell? ⟨B, 0, none⟩ = some (.int .i64 x) ∧ w.cell? ⟨B, 1, none⟩ = some (.int .i64 y) ∧ w.cell? ⟨B, 2, none⟩ = some (.int .i64 z) :=
  (h.2 _ (List.mem_of_getElem? hi)).cells
theorem AwS.lt {w0 w : World} {l : List (Nat × V3)} (h : AwS w0 w l) (i : Nat) (B : Nat) (x y z : Int) (hi : l[i]? = some (B, (x, y, z))) : B < w.heap.size := lt_of_block (h.2 _ (List.mem_of_getElem? hi))

set_option maxRecDepth 100000 in
set_option maxHeartbeats 40000000 in
theorem awake_any (w : World) (hm : EnvOk w) : Calls Tryd.prog 8 #[] w fun e w' => e = .returned (.bool true) ∧ Below w.heap.size w w' := by
  have HE := Lib.hid hm
  clear hm
  have HS0 : Hid (AwS w w []) := Lib.hid ⟨Below.refl _ _, fun x hx => by cases hx⟩
  have HC1 := Lib.hid (Parse_any ⟨#[49, 46, 52, 46, 57]⟩ w (by decide) HE.out.1)
  rw [show (⟨#[49, 46, 52, 46, 57]⟩ : ByteArray).data.toList = [49, 46, 52, 46, 57] from rfl, aw_parse] at HC1
  go_enter Tryd.func8, Tryd.ntmps8
  go_wp2_with fail
  (with_reducible refine HC1.out.mono ?_)
  rintro e w1 ⟨rfl, hb1⟩
  have HS1 := Lib.hid ((HS0.out.below hb1).box 1 4 9)
  clear hb1 HC1
  obtain ⟨c0, c1, c2⟩ := HS1.out.get 0 w1.heap.size 1 4 9 rfl
  have HC2 := Lib.hid (fun W => Next_any 1 4 9 0 W)
  rw [aw_next.1] at HC2
  go_wp2_with fail
  (with_reducible refine (HC2.out _).mono ?_)
  rintro e w2 ⟨rfl, hb2⟩
  have HS2 := Lib.hid ((HS1.out.below hb2).box 1 4 10)
  clear hb2 HC2 c0 c1 c2
  obtain ⟨c0, c1, c2⟩ := HS2.out.get 1 w1.heap.size 1 4 9 rfl
  have HC3 := Lib.hid (fun W => Next_any 1 4 9 1 W)
  rw [aw_next.2.1] at HC3
  go_wp2_with fail
  (with_reducible refine (HC3.out _).mono ?_)
  rintro e w3 ⟨rfl, hb3⟩
  have HS3 := Lib.hid ((HS2.out.below hb3).box 1 5 0)
  clear hb3 HC3 c0 c1 c2
  obtain ⟨c0, c1, c2⟩ := HS3.out.get 2 w1.heap.size 1 4 9 rfl
  have HC4 := Lib.hid (fun W => Next_any 1 4 9 2 W)
  rw [aw_next.2.2] at HC4
  go_wp2_with fail
  (with_reducible refine (HC4.out _).mono ?_)
  rintro e w4 ⟨rfl, hb4⟩
  have HS4 := Lib.hid ((HS3.out.below hb4).box 2 0 0)
  clear hb4 HC4 c0 c1 c2
  have HC5 := Lib.hid (Format_any 1 4 10 _ (HE.out.2.below HS4.out.1))
  rw [aw_format] at HC5
  obtain ⟨c0, c1, c2⟩ := HS4.out.get 2 w2.heap.size 1 4 10 rfl
  go_wp2_with fail
  (with_reducible refine HC5.out.mono ?_)
  rintro e w5 ⟨rfl, hb5⟩
  have HS5 := Lib.hid (HS4.out.below hb5)
  have hm5 := Lib.hid (HE.out.below HS5.out.1)
  clear hb5 HC5 c0 c1 c2
  have HC6 := Lib.hid (Line_any awP w5 (by decide) hm5.out.1)
  rw [aw_line] at HC6
  unfold awP awN at HC6
  go_wp2_with fail
  (with_reducible refine HC6.out.mono ?_)
  rintro e w6 ⟨rfl, hb6⟩
  have HS6 := Lib.hid (HS5.out.below hb6)
  have hm6 := Lib.hid (HE.out.below HS6.out.1)
  clear hb6 HC6
  have HC7 := Lib.hid (Path_any awN 2 w6 (by decide) hm6.out.1 hm6.out.2)
  rw [aw_pathV] at HC7
  unfold awP awN at HC7
  go_wp2_with fail
  (with_reducible refine HC7.out.mono ?_)
  rintro e w7 ⟨rfl, hb7⟩
  have HS7 := Lib.hid (HS6.out.below hb7)
  clear hb7 HC7
  obtain ⟨a0, a1, a2⟩ := HS7.out.get 3 w1.heap.size 1 4 9 rfl
  obtain ⟨b0, b1, b2⟩ := HS7.out.get 1 w3.heap.size 1 5 0 rfl
  obtain ⟨c0, c1, c2⟩ := HS7.out.get 2 w2.heap.size 1 4 10 rfl
  have HC8 := Lib.hid (Latest_any (.slice (some ⟨w7.heap.size, 0, none⟩) 3 3) [(1, 4, 9), (1, 5, 0), (1, 4, 10)] (w7.alloc (.cells #[.int .i64 1, .int .i64 4, .int .i64 9, .int .i64 1, .int .i64 5, .int .i64 0, .int .i64 1, .int .i64 4, .int .i64 10] 23)) (by decide) (.inr ⟨w7.heap.size, 0, 3, rfl, by simp, fun i x hx => by
    have hn := heap_alloc_new w7 (.cells #[.int .i64 1, .int .i64 4, .int .i64 9, .int .i64 1, .int .i64 5, .int .i64 0, .int .i64 1, .int .i64 4, .int .i64 10] 23)
    rw [Lib.cell_of_heap hn, Lib.cell_of_heap hn, Lib.cell_of_heap hn]
    match i, hx with
    | 0, hx => cases hx; exact ⟨rfl, rfl, rfl⟩
    | 1, hx => cases hx; exact ⟨rfl, rfl, rfl⟩
    | 2, hx => cases hx; exact ⟨rfl, rfl, rfl⟩
    | i + 3, hx => simp at hx⟩))
  rw [aw_max] at HC8
  go_wp2_with fail
  (with_reducible refine HC8.out.mono ?_)
  rintro e w8 ⟨rfl, hb8⟩
  have HS8 := Lib.hid ((((HS7.out.alloc _).below hb8)).box 1 5 0)
  clear hb8 HC8 a0 a1 a2 b0 b1 b2 c0 c1 c2
  obtain ⟨a0, a1, a2⟩ := HS8.out.get 1 w4.heap.size 2 0 0 rfl
  obtain ⟨b0, b1, b2⟩ := HS8.out.get 2 w3.heap.size 1 5 0 rfl
  obtain ⟨c0, c1, c2⟩ := HS8.out.get 3 w2.heap.size 1 4 10 rfl
  have HC9 := Lib.hid (fun W => Compare_any 1 4 10 1 5 0 W)
  rw [aw_rest.1] at HC9
  go_wp2_with fail
  (with_reducible refine (HC9.out _).mono ?_)
  rintro e w9 ⟨rfl, hb9⟩
  have HS9 := Lib.hid (HS8.out.below hb9)
  clear hb9 HC9 a0 a1 a2 b0 b1 b2 c0 c1 c2
  obtain ⟨a0, a1, a2⟩ := HS9.out.get 0 w8.heap.size 1 5 0 rfl
  obtain ⟨b0, b1, b2⟩ := HS9.out.get 2 w3.heap.size 1 5 0 rfl
  obtain ⟨c0, c1, c2⟩ := HS9.out.get 4 w1.heap.size 1 4 9 rfl
  have HC10 := Lib.hid (fun W => Permits_any 1 4 9 1 5 0 0 W)
  rw [aw_rest.2.1] at HC10
  go_wp2_with fail
  (with_reducible refine (HC10.out _).mono ?_)
  rintro e w10 ⟨rfl, hb10⟩
  have HS10 := Lib.hid (HS9.out.below hb10)
  clear hb10 HC10 a0 a1 a2 b0 b1 b2 c0 c1 c2
  obtain ⟨c0, c1, c2⟩ := HS10.out.get 4 w1.heap.size 1 4 9 rfl
  have HC11 := Lib.hid (fun W => Valid_any 1 4 9 W)
  rw [aw_rest.2.2] at HC11
  go_wp2_with fail
  (with_reducible refine (HC11.out _).mono ?_)
  rintro e w11 ⟨rfl, rfl⟩
  go_wp2_with fail
  go_ret
  exact ⟨rfl, HS10.out.1.trans (Below.mono (by repeat (first | exact Below.refl _ _ | refine Below.drew ?_ | refine Below.alloc ?_ (by simp <;> omega) _ | refine Below.setCell ?_ (by simp <;> omega) _)) HS10.out.1.size)⟩
end Go.Proofs.YtbpgbbdebhmlkaaDoor
