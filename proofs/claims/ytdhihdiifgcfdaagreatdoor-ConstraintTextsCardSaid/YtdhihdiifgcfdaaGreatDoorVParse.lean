/- Contract of package version's Parse. -/
import Derived.Test.YtdhihdiifgcfdaaGreatDoorVPlainParse
import Derived.Test.YtdhihdiifgcfdaaGreatDoorVValid
import Derived.Test.YtdhihdiifgcfdaaGreatDoorVCompare
import Derived.Test.YtdhihdiifgcfdaaGreatDoorLib
namespace Go.Proofs.YtdhihdiifgcfdaaGreatDoor
open Go Go.RowKit

theorem SplitDot_any (s : ByteArray) (w : World) (hs : s.size < 4294967281) (hm : MaxOk w) :
    Calls Tryz.prog 49 #[.string s, .string ⟨#[46]⟩] w fun e w' => e = .returned (.slice (some ⟨w.heap.size, 0, none⟩) (dotB s).length (dotB s).length) ∧ w.alloc (.cells ((dotB s).map Value.string).toArray 9) = w' := by
  obtain ⟨m, hm⟩ := hm
  refine (Tryz.strings_Split s ⟨#[46]⟩ m w hs hm (by decide)).mono ?_
  rintro e w' ⟨rfl, rfl⟩
  rw [count_dotB, split_dotB]
  exact ⟨rfl, rfl⟩
theorem odd_fn (x : Nat) (W : World) : Calls Tryz.prog 129 #[.int .i32 (x : Int)] W fun e w' => e = .returned (.bool (oddR x)) ∧ w' = W := by
  have HE : Hid (oddR x = (decide ((x : Int) < 48) || decide (57 < (x : Int)))) := Lib.hid (by
    unfold oddR
    congr 1 <;> rw [decide_eq_decide] <;> omega)
  rcases (show (x : Int) < 48 ∨ (¬ (x : Int) < 48 ∧ 57 < (x : Int)) ∨ (¬ (x : Int) < 48 ∧ ¬ 57 < (x : Int)) by omega) with h | ⟨h, h2⟩ | ⟨h, h2⟩
  · have HR := Lib.hid (show oddR x = true by rw [HE.out]; simp [h])
    go_enter Tryz.func129, Tryz.ntmps129
    go_wp2
    go_ret
    exact ⟨by rw [HR.out]; rfl, rfl⟩
  · have HR := Lib.hid (show oddR x = true by rw [HE.out]; simp [h2])
    go_enter Tryz.func129, Tryz.ntmps129
    go_wp2
    go_ret
    exact ⟨by rw [HR.out]; rfl, rfl⟩
  · have HR := Lib.hid (show oddR x = false by rw [HE.out]; simp [h, h2])
    go_enter Tryz.func129, Tryz.ntmps129
    go_wp2
    go_ret
    exact ⟨by rw [HR.out]; rfl, rfl⟩
theorem odd_any (s : ByteArray) (w : World) : Calls Tryz.prog 128 #[.string s, .func (.func 129) #[] #[]] w fun e w' => e = .returned (.bool (!(s.data.toList.all dgB))) ∧ Below w.heap.size w w' := by
  have h := Tryz.strings_ContainsFunc 129 #[] (enters_of Tryz.func129 (by kernel_rfl) rfl) oddR s w (fun W x _ => (odd_fn x W).mono fun e w' ⟨h1, h2⟩ => ⟨h1, 0, h2⟩)
  rw [odd_all] at h
  exact h
theorem Atoi_any (s : ByteArray) (w : World) (h : wordOk s.data.toList = true) : Calls Tryz.prog 130 #[.string s] w fun e w' => e = .returned (.tuple #[.int .i64 (wordV s.data.toList : Int), .nilIface]) ∧ Below w.heap.size w w' := by
  have hl : s.size ≤ 18 := by
    unfold wordOk at h
    simp only [Bool.and_eq_true, decide_eq_true_eq] at h
    rw [Lib.size_eq]; omega
  refine (Tryz.strconv_Atoi s _ hl (atoi_word _ h) w).mono ?_
  rintro e w' ⟨rfl, t, rfl⟩
  exact ⟨rfl, ⟨rfl, rfl, rfl, by rw [Lib.bytesWorld_size]; omega, fun k hk => Lib.bytesWorld_at_old w _ t k hk⟩⟩
theorem word_cases (x : ByteArray) : (wordOk x.data.toList = false ∧ x.size = 0) ∨ (wordOk x.data.toList = false ∧ 1 ≤ x.size ∧ 3 < x.size) ∨ (wordOk x.data.toList = false ∧ 1 ≤ x.size ∧ x.size ≤ 3 ∧ x.data.toList.all dgB = false) ∨
    (wordOk x.data.toList = false ∧ ∃ h : 0 < x.size, 1 < x.size ∧ x.size ≤ 3 ∧ x.data.toList.all dgB = true ∧ ((x[0]).toNat : Int) = 48) ∨
    (wordOk x.data.toList = true ∧ x.size = 1 ∧ x.data.toList.all dgB = true) ∨
    (wordOk x.data.toList = true ∧ ∃ h : 0 < x.size, 1 < x.size ∧ x.size ≤ 3 ∧ x.data.toList.all dgB = true ∧ ¬ ((x[0]).toNat : Int) = 48) := by
  have hs := Lib.size_eq x
  unfold wordOk
  rcases Nat.lt_or_ge x.size 1 with h | h
  · refine .inl ⟨?_, by omega⟩
    have : x.data.toList = [] := List.length_eq_zero_iff.1 (by omega)
    rw [this]; rfl
  have hne : x.data.toList ≠ [] := fun e => by rw [e] at hs; simp only [List.length_nil] at hs; omega
  rcases Nat.lt_or_ge 3 x.size with h3 | h3
  · refine .inr (.inl ⟨?_, h, h3⟩)
    rw [decide_eq_false (p := x.data.toList.length ≤ 3) (by rw [← hs]; omega)]; simp
  cases ha : x.data.toList.all dgB with
  | false => exact .inr (.inr (.inl ⟨by simp, h, h3, rfl⟩))
  | true =>
    have h0 : 0 < x.data.toList.length := by omega
    have e0 : x.data.toList.head? = some x[0] := by
      rw [List.head?_eq_getElem?, List.getElem?_eq_getElem h0]; simp; rfl
    rw [e0]
    have e1 : x.data.toList.length = x.size := hs.symm
    rw [e1]
    rcases Nat.lt_or_ge 1 x.size with h1 | h1
    · by_cases hc : ((x[0]).toNat : Int) = 48
      · refine .inr (.inr (.inr (.inl ⟨?_, h, h1, h3, rfl, hc⟩)))
        have : x[0] = 48 := UInt8.toNat_inj.1 (by have : (48 : UInt8).toNat = 48 := rfl; omega)
        simp [hne, h3, h1, this]
      · refine .inr (.inr (.inr (.inr (.inr ⟨?_, h, h1, h3, rfl, hc⟩))))
        have : x[0] ≠ 48 := fun e => hc (by rw [e]; rfl)
        simp [hne, h3, this]
    · refine .inr (.inr (.inr (.inr (.inl ⟨?_, by omega, rfl⟩))))
      simp [hne, h3, show ¬ 1 < x.size by omega]
/-- what lies behind the first rounds of Parse. -/
def PSt (w wr : World) (ws : List ByteArray) (x y z : Int) : Prop :=
  Below w.heap.size w wr ∧ wr.heap[w.heap.size]? = some (.cells #[.int .i64 0, .int .i64 0, .int .i64 0] 23 (0, 0)) ∧ wr.heap[w.heap.size + 1]? = some (.cells (ws.map Value.string).toArray 9 (0, 0)) ∧
  wr.heap[w.heap.size + 1 + 1]? = some (.cells #[.int .i64 x, .int .i64 y, .int .i64 z] 75 (0, 0))
theorem PSt.below {w wr w1 : World} {ws : List ByteArray} {x y z : Int} (h : PSt w wr ws x y z) (hb : Below wr.heap.size wr w1) : PSt w w1 ws x y z := by
  obtain ⟨h1, h2, h3, h4⟩ := h
  exact ⟨h1.trans (hb.mono h1.size), (hb.block _ (lt_of_block h2)).trans h2, (hb.block _ (lt_of_block h3)).trans h3, (hb.block _ (lt_of_block h4)).trans h4⟩
theorem PSt.zero {w wr : World} {ws : List ByteArray} {x y z : Int} (h : PSt w wr ws x y z) :
    (wr.cell? ⟨w.heap.size, 0, none⟩ = some (.int .i64 0) ∧ wr.cell? ⟨w.heap.size, 1, none⟩ = some (.int .i64 0) ∧ wr.cell? ⟨w.heap.size, 2, none⟩ = some (.int .i64 0)) ∧ wr.frozen? ⟨w.heap.size, 0, none⟩ = false ∧ wr.frozen? ⟨w.heap.size, 1, none⟩ = false ∧ wr.frozen? ⟨w.heap.size, 2, none⟩ = false := by
  obtain ⟨_, h2, _, _⟩ := h
  exact ⟨⟨by rw [Lib.cell_of_heap h2]; rfl, by rw [Lib.cell_of_heap h2]; rfl, by rw [Lib.cell_of_heap h2]; rfl⟩, Lib.frozen_of_heap h2 _, Lib.frozen_of_heap h2 _, Lib.frozen_of_heap h2 _⟩
theorem PSt.out {w wr : World} {ws : List ByteArray} {x y z : Int} (h : PSt w wr ws x y z) :
    (wr.cell? ⟨w.heap.size + 1 + 1, 0, none⟩ = some (.int .i64 x) ∧ wr.cell? ⟨w.heap.size + 1 + 1, 1, none⟩ = some (.int .i64 y) ∧ wr.cell? ⟨w.heap.size + 1 + 1, 2, none⟩ = some (.int .i64 z)) ∧ wr.frozen? ⟨w.heap.size + 1 + 1, 0, none⟩ = false ∧ wr.frozen? ⟨w.heap.size + 1 + 1, 1, none⟩ = false ∧ wr.frozen? ⟨w.heap.size + 1 + 1, 2, none⟩ = false := by
  obtain ⟨_, _, _, h2⟩ := h
  exact ⟨⟨by rw [Lib.cell_of_heap h2]; rfl, by rw [Lib.cell_of_heap h2]; rfl, by rw [Lib.cell_of_heap h2]; rfl⟩, Lib.frozen_of_heap h2 _, Lib.frozen_of_heap h2 _, Lib.frozen_of_heap h2 _⟩
theorem PSt.word {w wr : World} {ws : List ByteArray} {x y z : Int} (h : PSt w wr ws x y z) (k : Nat) (s : ByteArray) (hk : ws[k]? = some s) : wr.cell? ⟨w.heap.size + 1, k, none⟩ = some (.string s) := by
  obtain ⟨_, _, h2, _⟩ := h
  rw [Lib.cell_of_heap h2]; simp [hk]
theorem PSt.set {w wr : World} {ws : List ByteArray} {x y z x' y' z' : Int} (h : PSt w wr ws x y z) (k : Nat) (v : Value) (hv : #[Value.int .i64 x, .int .i64 y, .int .i64 z].setIfInBounds k v = #[.int .i64 x', .int .i64 y', .int .i64 z']) : PSt w (wr.setCell ⟨w.heap.size + 1 + 1, k, none⟩ v) ws x' y' z' := by
  obtain ⟨h1, h2, h3, h4⟩ := h
  refine ⟨h1.setCell (p := ⟨w.heap.size + 1 + 1, k, none⟩) (by show _ ≤ w.heap.size + 1 + 1; omega) _, (Below.heap_setCell _ _ _ _ (by show _ ≠ w.heap.size + 1 + 1; omega)).trans h2, (Below.heap_setCell _ _ _ _ (by show _ ≠ w.heap.size + 1 + 1; omega)).trans h3, ?_⟩
  simp [World.setCell, Array.getElem?_modify, h4, ← hv]
end Go.Proofs.YtdhihdiifgcfdaaGreatDoor
