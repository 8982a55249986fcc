/- Contract of the reference's Same at two rows that hold the same tokens. -/
import Derived.Test.YtmlfoffahfbalaaDoorAwake
import Derived.BigQuiet
namespace Go.Proofs.YtmlfoffahfbalaaDoor
open Go Go.RowKit

/-- a slice whose cells are those of some tokens. -/
def Reads (v : Value) (l : List (Int × List UInt8 × Nat)) (w : World) : Prop :=
  (l = [] ∧ ∃ a c, v = .slice a 0 c) ∨ ∃ g cap, v = .slice (some ⟨g, 0, none⟩) l.length cap ∧ ∀ i x, l[i]? = some x → w.cell? ⟨g, i * 3, none⟩ = some (.int .i64 x.1) ∧ w.cell? ⟨g, i * 3 + 1, none⟩ = some (.string ⟨x.2.1.toArray⟩) ∧ w.cell? ⟨g, i * 3 + 2, none⟩ = some (.int .i64 (x.2.2 : Int))
theorem Mine.reads {B : Nat} {v : Value} {l : List (Int × List UInt8 × Nat)} {w w' : World} (h : Mine 36 3 B v l.length (tokCells l) w) (hb : Below w.heap.size w w') : Reads v l w' := by
  by_cases h0 : l = []
  · subst h0
    rcases h.1.2 with ⟨h1, _⟩ | ⟨g, cap, cur, h1, _⟩
    · exact .inl ⟨rfl, _, _, h1⟩
    · exact .inl ⟨rfl, _, _, h1⟩
  · obtain ⟨g, cap, rfl⟩ := h.shape (List.length_pos_iff.2 h0)
    refine .inr ⟨g, cap, rfl, fun i x hx => ?_⟩
    have hg := h.ge.2
    have := h.tok i x hx
    rw [Nat.mul_comm, hb.cell hg, hb.cell hg, hb.cell hg]
    exact this

theorem below_drewS {B : Nat} {a w : World} (h : Below B a w) (n : Nat) : Below B a (w.drewN n) := h.trans ⟨rfl, rfl, rfl, Nat.le_refl _, fun _ _ => rfl⟩
set_option maxRecDepth 100000 in
set_option maxHeartbeats 4000000 in
theorem Same_eq (a b : Value) (l : List (Int × List UInt8 × Nat)) (w : World) (hl : l.length ≤ 1000000) (ha : Hid (Reads a l w)) (hb : Hid (Reads b l w)) :
    Calls Tryd.prog 14 #[a, b, .bool true] w fun e w' => e = .returned (.bool true) ∧ Below w.heap.size w w' := by
  by_cases h0 : l = []
  · have h1 : ∃ a1 c, a = .slice a1 0 c := by
      rcases ha.out with ⟨_, h⟩ | ⟨g, cap, h, _⟩
      · exact h
      · exact ⟨_, _, by rw [h, h0]; rfl⟩
    have h2 : ∃ a1 c, b = .slice a1 0 c := by
      rcases hb.out with ⟨_, h⟩ | ⟨g, cap, h, _⟩
      · exact h
      · exact ⟨_, _, by rw [h, h0]; rfl⟩
    obtain ⟨a1, c1, rfl⟩ := h1
    obtain ⟨b1, c2, rfl⟩ := h2
    clear h0 ha hb
    go_enter Tryd.func14, Tryd.ntmps14
    go_wp2_with fail
    go_loop [7] (fun i => i = .int .i64 0) (fun i => 0)
    case atStart => rfl
    case round =>
      subst hrel
      go_wp2_with fail
      go_ret
      exact ⟨rfl, Below.refl _ _⟩
  · have h1 : ∃ g cap, a = .slice (some ⟨g, 0, none⟩) l.length cap ∧ ∀ i x, l[i]? = some x → w.cell? ⟨g, i * 3, none⟩ = some (.int .i64 x.1) ∧ w.cell? ⟨g, i * 3 + 1, none⟩ = some (.string ⟨x.2.1.toArray⟩) ∧ w.cell? ⟨g, i * 3 + 2, none⟩ = some (.int .i64 (x.2.2 : Int)) := by
      rcases ha.out with ⟨h, _⟩ | h
      · exact absurd h h0
      · exact h
    have h2 : ∃ g cap, b = .slice (some ⟨g, 0, none⟩) l.length cap ∧ ∀ i x, l[i]? = some x → w.cell? ⟨g, i * 3, none⟩ = some (.int .i64 x.1) ∧ w.cell? ⟨g, i * 3 + 1, none⟩ = some (.string ⟨x.2.1.toArray⟩) ∧ w.cell? ⟨g, i * 3 + 2, none⟩ = some (.int .i64 (x.2.2 : Int)) := by
      rcases hb.out with ⟨h, _⟩ | h
      · exact absurd h h0
      · exact h
    obtain ⟨g1, c1, rfl, r1⟩ := h1
    obtain ⟨g2, c2, rfl, r2⟩ := h2
    have H1 := Lib.hid r1
    have H2 := Lib.hid r2
    obtain ⟨m, hm⟩ : ∃ m, l.length = m := ⟨_, rfl⟩
    have HM := Lib.hid hm
    rw [hm] at hl ⊢
    clear h0 ha hb r1 r2 hm
    go_enter Tryd.func14, Tryd.ntmps14
    go_wp2_with fail
    go_loopw [7] (fun i wr => ∃ k : Nat, k ≤ m ∧ i = .int .i64 k ∧ Hid (∃ n, wr = w.drewN n)) (fun i _ => m - (intOf i).toNat)
    case atStart => exact ⟨0, Nat.zero_le _, rfl, Lib.hid ⟨0, rfl⟩⟩
    case round =>
      obtain ⟨k, hk, rfl, HW⟩ := hrel
      obtain ⟨n, rfl⟩ := HW.out
      by_cases hlt : k < m
      · obtain ⟨x, hx⟩ : ∃ x, l[k]? = some x := ⟨_, List.getElem?_eq_getElem (by have := HM.out; omega)⟩
        obtain ⟨p1, p2, p3⟩ := H1.out k x hx
        obtain ⟨s1, s2, s3⟩ := H2.out k x hx
        obtain ⟨kd, tl, of⟩ := x
        simp only at p1 p2 p3 s1 s2 s3
        clear hx
        have hlt2 : (k : Int) < m := by omega
        have hmm : (m : Int) ≤ 1000000 := by omega
        obtain ⟨tx, htx⟩ : ∃ tx : ByteArray, (⟨tl.toArray⟩ : ByteArray) = tx := ⟨_, rfl⟩
        rw [htx] at p2 s2
        clear htx
        go_wp2_with fail
        go_quiet (fail)
        go_wp2_with fail
        go_roundw
        case rel => exact ⟨k + 1, by omega, by go_num, Lib.hid ⟨n + nq, rfl⟩⟩
        case measure => simp [intOf]; omega
      · obtain rfl : k = m := by omega
        go_wp2_with fail
        go_ret
        exact ⟨rfl, below_drewS (Below.refl _ _) _⟩
end Go.Proofs.YtmlfoffahfbalaaDoor
