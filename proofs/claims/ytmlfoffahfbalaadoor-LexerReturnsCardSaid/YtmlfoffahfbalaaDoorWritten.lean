/- Contracts of the law's written, and of Same without offsets. -/
import Derived.Test.YtmlfoffahfbalaaDoorSame
import Derived.Test.YtmlfoffahfbalaaDoorPlainRet
import Derived.Test.YtmlfoffahfbalaaDoorQuote
namespace Go.Proofs.YtmlfoffahfbalaaDoor
open Go Go.RowKit

theorem written_any (k : Int) (t : ByteArray) (o : Int) (w : World) (hs : t.size ≤ 1000000) :
    Calls Tryd.prog 28 #[.agg #[.int .i64 k, .string t, .int .i64 o]] w fun e w' => e = .returned (.string ⟨(writtenL k t.data.toList).toArray⟩) ∧ Below w.heap.size w w' := by
  by_cases h : k = 4
  · subst h
    have HE : Hid (writtenL 4 t.data.toList = quoteL t.data.toList) := Lib.hid (by unfold writtenL; rw [if_pos rfl])
    go_enter Tryd.func28, Tryd.ntmps28
    go_wp2_with fail
    refine (Quote_any t _ hs).mono ?_
    rintro e w' ⟨rfl, hb⟩
    have HB := Lib.hid hb
    clear hb
    go_wp2_with fail
    go_ret
    have h1 : Below w.heap.size w (w.alloc (.cells #[.int .i64 4, .string t, .int .i64 o] 36)) := (Below.refl _ _).alloc (Nat.le_refl _) _
    exact ⟨by rw [HE.out]; rfl, h1.trans (HB.out.mono h1.size)⟩
  · have h2 : (k == 4) = false := by rw [beq_eq_false_iff_ne]; exact h
    have HE : Hid (writtenL k t.data.toList = t.data.toList) := Lib.hid (by unfold writtenL; rw [if_neg h])
    clear h
    go_enter Tryd.func28, Tryd.ntmps28
    go_wp2_with fail
    go_ret
    exact ⟨by rw [HE.out, show (⟨t.data.toList.toArray⟩ : ByteArray) = t by cases t; simp]; rfl, (Below.refl _ _).alloc (Nat.le_refl _) _⟩
set_option maxRecDepth 100000 in
set_option maxHeartbeats 4000000 in
theorem Same_kt (a b : Value) (l l2 : List (Int × List UInt8 × Nat)) (w : World) (hl : l.length ≤ 1000000) (hkt : l.map (fun x => (x.1, x.2.1)) = l2.map (fun x => (x.1, x.2.1))) (ha : Hid (Reads a l w)) (hb : Hid (Reads b l2 w)) :
    Calls Tryd.prog 14 #[a, b, .bool false] w fun e w' => e = .returned (.bool true) ∧ Below w.heap.size w w' := by
  have hll : l2.length = l.length := by have := congrArg List.length hkt; simpa using this.symm
  have HKT : Hid (∀ (k : Nat) (x : Int × List UInt8 × Nat), l[k]? = some x → ∃ o, l2[k]? = some (x.1, x.2.1, o)) := Lib.hid (fun k x hx => by
    have h1 : (l2.map (fun x => (x.1, x.2.1)))[k]? = some (x.1, x.2.1) := by rw [← hkt, List.getElem?_map, hx]; rfl
    rw [List.getElem?_map] at h1
    obtain ⟨⟨a1, a2, a3⟩, h2, h3⟩ := Option.map_eq_some_iff.1 h1
    cases h3
    exact ⟨a3, h2⟩)
  by_cases h0 : l = []
  · have h1 : ∃ a1 c, a = .slice a1 0 c := by
      rcases ha.out with ⟨_, h⟩ | ⟨g, cap, h, _⟩
      · exact h
      · exact ⟨_, _, by rw [h, h0]; rfl⟩
    have h2 : ∃ a1 c, b = .slice a1 0 c := by
      rcases hb.out with ⟨_, h⟩ | ⟨g, cap, h, _⟩
      · exact h
      · exact ⟨_, _, by rw [h, hll, h0]; rfl⟩
    obtain ⟨a1, c1, rfl⟩ := h1
    obtain ⟨b1, c2, rfl⟩ := h2
    clear h0 ha hb HKT hkt hll
    go_enter Tryd.func14, Tryd.ntmps14
    go_wp2_with fail
    go_loop [7] (fun i => i = .int .i64 0) (fun i => 0)
    case atStart => rfl
    case round =>
      subst hrel
      go_wp2_with fail
      go_ret
      exact ⟨rfl, Below.refl _ _⟩
  · have h1 : ∃ g cap, a = .slice (some ⟨g, 0, none⟩) l.length cap ∧ ∀ i x, l[i]? = some x → w.cell? ⟨g, i * 3, none⟩ = some (.int .i64 x.1) ∧ w.cell? ⟨g, i * 3 + 1, none⟩ = some (.string ⟨x.2.1.toArray⟩) ∧ w.cell? ⟨g, i * 3 + 2, none⟩ = some (.int .i64 (x.2.2 : Int)) := by
      rcases ha.out with ⟨h, _⟩ | h
      · exact absurd h h0
      · exact h
    have h2 : ∃ g cap, b = .slice (some ⟨g, 0, none⟩) l.length cap ∧ ∀ i x, l2[i]? = some x → w.cell? ⟨g, i * 3, none⟩ = some (.int .i64 x.1) ∧ w.cell? ⟨g, i * 3 + 1, none⟩ = some (.string ⟨x.2.1.toArray⟩) ∧ w.cell? ⟨g, i * 3 + 2, none⟩ = some (.int .i64 (x.2.2 : Int)) := by
      rcases hb.out with ⟨h, _⟩ | h
      · exact absurd (List.length_eq_zero_iff.1 (by rw [← hll, h]; rfl)) h0
      · rw [← hll]; exact h
    obtain ⟨g1, c1, rfl, r1⟩ := h1
    obtain ⟨g2, c2, rfl, r2⟩ := h2
    have H1 := Lib.hid r1
    have H2 := Lib.hid r2
    obtain ⟨m, hm⟩ : ∃ m, l.length = m := ⟨_, rfl⟩
    have HM := Lib.hid hm
    rw [hm] at hl ⊢
    clear h0 ha hb r1 r2 hm hkt hll
    go_enter Tryd.func14, Tryd.ntmps14
    go_wp2_with fail
    go_loopw [7] (fun i wr => ∃ k : Nat, k ≤ m ∧ i = .int .i64 k ∧ Hid (∃ n, wr = w.drewN n)) (fun i _ => m - (intOf i).toNat)
    case atStart => exact ⟨0, Nat.zero_le _, rfl, Lib.hid ⟨0, rfl⟩⟩
    case round =>
      obtain ⟨k, hk, rfl, HW⟩ := hrel
      obtain ⟨n, rfl⟩ := HW.out
      by_cases hlt : k < m
      · obtain ⟨x, hx⟩ : ∃ x, l[k]? = some x := ⟨_, List.getElem?_eq_getElem (by have := HM.out; omega)⟩
        obtain ⟨p1, p2, p3⟩ := H1.out k x hx
        obtain ⟨of2, hx2⟩ := HKT.out k x hx
        obtain ⟨s1, s2, s3⟩ := H2.out k _ hx2
        obtain ⟨kd, tl, of⟩ := x
        simp only at p1 p2 p3 s1 s2 s3
        clear hx hx2
        have hlt2 : (k : Int) < m := by omega
        have hmm : (m : Int) ≤ 1000000 := by omega
        obtain ⟨tx, htx⟩ : ∃ tx : ByteArray, (⟨tl.toArray⟩ : ByteArray) = tx := ⟨_, rfl⟩
        rw [htx] at p2 s2
        clear htx
        go_wp2_with fail
        go_quiet (fail)
        go_wp2_with fail
        go_roundw
        case rel => exact ⟨k + 1, by omega, by go_num, Lib.hid ⟨n + nq, rfl⟩⟩
        case measure => simp [intOf]; omega
      · obtain rfl : k = m := by omega
        go_wp2_with fail
        go_ret
        exact ⟨rfl, below_drewS (Below.refl _ _) _⟩
end Go.Proofs.YtmlfoffahfbalaaDoor
