/- Contract of slices.Repeat at one number; the graph's exist. -/
import Derived.Test.YtlcgbkeggmaljaaGValid
import Derived.Laws.CopyOwn
import Derived.Deep.RegionLaw
import Derived.IntWalk
namespace Go.Proofs.Ytlcgbkeggmaljaa
set_option linter.unusedVariables false
set_option linter.unusedSimpArgs false
open Go Go.RowKit

theorem splice_rep (c N m : Nat) (x z : Value) (h : c + m ≤ N) : splice (List.replicate c x ++ List.replicate (N - c) z) c (List.replicate m x) = List.replicate (c + m) x ++ List.replicate (N - (c + m)) z := by
  unfold splice
  rw [List.take_append_of_le_length (by simp), List.take_of_length_le (by simp), List.length_replicate, List.drop_append, List.drop_eq_nil_of_le (by simp), List.nil_append, List.drop_replicate, List.length_replicate, ← List.append_assoc, List.replicate_append_replicate]
  congr 2
  omega

set_option maxRecDepth 100000 in
set_option maxHeartbeats 4000000 in
theorem Repeat_any (b c N : Nat) (x : Int) (w : World) (hN : N ≤ 1000000) (hx : w.cell? ⟨b, 0, none⟩ = some (intC x)) (hb : b < w.heap.size) :
    Calls Try.prog 65 #[.slice (some ⟨b, 0, none⟩) 1 c, .int .i64 (N : Int)] w fun e w' => ∃ g, e = .returned (.slice (some ⟨g, 0, none⟩) N N) ∧ w.heap.size ≤ g ∧ w'.heap[g]? = some (.cells (List.replicate N (intC x)).toArray 3 (0, 0)) ∧ Below w.heap.size w w' := by
  have hmk := make_ints N (by omega)
  have hmul := Try.bits_Mul 1 N (by omega) (by omega) w
  have e1 : 1 * N / 18446744073709551616 = 0 := by omega
  have e2 : 1 * N % 18446744073709551616 = N := by omega
  rw [e1, e2] at hmul
  have HM := Lib.hid hmul
  clear hmul e1 e2
  have h0 : (0 : Int) ≤ (N : Int) := by omega
  have h1 : (N : Int) ≤ 1000000 := by omega
  go_enter Try.func65, Try.ntmps65
  go_wp2_with fail
  refine HM.out.mono ?_
  rintro e w' ⟨rfl, rfl⟩
  have hcells : ∀ j v, (List.replicate (Nat.min 1 N) (intC x))[j]? = some v → (w'.alloc (.cells (Array.replicate N (.int .i64 0)) 3)).cell? ((⟨b, 0, none⟩ : Addr).add j) = some v := fun j v hv => by
    have hj : j < Nat.min 1 N := by have := (List.getElem?_eq_some_iff.1 hv).1; simpa using this
    have hv2 : intC x = v := by have := List.getElem?_eq_some_iff.1 hv; obtain ⟨_, h⟩ := this; simpa using h
    have hj0 : j = 0 := by have : Nat.min 1 N ≤ 1 := Nat.min_le_left 1 N; omega
    subst hj0
    rw [← hv2]
    exact cellA _ hx
  have HC := Lib.hid hcells
  clear hcells
  have hbw : Below w'.heap.size w' (w'.alloc (.cells (Array.replicate N (.int .i64 0)) 3)) := (Below.refl _ _).alloc (Nat.le_refl _) _
  have HBW := Lib.hid hbw
  clear hbw
  go_wp2_with (with_reducible refine wpList_copy_splice rfl (.tmp 31) (.tmp 32) 26 26 rfl 3 Try.underlying26 (by kernel_rfl) (some ⟨w'.heap.size, 0, none⟩) (some ⟨b, 0, none⟩) N N 1 c rfl rfl w'.heap.size 0 (List.replicate N (.int .i64 0)) 3 (by have := World.alloc_heap_new w' (.cells (Array.replicate N (.int .i64 0)) 3); simpa using this) (List.replicate (Nat.min 1 N) (intC x)) (by simp) (fun _ => ⟨rfl, _, rfl, HC.out⟩) (by simp; exact Nat.min_le_right 1 N) (by simp [Value.oneCell']) w'.heap.size w' HBW.out (Nat.le_refl _) ?_; intro w2 HG2 hb2)
  have HG3 : Hid (w2.heap[w'.heap.size]? = some (.cells (List.replicate (Nat.min 1 N) (intC x) ++ List.replicate (N - Nat.min 1 N) (intC 0)).toArray 3 (0, 0))) := Lib.hid (by
    have := HG2.out
    have e := splice_rep 0 N (Nat.min 1 N) (intC x) (intC 0) (by have : Nat.min 1 N ≤ N := Nat.min_le_right 1 N; omega)
    simp only [List.replicate_zero, List.nil_append, Nat.zero_add, Nat.sub_zero] at e
    rw [e] at this
    exact this)
  have HB2 := Lib.hid hb2
  clear HG2 hb2 hmk HM HC HBW
  have hm1 : Nat.min 1 N ≤ N := Nat.min_le_right 1 N
  have hm2 : 0 < N → 0 < Nat.min 1 N := fun h => by rw [show Nat.min 1 N = 1 from Nat.min_eq_left h]; omega
  generalize Nat.min 1 N = c1 at *
  have HM2 := Lib.hid hm2
  clear hm2
  go_loopw [8] (fun s wr => ∃ k : Nat, k ≤ N ∧ s = .int .i64 k ∧ Hid (0 < N → 0 < k) ∧ Hid (wr.heap[w'.heap.size]? = some (.cells (List.replicate k (intC x) ++ List.replicate (N - k) (intC 0)).toArray 3 (0, 0))) ∧ Hid (Below w'.heap.size w' wr)) (fun s _ => N - (intOf s).toNat)
  case atStart => exact ⟨c1, hm1, rfl, HM2, HG3, HB2⟩
  case round =>
    clear HM2 HG3 HB2 hm1
    obtain ⟨k, hk, rfl, HP, HG, HB⟩ := hrel
    by_cases hlt : k < N
    · have hlt2 : (k : Int) < (N : Int) := by omega
      have hle2 : (k : Int) ≤ (N : Int) := by omega
      have hk0 : (0 : Int) ≤ (k : Int) := by omega
      have hkne : ¬ N = k := by omega
      have hpos : 0 < k := HP.out (by omega)
      have HC : Hid (∀ j v, (List.replicate (Nat.min k (N - k)) (intC x))[j]? = some v → wr.drew.cell? ((⟨w'.heap.size, 0, none⟩ : Addr).add j) = some v) := Lib.hid (fun j v hv => by
        have hj : j < Nat.min k (N - k) := by have := (List.getElem?_eq_some_iff.1 hv).1; simpa using this
        have hj2 : j < k := by have : Nat.min k (N - k) ≤ k := Nat.min_le_left _ _; omega
        have hv2 : intC x = v := by have := List.getElem?_eq_some_iff.1 hv; obtain ⟨_, h⟩ := this; simpa using h
        rw [← hv2]
        have e : ((⟨w'.heap.size, 0, none⟩ : Addr).add j) = ⟨w'.heap.size, j, none⟩ := by unfold Addr.add; split <;> simp_all
        rw [e]
        refine (cell_of_row wr _ j _ _ _ HG.out).trans ?_
        rw [List.getElem?_toArray, List.getElem?_append_left (by simpa using hj2), List.getElem?_replicate, if_pos hj2])
      have hmn : Nat.min k (N - k) ≤ N - k := Nat.min_le_right _ _
      have hmp : 0 < Nat.min k (N - k) := by
        rcases Nat.le_total k (N - k) with h | h
        · rw [show Nat.min k (N - k) = k from Nat.min_eq_left h]; omega
        · rw [show Nat.min k (N - k) = N - k from Nat.min_eq_right h]; omega
      have HMN : Hid (Nat.min k (N - k) = Nat.min k (N - k)) := Lib.hid rfl
      go_wp2_with fail
      go_region_held3 (fun _ => True) (trivial) ((refine step_copy_splice rfl (.tmp 41) (.tmp 44) 26 26 rfl 3 Try.underlying26 (by kernel_rfl) (some ⟨w'.heap.size, k, none⟩) (some ⟨w'.heap.size, 0, none⟩) (N - k) (N - k) k N (by rfl) (by rfl) w'.heap.size k (List.replicate k (intC x) ++ List.replicate (N - k) (intC 0)) 3 HG.out (List.replicate (Nat.min k (N - k)) (intC x)) (by simp) (fun _ => ⟨rfl, _, rfl, HC.out⟩) (by simp; omega) (fun v hv => by rw [List.eq_of_mem_replicate hv]; rfl) w'.heap.size w' HB.out.drew (Nat.le_refl _) ?_; intro w2 HG2 hb2))
      all_goals
        have hl2 : (List.replicate (Nat.min k (N - k)) (intC x)).length = Nat.min k (N - k) := by simp
        have HGN : Hid (w2.heap[w'.heap.size]? = some (.cells (List.replicate (k + Nat.min k (N - k)) (intC x) ++ List.replicate (N - (k + Nat.min k (N - k))) (intC 0)).toArray 3 (0, 0))) := Lib.hid (by
          have := HG2.out
          rw [splice_rep k N (Nat.min k (N - k)) (intC x) (intC 0) (by omega)] at this
          exact this)
        have HB2 := Lib.hid hb2
        clear HG2 hb2
        generalize Nat.min k (N - k) = m at *
        clear hl2
        have hw : IntKind.i64.wrap ((k : Int) + (m : Int)) = ((k + m : Nat) : Int) := by rw [Int.natCast_add]; exact IntWalk.i64_in _ (by omega)
        go_wp2_with fail
        go_roundw
        case rel => exact ⟨k + m, by omega, by go_num, Lib.hid (fun h => by omega), HGN, HB2⟩
        case measure => simp [intOf]; omega
    · have hkk : k = N := by omega
      subst hkk
      go_wp2_with fail
      go_ret
      refine ⟨_, rfl, Nat.le_refl _, ?_, HB.out⟩
      have := HG.out
      simpa using this
end Go.Proofs.Ytlcgbkeggmaljaa
