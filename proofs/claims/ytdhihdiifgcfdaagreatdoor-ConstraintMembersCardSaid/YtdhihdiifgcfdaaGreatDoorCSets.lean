/- Contracts of the constraint's Union, Intersect, Complement, Minus, Subset. -/
import Derived.Test.YtdhihdiifgcfdaaGreatDoorCComb
import Derived.Test.YtdhihdiifgcfdaaGreatDoorCPlainSets
namespace Go.Proofs.YtdhihdiifgcfdaaGreatDoor
set_option linter.unusedVariables false
set_option linter.unusedSimpArgs false
open Go Go.RowKit

theorem posCl_any (n : Int) (W : World) : Calls Tryz.prog 67 (#[.int .i64 n] ++ #[]) W fun e w' => e = .returned (.bool (decide (0 < n))) ∧ W = w' := by
  show Calls _ _ #[.int .i64 n] _ _
  go_enter Tryz.func67, Tryz.ntmps67
  go_wp2
  go_ret
  exact ⟨rfl, rfl⟩
theorem zeroCl_any (n : Int) (W : World) : Calls Tryz.prog 66 (#[.int .i64 n] ++ #[]) W fun e w' => e = .returned (.bool (decide (n = 0))) ∧ W = w' := by
  show Calls _ _ #[.int .i64 n] _ _
  go_enter Tryz.func66, Tryz.ntmps66
  go_wp2
  go_ret
  exact ⟨rfl, rfl⟩
theorem allCl_any (B : Nat) (ao : Option Addr) (k c : Nat) (n : Int) (W : World) (hc : W.cell? ⟨B, 0, none⟩ = some (.slice ao k c)) :
    Calls Tryz.prog 68 (#[.int .i64 n] ++ #[.pointer (some ⟨B, 0, none⟩)]) W fun e w' => e = .returned (.bool (decide (n = (k : Int)))) ∧ W = w' := by
  show Calls _ _ #[.int .i64 n, .pointer (some ⟨B, 0, none⟩)] _ _
  go_enter Tryz.func68, Tryz.ntmps68
  go_wp2
  go_ret
  exact ⟨rfl, rfl⟩
set_option maxRecDepth 100000 in
theorem Union_any (v : Value) (l : List (List (Int × Int))) (w : World) (hl : l.length ≤ 1000) (hs : ∀ s ∈ l, s.length ≤ 100000) (hS : SetsOf w.heap.size v l w) :
    Calls Tryz.prog 36 #[v] w fun e w' => ∃ v', e = .returned v' ∧ EdgesOf w'.heap.size v' (unionS l) w' ∧ Below w.heap.size w w' := by
  have HC := Lib.hid (combine_any 67 #[] (fun n => decide (0 < n)) v l w (enters_of Tryz.func67 (by kernel_rfl) rfl) (fun W n _ => posCl_any n W) hl hs hS)
  change Hid (Calls _ _ _ _ fun e w' => ∃ v', _ ∧ EdgesOf _ _ (unionS l) _ ∧ _) at HC
  generalize unionS l = r at *
  obtain ⟨ao, ec, rfl, _⟩ := hS
  clear hs
  go_enter Tryz.func36, Tryz.ntmps36
  go_wp2_with fail
  (with_reducible refine HC.out.mono ?_)
  rintro e w' ⟨v', rfl, hE', hb⟩
  have HE := Lib.hid hE'
  have HB := Lib.hid hb
  clear hE' hb
  go_wp2_with fail
  go_ret
  exact ⟨_, rfl, HE.out, HB.out⟩
set_option maxRecDepth 100000 in
theorem Intersect_any (v : Value) (l : List (List (Int × Int))) (w : World) (hl : l.length ≤ 1000) (hs : ∀ s ∈ l, s.length ≤ 100000) (hS : SetsOf w.heap.size v l w) :
    Calls Tryz.prog 37 #[v] w fun e w' => ∃ v', e = .returned v' ∧ EdgesOf w'.heap.size v' (interS l) w' ∧ Below w.heap.size w w' := by
  have hb0 : Below w.heap.size w (w.alloc (.cells #[v] 53)) := (Below.refl _ _).alloc (Nat.le_refl _) _
  have hS' := (hS.below hb0 (Nat.le_refl _)).mono (show w.heap.size ≤ (w.alloc (.cells #[v] 53)).heap.size by simp)
  obtain ⟨ao, ec, rfl, _⟩ := hS
  have HC := Lib.hid (combine_any 68 #[.pointer (some ⟨w.heap.size, 0, none⟩)] (fun n => decide (n = (l.length : Int))) (.slice ao l.length ec) l (w.alloc (.cells #[.slice ao l.length ec] 53)) (enters_of Tryz.func68 (by kernel_rfl) rfl)
    (fun W n hW => allCl_any w.heap.size ao l.length ec n W (by rw [hW.cell (p := ⟨w.heap.size, 0, none⟩) (by simp)]; simp [go_sem])) hl hs hS')
  change Hid (Calls _ _ _ _ fun e w' => ∃ v', _ ∧ EdgesOf _ _ (interS l) _ ∧ _) at HC
  have HB0 := Lib.hid hb0
  generalize interS l = r at *
  clear hs hb0 hS'
  go_enter Tryz.func37, Tryz.ntmps37
  go_wp2_with fail
  (with_reducible refine HC.out.mono ?_)
  rintro e w' ⟨v', rfl, hE', hb⟩
  have HE := Lib.hid hE'
  have HB := Lib.hid hb
  clear hE' hb
  go_wp2_with fail
  go_ret
  exact ⟨_, rfl, HE.out, HB0.out.trans (HB.out.mono (by simp))⟩
set_option maxRecDepth 100000 in
theorem Complement_any (v : Value) (s : List (Int × Int)) (w : World) (hs : s.length ≤ 100000) (hE : EdgesOf w.heap.size v s w) :
    Calls Tryz.prog 35 #[v] w fun e w' => ∃ v', e = .returned v' ∧ EdgesOf w'.heap.size v' (complS s) w' ∧ Below w.heap.size w w' := by
  have hb0 : Below w.heap.size w (w.alloc (.cells #[v] 32)) := (Below.refl _ _).alloc (Nat.le_refl _) _
  have HC := Lib.hid (combine_any 66 #[] (fun n => decide (n = 0)) (.slice (some ⟨w.heap.size, 0, none⟩) 1 1) [s] (w.alloc (.cells #[v] 32)) (enters_of Tryz.func66 (by kernel_rfl) rfl) (fun W n _ => zeroCl_any n W) (by simp) (fun x hx => by rcases List.mem_singleton.1 hx with rfl; exact hs)
    (sets_one (by simp) (by simp [go_sem]) ((hE.below hb0 (Nat.le_refl _)).mono (by simp))))
  change Hid (Calls _ _ _ _ fun e w' => ∃ v', _ ∧ EdgesOf _ _ (complS s) _ ∧ _) at HC
  have HB0 := Lib.hid hb0
  generalize complS s = r at *
  obtain ⟨ao, ec, rfl, _⟩ := hE
  clear hb0
  go_enter Tryz.func35, Tryz.ntmps35
  go_wp2_with fail
  (with_reducible refine HC.out.mono ?_)
  rintro e w' ⟨v', rfl, hE', hb⟩
  have HE := Lib.hid hE'
  have HB := Lib.hid hb
  clear hE' hb
  go_wp2_with fail
  go_ret
  exact ⟨_, rfl, HE.out, HB0.out.trans (HB.out.mono (by simp))⟩
set_option maxRecDepth 100000 in
theorem Minus_any (v u : Value) (a b : List (Int × Int)) (w : World) (ha : a.length ≤ 40000) (hb : b.length ≤ 40000) (hE : EdgesOf w.heap.size v a w) (hF : EdgesOf w.heap.size u b w) :
    Calls Tryz.prog 33 #[v, u] w fun e w' => ∃ v', e = .returned v' ∧ EdgesOf w'.heap.size v' (minusS a b) w' ∧ Below w.heap.size w w' := by
  have HC := Lib.hid (Complement_any u b w (by omega) hF)
  have hcl := complS_len b
  have HI : Hid (∀ (w1 : World) (c : Value), Below w.heap.size w w1 → EdgesOf w1.heap.size c (complS b) w1 → Calls Tryz.prog 37 #[.slice (some ⟨w1.heap.size, 0, none⟩) 2 2] (w1.alloc (.cells #[v, c] 32)) fun e w' => ∃ v', e = .returned v' ∧ EdgesOf w'.heap.size v' (minusS a b) w' ∧ Below (w1.alloc (.cells #[v, c] 32)).heap.size (w1.alloc (.cells #[v, c] 32)) w') := Lib.hid (fun w1 c hb1 hc => by
    have hb2 : Below w1.heap.size w1 (w1.alloc (.cells #[v, c] 32)) := (Below.refl _ _).alloc (Nat.le_refl _) _
    show Calls _ _ _ _ fun e w' => ∃ v', _ ∧ EdgesOf _ _ (interS [a, complS b]) _ ∧ _
    refine Intersect_any _ [a, complS b] _ (by simp) (fun s hs => ?_) (sets_two (v := v) (u := c) (by simp) (by simp [go_sem]) (by simp [go_sem]) ?_ ?_)
    · rcases List.mem_cons.1 hs with rfl | hs
      · omega
      · rcases List.mem_singleton.1 hs with rfl; omega
    · exact ((hE.below hb1 (Nat.le_refl _)).below (hb2.mono hb1.size) (Nat.le_refl _)).mono (by have := hb1.size; simp; omega)
    · exact (hc.below hb2 (Nat.le_refl _)).mono (by simp))
  generalize minusS a b = r at *
  generalize complS b = q at *
  obtain ⟨ao, ec, rfl, _⟩ := hE
  obtain ⟨bo, fc, rfl, _⟩ := hF
  clear hcl
  go_enter Tryz.func33, Tryz.ntmps33
  go_wp2_with fail
  (with_reducible refine HC.out.mono ?_)
  rintro e w1 ⟨v1, rfl, hE1, hb1⟩
  have HI1 := Lib.hid (HI.out w1 v1 hb1 hE1)
  have HB1 := Lib.hid hb1
  obtain ⟨ao1, ec1, rfl, _⟩ := hE1
  clear hb1
  go_wp2_with fail
  (with_reducible refine HI1.out.mono ?_)
  rintro e w2 ⟨v2, rfl, hE2, hb2⟩
  have HE2 := Lib.hid hE2
  have HB2 := Lib.hid hb2
  clear hE2 hb2
  go_wp2_with fail
  go_ret
  exact ⟨_, rfl, HE2.out, HB1.out.trans (((Below.refl _ _).alloc (Nat.le_refl _) _ |>.trans (HB2.out.mono (by simp))).mono HB1.out.size)⟩
set_option maxRecDepth 100000 in
theorem Subset_any (v u : Value) (a b : List (Int × Int)) (w : World) (ha : a.length ≤ 40000) (hb : b.length ≤ 40000) (hE : EdgesOf w.heap.size v a w) (hF : EdgesOf w.heap.size u b w) :
    Calls Tryz.prog 34 #[v, u] w fun e w' => e = .returned (.bool (subB a b)) ∧ Below w.heap.size w w' := by
  have HC := Lib.hid (Minus_any v u a b w ha hb hE hF)
  obtain ⟨q, hq⟩ : ∃ q, subB a b = q := ⟨_, rfl⟩
  rw [hq]
  unfold subB at hq
  generalize minusS a b = r at *
  obtain ⟨ao, ec, rfl, _⟩ := hE
  obtain ⟨bo, fc, rfl, _⟩ := hF
  by_cases hr : r = []
  · subst hr
    have HQ := Lib.hid (show q = true by rw [← hq]; rfl)
    clear hq
    go_enter Tryz.func34, Tryz.ntmps34
    go_wp2_with fail
    (with_reducible refine HC.out.mono ?_)
    rintro e w1 ⟨v1, rfl, hE1, hb1⟩
    obtain ⟨ao1, ec1, rfl, _⟩ := hE1
    simp only [List.length_nil]
    go_wp2_with fail
    go_ret
    exact ⟨by rw [HQ.out]; rfl, hb1⟩
  · have HQ := Lib.hid (show q = false by rw [← hq]; simp [hr])
    have hn : 0 < r.length := List.length_pos_iff.2 hr
    clear hq hr
    go_enter Tryz.func34, Tryz.ntmps34
    go_wp2_with fail
    (with_reducible refine HC.out.mono ?_)
    rintro e w1 ⟨v1, rfl, hE1, hb1⟩
    obtain ⟨ao1, ec1, rfl, _⟩ := hE1
    generalize r.length = n at *
    have hn1 : ((n : Int) == 0) = false := by simp; omega
    have hn2 : (n == 0) = false := by simp; omega
    go_wp2_with fail
    go_ret
    exact ⟨by rw [HQ.out]; rfl, hb1⟩
end Go.Proofs.YtdhihdiifgcfdaaGreatDoor
