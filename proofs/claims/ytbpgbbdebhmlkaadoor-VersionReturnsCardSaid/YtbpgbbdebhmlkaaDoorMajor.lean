/- Contracts of the lexer's Major and IsPath. -/
import Derived.Test.YtbpgbbdebhmlkaaDoorMajor0
import Derived.Test.YtbpgbbdebhmlkaaDoorPlainSeg
namespace Go.Proofs.YtbpgbbdebhmlkaaDoor
open Go Go.RowKit

theorem Split_any (s : ByteArray) (w : World) (hs : s.size < 4294967281) (hm : MaxOk w) :
    Calls Tryd.prog 22 #[.string s, .string ⟨#[47]⟩] w fun e w' => e = .returned (.slice (some ⟨w.heap.size, 0, none⟩) (segB s).length (segB s).length) ∧ w.alloc (.cells ((segB s).map Value.string).toArray 9) = w' := by
  obtain ⟨m, hm⟩ := hm
  refine (Tryd.strings_Split s ⟨#[47]⟩ m w hs hm (by decide)).mono ?_
  rintro e w' ⟨rfl, rfl⟩
  rw [count_segB, split_segB]
  exact ⟨rfl, rfl⟩

set_option maxHeartbeats 600000 in
theorem Major_any (s : ByteArray) (w : World) (hs : s.size ≤ 1000000) (hm : MaxOk w) :
    Calls Tryd.prog 31 #[.string s] w fun e w' => e = .returned (.tuple #[.int .i64 (majN s), .int .i64 (majE s)]) ∧ Below w.heap.size w w' := by
  have hne := segB_ne s
  have hln := segB_length s
  have hcell : (w.alloc (.cells ((segB s).map Value.string).toArray 9)).cell? ⟨w.heap.size, 0 + ((segB s).length - 1), none⟩ = some (.string (lastB s)) := cells_new w (segB s) _ _ (by omega)
  have hcells := fun i (hi : i < (segB s).length) => cells_new w (segB s) 9 i hi
  have hsz := segB_le s
  have hll := hsz _ (lastB_mem s)
  have hm1 := hm.alloc (.cells ((segB s).map Value.string).toArray 9)
  have hbl : Below w.heap.size w (w.alloc (.cells ((segB s).map Value.string).toArray 9)) := (Below.refl _ w).alloc (Nat.le_refl _) _
  have HP : Hid (pathOk s = (decide (s.size ≤ 64) && (decide (2 ≤ (segB s).length) && (verOk (lastB s) && (segB s).all segOk)))) := Lib.hid rfl
  have HN : Hid (majN s = if pathOk s then verN (lastB s) else 0) := Lib.hid rfl
  have HE : Hid (majE s = if pathOk s then 0 else 4) := Lib.hid rfl
  have HS := Lib.hid (Split_any s w (by omega) hm)
  generalize (w.alloc (.cells ((segB s).map Value.string).toArray 9)) = w1 at *
  generalize lastB s = lb at *
  generalize segB s = sg at *
  have hnum : sg.length ≤ 1000001 := by omega
  have H1 := Lib.hid hcells
  have H2 := Lib.hid hsz
  clear hcells hsz
  simp only [Nat.zero_add] at hcell
  have hlb : lb.size ≤ 140737488351232 := by omega
  cases h1 : verOk lb
  case false =>
    have HT : Hid (pathOk s = false) := Lib.hid (by rw [HP.out, h1]; simp)
    go_enter Tryd.func31, Tryd.ntmps31
    go_wp2_with fail
    refine HS.out.mono ?_
    rintro e w' ⟨rfl, rfl⟩
    go_wp2_with (go_at_call 45; refine (version_any _ _ hlb).mono ?_; rintro e w' ⟨rfl, rfl⟩)
    go_ret2
    exact ⟨ret_ii (by rw [HN.out, HT.out]; rfl) (by rw [HE.out, HT.out]; rfl), hbl⟩
  by_cases h2 : s.size ≤ 64
  case neg =>
    have HT : Hid (pathOk s = false) := Lib.hid (by rw [HP.out, decide_eq_false h2]; rfl)
    go_enter Tryd.func31, Tryd.ntmps31
    go_wp2_with fail
    refine HS.out.mono ?_
    rintro e w' ⟨rfl, rfl⟩
    go_wp2_with (go_at_call 45; refine (version_any _ _ hlb).mono ?_; rintro e w' ⟨rfl, rfl⟩)
    go_ret2
    exact ⟨ret_ii (by rw [HN.out, HT.out]; rfl) (by rw [HE.out, HT.out]; rfl), hbl⟩
  by_cases h3 : 2 ≤ sg.length
  case neg =>
    have HT : Hid (pathOk s = false) := Lib.hid (by rw [HP.out, decide_eq_false h3]; simp)
    go_enter Tryd.func31, Tryd.ntmps31
    go_wp2_with fail
    refine HS.out.mono ?_
    rintro e w' ⟨rfl, rfl⟩
    go_wp2_with (go_at_call 45; refine (version_any _ _ hlb).mono ?_; rintro e w' ⟨rfl, rfl⟩)
    go_ret2
    exact ⟨ret_ii (by rw [HN.out, HT.out]; rfl) (by rw [HE.out, HT.out]; rfl), hbl⟩
  have HT : Hid (pathOk s = sg.all segOk) := Lib.hid (by rw [HP.out, decide_eq_true h2, decide_eq_true h3, h1]; rfl)
  go_enter Tryd.func31, Tryd.ntmps31
  go_wp2_with fail
  refine HS.out.mono ?_
  rintro e w' ⟨rfl, rfl⟩
  go_wp2_with (go_at_call 45; refine (version_any _ _ hlb).mono ?_; rintro e w' ⟨rfl, rfl⟩)
  go_loop [35] (fun i => ∃ k : Nat, k ≤ sg.length ∧ i = .int .i64 k ∧ Hid ((sg.take k).all segOk = true)) (fun i => sg.length - (intOf i).toNat)
  case atStart => exact ⟨0, Nat.zero_le _, rfl, Lib.hid rfl⟩
  case round =>
    obtain ⟨k, hk, rfl, HA⟩ := hrel
    by_cases hlt : k < sg.length
    · obtain ⟨x, hx⟩ : ∃ x, x = sg.getD k ByteArray.empty := ⟨_, rfl⟩
      have hg : sg.getD k ByteArray.empty = sg[k] := by simp [hlt]
      have hck : w1.cell? ⟨w.heap.size, k, none⟩ = some (.string x) := by rw [hx]; simpa using H1.out k hlt
      have hxs : x.size ≤ s.size := by rw [hx, hg]; exact H2.out _ (List.getElem_mem hlt)
      have hxm : x.size ≤ maxLen := by unfold maxLen; omega
      have HX : Hid (x = sg[k]) := Lib.hid (by rw [hx, hg])
      clear hx hg
      cases h4 : nameS x
      · have HF : Hid (pathOk s = false) := Lib.hid (by
          rw [HT.out, List.all_eq_false]
          exact ⟨sg[k], List.getElem_mem hlt, by rw [← HX.out, segOk, h4]; exact Bool.false_ne_true⟩)
        go_wp2_with (first | (go_at_call 46; refine (IsName_any _ _ hxm hm1).mono ?_; rintro e w' ⟨rfl, rfl⟩) | (go_at_call 47; refine (all_pathZ _ _ hxm).mono ?_; rintro e w' ⟨rfl, rfl⟩))
        go_ret2
        exact ⟨ret_ii (by rw [HN.out, HF.out]; rfl) (by rw [HE.out, HF.out]; rfl), hbl⟩
      · cases h5 : allZ pathZ x
        · have HF : Hid (pathOk s = false) := Lib.hid (by
            rw [HT.out, List.all_eq_false]
            exact ⟨sg[k], List.getElem_mem hlt, by rw [← HX.out, segOk, h4, h5]; exact Bool.false_ne_true⟩)
          go_wp2_with (first | (go_at_call 46; refine (IsName_any _ _ hxm hm1).mono ?_; rintro e w' ⟨rfl, rfl⟩) | (go_at_call 47; refine (all_pathZ _ _ hxm).mono ?_; rintro e w' ⟨rfl, rfl⟩))
          go_ret2
          exact ⟨ret_ii (by rw [HN.out, HF.out]; rfl) (by rw [HE.out, HF.out]; rfl), hbl⟩
        · have HO : Hid ((sg.take (k + 1)).all segOk = true) := Lib.hid (by
            rw [List.take_succ_eq_append_getElem hlt, List.all_append, HA.out, ← HX.out]
            simp [segOk, h4, h5])
          go_wp2_with (first | (go_at_call 46; refine (IsName_any _ _ hxm hm1).mono ?_; rintro e w' ⟨rfl, rfl⟩) | (go_at_call 47; refine (all_pathZ _ _ hxm).mono ?_; rintro e w' ⟨rfl, rfl⟩))
          go_round
          case rel => exact ⟨k + 1, by omega, by go_num, HO⟩
          case measure => simp [intOf]; omega
    · obtain rfl : k = sg.length := by omega
      have HO : Hid (pathOk s = true) := Lib.hid (by rw [HT.out]; have := HA.out; rwa [List.take_length] at this)
      go_wp2
      go_ret2
      exact ⟨ret_ii (by rw [HN.out, HO.out]; simp only [verN, h1, if_true]) (by rw [HE.out, HO.out]; rfl), hbl⟩

set_option maxHeartbeats 400000 in
theorem IsPath_any (s : ByteArray) (w : World) (hs : s.size ≤ 1000000) (hm : MaxOk w) :
    Calls Tryd.prog 32 #[.string s] w fun e w' => e = .returned (.bool (pathOk s)) ∧ Below w.heap.size w w' := by
  have HE : Hid (majE s = if pathOk s then 0 else 4) := Lib.hid rfl
  cases h : pathOk s
  all_goals
    rw [h] at HE
    simp only [Bool.false_eq_true, if_false, if_true] at HE
    go_enter Tryd.func32, Tryd.ntmps32
    go_wp2_with fail
    refine (Major_any s w hs hm).mono ?_
    rintro e w' ⟨rfl, hb⟩
    rw [HE.out]
    go_wp2
    go_ret
    exact ⟨rfl, hb⟩
end Go.Proofs.YtbpgbbdebhmlkaaDoor
