/- Contracts of Keywords, Symbols, Has. -/
import Derived.Test.YtbpgbbdebhmlkaaGreatDoorLoops
namespace Go.Proofs.YtbpgbbdebhmlkaaGreatDoor
open Go Go.RowKit

set_option maxHeartbeats 400000 in
theorem has_any (b off n cap : Nat) (ss : List ByteArray) (s : ByteArray) (w : World) (hn : n = ss.length) (hm : n ≤ 9223372036854775807)
    (hc : ∀ i, i < n → w.cell? ⟨b, off + i, none⟩ = some (.string (ss.getD i ByteArray.empty))) :
    Calls Tryz.prog 84 #[.slice (some ⟨b, off, none⟩) n cap, .string s] w fun e w' => e = .returned (.bool (ss.any fun x => x.toList == s.toList)) ∧ w = w' := by
  have HN := Lib.hid hn; clear hn
  go_enter Tryz.func84, Tryz.ntmps84
  go_wp2
  go_loop [5] (fun i => ∃ k : Nat, k ≤ n ∧ i = .int .i64 k ∧ Hid ((ss.take k).any (fun x => x.toList == s.toList) = false)) (fun i => n - (intOf i).toNat)
  case atStart => exact ⟨0, Nat.zero_le _, rfl, Lib.hid rfl⟩
  case round =>
    obtain ⟨k, hk, rfl, HA⟩ := hrel
    by_cases hlt : k < n
    · obtain ⟨x, hx⟩ : ∃ x, x = ss.getD k ByteArray.empty := ⟨_, rfl⟩
      have hcx : w.cell? ⟨b, off + k, none⟩ = some (.string x) := by rw [hx]; exact hc k hlt
      have HX := Lib.hid hx; clear hx hc
      cases hb : (x.toList == s.toList)
      · go_wp2
        go_round
        case rel => exact ⟨k + 1, by omega, by go_num, Lib.hid (any_take ss s k (by rw [← HN.out]; exact hlt) HA.out (by rw [← HX.out]; exact hb))⟩
        case measure => simp [intOf]; omega
      · go_wp2
        go_ret
        exact ⟨ret_bool (any_hit ss s k (by rw [← HN.out]; exact hlt) (by rw [← HX.out]; exact hb)).symm, rfl⟩
    · go_wp2
      go_ret
      exact ⟨ret_bool (any_done ss s k (by rw [← HN.out]; omega) HA.out).symm, rfl⟩

/-- a row of a new block, as a list of strings. -/
theorem cells_new (w : World) (ss : List ByteArray) (t : TypeId) (i : Nat) (h : i < ss.length) :
    (w.alloc (.cells (ss.map Value.string).toArray t)).cell? ⟨w.heap.size, 0 + i, none⟩ = some (.string (ss.getD i ByteArray.empty)) := by
  rw [World.cell?_alloc_at _ _ _ _ rfl]
  simp [h]

set_option maxHeartbeats 400000 in
theorem keywords_any (w : World) :
    Calls Tryz.prog 85 #[] w fun e w' => e = .returned (.slice (some ⟨w.heap.size, 0, none⟩) 28 28) ∧ w.alloc (.cells (kwList.map Value.string).toArray 9) = w' := by
  go_enter Tryz.func85, Tryz.ntmps85
  go_wp2
  go_ret
  exact ⟨rfl, by simp [kwList]⟩

end Go.Proofs.YtbpgbbdebhmlkaaGreatDoor
