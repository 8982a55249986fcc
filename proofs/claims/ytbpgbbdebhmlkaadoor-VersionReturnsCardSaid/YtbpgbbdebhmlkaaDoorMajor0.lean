/- Contract of the reference's major version of a segment. -/
import Derived.Test.YtbpgbbdebhmlkaaDoorVersion
namespace Go.Proofs.YtbpgbbdebhmlkaaDoor
open Go Go.RowKit

def majZ (s : ByteArray) : Int := if verOk s then verN s else -1
theorem majZ_no {s : ByteArray} (h : verOk s = false) : majZ s = -1 := by unfold majZ; rw [h]; rfl

theorem tail_step (s : ByteArray) (k : Nat) (h1 : 1 ≤ k) (h : k < s.size) : (s.data.toList.drop 1).take (k + 1 - 1) = (s.data.toList.drop 1).take (k - 1) ++ [s[k]] := by
  have e : k + 1 - 1 = (k - 1) + 1 := by omega
  rw [e, List.take_succ_eq_append_getElem (by simp; omega), List.getElem_drop]
  congr 2
  have : 1 + (k - 1) = k := by omega
  simp only [this]; rfl
theorem tail_get (s : ByteArray) (h : 1 < s.size) : headZ (tailS s) = (s[1].toNat : Int) := by
  have hl : (tailS s).data.toList = s[1] :: (s.data.toList.drop 2) := by
    rw [tailS_data]
    have := List.drop_eq_getElem_cons (l := s.data.toList) (i := 1) (by rw [← Lib.size_eq]; exact h)
    rw [this]; rfl
  rw [headZ_cons _ _ _ hl]

end Go.Proofs.YtbpgbbdebhmlkaaDoor
