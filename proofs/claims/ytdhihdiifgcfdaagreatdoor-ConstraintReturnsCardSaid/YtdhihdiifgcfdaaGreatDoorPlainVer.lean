/- Plain facts on the major version of a segment. -/
import Derived.Test.YtdhihdiifgcfdaaGreatDoorPlain
namespace Go.Proofs.YtdhihdiifgcfdaaGreatDoor
open Go

def valL (l : List UInt8) : Int := l.foldl (fun n b => 10 * n + ((b.toNat : Int) - 48)) 0
theorem valL_snoc (l : List UInt8) (b : UInt8) : valL (l ++ [b]) = 10 * valL l + ((b.toNat : Int) - 48) := by unfold valL; rw [List.foldl_append]; rfl
theorem valL_lt (l : List UInt8) (h : ∀ b ∈ l, digitZ b.toNat = true) : 0 ≤ valL l ∧ valL l < 10 ^ l.length := by
  rcases List.eq_nil_or_concat l with rfl | ⟨m, b, rfl⟩
  · simp [valL]
  · rw [List.concat_eq_append] at *
    have ih := valL_lt m (fun x hx => h x (by simp [hx]))
    have hb := h b (by simp)
    simp only [digitZ, Bool.and_eq_true, decide_eq_true_eq] at hb
    rw [valL_snoc, List.length_append, List.length_singleton, Int.pow_succ]
    omega
termination_by l.length
decreasing_by subst_vars; simp

/-- what stands behind the first byte. -/
def tailS (s : ByteArray) : ByteArray := ⟨(s.data.toList.drop 1).toArray⟩
def okR (r : ByteArray) : Bool := decide (1 ≤ r.size) && (decide (r.size ≤ 3) && (!(decide (1 < r.size) && headZ r == 48) && allZ digitZ r))
def verOk (s : ByteArray) : Bool := headZ s == 118 && okR (tailS s)
def verN (s : ByteArray) : Int := if verOk s then valL (s.data.toList.drop 1) else 0
theorem tailS_data (s : ByteArray) : (tailS s).data.toList = s.data.toList.drop 1 := by simp [tailS]
theorem tailS_size (s : ByteArray) : (tailS s).size = s.size - 1 := by rw [Lib.size_eq, tailS_data, List.length_drop, ← Lib.size_eq]
theorem headZ_cons (s : ByteArray) (b : UInt8) (l : List UInt8) (h : s.data.toList = b :: l) : headZ s = b.toNat := by
  have hs : 0 < s.size := by rw [Lib.size_eq, h]; simp
  rw [headZ_eq s hs]
  have : s[0] = s.data.toList[0]'(by rw [← Lib.size_eq]; exact hs) := by simp; rfl
  rw [this]; simp only [h]; rfl
theorem headZ_nil (s : ByteArray) (h : s.size = 0) : headZ s = 0 := by unfold headZ; rw [dif_neg (by omega)]
theorem prefix_v (s : ByteArray) : Lib.hasPrefix s.data.toList [118] = (headZ s == 118) := by
  cases h : s.data.toList with
  | nil => rw [headZ_nil s (by rw [Lib.size_eq, h]; rfl)]; rfl
  | cons b l =>
    rw [headZ_cons s b l h]
    simp only [Lib.hasPrefix, List.isPrefixOf, Bool.and_true]
    rw [Bool.eq_iff_iff, beq_iff_eq, beq_iff_eq]
    constructor
    · intro e; rw [← e]; rfl
    · intro e; exact UInt8.toNat_inj.1 (by have : ((118 : UInt8).toNat) = 118 := rfl; omega)
theorem trim_v (s : ByteArray) (h : headZ s = 118) : (⟨(Lib.trimPrefix s.data.toList [118]).toArray⟩ : ByteArray) = tailS s := by
  have h2 : Lib.hasPrefix s.data.toList [118] = true := by rw [prefix_v, h]; rfl
  unfold Lib.trimPrefix tailS
  rw [if_pos h2]; rfl
theorem trim_no (s : ByteArray) (h : ¬ headZ s = 118) : (⟨(Lib.trimPrefix s.data.toList [118]).toArray⟩ : ByteArray) = s := by
  have h2 : Lib.hasPrefix s.data.toList [118] = false := by rw [prefix_v]; simpa using h
  unfold Lib.trimPrefix
  rw [if_neg (by rw [h2]; exact Bool.false_ne_true)]
end Go.Proofs.YtdhihdiifgcfdaaGreatDoor
