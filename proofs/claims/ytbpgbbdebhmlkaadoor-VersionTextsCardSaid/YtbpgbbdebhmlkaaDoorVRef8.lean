/- Contract of the reference's Format. -/
import Derived.Test.YtbpgbbdebhmlkaaDoorVRef5
import Derived.Deep.RegionHeld3
import Derived.Deep.DrawnRows
namespace Go.Proofs.YtbpgbbdebhmlkaaDoor
open Go Go.RowKit
attribute [local go_sem ↓] Go.wp_at_zero Go.wp_at_succ

theorem keep3 {W w' : World} {B : Nat} {a b c : Value} (hz : B < W.heap.size) (e0 : W.cell? ⟨B, 0, none⟩ = some a) (e1 : W.cell? ⟨B, 1, none⟩ = some b) (e2 : W.cell? ⟨B, 2, none⟩ = some c) (h : Below W.heap.size W w') :
    w'.cell? ⟨B, 0, none⟩ = some a ∧ w'.cell? ⟨B, 1, none⟩ = some b ∧ w'.cell? ⟨B, 2, none⟩ = some c := ⟨(h.cell hz).trans e0, (h.cell hz).trans e1, (h.cell hz).trans e2⟩
theorem sz_app (x y : ByteArray) : (x ++ y).size = x.size + y.size := by
  rw [Lib.size_eq, ByteArray.data_append, Array.toList_append, List.length_append, ← Lib.size_eq, ← Lib.size_eq]
set_option maxRecDepth 100000 in
set_option maxHeartbeats 4000000 in
theorem rFormat_any (a b c : Int) (w : World) : Calls Tryd.prog 12 #[.agg #[.int .i64 a, .int .i64 b, .int .i64 c]] w fun e w' =>
    e = .returned (.tuple #[.string ⟨(formatV a b c).1.toArray⟩, .int .i64 (formatV a b c).2]) ∧ Below w.heap.size w w' := by
  by_cases hv : validB a b c = true
  · have HE := Lib.hid (show formatV a b c = (fmtL a b c, 0) by unfold formatV; rw [if_pos hv])
    rw [HE.out]
    obtain ⟨⟨a0, a1⟩, ⟨b0, b1⟩, c0, c1⟩ := valid_le hv
    have HV := Lib.hid (rValid_any a b c)
    rw [hv] at HV
    have HA := Lib.hid (fun W => decimal_any a W a0 a1)
    have HB := Lib.hid (fun W => decimal_any b W b0 b1)
    have HC := Lib.hid (fun W => decimal_any c W c0 c1)
    obtain ⟨sa, hsa⟩ : ∃ s : ByteArray, (⟨(decL a).toArray⟩ : ByteArray) = s := ⟨_, rfl⟩
    obtain ⟨sb, hsb⟩ : ∃ s : ByteArray, (⟨(decL b).toArray⟩ : ByteArray) = s := ⟨_, rfl⟩
    obtain ⟨sc, hsc⟩ : ∃ s : ByteArray, (⟨(decL c).toArray⟩ : ByteArray) = s := ⟨_, rfl⟩
    have l1 : sa.size ≤ 3 := by rw [← hsa, Lib.size_eq]; exact decL_len _ a1
    have l2 : sb.size ≤ 3 := by rw [← hsb, Lib.size_eq]; exact decL_len _ b1
    have l3 : sc.size ≤ 3 := by rw [← hsc, Lib.size_eq]; exact decL_len _ c1
    have HR := Lib.hid (show sa ++ ⟨#[46]⟩ ++ sb ++ ⟨#[46]⟩ ++ sc = (⟨(fmtL a b c).toArray⟩ : ByteArray) from ba_ext (by
      rw [← hsa, ← hsb, ← hsc]; simp only [ByteArray.data_append, Array.toList_append]; simp [fmtL]))
    rw [hsa] at HA
    rw [hsb] at HB
    rw [hsc] at HC
    have d1 : (⟨#[46]⟩ : ByteArray).size = 1 := rfl
    have s1 : (sa ++ (⟨#[46]⟩ : ByteArray)).size = sa.size + 1 := by rw [sz_app, d1]
    have s2 : (sa ++ (⟨#[46]⟩ : ByteArray) ++ sb).size = sa.size + 1 + sb.size := by rw [sz_app, s1]
    have s3 : (sa ++ (⟨#[46]⟩ : ByteArray) ++ sb ++ (⟨#[46]⟩ : ByteArray)).size = sa.size + 1 + sb.size + 1 := by rw [sz_app, s2, d1]
    have n1 : ¬ 9223372036854775807 < sa.size + 1 := by omega
    have n1b : ¬ 9223372036854775806 < sa.size := by omega
    have n2 : ¬ 9223372036854775807 < sa.size + 1 + sb.size := by omega
    have n3 : ¬ 9223372036854775807 < sa.size + 1 + sb.size + 1 := by omega
    have n3b : ¬ 9223372036854775806 < sa.size + 1 + sb.size := by omega
    have n4 : ¬ 9223372036854775807 < sa.size + 1 + sb.size + 1 + sc.size := by omega
    clear hsa hsb hsc
    go_enter Tryd.func12, Tryd.ntmps12
    go_wp2_with fail
    (with_reducible refine (HV.out _).mono ?_)
    rintro e w1 ⟨rfl, rfl⟩
    go_wp2_with fail
    obtain ⟨W, hW⟩ : ∃ W, (w.alloc (.cells #[.int .i64 a, .int .i64 b, .int .i64 c] 23)).alloc (.cells #[.int .i64 a, .int .i64 b, .int .i64 c] 23) = W := ⟨_, rfl⟩
    rw [hW]
    have HB0 : Hid (Below w.heap.size w W) := Lib.hid (by rw [← hW]; exact (by repeat (first | exact Below.refl _ _ | refine Below.drew ?_ | refine Below.alloc ?_ (by simp <;> omega) _ | refine Below.setCell ?_ (by simp <;> omega) _)))
    have e0 : W.cell? ⟨w.heap.size, 0, none⟩ = some (.int .i64 a) := by rw [← hW]; simp [go_sem]
    have e1 : W.cell? ⟨w.heap.size, 1, none⟩ = some (.int .i64 b) := by rw [← hW]; simp [go_sem]
    have e2 : W.cell? ⟨w.heap.size, 2, none⟩ = some (.int .i64 c) := by rw [← hW]; simp [go_sem]
    have hz : w.heap.size < W.heap.size := by rw [← hW]; simp; omega
    clear hW
    have HBC : Hid (Below W.heap.size W W) := Lib.hid (Below.refl _ _)
    have tok1 : True := trivial
    have tok2 : True := trivial
    have tok3 : True := trivial
    go_region_held3 (fun w' => w'.cell? ⟨w.heap.size, 0, none⟩ = some (.int .i64 a) ∧ w'.cell? ⟨w.heap.size, 1, none⟩ = some (.int .i64 b) ∧ w'.cell? ⟨w.heap.size, 2, none⟩ = some (.int .i64 c))
      ((first | (exact keep3 hz e0 e1 e2 HBC.out) | (exact keep3 hz e0 e1 e2 HBC.out.drew)))
      (first | (go_at_call_of 29 (Value.int IntKind.i64 a); refine (HA.out _).mono ?_; rintro e wq ⟨rfl, hbc⟩; (first | (replace HBC := Lib.hid (HBC.out.trans (hbc.mono HBC.out.size))) | (replace HBC := Lib.hid (HBC.out.drew.trans (hbc.mono HBC.out.size)))); clear hbc)
             | (go_at_call_of 29 (Value.int IntKind.i64 b); refine (HB.out _).mono ?_; rintro e wq ⟨rfl, hbc⟩; (first | (replace HBC := Lib.hid (HBC.out.trans (hbc.mono HBC.out.size))) | (replace HBC := Lib.hid (HBC.out.drew.trans (hbc.mono HBC.out.size)))); clear hbc)
             | (go_at_call_of 29 (Value.int IntKind.i64 c); refine (HC.out _).mono ?_; rintro e wq ⟨rfl, hbc⟩; (first | (replace HBC := Lib.hid (HBC.out.trans (hbc.mono HBC.out.size))) | (replace HBC := Lib.hid (HBC.out.drew.trans (hbc.mono HBC.out.size)))); clear hbc))
    all_goals
      go_wp2_with fail
      go_ret2
      exact ⟨by rw [← HR.out]; rfl, HB0.out.trans (HBC.out.mono HB0.out.size)⟩
  · have hv : validB a b c = false := by simpa using hv
    have HE := Lib.hid (show formatV a b c = ([], 2) by unfold formatV; rw [hv]; rfl)
    rw [HE.out]
    have HV := Lib.hid (rValid_any a b c)
    rw [hv] at HV
    go_enter Tryd.func12, Tryd.ntmps12
    go_wp2_with fail
    (with_reducible refine (HV.out _).mono ?_)
    rintro e w1 ⟨rfl, rfl⟩
    go_wp2_with fail
    go_ret2
    exact ⟨rfl, (by repeat (first | exact Below.refl _ _ | refine Below.drew ?_ | refine Below.alloc ?_ (by simp <;> omega) _ | refine Below.setCell ?_ (by simp <;> omega) _))⟩
end Go.Proofs.YtbpgbbdebhmlkaaDoor
