/- Contract of the reference's decimal. -/
import Derived.Test.YtbpgbbdebhmlkaaGreatDoorVRef1
import Derived.Test.YtbpgbbdebhmlkaaGreatDoorVFormat
import Derived.Test.YtbpgbbdebhmlkaaGreatDoorPlainSeg
namespace Go.Proofs.YtbpgbbdebhmlkaaGreatDoor
open Go Go.RowKit

theorem dec_one (n : Int) (h0 : 0 ≤ n) (h : n < 10) : decL n = [UInt8.ofNat (48 + n.toNat)] := by unfold decL; rw [Lib.decDigits, dif_pos (by omega)]
theorem dec_more (n : Int) (h : 10 ≤ n) : decL n = decL (n / 10) ++ decL (n % 10) := by
  rw [dec_one (n % 10) (by omega) (by omega)]
  unfold decL
  rw [Lib.decDigits, dif_neg (by omega), show (n / 10).toNat = n.toNat / 10 by omega, show (n % 10).toNat = n.toNat % 10 by omega]
set_option maxRecDepth 100000 in
set_option maxHeartbeats 2000000 in
theorem rdec_one (n : Int) (w : World) (h0 : 0 ≤ n) (h : n < 10) : Calls Tryz.prog 35 #[.int .i64 n] w fun e w' => e = .returned (.string ⟨(decL n).toArray⟩) ∧ Below w.heap.size w w' := by
  have HE := Lib.hid (dec_one n h0 h)
  obtain ⟨b, hb⟩ : ∃ b : UInt8, UInt8.ofNat (48 + n.toNat) = b := ⟨_, rfl⟩
  have hbn : (b.toNat : Int) = 48 + n := by rw [← hb, UInt8.toNat_ofNat']; omega
  have hconv : (convert 71 9 (.slice (some ⟨w.heap.size, 0, none⟩) 1 1)).run Tryz.prog (w.alloc (.cells #[.int .u8 (48 + n)] 5)) = .ok (.string ⟨#[b]⟩) (w.alloc (.cells #[.int .u8 (48 + n)] 5)) := by
    rw [← hbn]
    exact conv_own 0 _ [b] _ (Lib.hid (Mine.new 5 1 0 1 [.int .u8 b.toNat] _ w (Nat.zero_le _) rfl rfl (by decide)).out)
  have HB := Lib.hid hb
  clear hb hbn
  go_enter Tryz.func35, Tryz.ntmps35
  go_wp2_with fail
  go_ret
  exact ⟨by rw [HE.out, HB.out]; rfl, (Below.refl _ _).alloc (Nat.le_refl _) _⟩
theorem ret_str {a b : ByteArray} (h : a = b) : Ending.returned (.string a) = Ending.returned (.string b) := by rw [h]
set_option maxRecDepth 100000 in
set_option maxHeartbeats 2000000 in
theorem rdec_step (N : Int) (hN : N ≤ 1000) (hN2 : 10 ≤ N) (H : ∀ (m : Int) (W : World), 0 ≤ m → m < N → Calls Tryz.prog 35 #[.int .i64 m] W fun e w' => e = .returned (.string ⟨(decL m).toArray⟩) ∧ Below W.heap.size W w')
    (n : Int) (w : World) (h0 : 10 ≤ n) (h : n < 10 * N) (h2 : n ≤ 999) : Calls Tryz.prog 35 #[.int .i64 n] w fun e w' => e = .returned (.string ⟨(decL n).toArray⟩) ∧ Below w.heap.size w w' := by
  have HE := Lib.hid (dec_more n h0)
  have HA := Lib.hid (fun W => H (n / 10) W (by omega) (by omega))
  have HB := Lib.hid (fun W => H (n % 10) W (by omega) (by omega))
  obtain ⟨sa, hsa⟩ : ∃ s : ByteArray, (⟨(decL (n / 10)).toArray⟩ : ByteArray) = s := ⟨_, rfl⟩
  obtain ⟨sb, hsb⟩ : ∃ s : ByteArray, (⟨(decL (n % 10)).toArray⟩ : ByteArray) = s := ⟨_, rfl⟩
  have l1 : sa.size ≤ 3 := by rw [← hsa, Lib.size_eq]; exact decL_len _ (by omega)
  have l2 : sb.size ≤ 3 := by rw [← hsb, Lib.size_eq]; exact decL_len _ (by omega)
  have HR := Lib.hid (show (⟨(decL n).toArray⟩ : ByteArray) = sa ++ sb from ba_ext (by
    rw [HE.out, ByteArray.data_append, Array.toList_append, ← hsa, ← hsb]))
  rw [hsa] at HA
  rw [hsb] at HB
  have hno : ¬ 9223372036854775807 < sa.size + sb.size := by omega
  have g0 : ¬ n < 10 := by omega
  have g1 : 0 ≤ n := by omega
  clear hsa hsb H
  go_enter Tryz.func35, Tryz.ntmps35
  go_wp2_with fail
  (with_reducible refine (HA.out _).mono ?_)
  rintro e w1 ⟨rfl, hb1⟩
  have HB1 := Lib.hid hb1
  clear hb1
  go_wp2_with fail
  (with_reducible refine (HB.out _).mono ?_)
  rintro e w2 ⟨rfl, hb2⟩
  have HB2 : Hid (Below w.heap.size w w2) := Lib.hid (HB1.out.trans (hb2.mono HB1.out.size))
  clear hb2
  go_wp2_with fail
  go_ret
  exact ⟨(ret_str HR.out).symm ▸ rfl, HB2.out⟩
theorem decimal_any (n : Int) (w : World) (h0 : 0 ≤ n) (h1 : n ≤ 999) : Calls Tryz.prog 35 #[.int .i64 n] w fun e w' => e = .returned (.string ⟨(decL n).toArray⟩) ∧ Below w.heap.size w w' := by
  have H1 : ∀ (m : Int) (W : World), 0 ≤ m → m < 10 → Calls Tryz.prog 35 #[.int .i64 m] W fun e w' => e = .returned (.string ⟨(decL m).toArray⟩) ∧ Below W.heap.size W w' := fun m W a b => rdec_one m W a b
  have H2 : ∀ (m : Int) (W : World), 0 ≤ m → m < 100 → Calls Tryz.prog 35 #[.int .i64 m] W fun e w' => e = .returned (.string ⟨(decL m).toArray⟩) ∧ Below W.heap.size W w' := fun m W a b => by
    by_cases hm : m < 10
    · exact H1 m W a hm
    · exact rdec_step 10 (by omega) (by omega) H1 m W (by omega) (by omega) (by omega)
  by_cases hm : n < 100
  · exact H2 n w h0 hm
  · exact rdec_step 100 (by omega) (by omega) H2 n w (by omega) (by omega) h1
end Go.Proofs.YtbpgbbdebhmlkaaGreatDoor
