/- The statement on lines: its walk. -/
import Derived.Test.YtmlfoffahfbalaaDoorAwake
namespace Go.Proofs.YtmlfoffahfbalaaDoor
open Go Go.RowKit

set_option maxHeartbeats 1000000 in
theorem LexerLines_any (s : ByteArray) (o : Int) (ho : 0 ≤ o) (ho2 : o < 65536) (w : World) (hm : MaxOk w) : Calls Tryd.prog 10 #[.string s, .int .u16 o] w fun e w' => e = .returned (.bool true) ∧ Below w.heap.size w w' := by
  have HA := Lib.hid (awake_any w hm)
  by_cases h : 1000 < s.size
  · have h2 : 1000 < (s.size : Int) := by omega
    go_enter Tryd.func10, Tryd.ntmps10
    go_wp2_with fail
    refine HA.out.mono ?_
    rintro e w1 ⟨rfl, hb⟩
    go_wp2_with fail
    go_ret
    exact ⟨rfl, hb⟩
  · have h2 : ¬ 1000 < (s.size : Int) := by omega
    obtain ⟨k, hk⟩ : ∃ k : Nat, o % ((s.size : Int) + 1) = k := ⟨(o % ((s.size : Int) + 1)).toNat, by have := Int.emod_nonneg o (b := (s.size : Int) + 1) (by omega); omega⟩
    have hks : k ≤ s.size := by have := Int.emod_lt_of_pos o (b := (s.size : Int) + 1) (by omega); omega
    obtain ⟨hd, hhd⟩ : ∃ hd, s.extract 0 k = hd := ⟨_, rfl⟩
    have hdl : hd.data.toList = s.data.toList.take k := by rw [← hhd, Lib.extract_data]; simp
    have hds : hd.size = k := by rw [← hhd, ByteArray.size_extract]; omega
    have HP : Hid (headS s (k : Int) = hd.data.toList) := Lib.hid (by rw [hdl]; unfold headS clampS; congr 1; omega)
    have HL : Hid (lineL hd.data.toList = 1 + Lib.countByte hd.data.toList 10) := Lib.hid rfl
    have HC := Lib.hid (col_code hd)
    have hcr := colL_pos hd.data.toList
    have hlr := count_le hd.data.toList 10
    have hcn : (0 : Int) ≤ Lib.countByte hd.data.toList 10 := by unfold Lib.countByte; omega
    rw [← Lib.size_eq, hds] at hcr hlr
    go_enter Tryd.func10, Tryd.ntmps10
    go_wp2_with fail
    refine HA.out.mono ?_
    rintro e w1 ⟨rfl, hb⟩
    go_wp2_with fail
    refine (Position_any s _ w1 (by omega)).mono ?_
    rintro e w2 ⟨rfl, rfl⟩
    rw [hk, HP.out]
    rw [HL.out]
    obtain ⟨cn, hcn2⟩ : ∃ cn, Lib.countByte hd.data.toList 10 = cn := ⟨_, rfl⟩
    obtain ⟨cl, hcl⟩ : ∃ cl, colL hd.data.toList = cl := ⟨_, rfl⟩
    rw [hcl] at hcr HC ⊢
    rw [hcn2] at hcn hlr ⊢
    have HCN := Lib.hid hcn2
    have HLI : Hid ((Lib.lastIndexByte hd 10 : Int) = k - cl) := Lib.hid (by have := HC.out; rw [hds] at this; omega)
    have hsz : hd.size < 4611686018427387904 := by omega
    have H8 := Lib.hid (LastIndexByte_any hd 10 hsz w1)
    clear hcn2 hcl hdl hds HC hsz HL HP
    go_wp2_with fail
    refine (Count_any hd 10 w1).mono ?_
    rintro e w2 ⟨rfl, rfl⟩
    rw [HCN.out]
    go_wp2_with fail
    refine H8.out.mono ?_
    rintro e w2 ⟨rfl, rfl⟩
    rw [HLI.out]
    go_wp2_with fail
    go_ret
    refine ⟨?_, hb⟩
    congr 2
    simp
    omega
end Go.Proofs.YtmlfoffahfbalaaDoor
