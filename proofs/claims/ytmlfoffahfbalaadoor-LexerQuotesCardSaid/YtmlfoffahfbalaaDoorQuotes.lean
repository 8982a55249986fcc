/- The statement on literals: its walk. -/
import Derived.Test.YtmlfoffahfbalaaDoorAwake
import Derived.Test.YtmlfoffahfbalaaDoorPlainBack
namespace Go.Proofs.YtmlfoffahfbalaaDoor
open Go Go.RowKit

set_option maxRecDepth 100000 in
set_option maxHeartbeats 2000000 in
theorem LexerQuotes_any (s : ByteArray) (w : World) (hm : MaxOk w) : Calls Tryd.prog 6 #[.string s] w fun e w' => e = .returned (.bool true) ∧ Below w.heap.size w w' := by
  have HA := Lib.hid (awake_any w hm)
  by_cases h : 1000 < s.size
  · have h2 : 1000 < (s.size : Int) := by omega
    go_enter Tryd.func6, Tryd.ntmps6
    go_wp2_with fail
    refine HA.out.mono ?_
    rintro e w1 ⟨rfl, hb⟩
    go_wp2_with fail
    go_ret
    exact ⟨rfl, hb⟩
  · have h2 : ¬ 1000 < (s.size : Int) := by omega
    obtain ⟨q, hq⟩ : ∃ q : ByteArray, (⟨(quoteL s.data.toList).toArray⟩ : ByteArray) = q := ⟨_, rfl⟩
    have hqd : q.data.toList = quoteL s.data.toList := by rw [← hq]
    have hql : q.size ≤ 4002 := by
      rw [Lib.size_eq, hqd, quote_len]
      have := flat_len s.data.toList
      rw [← Lib.size_eq] at this
      omega
    have hrange : ∀ k (hk : k < q.size), 32 ≤ (q[k]).toNat ∧ (q[k]).toNat ≤ 126 := fun k hk => by
      have : q[k] = q.data.toList[k]'(by rw [← Lib.size_eq]; exact hk) := by simp; rfl
      rw [this]
      exact quote_range s.data.toList _ (by rw [← hqd]; exact List.getElem_mem _)
    obtain ⟨p, hp⟩ : ∃ p : ByteArray, (⟨#[32]⟩ ++ q : ByteArray) = p := ⟨_, rfl⟩
    have hpd : p.data.toList = 32 :: quoteL s.data.toList := by rw [← hp, ByteArray.data_append]; simp [← hqd]
    have hps : p.size = q.size + 1 := by rw [Lib.size_eq, hpd, ← hqd, List.length_cons, ← Lib.size_eq]
    obtain ⟨n, hlx⟩ := lex_quote s.data.toList p hpd (by omega)
    have HQ := Lib.hid hq
    have HP := Lib.hid hp
    have HL := Lib.hid hlx
    have HR := Lib.hid hrange
    have hadd : ¬ 9223372036854775807 < (⟨#[32]⟩ : ByteArray).size + q.size := by have : (⟨#[32]⟩ : ByteArray).size = 1 := rfl; omega
    have hadd2 : ¬ 9223372036854775807 < 1 + q.size := by omega
    clear hq hqd hp hpd hps hlx hrange
    go_enter Tryd.func6, Tryd.ntmps6
    go_wp2_with fail
    refine HA.out.mono ?_
    rintro e w1 ⟨rfl, hb⟩
    have hm1 := hm.below hb hm.pos
    have HB := Lib.hid hb
    clear hb
    go_wp2_with fail
    refine (Quote_any s w1 (by omega)).mono ?_
    rintro e w2 ⟨rfl, hb2⟩
    have hm2 := hm1.below hb2 hm1.pos
    have HB2 := Lib.hid (HB.out.trans (hb2.mono HB.out.size))
    clear hb2
    rw [HQ.out]
    go_wp2_with fail
    go_loop [17] (fun i => ∃ k : Nat, k ≤ q.size ∧ i = .int .i64 k) (fun i => q.size - (intOf i).toNat)
    case atStart => exact ⟨0, Nat.zero_le _, rfl⟩
    case round =>
      obtain ⟨k, hk, rfl⟩ := hrel
      by_cases hlt : k < q.size
      · have hr := HR.out k hlt
        have hr1 : ¬ ((q[k]).toNat : Int) < 32 := by omega
        have hr2 : ¬ 126 < ((q[k]).toNat : Int) := by omega
        clear hr
        go_wp2_with fail
        go_round
        case rel => exact ⟨k + 1, by omega, by go_num⟩
        case measure => simp [intOf]; omega
      · obtain rfl : k = q.size := by omega
        go_wp2_with fail
        rw [HP.out]
        refine (Lex_any p w2 hm2).mono ?_
        rintro e w3 ⟨v, rfl, hv, -, hb3⟩
        have HB3 := Lib.hid (HB2.out.trans (hb3.mono HB2.out.size))
        clear hb3
        rw [HL.out] at hv ⊢
        obtain ⟨g, cap, rfl⟩ := hv.shape (Nat.succ_pos _)
        obtain ⟨c1, c2, c3⟩ := hv.tok 0 (4, s.data.toList, 1) rfl
        rw [show (⟨s.data.toList.toArray⟩ : ByteArray) = s by cases s; simp] at c2
        clear hv
        simp only [Nat.reduceMul, Nat.reduceAdd, List.length_cons, List.length_nil] at c1 c2 c3 ⊢
        go_wp2_with fail
        go_ret
        exact ⟨rfl, HB3.out⟩
end Go.Proofs.YtmlfoffahfbalaaDoor
