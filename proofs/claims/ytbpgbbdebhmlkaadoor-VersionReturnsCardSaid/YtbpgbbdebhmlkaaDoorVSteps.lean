/- The statement on steps: its walk. -/
import Derived.Test.YtbpgbbdebhmlkaaDoorVAwake
import Derived.Test.YtbpgbbdebhmlkaaDoorVPlainNum
namespace Go.Proofs.YtbpgbbdebhmlkaaDoor
open Go Go.RowKit

theorem AwS.start (w : World) : AwS w w [] := ⟨Below.refl _ _, fun x hx => by cases hx⟩
set_option maxRecDepth 100000 in
set_option maxHeartbeats 8000000 in
theorem VersionSteps_any (a0 a1 a2 b0 b1 b2 c0 c1 c2 m n : Int) (w : World) (hm : EnvOk w) :
    Calls Tryd.prog 7 #[.agg #[.int .i64 a0, .int .i64 a1, .int .i64 a2], .agg #[.int .i64 b0, .int .i64 b1, .int .i64 b2], .agg #[.int .i64 c0, .int .i64 c1, .int .i64 c2], .int .i64 m, .int .i64 n] w fun e w' => e = .returned (.bool true) ∧ Below w.heap.size w w' := by
  have HS0 : Hid (AwS w (((w.alloc (.cells #[.int .i64 a0, .int .i64 a1, .int .i64 a2] 23)).alloc (.cells #[.int .i64 b0, .int .i64 b1, .int .i64 b2] 23)).alloc (.cells #[.int .i64 c0, .int .i64 c1, .int .i64 c2] 23)) [(w.heap.size + 1 + 1, (c0, c1, c2)), (w.heap.size + 1, (b0, b1, b2)), (w.heap.size, (a0, a1, a2))]) := Lib.hid (by
    have := (((AwS.start w).box a0 a1 a2).box b0 b1 b2).box c0 c1 c2
    simp only [World.size_alloc] at this; exact this)
  have HA := Lib.hid (awake_any _ (hm.below HS0.out.1))
  clear hm
  obtain ⟨r, hr⟩ : ∃ r, permitsV a0 a1 a2 b0 b1 b2 m = r := ⟨_, rfl⟩
  have HP := Lib.hid (fun W => Permits_any a0 a1 a2 b0 b1 b2 m W)
  have HQ := Lib.hid (fun W => Permits_any b0 b1 b2 c0 c1 c2 n W)
  rw [hr] at HP
  cases r with
  | false =>
    clear hr
    go_enter Tryd.func7, Tryd.ntmps7
    go_wp2_with fail
    (with_reducible refine HA.out.mono ?_)
    rintro e w1 ⟨rfl, hb1⟩
    have HS1 := Lib.hid (HS0.out.below hb1)
    obtain ⟨d0, d1, d2⟩ := HS1.out.get 2 w.heap.size a0 a1 a2 rfl
    obtain ⟨d3, d4, d5⟩ := HS1.out.get 1 (w.heap.size + 1) b0 b1 b2 rfl
    clear hb1
    go_wp2_with fail
    (with_reducible refine (HP.out _).mono ?_)
    rintro e w2 ⟨rfl, hb2⟩
    have HS2 := Lib.hid (HS1.out.below hb2)
    clear hb2
    go_wp2_with fail
    go_ret
    exact ⟨rfl, HS2.out.1⟩
  | true =>
    obtain ⟨-, ⟨hm0, hm2⟩, -⟩ := (permits_iff _ _ _ _ _ _ _).1 hr
    obtain ⟨M, rfl⟩ : ∃ M : Nat, m = M := ⟨m.toNat, by omega⟩
    have HR := Lib.hid hr
    clear hr
    have HK := Lib.hid (fun (k : Nat) (hk : k ≤ M) => permits_less a0 a1 a2 b0 b1 b2 k M HR.out (by omega) (by omega))
    have hm3 : (M : Int) ≤ 2 := hm2
    have hm4 : M ≤ 2 := by omega
    go_enter Tryd.func7, Tryd.ntmps7
    go_wp2_with fail
    (with_reducible refine HA.out.mono ?_)
    rintro e w1 ⟨rfl, hb1⟩
    have HS1 := Lib.hid (HS0.out.below hb1)
    obtain ⟨d0, d1, d2⟩ := HS1.out.get 2 w.heap.size a0 a1 a2 rfl
    obtain ⟨d3, d4, d5⟩ := HS1.out.get 1 (w.heap.size + 1) b0 b1 b2 rfl
    clear hb1
    go_wp2_with fail
    (with_reducible refine (HP.out _).mono ?_)
    rintro e w2 ⟨rfl, hb2⟩
    have HS2 := Lib.hid (HS1.out.below hb2)
    clear hb2 d0 d1 d2 d3 d4 d5
    go_wp2_with fail
    go_loopw [11] (fun i wr => ∃ k : Nat, k ≤ M + 1 ∧ i = .int .i64 k ∧ Hid (AwS w wr [(w.heap.size + 1 + 1, (c0, c1, c2)), (w.heap.size + 1, (b0, b1, b2)), (w.heap.size, (a0, a1, a2))])) (fun i _ => M + 1 - (intOf i).toNat)
    case atStart => exact ⟨0, by omega, rfl, HS2⟩
    case round =>
      clear HS2 HS1 HS0
      obtain ⟨k, hk, rfl, HS⟩ := hrel
      obtain ⟨d0, d1, d2⟩ := HS.out.get 2 w.heap.size a0 a1 a2 rfl
      obtain ⟨d3, d4, d5⟩ := HS.out.get 1 (w.heap.size + 1) b0 b1 b2 rfl
      obtain ⟨d6, d7, d8⟩ := HS.out.get 0 (w.heap.size + 1 + 1) c0 c1 c2 rfl
      by_cases hlt : k ≤ M
      · have hl1 : (k : Int) ≤ M := by omega
        have hl2 : (k : Int) ≤ 2 := by omega
        have HPK := Lib.hid (fun W => Permits_any a0 a1 a2 b0 b1 b2 k W)
        rw [HK.out k hlt] at HPK
        go_wp2_with fail
        (with_reducible refine (HPK.out _).mono ?_)
        rintro e w3 ⟨rfl, hb3⟩
        have HS3 := Lib.hid (HS.out.below hb3)
        clear hb3
        go_wp2_with fail
        go_roundw
        case rel => exact ⟨k + 1, by omega, by go_num, HS3⟩
        case measure => simp [intOf]; omega
      · have hl1 : ¬ (k : Int) ≤ M := by omega
        obtain ⟨r2, hr2⟩ : ∃ r, permitsV b0 b1 b2 c0 c1 c2 n = r := ⟨_, rfl⟩
        rw [hr2] at HQ
        cases r2 with
        | false =>
          clear hr2
          go_wp2_with fail
          (with_reducible refine (HQ.out _).mono ?_)
          rintro e w3 ⟨rfl, hb3⟩
          have HS3 := Lib.hid (HS.out.below hb3)
          clear hb3
          go_wp2_with fail
          go_ret
          exact ⟨rfl, HS3.out.1⟩
        | true =>
          have HT := Lib.hid (permits_trans _ _ _ _ _ _ _ _ _ _ _ HR.out hr2)
          have HPT := Lib.hid (fun W => Permits_any a0 a1 a2 c0 c1 c2 (max (M : Int) n) W)
          rw [HT.out] at HPT
          clear hr2
          go_wp2_with fail
          (with_reducible refine (HQ.out _).mono ?_)
          rintro e w3 ⟨rfl, hb3⟩
          have HS3 := Lib.hid (HS.out.below hb3)
          clear hb3 d0 d1 d2 d3 d4 d5 d6 d7 d8
          obtain ⟨d0, d1, d2⟩ := HS3.out.get 2 w.heap.size a0 a1 a2 rfl
          obtain ⟨d6, d7, d8⟩ := HS3.out.get 0 (w.heap.size + 1 + 1) c0 c1 c2 rfl
          go_wp2_with fail
          (with_reducible refine (HPT.out _).mono ?_)
          rintro e w4 ⟨rfl, hb4⟩
          have HS4 := Lib.hid (HS3.out.below hb4)
          clear hb4
          go_wp2_with fail
          go_ret
          exact ⟨rfl, HS4.out.1⟩
end Go.Proofs.YtbpgbbdebhmlkaaDoor
