/- The statement on the order of numbers: its walk. -/
import Derived.Test.YtbpgbbdebhmlkaaDoorVSteps
import Derived.Test.YtbpgbbdebhmlkaaDoorVPlainMax
namespace Go.Proofs.YtbpgbbdebhmlkaaDoor
open Go Go.RowKit
attribute [local go_sem ↓] Go.wp_at_zero Go.wp_at_succ

theorem keep9 {w0 W w' : World} {B1 B2 B3 : Nat} {a b c : V3} (h : AwS w0 W [(B1, a), (B2, b), (B3, c)]) (hb : Below W.heap.size W w') :
    w'.cell? ⟨B3, 0, none⟩ = some (.int .i64 c.1) ∧ w'.cell? ⟨B3, 1, none⟩ = some (.int .i64 c.2.1) ∧ w'.cell? ⟨B3, 2, none⟩ = some (.int .i64 c.2.2) ∧
    w'.cell? ⟨B2, 0, none⟩ = some (.int .i64 b.1) ∧ w'.cell? ⟨B2, 1, none⟩ = some (.int .i64 b.2.1) ∧ w'.cell? ⟨B2, 2, none⟩ = some (.int .i64 b.2.2) ∧
    w'.cell? ⟨B1, 0, none⟩ = some (.int .i64 a.1) ∧ w'.cell? ⟨B1, 1, none⟩ = some (.int .i64 a.2.1) ∧ w'.cell? ⟨B1, 2, none⟩ = some (.int .i64 a.2.2) := by
  have h2 := h.below hb
  obtain ⟨x0, x1, x2⟩ := h2.get 2 B3 c.1 c.2.1 c.2.2 rfl
  obtain ⟨y0, y1, y2⟩ := h2.get 1 B2 b.1 b.2.1 b.2.2 rfl
  obtain ⟨z0, z1, z2⟩ := h2.get 0 B1 a.1 a.2.1 a.2.2 rfl
  exact ⟨x0, x1, x2, y0, y1, y2, z0, z1, z2⟩

set_option maxRecDepth 100000 in
set_option maxHeartbeats 40000000 in
theorem VersionOrder_any (a0 a1 a2 b0 b1 b2 c0 c1 c2 : Int) (v : Value) (l : List V3) (w : World) (hm : EnvOk w) (hv : RowV v l w) :
    Calls Tryd.prog 5 #[.agg #[.int .i64 a0, .int .i64 a1, .int .i64 a2], .agg #[.int .i64 b0, .int .i64 b1, .int .i64 b2], .agg #[.int .i64 c0, .int .i64 c1, .int .i64 c2], v] w fun e w' => e = .returned (.bool true) ∧ Below w.heap.size w w' := by
  have HS0 : Hid (AwS w (((w.alloc (.cells #[.int .i64 a0, .int .i64 a1, .int .i64 a2] 23)).alloc (.cells #[.int .i64 b0, .int .i64 b1, .int .i64 b2] 23)).alloc (.cells #[.int .i64 c0, .int .i64 c1, .int .i64 c2] 23)) [(w.heap.size + 1 + 1, (c0, c1, c2)), (w.heap.size + 1, (b0, b1, b2)), (w.heap.size, (a0, a1, a2))]) := Lib.hid (by
    have := (((AwS.start w).box a0 a1 a2).box b0 b1 b2).box c0 c1 c2
    simp only [World.size_alloc] at this; exact this)
  have HA := Lib.hid (awake_any _ (hm.below HS0.out.1))
  clear hm
  obtain ⟨ad, cap, rfl⟩ : ∃ a c, v = .slice a l.length c := by
    rcases hv with ⟨h, a, c, h2⟩ | ⟨b, off, cap, h, _⟩
    · exact ⟨a, c, by rw [h2, h]; rfl⟩
    · exact ⟨_, _, h⟩
  have HV := Lib.hid hv
  clear hv
  by_cases hl : l.length ≤ 40
  case neg =>
    have hl2 : (40 : Int) < (l.length : Int) := by omega
    go_enter Tryd.func5, Tryd.ntmps5
    go_wp2_with fail
    (with_reducible refine HA.out.mono ?_)
    rintro e w1 ⟨rfl, hb1⟩
    have HS1 := Lib.hid (HS0.out.below hb1)
    clear hb1
    go_wp2_with fail
    go_ret
    exact ⟨rfl, HS1.out.1⟩
  have hl2 : ¬ (40 : Int) < (l.length : Int) := by omega
  go_enter Tryd.func5, Tryd.ntmps5
  go_wp2_with fail
  (with_reducible refine HA.out.mono ?_)
  rintro e w1 ⟨rfl, hb1⟩
  have HS1 := Lib.hid (HS0.out.below hb1)
  clear hb1 HS0 HA
  obtain ⟨d0, d1, d2, d3, d4, d5, d6, d7, d8⟩ := keep9 HS1.out (Below.refl _ _)
  go_upto_region 5 with fail
  go_cut [9, 10, 11] (fun s9 s10 s11 wx => s9 = .int .i64 (cmpV a0 a1 a2 b0 b1 b2) ∧ s10 = .int .i64 (cmpV b0 b1 b2 c0 c1 c2) ∧ s11 = .int .i64 (cmpV a0 a1 a2 c0 c1 c2) ∧ Hid (AwS w wx [(w.heap.size + 1 + 1, (c0, c1, c2)), (w.heap.size + 1, (b0, b1, b2)), (w.heap.size, (a0, a1, a2))]))
  case first =>
    have HBC : Hid (Below w1.heap.size w1 w1) := Lib.hid (Below.refl _ _)
    go_region_held3 (fun w' => w'.cell? ⟨w.heap.size, 0, none⟩ = some (.int .i64 a0) ∧ w'.cell? ⟨w.heap.size, 1, none⟩ = some (.int .i64 a1) ∧ w'.cell? ⟨w.heap.size, 2, none⟩ = some (.int .i64 a2) ∧ w'.cell? ⟨w.heap.size + 1, 0, none⟩ = some (.int .i64 b0) ∧ w'.cell? ⟨w.heap.size + 1, 1, none⟩ = some (.int .i64 b1) ∧ w'.cell? ⟨w.heap.size + 1, 2, none⟩ = some (.int .i64 b2) ∧ w'.cell? ⟨w.heap.size + 1 + 1, 0, none⟩ = some (.int .i64 c0) ∧ w'.cell? ⟨w.heap.size + 1 + 1, 1, none⟩ = some (.int .i64 c1) ∧ w'.cell? ⟨w.heap.size + 1 + 1, 2, none⟩ = some (.int .i64 c2))
      ((first | (exact keep9 HS1.out HBC.out) | (exact keep9 HS1.out HBC.out.drew)))
      (first | (go_at_call 17; refine (Compare_any _ _ _ _ _ _ _).mono ?_; rintro e w2 ⟨rfl, hbc⟩; first | replace HBC := Lib.hid (HBC.out.trans (hbc.mono HBC.out.size)) | replace HBC := Lib.hid (HBC.out.drew.trans (hbc.mono HBC.out.size)); clear hbc))
    all_goals
      go_wp2_with fail
      go_meet
      exact ⟨rfl, rfl, rfl, Lib.hid (HS1.out.below HBC.out)⟩
  case rest =>
    obtain ⟨rfl, rfl, rfl, HS2⟩ := hcut
    clear d0 d1 d2 d3 d4 d5 d6 d7 d8
    obtain ⟨d0, d1, d2, d3, d4, d5, d6, d7, d8⟩ := keep9 HS2.out (Below.refl _ _)
    have HX := Lib.hid (fun W => Compare_any b0 b1 b2 a0 a1 a2 W)
    have hneg := cmpV_flip a0 a1 a2 b0 b1 b2
    have hcs := cmpV_cases a0 a1 a2 b0 b1 b2
    have ht1 := cmpV_le_trans a0 a1 a2 b0 b1 b2 c0 c1 c2
    have ht2 := cmpV_ge_trans a0 a1 a2 b0 b1 b2 c0 c1 c2
    have heq : a0 = b0 ∧ a1 = b1 ∧ a2 = b2 → cmpV b0 b1 b2 c0 c1 c2 = cmpV a0 a1 a2 c0 c1 c2 := fun ⟨h1, h2, h3⟩ => by rw [h1, h2, h3]
    rw [hneg] at HX
    clear hneg
    obtain ⟨X, hXX⟩ : ∃ X, cmpV a0 a1 a2 b0 b1 b2 = X := ⟨_, rfl⟩
    obtain ⟨Y, hYY⟩ : ∃ Y, cmpV b0 b1 b2 c0 c1 c2 = Y := ⟨_, rfl⟩
    obtain ⟨Z, hZZ⟩ : ∃ Z, cmpV a0 a1 a2 c0 c1 c2 = Z := ⟨_, rfl⟩
    rw [hXX] at HX hcs ht1 ht2
    rw [hYY] at ht1 ht2 heq
    rw [hZZ] at ht1 ht2 heq
    rw [hXX, hYY, hZZ]
    have HC := Lib.hid (And.intro hcs (And.intro ht1 (And.intro ht2 heq)))
    clear hcs ht1 ht2 heq hXX hYY hZZ
    go_upto_region 6 with fail
    go_cut [76] (fun s76 wx => s76 = .bool false ∧ Hid (AwS w wx [(w.heap.size + 1 + 1, (c0, c1, c2)), (w.heap.size + 1, (b0, b1, b2)), (w.heap.size, (a0, a1, a2))]))
    case first =>
      have hcs := HC.out.1
      rcases hcs with ⟨rfl, hlt⟩ | ⟨rfl, hlt⟩ | ⟨rfl, hlt⟩
      · have hne : ¬ a0 = b0 ∨ (a0 = b0 ∧ ¬ a1 = b1) ∨ (a0 = b0 ∧ a1 = b1 ∧ ¬ a2 = b2) := by omega
        clear hlt
        have ht1 := HC.out.2.1 (by omega)
        by_cases hy : Y ≤ 0
        · have hz : ¬ 0 < Z := by have := ht1 hy; omega
          clear ht1
          rcases hne with hne | ⟨rfl, hne⟩ | ⟨rfl, rfl, hne⟩
          all_goals
            clear HC
            go_wp2_with fail
            (with_reducible refine (HX.out _).mono ?_)
            rintro e w2 ⟨rfl, hb2⟩
            have HS4 := Lib.hid (HS2.out.below hb2)
            clear d0 d1 d2 d3 d4 d5 d6 d7 d8
            obtain ⟨d0, d1, d2, d3, d4, d5, d6, d7, d8⟩ := keep9 HS4.out (Below.refl _ _)
            clear hb2
            go_wp2_with fail
            go_meet
            exact ⟨by first | rfl | exact congrArg Value.bool (decide_eq_false (by omega)), HS4⟩
        · clear ht1
          rcases hne with hne | ⟨rfl, hne⟩ | ⟨rfl, rfl, hne⟩
          all_goals
            clear HC
            go_wp2_with fail
            (with_reducible refine (HX.out _).mono ?_)
            rintro e w2 ⟨rfl, hb2⟩
            have HS4 := Lib.hid (HS2.out.below hb2)
            clear d0 d1 d2 d3 d4 d5 d6 d7 d8
            obtain ⟨d0, d1, d2, d3, d4, d5, d6, d7, d8⟩ := keep9 HS4.out (Below.refl _ _)
            clear hb2
            go_wp2_with fail
            go_meet
            exact ⟨by first | rfl | exact congrArg Value.bool (decide_eq_false (by omega)), HS4⟩
      · obtain rfl := HC.out.2.2.2 hlt
        obtain ⟨rfl, rfl, rfl⟩ := hlt
        rcases (show Y < 0 ∨ Y = 0 ∨ 0 < Y by omega) with hy | rfl | hy
        all_goals
          clear HC
          go_wp2_with fail
          (with_reducible refine (HX.out _).mono ?_)
          rintro e w2 ⟨rfl, hb2⟩
          have HS4 := Lib.hid (HS2.out.below hb2)
          clear d0 d1 d2 d3 d4 d5 d6 d7 d8
          obtain ⟨d0, d1, d2, d3, d4, d5, d6, d7, d8⟩ := keep9 HS4.out (Below.refl _ _)
          clear hb2
          go_wp2_with fail
          go_meet
          exact ⟨by first | rfl | exact congrArg Value.bool (decide_eq_false (by omega)), HS4⟩
      · have hne : ¬ a0 = b0 ∨ (a0 = b0 ∧ ¬ a1 = b1) ∨ (a0 = b0 ∧ a1 = b1 ∧ ¬ a2 = b2) := by omega
        clear hlt
        have ht2 := HC.out.2.2.1 (by omega)
        by_cases hy : 0 ≤ Y
        · have hz : ¬ Z < 0 := by have := ht2 hy; omega
          clear ht2
          rcases hne with hne | ⟨rfl, hne⟩ | ⟨rfl, rfl, hne⟩
          all_goals
            clear HC
            go_wp2_with fail
            (with_reducible refine (HX.out _).mono ?_)
            rintro e w2 ⟨rfl, hb2⟩
            have HS4 := Lib.hid (HS2.out.below hb2)
            clear d0 d1 d2 d3 d4 d5 d6 d7 d8
            obtain ⟨d0, d1, d2, d3, d4, d5, d6, d7, d8⟩ := keep9 HS4.out (Below.refl _ _)
            clear hb2
            go_wp2_with fail
            go_meet
            exact ⟨by first | rfl | exact congrArg Value.bool (decide_eq_false (by omega)), HS4⟩
        · clear ht2
          rcases hne with hne | ⟨rfl, hne⟩ | ⟨rfl, rfl, hne⟩
          all_goals
            clear HC
            go_wp2_with fail
            (with_reducible refine (HX.out _).mono ?_)
            rintro e w2 ⟨rfl, hb2⟩
            have HS4 := Lib.hid (HS2.out.below hb2)
            clear d0 d1 d2 d3 d4 d5 d6 d7 d8
            obtain ⟨d0, d1, d2, d3, d4, d5, d6, d7, d8⟩ := keep9 HS4.out (Below.refl _ _)
            clear hb2
            go_wp2_with fail
            go_meet
            exact ⟨by first | rfl | exact congrArg Value.bool (decide_eq_false (by omega)), HS4⟩
    case rest =>
      obtain ⟨rfl, HS3⟩ := hcut
      clear HS1 d0 d1 d2 d3 d4 d5 d6 d7 d8 HC HX
      have HL := Lib.hid (Latest_any (.slice ad l.length cap) l _ (by omega) (HV.out.below HS3.out.1))
      by_cases h0 : l = []
      · subst h0
        rw [show maxV [] = (0, 0, 0) from rfl, show decide (([] : List V3) ≠ []) = false from rfl] at HL
        simp only [List.length_nil] at HL ⊢
        go_wp2_with fail
        (with_reducible refine HL.out.mono ?_)
        rintro e w3 ⟨rfl, hb3⟩
        have HS4 := Lib.hid ((HS3.out.below hb3).box 0 0 0)
        clear hb3
        go_wp2_with fail
        go_ret
        exact ⟨rfl, HS4.out.1⟩
      · obtain ⟨b, off, hb, hc⟩ : ∃ b off, ad = some ⟨b, off, none⟩ ∧ b < w.heap.size ∧ ∀ i x, l[i]? = some x → w.cell? ⟨b, off + i * 3, none⟩ = some (.int .i64 x.1) ∧ w.cell? ⟨b, off + i * 3 + 1, none⟩ = some (.int .i64 x.2.1) ∧ w.cell? ⟨b, off + i * 3 + 2, none⟩ = some (.int .i64 x.2.2) := by
          rcases HV.out with ⟨h, _⟩ | ⟨b, off, cap2, h, hb, hc⟩
          · exact absurd h h0
          · cases h; exact ⟨b, off, rfl, hb, hc⟩
        subst hb
        have HB := Lib.hid hc.1
        have HC2 := Lib.hid hc.2
        have HMM := Lib.hid (maxV_mem l h0)
        have HMG := Lib.hid (maxV_ge l)
        rw [show decide (l ≠ []) = true from decide_eq_true h0] at HL
        obtain ⟨⟨m0, m1, m2⟩, hm⟩ : ∃ m, maxV l = m := ⟨_, rfl⟩
        rw [hm] at HL HMM HMG
        simp only at HL
        obtain ⟨n, hn⟩ : ∃ n, l.length = n := ⟨_, rfl⟩
        have HN := Lib.hid hn
        rw [hn] at HL hl2 hl ⊢
        clear hc h0 hm hn HV
        go_wp2_with fail
        (with_reducible refine HL.out.mono ?_)
        rintro e w3 ⟨rfl, hb3⟩
        have HS4 := Lib.hid ((HS3.out.below hb3).box m0 m1 m2)
        clear hb3 HS3 HL HS2
        go_wp2_with fail
        go_loopw [14, 89] (fun f i wr => ∃ k : Nat, k ≤ n ∧ i = .int .i64 k ∧ f = .bool (decide ((m0, m1, m2) ∈ l.take k)) ∧ Hid (AwS w wr [(w3.heap.size, (m0, m1, m2)), (w.heap.size + 1 + 1, (c0, c1, c2)), (w.heap.size + 1, (b0, b1, b2)), (w.heap.size, (a0, a1, a2))])) (fun _ i _ => n - (intOf i).toNat)
        case atStart => exact ⟨0, Nat.zero_le _, rfl, rfl, HS4⟩
        case round =>
          clear HS4
          obtain ⟨k, hk, rfl, rfl, HS⟩ := hrel
          by_cases hlt : k < n
          · obtain ⟨x, hx⟩ : ∃ x, l[k]? = some x := ⟨_, List.getElem?_eq_getElem (by have := HN.out; omega)⟩
            obtain ⟨e0, e1, e2⟩ := HC2.out k x hx
            rw [← HS.out.1.cell (p := ⟨b, _, none⟩) HB.out] at e0 e1 e2
            have hge := HMG.out x (List.mem_of_getElem? hx)
            have HTK := Lib.hid (show l.take (k + 1) = l.take k ++ [x] by rw [List.take_add_one, hx]; rfl)
            obtain ⟨x0, x1, x2⟩ := x
            have hge : ¬ 0 < cmpV x0 x1 x2 m0 m1 m2 := by unfold Le3 at hge; simp only at hge; omega
            have HGE := Lib.hid hge
            have HCP := Lib.hid (fun W => Compare_any x0 x1 x2 m0 m1 m2 W)
            obtain ⟨cv, hcv⟩ : ∃ cv, cmpV x0 x1 x2 m0 m1 m2 = cv := ⟨_, rfl⟩
            rw [hcv] at HCP hge
            have hk0 : (0 : Int) ≤ (k : Int) := by omega
            have hkn : (k : Int) < (n : Int) := by omega
            obtain ⟨M0, M1, M2⟩ := HS.out.get 0 w3.heap.size m0 m1 m2 rfl
            have HSX := Lib.hid (HS.out.alloc (.cells #[.int .i64 x0, .int .i64 x1, .int .i64 x2] 23))
            obtain ⟨N0, N1, N2⟩ := HSX.out.get 0 w3.heap.size m0 m1 m2 rfl
            simp only at e0 e1 e2
            clear hx hcv
            obtain ⟨f, hf⟩ : ∃ f, decide ((m0, m1, m2) ∈ l.take k) = f := ⟨_, rfl⟩
            have HF := Lib.hid (show ∀ g : Bool, g = (f || decide ((x0, x1, x2) = (m0, m1, m2))) → decide ((m0, m1, m2) ∈ l.take (k + 1)) = g from fun g hg => by
              rw [HTK.out, hg, ← hf, Bool.eq_iff_iff]
              simp only [List.mem_append, List.mem_singleton, Bool.or_eq_true, decide_eq_true_eq]
              constructor
              · rintro (h | h)
                · exact .inl h
                · exact .inr h.symm
              · rintro (h | h)
                · exact .inl h
                · exact .inr h.symm)
            rw [hf]
            clear hf
            cases f with
            | true =>
              have HG := Lib.hid (HF.out true (by simp))
              go_wp2_with fail
              (with_reducible refine (HCP.out _).mono ?_)
              rintro e w4 ⟨rfl, hb4⟩
              have HS5 := Lib.hid (HSX.out.below hb4)
              clear hb4
              go_wp2_with fail
              go_roundw
              case rel => exact ⟨k + 1, by omega, by go_num, by rw [HG.out], HS5⟩
              case measure => simp [intOf]; omega
            | false =>
              by_cases hxm : (x0, x1, x2) = (m0, m1, m2)
              · have HG := Lib.hid (HF.out true (by simp [hxm]))
                cases hxm
                go_wp2_with fail
                (with_reducible refine (HCP.out _).mono ?_)
                rintro e w4 ⟨rfl, hb4⟩
                have HS5 := Lib.hid (HSX.out.below hb4)
                clear hb4
                go_wp2_with fail
                go_roundw
                case rel => exact ⟨k + 1, by omega, by go_num, by rw [HG.out], HS5⟩
                case measure => simp [intOf]; omega
              · have HG := Lib.hid (HF.out false (by simp [hxm]))
                have hne : ¬ x0 = m0 ∨ (x0 = m0 ∧ ¬ x1 = m1) ∨ (x0 = m0 ∧ x1 = m1 ∧ ¬ x2 = m2) := by
                  by_cases h1 : x0 = m0
                  · by_cases h2 : x1 = m1
                    · exact .inr (.inr ⟨h1, h2, fun h3 => hxm (by rw [h1, h2, h3])⟩)
                    · exact .inr (.inl ⟨h1, h2⟩)
                  · exact .inl h1
                clear hxm
                rcases hne with hne | ⟨rfl, hne⟩ | ⟨rfl, rfl, hne⟩
                all_goals
                  go_wp2_with fail
                  (with_reducible refine (HCP.out _).mono ?_)
                  rintro e w4 ⟨rfl, hb4⟩
                  have HS5 := Lib.hid (HSX.out.below hb4)
                  clear hb4
                  go_wp2_with fail
                  go_roundw
                  case rel => exact ⟨k + 1, by omega, by go_num, by rw [HG.out], HS5⟩
                  case measure => simp [intOf]; omega
          · obtain rfl : k = n := by omega
            have HE := Lib.hid (show decide ((m0, m1, m2) ∈ l.take k) = true by rw [List.take_of_length_le (by have := HN.out; omega)]; exact decide_eq_true HMM.out)
            rw [HE.out]
            go_wp2_with fail
            go_ret
            exact ⟨rfl, HS.out.1⟩
end Go.Proofs.YtbpgbbdebhmlkaaDoor
