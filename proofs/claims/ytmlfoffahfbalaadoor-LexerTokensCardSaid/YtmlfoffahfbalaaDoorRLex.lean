/- Contract of the reference's Lex. -/
import Derived.Test.YtmlfoffahfbalaaDoorRToken3
import Derived.Test.YtmlfoffahfbalaaDoorLex0
namespace Go.Proofs.YtmlfoffahfbalaaDoor
open Go Go.RowKit

theorem step_meas2 (s k n : Nat) (h8 : n ≤ s) (h9 : k + 1 ≤ n) : s - ((n : Nat) : Int).toNat < s - ((k : Int)).toNat := by omega
set_option maxRecDepth 100000 in
set_option maxHeartbeats 4000000 in
theorem rLex_any (s : ByteArray) (w : World) : Calls Tryd.prog 13 #[.string s] w (LexR s w) := by
  by_cases h : 65536 < s.size
  · have HE := Lib.hid (lexS_big s h)
    have h2 : 65536 < (s.size : Int) := by omega
    go_enter Tryd.func13, Tryd.ntmps13
    go_wp2_with fail
    refine bodyPost_ret (v := .tuple #[.slice none 0 0, .int .i64 0, .int .i64 7]) (by simp [results, Tryd.results13, go_sem]) rfl ?_
    exact ⟨_, by rw [HE.out]; rfl, by rw [HE.out]; exact (Mine.nil _ _ _ _ (Nat.le_refl _)).out, fun _ => rfl, Below.refl _ _⟩
  have h2 : ¬ 65536 < (s.size : Int) := by omega
  have h3 : s.size ≤ 65536 := by omega
  clear h
  have hst := startS_le s
  obtain ⟨B, hB⟩ : ∃ B, B = w.heap.size := ⟨_, rfl⟩
  have HBB := Lib.hid hB
  have hcn : Hid (Mine 36 3 B (.slice (some ⟨w.heap.size, 0, none⟩) 0 0) 0 [] (w.alloc (.cells #[] 36))) := Mine.new _ _ _ _ _ _ _ (by omega) rfl rfl (by decide)
  have hb0 : Below B w (w.alloc (.cells #[] 36)) := (Below.refl _ _).alloc (by omega) _
  clear hB
  have HSK := Lib.hid (fun (a : Nat) (ha : a ≤ s.size) (w : World) => rskip_any s a w (by omega) ha)
  have HS0 : Hid (∀ w, Calls Tryd.prog 34 #[.string s, .int .i64 0] w fun e w' => e = .returned (.int .i64 (startS s)) ∧ w = w') := Lib.hid (fun w => by
    have := HSK.out 0 (by omega) w
    simpa [startS] using this)
  have HTK := Lib.hid (fun (t : ByteArray) (h1 : t.size ≤ 1000000) (h2 : 0 < t.size) (w : World) => rtoken_any t w h1 h2)
  go_enter Tryd.func13, Tryd.ntmps13
  go_wp2_with fail
  refine (HS0.out _).mono ?_
  rintro e w' ⟨rfl, rfl⟩
  go_wp2_with fail
  go_loopw [5, 6] (fun o i wr => ∃ (k : Nat) (ys : List Yld), k ≤ s.size ∧ i = .int .i64 k ∧ Hid (Runs s (startS s) ys k) ∧ Hid (Mine 36 3 B o ys.length (tokCells (ys.map keyY)) wr) ∧ Hid (Below B w wr)) (fun _ i _ => s.size - (intOf i).toNat)
  case atStart => exact ⟨startS s, [], hst, rfl, Lib.hid rfl, hcn, Lib.hid hb0⟩
  case round =>
    clear hcn hb0
    obtain ⟨k, ys, hk, rfl, HR, HO, HB⟩ := hrel
    by_cases hlt : k < s.size
    · obtain ⟨rs, hrs⟩ : ∃ rs, s.extract k s.size = rs := ⟨_, rfl⟩
      have hrl : rs.data.toList = s.data.toList.drop k := by rw [← hrs]; exact Lib.extract_to_end s k
      have hrz : rs.size = s.size - k := by rw [Lib.size_eq, hrl, List.length_drop, ← Lib.size_eq]
      have HT : Hid (tokL rs.data.toList = tokS s k) := Lib.hid (by unfold tokS; rw [hrl])
      have HRT := Lib.hid (fun w' : World => HTK.out rs (by omega) (by omega) w')
      have HRS := Lib.hid hrs
      clear hrs hrl hrz
      go_wp2_with fail
      rw [HRS.out]
      refine (HRT.out _).mono ?_
      rintro e w2 ⟨⟨kd, tx, n, rfl, hok⟩, hb⟩
      rw [HT.out] at hok ⊢
      have HB2 : Hid (Below B w w2) := Lib.hid (HB.out.trans (hb.mono HO.out.2))
      have HO2 := Mine.below HO hb
      have HOK := Lib.hid hok
      clear hb hok
      obtain ⟨er, her⟩ : ∃ er, (tokS s k).err = er := ⟨_, rfl⟩
      rw [her] at HOK ⊢
      have HER := Lib.hid her
      clear her
      by_cases h0 : er = 0
      · subst h0
        have hn := tokS_n s k hlt HER.out
        have HX := HOK.out rfl
        obtain ⟨nn, hnn⟩ : ∃ nn, (tokS s k).n = nn := ⟨_, rfl⟩
        have hne : n = nn := by rw [HX.2.2, hnn]
        subst hne
        rw [hnn] at hn
        have HNX : Hid (k + nn + skipF false (s.data.toList.drop (k + nn)) = nextAt s k) := Lib.hid (by unfold nextAt; rw [hnn])
        have HSN := Lib.hid (HSK.out (k + nn) (by omega))
        have HLE := Lib.hid (nextAt_le s k hlt HER.out)
        obtain ⟨sk, hsk⟩ : ∃ sk, skipF false (s.data.toList.drop (k + nn)) = sk := ⟨_, rfl⟩
        rw [hsk] at HNX HSN
        have hkn : k + nn + sk ≤ s.size := by have := HLE.out.2; rw [← HNX.out] at this; exact this
        have HKT := Lib.hid (And.intro HX.1 HX.2.1)
        have HLN := Lib.hid (Runs.len HR.out)
        have q1 : wrap64 ((k : Int) + nn) = ((k + nn : Nat) : Int) := by unfold wrap64; omega
        have q2 : wrap64 (((k + nn : Nat) : Int) + sk) = ((k + nn + sk : Nat) : Int) := by unfold wrap64; omega
        clear hnn hsk HX
        have HO3 := Mine.below HO2 (below_one w2 (.cells #[.int .i64 kd, .string tx, .int .i64 k] 36))
        have hlen : ys.length + 1 ≤ 4000000000 := by have := HLN.out; omega
        have HB3 : Hid (Below B w (w2.alloc (.cells #[.int .i64 kd, .string tx, .int .i64 k] 36))) := Lib.hid (HB2.out.alloc HO2.out.2 _)
        go_wp2_with (at_builtin; refine app_toks _ rfl _ _ (by rfl) B _ _ _ (by rfl) HO3 1 [.int .i64 kd, .string tx, .int .i64 k] _ (by rfl) (by rw [World.size_alloc]; rfl) (by rfl) (by simp [Value.oneCell']) (by decide) hlen ?_; intro g cap w3 HO4 hb4)
        refine (HSN.out _).mono ?_
        rintro e w' ⟨rfl, rfl⟩
        go_wp2_with fail
        go_roundw
        case rel => exact ⟨k + nn + sk, ys ++ [⟨kd, tx, k, 0⟩], hkn, rfl, Lib.hid (by rw [HNX.out]; exact Runs.snoc HR.out hlt rfl rfl HER.out HKT.out.1 HKT.out.2), Lib.hid (by rw [tokCells_y, List.length_append]; exact HO4.out), Lib.hid (HB3.out.trans hb4)⟩
        case measure =>
          have h8 := HLE.out.1
          rw [← HNX.out] at h8
          exact step_meas2 s.size k (k + nn + sk) hkn h8
      · have h5 : (er == 0) = false := by rw [beq_eq_false_iff_ne]; exact h0
        have h6 : (er != 0) = true := by rw [bne, h5]; rfl
        have HL := Lib.hid (lex_stop s h3 ys k HR.out hlt (by rw [HER.out]; exact h0))
        have H0 := Lib.hid h0
        clear h0
        go_wp2_with fail
        refine bodyPost_ret (v := .tuple #[.slice none 0 0, .int .i64 k, .int .i64 er]) (by simp [results, Tryd.results13, go_sem]) rfl ?_
        exact ⟨_, by rw [HL.out, HER.out], by rw [HL.out]; refine (Mine.nil _ _ _ _ ?_).out; rw [← HBB.out]; have := HO2.out.2; simp; omega, fun _ => rfl, by rw [← HBB.out]; exact HB2.out.alloc HO2.out.2 _⟩
    · have hkk : k = s.size := by omega
      subst hkk
      have HL := Lib.hid (lex_done s h3 ys HR.out)
      have hlen : ys.length + 1 ≤ 4000000000 := by have := Runs.len HR.out; omega
      have HBW := HO.out.2
      go_wp2_with (at_builtin; refine app_toks _ rfl _ _ (by rfl) B _ _ _ (by rfl) HO 1 [.int .i64 0, .string ⟨#[]⟩, .int .i64 s.size] _ (by rfl) (by rfl) (by rfl) (by simp [Value.oneCell']) (by decide) hlen ?_; intro g cap w2 HO2 hb2)
      refine bodyPost_ret (v := .tuple #[.slice (some ⟨g, 0, none⟩) (ys.length + 1) cap, .int .i64 0, .int .i64 0]) (by simp [results, Tryd.results13, go_sem]) rfl ?_
      have hl2 : (ys.map keyY ++ [((0 : Int), ([] : List UInt8), s.size)]).length = ys.length + 1 := by simp
      exact ⟨_, by rw [HL.out]; rfl, by rw [HL.out, hl2, tokCells_snoc, ← HBB.out]; exact HO2.out, fun h => absurd (by rw [HL.out]) h, by rw [← HBB.out]; exact HB.out.trans hb2⟩
end Go.Proofs.YtmlfoffahfbalaaDoor
