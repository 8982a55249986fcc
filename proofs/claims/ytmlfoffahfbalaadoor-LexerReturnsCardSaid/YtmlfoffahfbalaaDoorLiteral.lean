/- Contract of the lexer's literal. -/
import Derived.Test.YtmlfoffahfbalaaDoorBlanks
import Derived.Test.YtmlfoffahfbalaaDoorOwn
import Derived.Test.YtmlfoffahfbalaaDoorPlainLit
namespace Go.Proofs.YtmlfoffahfbalaaDoor
open Go Go.RowKit

theorem pfx_call (s : ByteArray) (b : UInt8) (w : World) :
    Calls Tryd.prog 30 #[.string s, .string ⟨#[b]⟩] w fun e w' => e = .returned (.bool (pfxB b s.data.toList)) ∧ w = w' := HasPrefix_any s ⟨#[b]⟩ w
theorem ret_sib {j : IntKind} {a b : ByteArray} {c d : Int} {x y : Bool} (h : a = b) (h' : c = d) (h'' : x = y) : Ending.returned (.tuple #[.string a, .int j c, .bool x]) = Ending.returned (.tuple #[.string b, .int j d, .bool y]) := by rw [h, h', h'']

theorem or_fin : ∀ a b : Fin 16, bits .or .u8 ((a.val : Int) * 16) (b.val : Int) = (a.val : Int) * 16 + (b.val : Int) := by decide +kernel
theorem or_hex (a b : Int) (h1 : 0 ≤ a) (h2 : a ≤ 15) (h3 : 0 ≤ b) (h4 : b ≤ 15) : bits .or .u8 (a * 16) b = a * 16 + b := by
  have := or_fin ⟨a.toNat, by omega⟩ ⟨b.toNat, by omega⟩
  simp only [Int.toNat_of_nonneg h1, Int.toNat_of_nonneg h3] at this
  exact this
theorem byte_nat (n : Int) (h0 : 0 ≤ n) (h1 : n ≤ 255) : ((n.toNat.toUInt8).toNat : Int) = n := by
  have : n.toNat.toUInt8.toNat = n.toNat := by simp; omega
  rw [this]; omega

set_option maxRecDepth 100000 in
set_option maxHeartbeats 1600000 in
theorem literal_any (s : ByteArray) (at0 : Nat) (w : World) (hs : s.size ≤ 1000000) (h0 : at0 < s.size) :
    Calls Tryd.prog 75 #[.string s, .int .i64 at0] w fun e w' => e = .returned (.tuple #[.string ⟨(litT s at0).toArray⟩, .int .i64 (litE s at0), .bool (litK s at0)]) ∧ Below w.heap.size w w' := by
  obtain ⟨B, hB⟩ : ∃ B, B = w.heap.size := ⟨_, rfl⟩
  have HO0 := Mine.nil 5 1 B w (by omega)
  have HBB := Lib.hid hB
  clear hB
  go_enter Tryd.func75, Tryd.ntmps75
  go_wp2
  go_loopw [1, 7] (fun i v wr => ∃ (k : Nat) (acc : List UInt8), at0 + 1 ≤ k ∧ k ≤ s.size ∧ i = .int .i64 k ∧ Hid (Mine 5 1 B v acc.length (Lib.byteCells acc) wr) ∧ Below B w wr ∧ Hid (acc.length ≤ k ∧ litL (s.data.toList.drop (at0 + 1)) = joinL acc (k - (at0 + 1)) (litL (s.data.toList.drop k)))) (fun i _ _ => s.size - (intOf i).toNat)
  case atStart => exact ⟨at0 + 1, [], by omega, by omega, by go_num, HO0, Below.refl _ _, Lib.hid ⟨by simp, by rw [Nat.sub_self, joinL_nil]⟩⟩
  case round =>
    clear HO0
    obtain ⟨k, acc, hk0, hk, rfl, HO, hbel, HA⟩ := hrel
    by_cases hlt : k < s.size
    · have hd := drop_cons s k hlt
      have h255 : (s[k]).toNat ≤ 255 := by have := (s[k]).toNat_lt; omega
      generalize hcs : s[k] = c at *
      have HD := Lib.hid hd
      clear hd
      by_cases h1 : c = 34
      · have HC := Lib.hid (conv_own B _ acc wr HO)
        have HE : Hid (litL (s.data.toList.drop (at0 + 1)) = some (acc, k - (at0 + 1) + 1)) := Lib.hid (by rw [HA.out.2, HD.out, h1, litL_quote]; simp [joinL])
        have e1 : ((c.toNat : Int) == 34) = true := by rw [h1]; rfl
        clear h1
        have hconv := HC.out
        go_wp2
        go_ret3
        obtain ⟨e2, e3, e4⟩ := lit_some HE.out
        exact ⟨ret_sib (by rw [e2]) (by rw [e3]; omega) e4.symm, by rw [← HBB.out]; exact hbel⟩
      · have e1 : ((c.toNat : Int) == 34) = false := by
          rw [beq_eq_false_iff_ne]; intro e; exact h1 (UInt8.toNat_inj.1 (by have : ((34 : UInt8).toNat) = 34 := rfl; omega))
        by_cases h2 : c.toNat < 32
        · have HE : Hid (litL (s.data.toList.drop (at0 + 1)) = none) := Lib.hid (by rw [HA.out.2, HD.out, litL_bad c _ h1 (chr_low c _ h2)]; rfl)
          clear h1
          go_wp2
          go_ret3
          obtain ⟨e2, e3, e4⟩ := lit_none HE.out
          exact ⟨ret_sib (by rw [e2]) e3.symm e4.symm, by rw [← HBB.out]; exact hbel⟩
        · by_cases h3 : c = 92
          · subst h3
            have e0 : (min ((k : Int) + 1) (s.size : Int)).toNat = k + 1 := by omega
            have HX0 := Lib.extract_to_end s (k + 1)
            have hsz0 : (s.extract (k + 1) s.size).size = s.size - (k + 1) := by rw [Lib.size_eq, HX0, List.length_drop, ← Lib.size_eq]
            have E0 := Lib.hid e0
            have HX1 := Lib.hid HX0
            have HZ1 := Lib.hid hsz0
            clear h1 h2 e0 HX0 hsz0
            go_wp2_with fail
            rw [E0.out]
            obtain ⟨rs, hrs⟩ : ∃ rs, s.extract (k + 1) s.size = rs := ⟨_, rfl⟩
            rw [hrs]
            have HX : Hid (rs.data.toList = s.data.toList.drop (k + 1)) := Lib.hid (by rw [← hrs]; exact HX1.out)
            have hsz : rs.size = s.size - (k + 1) := by rw [← hrs]; exact HZ1.out
            have hz1 : rs.size + k + 1 ≤ s.size := by omega
            have hz2 : s.size ≤ rs.size + k + 1 := by omega
            clear hrs hsz HX1 HZ1 E0
            by_cases hr0 : 0 < rs.size
            case neg =>
              have HQ : Hid (rs.data.toList = []) := Lib.hid (List.length_eq_zero_iff.1 (by rw [← Lib.size_eq]; omega))
              have P1 : Hid (pfxB 34 rs.data.toList = false) := Lib.hid (by rw [HQ.out]; rfl)
              have P2 : Hid (pfxB 92 rs.data.toList = false) := Lib.hid (by rw [HQ.out]; rfl)
              have P3 : Hid (pfxB 110 rs.data.toList = false) := Lib.hid (by rw [HQ.out]; rfl)
              have P4 : Hid (pfxB 120 rs.data.toList = false) := Lib.hid (by rw [HQ.out]; rfl)
              have HE : Hid (litL (s.data.toList.drop (at0 + 1)) = none) := Lib.hid (by rw [HA.out.2, HD.out, ← HX.out, HQ.out, litL_bad 92 _ (by decide) chr_back_nil]; rfl)
              refine (pfx_call rs 34 _).mono ?_
              rintro e w2 ⟨rfl, rfl⟩
              rw [P1.out]
              go_wp2_with fail
              refine (pfx_call rs 92 _).mono ?_
              rintro e w2 ⟨rfl, rfl⟩
              rw [P2.out]
              go_wp2_with fail
              refine (pfx_call rs 110 _).mono ?_
              rintro e w2 ⟨rfl, rfl⟩
              rw [P3.out]
              go_wp2_with fail
              refine (pfx_call rs 120 _).mono ?_
              rintro e w2 ⟨rfl, rfl⟩
              rw [P4.out]
              go_wp2
              go_ret3
              obtain ⟨e2, e3, e4⟩ := lit_none HE.out
              exact ⟨ret_sib (by rw [e2]) e3.symm e4.symm, by rw [← HBB.out]; exact hbel⟩
            have hq := drop_cons rs 0 hr0
            rw [List.drop_zero] at hq
            have h255d : (rs[0]).toNat ≤ 255 := by have := (rs[0]).toNat_lt; omega
            generalize hds : rs[0] = d at *
            have HQ := Lib.hid hq
            have HP : Hid (∀ b : UInt8, pfxB b rs.data.toList = (b == d)) := Lib.hid (fun b => by rw [HQ.out, pfxB_cons])
            clear hq
            by_cases h1 : d = 34
            case pos =>
              subst h1
              have P1 : Hid (pfxB 34 rs.data.toList = true) := Lib.hid (by rw [HP.out]; rfl)
              have HE : Hid ((acc ++ [34]).length ≤ k + 2 ∧ litL (s.data.toList.drop (at0 + 1)) = joinL (acc ++ [34]) (k + 2 - (at0 + 1)) (litL (s.data.toList.drop (k + 2)))) := Lib.hid ⟨by have := HA.out.1; simp; omega, by
                rw [HA.out.2, HD.out, ← HX.out, HQ.out, litL_char 92 _ (by decide) (by rw [(chr_back_quote _).1]; decide), (chr_back_quote _).1, (chr_back_quote _).2, joinL_join, ← HQ.out, HX.out, ← HD.out, List.drop_drop]
                congr 1
                omega⟩
              refine (pfx_call rs 34 _).mono ?_
              rintro e w2 ⟨rfl, rfl⟩
              rw [P1.out]
              go_wp2_with (at_builtin; refine app_bytes _ rfl _ _ (by rfl) B _ _ _ (by rfl) HO 1 [.int .u8 34] _ (by rfl) (by rfl) (by rfl) (by simp [Value.oneCell']) (by decide) (by have := HA.out.1; omega) ?_; intro g cap w2 HO2 hb2)
              go_roundw
              case rel => exact ⟨k + 2, acc ++ [34], by omega, by omega, by go_num, Lib.hid (by have := HO2.out; simpa [Lib.byteCells] using this), hbel.trans hb2, HE⟩
              case measure => simp [intOf]; omega
            by_cases h2 : d = 92
            case pos =>
              subst h2
              have P1 : Hid (pfxB 34 rs.data.toList = false) := Lib.hid (by rw [HP.out]; rfl)
              have P2 : Hid (pfxB 92 rs.data.toList = true) := Lib.hid (by rw [HP.out]; rfl)
              have HE : Hid ((acc ++ [92]).length ≤ k + 2 ∧ litL (s.data.toList.drop (at0 + 1)) = joinL (acc ++ [92]) (k + 2 - (at0 + 1)) (litL (s.data.toList.drop (k + 2)))) := Lib.hid ⟨by have := HA.out.1; simp; omega, by
                rw [HA.out.2, HD.out, ← HX.out, HQ.out, litL_char 92 _ (by decide) (by rw [(chr_back_back _).1]; decide), (chr_back_back _).1, (chr_back_back _).2, joinL_join, ← HQ.out, HX.out, ← HD.out, List.drop_drop]
                congr 1
                omega⟩
              refine (pfx_call rs 34 _).mono ?_
              rintro e w2 ⟨rfl, rfl⟩
              rw [P1.out]
              go_wp2_with fail
              refine (pfx_call rs 92 _).mono ?_
              rintro e w2 ⟨rfl, rfl⟩
              rw [P2.out]
              go_wp2_with (at_builtin; refine app_bytes _ rfl _ _ (by rfl) B _ _ _ (by rfl) HO 1 [.int .u8 92] _ (by rfl) (by rfl) (by rfl) (by simp [Value.oneCell']) (by decide) (by have := HA.out.1; omega) ?_; intro g cap w2 HO2 hb2)
              go_roundw
              case rel => exact ⟨k + 2, acc ++ [92], by omega, by omega, by go_num, Lib.hid (by have := HO2.out; simpa [Lib.byteCells] using this), hbel.trans hb2, HE⟩
              case measure => simp [intOf]; omega
            have P1 : Hid (pfxB 34 rs.data.toList = false) := Lib.hid (by rw [HP.out]; exact beq_eq_false_iff_ne.2 (Ne.symm h1))
            have P2 : Hid (pfxB 92 rs.data.toList = false) := Lib.hid (by rw [HP.out]; exact beq_eq_false_iff_ne.2 (Ne.symm h2))
            by_cases h3 : d = 110
            case pos =>
              subst h3
              have P3 : Hid (pfxB 110 rs.data.toList = true) := Lib.hid (by rw [HP.out]; rfl)
              have HE : Hid ((acc ++ [10]).length ≤ k + 2 ∧ litL (s.data.toList.drop (at0 + 1)) = joinL (acc ++ [10]) (k + 2 - (at0 + 1)) (litL (s.data.toList.drop (k + 2)))) := Lib.hid ⟨by have := HA.out.1; simp; omega, by
                rw [HA.out.2, HD.out, ← HX.out, HQ.out, litL_char 92 _ (by decide) (by rw [(chr_back_n _).1]; decide), (chr_back_n _).1, (chr_back_n _).2, joinL_join, ← HQ.out, HX.out, ← HD.out, List.drop_drop]
                congr 1
                omega⟩
              clear h1 h2
              refine (pfx_call rs 34 _).mono ?_
              rintro e w2 ⟨rfl, rfl⟩
              rw [P1.out]
              go_wp2_with fail
              refine (pfx_call rs 92 _).mono ?_
              rintro e w2 ⟨rfl, rfl⟩
              rw [P2.out]
              go_wp2_with fail
              refine (pfx_call rs 110 _).mono ?_
              rintro e w2 ⟨rfl, rfl⟩
              rw [P3.out]
              go_wp2_with (at_builtin; refine app_bytes _ rfl _ _ (by rfl) B _ _ _ (by rfl) HO 1 [.int .u8 10] _ (by rfl) (by rfl) (by rfl) (by simp [Value.oneCell']) (by decide) (by have := HA.out.1; omega) ?_; intro g cap w2 HO2 hb2)
              go_roundw
              case rel => exact ⟨k + 2, acc ++ [10], by omega, by omega, by go_num, Lib.hid (by have := HO2.out; simpa [Lib.byteCells] using this), hbel.trans hb2, HE⟩
              case measure => simp [intOf]; omega
            have P3 : Hid (pfxB 110 rs.data.toList = false) := Lib.hid (by rw [HP.out]; exact beq_eq_false_iff_ne.2 (Ne.symm h3))
            by_cases h4 : d = 120
            case neg =>
              have P4 : Hid (pfxB 120 rs.data.toList = false) := Lib.hid (by rw [HP.out]; exact beq_eq_false_iff_ne.2 (Ne.symm h4))
              have HE : Hid (litL (s.data.toList.drop (at0 + 1)) = none) := Lib.hid (by rw [HA.out.2, HD.out, ← HX.out, HQ.out, litL_bad 92 _ (by decide) (chr_back_other d _ h1 h2 h3 h4)]; rfl)
              clear h1 h2 h3 h4
              refine (pfx_call rs 34 _).mono ?_
              rintro e w2 ⟨rfl, rfl⟩
              rw [P1.out]
              go_wp2_with fail
              refine (pfx_call rs 92 _).mono ?_
              rintro e w2 ⟨rfl, rfl⟩
              rw [P2.out]
              go_wp2_with fail
              refine (pfx_call rs 110 _).mono ?_
              rintro e w2 ⟨rfl, rfl⟩
              rw [P3.out]
              go_wp2_with fail
              refine (pfx_call rs 120 _).mono ?_
              rintro e w2 ⟨rfl, rfl⟩
              rw [P4.out]
              go_wp2
              go_ret3
              obtain ⟨e2, e3, e4⟩ := lit_none HE.out
              exact ⟨ret_sib (by rw [e2]) e3.symm e4.symm, by rw [← HBB.out]; exact hbel⟩
            subst h4
            clear h1 h2 h3
            have P4 : Hid (pfxB 120 rs.data.toList = true) := Lib.hid (by rw [HP.out]; rfl)
            by_cases hr2 : 2 < rs.size
            case neg =>
              have HE : Hid (litL (s.data.toList.drop (at0 + 1)) = none) := Lib.hid (by
                rw [HA.out.2, HD.out, ← HX.out, HQ.out, litL_bad 92 _ (by decide)]
                · rfl
                · cases e : rs.data.toList.drop (0 + 1) with
                  | nil => rfl
                  | cons x q =>
                    cases q with
                    | nil => rfl
                    | cons y q => exfalso; have := congrArg List.length e; rw [List.length_drop, ← Lib.size_eq] at this; simp at this; omega)
              refine (pfx_call rs 34 _).mono ?_
              rintro e w2 ⟨rfl, rfl⟩
              rw [P1.out]
              go_wp2_with fail
              refine (pfx_call rs 92 _).mono ?_
              rintro e w2 ⟨rfl, rfl⟩
              rw [P2.out]
              go_wp2_with fail
              refine (pfx_call rs 110 _).mono ?_
              rintro e w2 ⟨rfl, rfl⟩
              rw [P3.out]
              go_wp2_with fail
              refine (pfx_call rs 120 _).mono ?_
              rintro e w2 ⟨rfl, rfl⟩
              rw [P4.out]
              go_wp2
              go_ret3
              obtain ⟨e2, e3, e4⟩ := lit_none HE.out
              exact ⟨ret_sib (by rw [e2]) e3.symm e4.symm, by rw [← HBB.out]; exact hbel⟩
            have hy1 := drop_cons rs 1 (by omega)
            have hy2 := drop_cons rs 2 (by omega)
            have hx1 : (rs[1]).toNat ≤ 255 := by have := (rs[1]).toNat_lt; omega
            have hx2 : (rs[2]).toNat ≤ 255 := by have := (rs[2]).toNat_lt; omega
            generalize hxs : rs[1] = x at *
            generalize hys : rs[2] = y at *
            have HY : Hid (rs.data.toList = 120 :: x :: y :: rs.data.toList.drop 3) := Lib.hid (HQ.out.trans (by rw [show 0 + 1 = 1 from rfl, hy1, hy2]))
            clear hy1 hy2
            refine (pfx_call rs 34 _).mono ?_
            rintro e w2 ⟨rfl, rfl⟩
            rw [P1.out]
            go_wp2_with fail
            refine (pfx_call rs 92 _).mono ?_
            rintro e w2 ⟨rfl, rfl⟩
            rw [P2.out]
            go_wp2_with fail
            refine (pfx_call rs 110 _).mono ?_
            rintro e w2 ⟨rfl, rfl⟩
            rw [P3.out]
            go_wp2_with fail
            refine (pfx_call rs 120 _).mono ?_
            rintro e w2 ⟨rfl, rfl⟩
            rw [P4.out]
            obtain ⟨vx, hvx⟩ : ∃ v, hexV (x.toNat : Int) = v := ⟨_, rfl⟩
            obtain ⟨vy, hvy⟩ : ∃ v, hexV (y.toNat : Int) = v := ⟨_, rfl⟩
            have HVx := Lib.hid hvx
            have HVy := Lib.hid hvy
            by_cases hzx : 0 ≤ hexZ (x.toNat : Int)
            case neg =>
              have HKx : Hid (hexK (x.toNat : Int) = false) := Lib.hid (decide_eq_false hzx)
              obtain ⟨ky, hky⟩ : ∃ v, hexK (y.toNat : Int) = v := ⟨_, rfl⟩
              have HKy := Lib.hid hky
              have hzy : True := trivial
              clear hvx hvy hky
              have HE : Hid (litL (s.data.toList.drop (at0 + 1)) = none) := Lib.hid (by rw [HA.out.2, HD.out, ← HX.out, HY.out, litL_bad 92 _ (by decide) (chr_back_xno x y _ (by omega))]; rfl)
              clear hzx hzy
              go_wp2_with fail
              refine (hex_any _ (by omega) (by omega) _).mono ?_
              rintro e w2 ⟨rfl, rfl⟩
              rw [HVx.out, HKx.out]
              go_wp2_with fail
              refine (hex_any _ (by omega) (by omega) _).mono ?_
              rintro e w2 ⟨rfl, rfl⟩
              rw [HVy.out, HKy.out]
              go_wp2
              go_ret3
              obtain ⟨e2, e3, e4⟩ := lit_none HE.out
              exact ⟨ret_sib (by rw [e2]) e3.symm e4.symm, by rw [← HBB.out]; exact hbel⟩
            have HKx : Hid (hexK (x.toNat : Int) = true) := Lib.hid (decide_eq_true hzx)
            by_cases hzy : 0 ≤ hexZ (y.toNat : Int)
            case neg =>
              have HKy : Hid (hexK (y.toNat : Int) = false) := Lib.hid (decide_eq_false hzy)
              clear hvx hvy
              have HE : Hid (litL (s.data.toList.drop (at0 + 1)) = none) := Lib.hid (by rw [HA.out.2, HD.out, ← HX.out, HY.out, litL_bad 92 _ (by decide) (chr_back_xno x y _ (by omega))]; rfl)
              clear hzx hzy
              go_wp2_with fail
              refine (hex_any _ (by omega) (by omega) _).mono ?_
              rintro e w2 ⟨rfl, rfl⟩
              rw [HVx.out, HKx.out]
              go_wp2_with fail
              refine (hex_any _ (by omega) (by omega) _).mono ?_
              rintro e w2 ⟨rfl, rfl⟩
              rw [HVy.out, HKy.out]
              go_wp2
              go_ret3
              obtain ⟨e2, e3, e4⟩ := lit_none HE.out
              exact ⟨ret_sib (by rw [e2]) e3.symm e4.symm, by rw [← HBB.out]; exact hbel⟩
            have HKy : Hid (hexK (y.toNat : Int) = true) := Lib.hid (decide_eq_true hzy)
            have hb1 := hexZ_lt (x.toNat : Int)
            have hb2 := hexZ_lt (y.toNat : Int)
            have HZx : Hid (hexZ (x.toNat : Int) = vx) := Lib.hid (by rw [← hvx, hexV, if_pos hzx])
            have HZy : Hid (hexZ (y.toNat : Int) = vy) := Lib.hid (by rw [← hvy, hexV, if_pos hzy])
            have hv1 : 0 ≤ vx := by rw [← HZx.out]; exact hzx
            have hv2 : vx ≤ 15 := by rw [← HZx.out]; exact hb1
            have hv3 : 0 ≤ vy := by rw [← HZy.out]; exact hzy
            have hv4 : vy ≤ 15 := by rw [← HZy.out]; exact hb2
            have HC4 := Lib.hid (chr_back_x x y (rs.data.toList.drop 3) ⟨hzx, hzy⟩)
            clear hvx hvy hzx hzy hb1 hb2
            go_wp2_with fail
            refine (hex_any _ (by omega) (by omega) _).mono ?_
            rintro e w2 ⟨rfl, rfl⟩
            rw [HVx.out, HKx.out]
            go_wp2_with fail
            refine (hex_any _ (by omega) (by omega) _).mono ?_
            rintro e w2 ⟨rfl, rfl⟩
            rw [HVy.out, HKy.out]
            go_wp2_with (at_builtin; refine app_bytes _ rfl _ _ (by rfl) B _ _ _ (by rfl) HO 1 [_] _ (by rfl) (by rfl) (by rfl) (by simp [Value.oneCell']) (by decide) (by have := HA.out.1; omega) ?_; intro g cap w2 HO2 hb2)
            go_roundw
            case rel =>
              have HB16 : (16 * hexZ (x.toNat : Int) + hexZ (y.toNat : Int)).toNat.toUInt8 = (vx * 16 + vy).toNat.toUInt8 := by rw [HZx.out, HZy.out, Int.mul_comm]
              refine ⟨k + 4, acc ++ [(vx * 16 + vy).toNat.toUInt8], by omega, by omega, by go_num, Lib.hid ?_, hbel.trans hb2, Lib.hid ⟨?_, ?_⟩⟩
              · have := HO2.out
                rw [or_hex vx vy hv1 hv2 hv3 hv4] at this
                have e : Lib.byteCells (acc ++ [(vx * 16 + vy).toNat.toUInt8]) = Lib.byteCells acc ++ [.int .u8 (vx * 16 + vy)] := by
                  rw [Lib.byteCells, List.map_append, List.map_singleton, byte_nat _ (by omega) (by omega)]; rfl
                rw [e, List.length_append]; exact this
              · have := HA.out.1; simp; omega
              · rw [HA.out.2, HD.out, ← HX.out, HY.out, litL_char 92 _ (by decide) (by rw [HC4.out.1]; decide), HC4.out.1, HC4.out.2, joinL_join, ← HY.out, HX.out, ← HD.out, List.drop_drop, HB16]
                congr 1
                omega
            case measure => simp [intOf]; omega
          · have e2 : ((c.toNat : Int) == 92) = false := by
              rw [beq_eq_false_iff_ne]; intro e; exact h3 (UInt8.toNat_inj.1 (by have : ((92 : UInt8).toNat) = 92 := rfl; omega))
            have e3 : ((c.toNat : Int) != 92) = true := by rw [bne, e2]; rfl
            obtain ⟨hn, hb⟩ := chr_plain c (s.data.toList.drop (k + 1)) h2 h1 h3
            have HE : Hid ((acc ++ [c]).length ≤ k + 1 ∧ litL (s.data.toList.drop (at0 + 1)) = joinL (acc ++ [c]) (k + 1 - (at0 + 1)) (litL (s.data.toList.drop (k + 1)))) := Lib.hid ⟨by have := HA.out.1; simp; omega, by
              rw [HA.out.2, HD.out, litL_char c _ h1 (by rw [hn]; decide), hn, hb, joinL_join]
              congr 1
              omega⟩
            clear hn hb h1 h3
            go_wp2_with (at_builtin; go_loud (refine app_bytes _ rfl _ _ (by rfl) B _ _ _ (by rfl) HO 1 [.int .u8 c.toNat] _ (by rfl) (by rfl) (by rfl) (by simp [Value.oneCell']) (by decide) (by have := HA.out.1; omega) ?_); intro g cap w2 HO2 hb2)
            · go_roundw
              case rel => exact ⟨k + 1, acc ++ [c], by omega, by omega, by go_num, Lib.hid (by have := HO2.out; simpa [Lib.byteCells] using this), hbel.trans hb2, HE⟩
              case measure => simp [intOf]; omega
    · obtain rfl : k = s.size := by omega
      have HE : Hid (litL (s.data.toList.drop (at0 + 1)) = none) := Lib.hid (by rw [HA.out.2, List.drop_eq_nil_of_le (by rw [← Lib.size_eq]; exact Nat.le_refl _)]; rfl)
      go_wp2
      go_ret3
      obtain ⟨e2, e3, e4⟩ := lit_none HE.out
      exact ⟨ret_sib (by rw [e2]) e3.symm e4.symm, by rw [← HBB.out]; exact hbel⟩
end Go.Proofs.YtmlfoffahfbalaaDoor
