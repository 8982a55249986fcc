/- Contract of the reference's character. -/
import Derived.Test.YtmlfoffahfbalaaDoorRScan
import Derived.BigQuiet
namespace Go.Proofs.YtmlfoffahfbalaaDoor
open Go Go.RowKit

/-- what character leaves. -/
def ChrR (l : List UInt8) (w : World) (e : Ending) (w' : World) : Prop :=
  (∃ b : Int, e = .returned (.tuple #[.int .u8 b, .int .i64 (chrN l)]) ∧ (chrN l ≠ 0 → b = (chrB l).toNat)) ∧ Below w.heap.size w w'
theorem ChrR.bad {l : List UInt8} {w w' : World} (h : Hid (chrN l = 0)) (hb : Below w.heap.size w w') : ChrR l w (.returned (.tuple #[.int .u8 0, .int .i64 0])) w' :=
  ⟨⟨0, by rw [h.out]; rfl, fun h2 => absurd h.out h2⟩, hb⟩
theorem ChrR.ok {l : List UInt8} {w w' : World} {n : Nat} {c : UInt8} {b m : Int} (h : Hid (chrN l = n ∧ chrB l = c)) (hb : b = c.toNat) (hm : m = n) (hbl : Below w.heap.size w w') : ChrR l w (.returned (.tuple #[.int .u8 b, .int .i64 m])) w' :=
  ⟨⟨b, by rw [h.out.1, hm], fun _ => by rw [hb, h.out.2]⟩, hbl⟩

theorem below_drewM {B : Nat} {a w : World} (h : Below B a w) (n : Nat) : Below B a (w.drewN n) := h.trans ⟨rfl, rfl, rfl, Nat.le_refl _, fun _ _ => rfl⟩

set_option maxRecDepth 100000 in
set_option maxHeartbeats 4000000 in
theorem rchar_any (s : ByteArray) (w : World) : Calls Tryd.prog 77 #[.string s] w (ChrR s.data.toList w) := by
  by_cases h0 : 0 < s.size
  case neg =>
    have he : s = ⟨#[]⟩ := by
      apply ByteArray.ext
      have : s.data.size = 0 := by have : s.size = s.data.size := rfl; omega
      exact Array.eq_empty_of_size_eq_zero this
    subst he
    have HE : Hid (chrN (⟨#[]⟩ : ByteArray).data.toList = 0) := Lib.hid rfl
    go_enter Tryd.func77, Tryd.ntmps77
    go_wp2_with fail
    go_ret2
    exact ChrR.bad HE (Below.refl _ _)
  have hD0 := drop_cons s 0 h0
  rw [List.drop_zero, show 0 + 1 = 1 from rfl] at hD0
  have he1 : ¬ s.data.toList = [] := by rw [hD0]; simp
  have he2 : s.data.toList.isEmpty = false := by rw [hD0]; rfl
  have he3 : ¬ s.toList = [] := by rw [ByteArray.toList_eq]; exact he1
  have he4 : s.toList.isEmpty = false := by rw [ByteArray.toList_eq]; exact he2
  have HD1 := Lib.hid (fun h => drop_cons s 1 h)
  have HD2 := Lib.hid (fun h => drop_cons s 2 h)
  have HD3 := Lib.hid (fun h => drop_cons s 3 h)
  have h255 : (s[0]).toNat ≤ 255 := by have := (s[0]).toNat_lt; omega
  generalize hcs : s[0] = c at *
  have HD0 := Lib.hid hD0
  clear he1 he2 hD0
  by_cases h1 : c.toNat < 32
  case pos =>
    have HE : Hid (chrN s.data.toList = 0) := Lib.hid (by rw [HD0.out, chr_low c _ h1])
    have h2 : (c.toNat : Int) < 32 := by omega
    go_enter Tryd.func77, Tryd.ntmps77
    go_wp2_with fail
    go_ret2
    exact ChrR.bad HE (Below.refl _ _)
  have h2 : ¬ (c.toNat : Int) < 32 := by omega
  by_cases h3 : c = 34
  case pos =>
    have n34 : ((c.toNat : Int) == 34) = true := by rw [h3]; rfl
    have HE : Hid (chrN s.data.toList = 0) := Lib.hid (by rw [HD0.out, h3]; rfl)
    clear h3
    go_enter Tryd.func77, Tryd.ntmps77
    go_wp2_with fail
    go_ret2
    exact ChrR.bad HE (Below.refl _ _)
  have n34 : ((c.toNat : Int) == 34) = false := by rw [beq_eq_false_iff_ne]; intro e; exact h3 (UInt8.toNat_inj.1 (by have : ((34 : UInt8).toNat) = 34 := rfl; omega))
  by_cases h4 : c = 92
  case neg =>
    have n92 : ((c.toNat : Int) == 92) = false := by rw [beq_eq_false_iff_ne]; intro e; exact h4 (UInt8.toNat_inj.1 (by have : ((92 : UInt8).toNat) = 92 := rfl; omega))
    have m92 : ((c.toNat : Int) != 92) = true := by rw [bne, n92]; rfl
    have HE : Hid (chrN s.data.toList = 1 ∧ chrB s.data.toList = c) := Lib.hid (by rw [HD0.out]; exact chr_plain c _ h1 h3 h4)
    clear h3 h4 h1
    go_enter Tryd.func77, Tryd.ntmps77
    go_wp2_with fail
    go_ret2
    exact ChrR.ok HE rfl rfl (Below.refl _ _)
  have n92 : ((c.toNat : Int) == 92) = true := by rw [h4]; rfl
  have m92 : ((c.toNat : Int) != 92) = false := by rw [bne, n92]; rfl
  clear h1 h3
  by_cases h5 : 1 < s.size
  case neg =>
    have h6 : (s.size : Int) < 2 := by omega
    have HE : Hid (chrN s.data.toList = 0) := Lib.hid (by
      have e : s.data.toList.drop 1 = [] := List.drop_eq_nil_of_le (by rw [← Lib.size_eq]; omega)
      rw [HD0.out, e, h4]; rfl)
    clear h4
    go_enter Tryd.func77, Tryd.ntmps77
    go_wp2_with fail
    go_ret2
    exact ChrR.bad HE (Below.refl _ _)
  have h6 : ¬ (s.size : Int) < 2 := by omega
  have hD1 := HD1.out h5
  have h255d : (s[1]).toNat ≤ 255 := by have := (s[1]).toNat_lt; omega
  generalize hds : s[1] = d at *
  have HQ : Hid (s.data.toList = 92 :: d :: s.data.toList.drop 2) := Lib.hid (HD0.out.trans (by rw [h4, hD1]))
  clear h4 hD1
  by_cases h7 : d = 34
  case pos =>
    have k34 : ((d.toNat : Int) == 34) = true := by rw [h7]; rfl
    have HE : Hid (chrN s.data.toList = 2 ∧ chrB s.data.toList = d) := Lib.hid (by rw [HQ.out, h7]; exact chr_back_quote _)
    clear h7
    go_enter Tryd.func77, Tryd.ntmps77
    go_wp2_with fail
    go_ret2
    exact ChrR.ok HE rfl rfl (Below.refl _ _)
  have k34 : ((d.toNat : Int) == 34) = false := by rw [beq_eq_false_iff_ne]; intro e; exact h7 (UInt8.toNat_inj.1 (by have : ((34 : UInt8).toNat) = 34 := rfl; omega))
  by_cases h8 : d = 92
  case pos =>
    have k92 : ((d.toNat : Int) == 92) = true := by rw [h8]; rfl
    have HE : Hid (chrN s.data.toList = 2 ∧ chrB s.data.toList = d) := Lib.hid (by rw [HQ.out, h8]; exact chr_back_back _)
    clear h7 h8
    go_enter Tryd.func77, Tryd.ntmps77
    go_wp2_with fail
    go_ret2
    exact ChrR.ok HE rfl rfl (Below.refl _ _)
  have k92 : ((d.toNat : Int) == 92) = false := by rw [beq_eq_false_iff_ne]; intro e; exact h8 (UInt8.toNat_inj.1 (by have : ((92 : UInt8).toNat) = 92 := rfl; omega))
  by_cases h9 : d = 110
  case pos =>
    have k110 : ((d.toNat : Int) == 110) = true := by rw [h9]; rfl
    have HE : Hid (chrN s.data.toList = 2 ∧ chrB s.data.toList = 10) := Lib.hid (by rw [HQ.out, h9]; exact chr_back_n _)
    clear h7 h8 h9
    go_enter Tryd.func77, Tryd.ntmps77
    go_wp2_with fail
    go_ret2
    exact ChrR.ok HE rfl rfl (Below.refl _ _)
  have k110 : ((d.toNat : Int) == 110) = false := by rw [beq_eq_false_iff_ne]; intro e; exact h9 (UInt8.toNat_inj.1 (by have : ((110 : UInt8).toNat) = 110 := rfl; omega))
  by_cases h10 : d = 120
  case neg =>
    have k120 : ((d.toNat : Int) == 120) = false := by rw [beq_eq_false_iff_ne]; intro e; exact h10 (UInt8.toNat_inj.1 (by have : ((120 : UInt8).toNat) = 120 := rfl; omega))
    have HE : Hid (chrN s.data.toList = 0) := Lib.hid (by rw [HQ.out]; exact chr_back_other d _ h7 h8 h9 h10)
    clear h7 h8 h9 h10
    go_enter Tryd.func77, Tryd.ntmps77
    go_wp2_with fail
    go_ret2
    exact ChrR.bad HE (Below.refl _ _)
  have k120 : ((d.toNat : Int) == 120) = true := by rw [h10]; rfl
  have HQ2 : Hid (s.data.toList = 92 :: 120 :: s.data.toList.drop 2) := Lib.hid (HQ.out.trans (by rw [h10]))
  clear h7 h8 h9 h10
  by_cases h11 : 3 < s.size
  case neg =>
    have h12 : (s.size : Int) < 4 := by omega
    have HE : Hid (chrN s.data.toList = 0) := Lib.hid (by
      cases e : s.data.toList.drop 2 with
      | nil => rw [HQ2.out, e]; rfl
      | cons x q =>
        cases q with
        | nil => rw [HQ2.out, e]; rfl
        | cons y q => exfalso; have := congrArg List.length e; rw [List.length_drop, ← Lib.size_eq] at this; simp at this; omega)
    go_enter Tryd.func77, Tryd.ntmps77
    go_wp2_with fail
    go_ret2
    exact ChrR.bad HE (Below.refl _ _)
  have h12 : ¬ (s.size : Int) < 4 := by omega
  have h12b : (4 : Int) ≤ s.size := by omega
  have hD2 := HD2.out (by omega)
  have hD3 := HD3.out (by omega)
  have h255x : (s[2]).toNat ≤ 255 := by have := (s[2]).toNat_lt; omega
  have h255y : (s[3]).toNat ≤ 255 := by have := (s[3]).toNat_lt; omega
  generalize hxs : s[2] = x at *
  generalize hys : s[3] = y at *
  have HY : Hid (s.data.toList = 92 :: 120 :: x :: y :: s.data.toList.drop 4) := Lib.hid (HQ2.out.trans (by rw [hD2, hD3]))
  clear hD2 hD3
  have HHX := Lib.hid (fun w' : World => rhex_any (x.toNat : Int) (by omega) (by omega) w')
  have HHY := Lib.hid (fun w' : World => rhex_any (y.toNat : Int) (by omega) (by omega) w')
  have hlx := hexZ_lt (x.toNat : Int)
  have hly := hexZ_lt (y.toNat : Int)
  obtain ⟨vx, hvx⟩ : ∃ v, hexZ (x.toNat : Int) = v := ⟨_, rfl⟩
  obtain ⟨vy, hvy⟩ : ∃ v, hexZ (y.toNat : Int) = v := ⟨_, rfl⟩
  have HB : Hid (0 ≤ vx ∧ 0 ≤ vy → chrN s.data.toList = 4 ∧ chrB s.data.toList = (16 * vx + vy).toNat.toUInt8) := Lib.hid (by rw [HY.out, ← hvx, ← hvy]; exact fun h => chr_back_x x y _ h)
  have HN : Hid (¬ (0 ≤ vx ∧ 0 ≤ vy) → chrN s.data.toList = 0) := Lib.hid (by rw [HY.out, ← hvx, ← hvy]; exact fun h => chr_back_xno x y _ h)
  rw [hvx] at hlx
  rw [hvy] at hly
  have HVX := Lib.hid hvx
  have HVY := Lib.hid hvy
  clear hvx hvy
  by_cases h13 : 0 ≤ vx
  case neg =>
    have HE : Hid (chrN s.data.toList = 0) := Lib.hid (HN.out (fun h => h13 h.1))
    go_enter Tryd.func77, Tryd.ntmps77
    go_wp2_with fail
    refine (HHX.out _).mono ?_
    rintro e w' ⟨rfl, rfl⟩
    rw [HVX.out]
    go_wp2_with fail
    go_ret2
    exact ChrR.bad HE (Below.refl _ _)
  by_cases h14 : 0 ≤ vy
  case neg =>
    have HE : Hid (chrN s.data.toList = 0) := Lib.hid (HN.out (fun h => h14 h.2))
    go_enter Tryd.func77, Tryd.ntmps77
    go_wp2_with fail
    refine (HHX.out _).mono ?_
    rintro e w' ⟨rfl, rfl⟩
    rw [HVX.out]
    go_wp2_with fail
    refine (HHY.out _).mono ?_
    rintro e w' ⟨rfl, rfl⟩
    rw [HVY.out]
    go_wp2_with fail
    go_ret2
    exact ChrR.bad HE (Below.refl _ _)
  have HE := Lib.hid (HB.out ⟨h13, h14⟩)
  have hnat : ((16 * vx + vy).toNat.toUInt8).toNat = (16 * vx + vy).toNat := by
    show (16 * vx + vy).toNat % 256 = _
    omega
  have HNT := Lib.hid hnat
  have q1 : IntKind.u8.wrap (16 * vx + vy) = 16 * vx + vy := by rw [IntKind.wrap_u8]; omega
  have HU : Hid (∀ (u : UInt8) (w' : World), Calls Tryd.prog 85 #[.int .u8 u.toNat] w' fun e w'' => e = .returned (.int .i64 (hexZ u.toNat)) ∧ w'' = w') := Lib.hid (fun u w' => (rhex_any (u.toNat : Int) (by omega) (by have := u.toNat_lt; omega) w').mono fun e w'' ⟨h1, h2⟩ => ⟨h1, h2.symm⟩)
  clear hnat
  go_enter Tryd.func77, Tryd.ntmps77
  go_wp2_with fail
  refine (HHX.out _).mono ?_
  rintro e w' ⟨rfl, rfl⟩
  rw [HVX.out]
  go_wp2_with fail
  refine (HHY.out _).mono ?_
  rintro e w' ⟨rfl, rfl⟩
  rw [HVY.out]
  go_wp2_with fail
  have hvx := HVX.out
  have hvy := HVY.out
  go_quiet (first | (go_at_call 85; refine Calls.quiet_of_same (HU.out _ _)))
  go_wp2_with fail
  go_ret2
  exact ChrR.ok HE (by rw [HNT.out]; omega) rfl (below_drewM (Below.refl _ _) _)
end Go.Proofs.YtmlfoffahfbalaaDoor
