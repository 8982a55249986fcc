/- Contract of package version's Format. -/
import Derived.Test.YtdhihdiifgcfdaaGreatDoorVValid
import Derived.Test.YtdhihdiifgcfdaaGreatDoorLib
import Derived.Test.YtdhihdiifgcfdaaGreatDoorOwn
import Derived.WalkSmall
import Derived.Lib.Join
namespace Go.Proofs.YtdhihdiifgcfdaaGreatDoor
open Go Go.RowKit

/-- the table of the powers of ten. -/
def TabOk (w : World) : Prop := Lib.TabIs Tryz.prog w "internal/strconv.uint64pow10" .u64 Lib.pow10Tab
theorem TabOk.below {w w' : World} (h : TabOk w) (hb : Below w.heap.size w w') : TabOk w' := by
  unfold TabOk Lib.TabIs at *
  refine var?_below (g := 3) hb (by kernel_rfl) ?_ h
  unfold World.var? at h
  rw [show Tryz.prog.globalNamed "internal/strconv.uint64pow10" = some 3 by kernel_rfl] at h
  simp only [Option.bind_some] at h
  rcases Nat.lt_or_ge 3 w.heap.size with hp | hp
  · exact hp
  · rw [Array.getElem?_eq_none hp] at h; exact absurd h (by simp)
/-- a number in decimal. -/
def decL (n : Int) : List UInt8 := Lib.decDigits n.toNat
theorem decL_len (n : Int) (h1 : n ≤ 999) : (decL n).length ≤ 3 := by
  unfold decL
  have : n.toNat ≤ 999 := by omega
  generalize n.toNat = m at *
  rw [Lib.decDigits]
  split
  · simp
  · rw [Lib.decDigits]
    split
    · simp
    · rw [Lib.decDigits]
      rw [dif_pos (by omega)]; simp
theorem below_grow (w : World) (k : Nat) (os : Array Obj) : Below w.heap.size w (Go.Sort.grow (w.drewN k) os) :=
  ⟨rfl, rfl, rfl, by show w.heap.size ≤ (w.heap ++ os).size; rw [Array.size_append]; omega, fun j hj => by show (w.heap ++ os)[j]? = _; rw [Array.getElem?_append_left hj]⟩
theorem Itoa_any (n : Int) (w : World) (h0 : 0 ≤ n) (h1 : n ≤ 999) (ht : TabOk w) : Calls Tryz.prog 64 #[.int .i64 n] w fun e w' => e = .returned (.string ⟨(decL n).toArray⟩) ∧ Below w.heap.size w w' := by
  refine (Tryz.strconv_Itoa n (by omega) (by omega) w ht).mono ?_
  rintro e w' ⟨rfl, k, os, rfl⟩
  refine ⟨?_, below_grow _ _ _⟩
  unfold Lib.itoa decL
  rw [if_neg (by omega)]
/-- the text of a number. -/
def fmtL (a b c : Int) : List UInt8 := decL a ++ 46 :: (decL b ++ 46 :: decL c)
/-- the text of a number, or none; and the error. -/
def formatV (a b c : Int) : List UInt8 × Int := if validB a b c = true then (fmtL a b c, 0) else ([], 2)
theorem join_three (x y z : List UInt8) : Lib.join [x, y, z] [46] = x ++ 46 :: (y ++ 46 :: z) := by
  rw [Lib.join_cons]; simp [Lib.joinTail]

set_option maxRecDepth 100000 in
set_option maxHeartbeats 4000000 in
theorem Format_any (a b c : Int) (w : World) (ht : TabOk w) : Calls Tryz.prog 32 #[.agg #[.int .i64 a, .int .i64 b, .int .i64 c]] w fun e w' =>
    e = .returned (.tuple #[.string ⟨(formatV a b c).1.toArray⟩, .int .i64 (formatV a b c).2]) ∧ Below w.heap.size w w' := by
  by_cases hv : validB a b c = true
  · have HE := Lib.hid (show formatV a b c = (fmtL a b c, 0) by unfold formatV; rw [if_pos hv])
    rw [HE.out]
    obtain ⟨⟨a0, a1⟩, ⟨b0, b1⟩, c0, c1⟩ := valid_le hv
    have i0 : ∀ w, (Instr.index 75 (.agg #[.int .i64 a, .int .i64 b, .int .i64 c]) (.int .i64 0)).run Tryz.prog w = .ok (.int .i64 a) w := fun _ => by kernel_rfl
    have i1 : ∀ w, (Instr.index 75 (.agg #[.int .i64 a, .int .i64 b, .int .i64 c]) (.int .i64 1)).run Tryz.prog w = .ok (.int .i64 b) w := fun _ => by kernel_rfl
    have i2 : ∀ w, (Instr.index 75 (.agg #[.int .i64 a, .int .i64 b, .int .i64 c]) (.int .i64 2)).run Tryz.prog w = .ok (.int .i64 c) w := fun _ => by kernel_rfl
    have HA := Lib.hid (fun W (h : TabOk W) => Itoa_any a W a0 a1 h)
    have HB := Lib.hid (fun W (h : TabOk W) => Itoa_any b W b0 b1 h)
    have HC := Lib.hid (fun W (h : TabOk W) => Itoa_any c W c0 c1 h)
    have hl1 := decL_len a a1
    have hl2 := decL_len b b1
    have hl3 := decL_len c c1
    obtain ⟨sa, hsa⟩ : ∃ s : ByteArray, (⟨(decL a).toArray⟩ : ByteArray) = s := ⟨_, rfl⟩
    obtain ⟨sb, hsb⟩ : ∃ s : ByteArray, (⟨(decL b).toArray⟩ : ByteArray) = s := ⟨_, rfl⟩
    obtain ⟨sc, hsc⟩ : ∃ s : ByteArray, (⟨(decL c).toArray⟩ : ByteArray) = s := ⟨_, rfl⟩
    rw [hsa] at HA
    rw [hsb] at HB
    rw [hsc] at HC
    have HJ := Lib.hid (show Lib.join ([sa, sb, sc].map (·.data.toList)) (⟨#[46]⟩ : ByteArray).data.toList = fmtL a b c by
      have e1 : sa.data.toList = decL a := by rw [← hsa]
      have e2 : sb.data.toList = decL b := by rw [← hsb]
      have e3 : sc.data.toList = decL c := by rw [← hsc]
      simp only [List.map_cons, List.map_nil, e1, e2, e3]
      exact join_three _ _ _)
    have HL := Lib.hid (show (fmtL a b c).length ≤ 11 by unfold fmtL; simp only [List.length_append, List.length_cons]; omega)
    clear hl1 hl2 hl3 hsa hsb hsc
    have HT := Lib.hid ht
    clear ht
    go_enter Tryz.func32, Tryz.ntmps32
    go_wp2_with (first | (go_at_call 46; refine (Valid_any _ _ _ _).mono ?_; rintro e w' ⟨rfl, rfl⟩) | (go_at_call 58; refine (parts_any _ _ _ _).mono ?_; rintro e w' ⟨rfl, rfl⟩))
    go_loopw [4, 12] (fun v i wr => ((i = .int .i64 0 ∧ Hid (Mine 9 1 w.heap.size v 0 [] wr)) ∨ (i = .int .i64 1 ∧ Hid (Mine 9 1 w.heap.size v 1 [.string sa] wr)) ∨ (i = .int .i64 2 ∧ Hid (Mine 9 1 w.heap.size v 2 [.string sa, .string sb] wr)) ∨ (i = .int .i64 3 ∧ Hid (Mine 9 1 w.heap.size v 3 [.string sa, .string sb, .string sc] wr))) ∧ Hid (Below w.heap.size w wr)) (fun _ i _ => 3 - (intOf i).toNat)
    case atStart => exact ⟨.inl ⟨rfl, Mine.nil _ _ _ _ (by simp; omega)⟩, Lib.hid (by repeat (first | exact Below.refl _ _ | refine Below.drew ?_ | refine Below.alloc ?_ (by simp <;> omega) _ | refine Below.setCell ?_ (by simp <;> omega) _))⟩
    case round =>
      obtain ⟨hrel, HBW⟩ := hrel
      have HTW := Lib.hid (HT.out.below HBW.out)
      rcases hrel with ⟨rfl, HO⟩ | ⟨rfl, HO⟩ | ⟨rfl, HO⟩ | ⟨rfl, HO⟩
      · go_wp2_with fail
        (with_reducible refine (HA.out _ HTW.out).mono ?_)
        rintro e w1 ⟨rfl, hb1⟩
        have HO2 := Mine.below HO hb1
        have HB1 : Hid (Below w.heap.size w w1) := Lib.hid (HBW.out.trans (hb1.mono HBW.out.size))
        clear hb1
        go_wp2_with (at_builtin; refine app_strs _ rfl _ _ (by rfl) w.heap.size _ _ _ (by rfl) HO2 1 [.string sa] _ (by rfl) (by rfl) (by rfl) (by simp [Value.oneCell']) (by decide) (by omega) ?_; intro g cap w2 HO3 hb2)
        have HB2 : Hid (Below w.heap.size w w2) := Lib.hid (HB1.out.trans hb2)
        clear hb2
        go_roundw
        case rel => exact ⟨.inr (.inl ⟨rfl, HO3⟩), HB2⟩
        case measure => simp [intOf]
      · go_wp2_with fail
        (with_reducible refine (HB.out _ HTW.out).mono ?_)
        rintro e w1 ⟨rfl, hb1⟩
        have HO2 := Mine.below HO hb1
        have HB1 : Hid (Below w.heap.size w w1) := Lib.hid (HBW.out.trans (hb1.mono HBW.out.size))
        clear hb1
        go_wp2_with (at_builtin; refine app_strs _ rfl _ _ (by rfl) w.heap.size _ _ _ (by rfl) HO2 1 [.string sb] _ (by rfl) (by rfl) (by rfl) (by simp [Value.oneCell']) (by decide) (by omega) ?_; intro g cap w2 HO3 hb2)
        have HB2 : Hid (Below w.heap.size w w2) := Lib.hid (HB1.out.trans hb2)
        clear hb2
        go_roundw
        case rel => exact ⟨.inr (.inr (.inl ⟨rfl, HO3⟩)), HB2⟩
        case measure => simp [intOf]
      · go_wp2_with fail
        (with_reducible refine (HC.out _ HTW.out).mono ?_)
        rintro e w1 ⟨rfl, hb1⟩
        have HO2 := Mine.below HO hb1
        have HB1 : Hid (Below w.heap.size w w1) := Lib.hid (HBW.out.trans (hb1.mono HBW.out.size))
        clear hb1
        go_wp2_with (at_builtin; refine app_strs _ rfl _ _ (by rfl) w.heap.size _ _ _ (by rfl) HO2 1 [.string sc] _ (by rfl) (by rfl) (by rfl) (by simp [Value.oneCell']) (by decide) (by omega) ?_; intro g cap w2 HO3 hb2)
        have HB2 : Hid (Below w.heap.size w w2) := Lib.hid (HB1.out.trans hb2)
        clear hb2
        go_roundw
        case rel => exact ⟨.inr (.inr (.inr ⟨rfl, HO3⟩)), HB2⟩
        case measure => simp [intOf]
      · obtain ⟨g, cap, rfl⟩ := HO.out.shape (by decide)
        have hg := HO.out.ge
        have HJN := Lib.hid (Tryz.strings_Join g 0 cap [sa, sb, sc] ⟨#[46]⟩ wr (fun j x hx => by
          have hj : j < 3 := by have := (List.getElem?_eq_some_iff.1 hx).1; simpa using this
          rw [Nat.zero_add, HO.out.cell j (by omega)]
          have := congrArg (Option.map Value.string) hx
          rw [← List.getElem?_map] at this
          exact this) hg.2 (by simp) (by
            obtain ⟨_, h2⟩ := HO.out.1
            rcases h2 with ⟨h2, _⟩ | ⟨g', cap', cur, hv2, _, _, h3, _⟩
            · cases h2
            · cases hv2; exact h3) (by rw [HJ.out]; have := HL.out; omega))
        rw [HJ.out] at HJN
        simp only [List.length_cons, List.length_nil, Nat.reduceAdd] at HJN
        go_wp2_with fail
        (with_reducible refine HJN.out.mono ?_)
        rintro e w1 ⟨rfl, hb1⟩
        have HB1 : Hid (Below w.heap.size w w1) := Lib.hid (HBW.out.trans (hb1.mono HBW.out.size))
        clear hb1
        go_wp2_with fail
        go_ret2
        exact ⟨rfl, HB1.out⟩
  · have hv : validB a b c = false := by simpa using hv
    have HE := Lib.hid (show formatV a b c = ([], 2) by unfold formatV; rw [hv]; rfl)
    rw [HE.out]
    go_enter Tryz.func32, Tryz.ntmps32
    go_wp2_with (first | (go_at_call 46; refine (Valid_any _ _ _ _).mono ?_; rintro e w' ⟨rfl, rfl⟩))
    go_ret2
    exact ⟨rfl, (by repeat (first | exact Below.refl _ _ | refine Below.drew ?_ | refine Below.alloc ?_ (by simp <;> omega) _ | refine Below.setCell ?_ (by simp <;> omega) _))⟩
end Go.Proofs.YtdhihdiifgcfdaaGreatDoor
