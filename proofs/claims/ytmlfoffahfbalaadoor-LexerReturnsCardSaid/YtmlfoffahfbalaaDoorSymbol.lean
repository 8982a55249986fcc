/- Contract of the lexer's symbol. -/
import Derived.Test.YtmlfoffahfbalaaDoorBlanks
import Derived.Test.YtmlfoffahfbalaaDoorPlainSym
namespace Go.Proofs.YtmlfoffahfbalaaDoor
open Go Go.RowKit

theorem pf_call (s p : ByteArray) (x : Bool) (h : Hid (p.data.toList.isPrefixOf s.data.toList = x)) (w : World) :
    Calls Tryd.prog 30 #[.string s, .string p] w fun e w' => e = .returned (.bool x) ∧ w = w' := by
  have := HasPrefix_any s p w
  rw [Lib.hasPrefix, h.out] at this
  exact this
theorem sym_call (c : UInt8) (w : World) :
    Calls Tryd.prog 73 #[.string ⟨#[40, 41, 91, 93, 123, 125, 60, 62, 44, 58, 61, 46, 43, 45, 42, 124, 63, 47]⟩, .int .u8 c.toNat] w fun e w' => e = .returned (.int .i64 (symI c)) ∧ w = w' := by
  have := IndexByte_any ⟨#[40, 41, 91, 93, 123, 125, 60, 62, 44, 58, 61, 46, 43, 45, 42, 124, 63, 47]⟩ c.toNat w
  rw [byte_back] at this
  exact this

set_option maxRecDepth 100000 in
set_option maxHeartbeats 2400000 in
theorem symbol_any (s : ByteArray) (w : World) (hs : s.size ≤ 1000000) :
    Calls Tryd.prog 76 #[.string s] w fun e w' => e = .returned (.string ⟨(symL s.data.toList).toArray⟩) ∧ w = w' := by
  have i0 : ∀ w : World, (Instr.index 89 (.agg #[.string ⟨#[61, 61, 61]⟩, .string ⟨#[58, 58]⟩, .string ⟨#[62, 58]⟩, .string ⟨#[60, 58]⟩, .string ⟨#[61, 62]⟩, .string ⟨#[61, 61]⟩, .string ⟨#[43, 43]⟩]) (.int .i64 0)).run Tryd.prog w = .ok (.string ⟨#[61, 61, 61]⟩) w := fun _ => by kernel_rfl
  have i1 : ∀ w : World, (Instr.index 89 (.agg #[.string ⟨#[61, 61, 61]⟩, .string ⟨#[58, 58]⟩, .string ⟨#[62, 58]⟩, .string ⟨#[60, 58]⟩, .string ⟨#[61, 62]⟩, .string ⟨#[61, 61]⟩, .string ⟨#[43, 43]⟩]) (.int .i64 1)).run Tryd.prog w = .ok (.string ⟨#[58, 58]⟩) w := fun _ => by kernel_rfl
  have i2 : ∀ w : World, (Instr.index 89 (.agg #[.string ⟨#[61, 61, 61]⟩, .string ⟨#[58, 58]⟩, .string ⟨#[62, 58]⟩, .string ⟨#[60, 58]⟩, .string ⟨#[61, 62]⟩, .string ⟨#[61, 61]⟩, .string ⟨#[43, 43]⟩]) (.int .i64 2)).run Tryd.prog w = .ok (.string ⟨#[62, 58]⟩) w := fun _ => by kernel_rfl
  have i3 : ∀ w : World, (Instr.index 89 (.agg #[.string ⟨#[61, 61, 61]⟩, .string ⟨#[58, 58]⟩, .string ⟨#[62, 58]⟩, .string ⟨#[60, 58]⟩, .string ⟨#[61, 62]⟩, .string ⟨#[61, 61]⟩, .string ⟨#[43, 43]⟩]) (.int .i64 3)).run Tryd.prog w = .ok (.string ⟨#[60, 58]⟩) w := fun _ => by kernel_rfl
  have i4 : ∀ w : World, (Instr.index 89 (.agg #[.string ⟨#[61, 61, 61]⟩, .string ⟨#[58, 58]⟩, .string ⟨#[62, 58]⟩, .string ⟨#[60, 58]⟩, .string ⟨#[61, 62]⟩, .string ⟨#[61, 61]⟩, .string ⟨#[43, 43]⟩]) (.int .i64 4)).run Tryd.prog w = .ok (.string ⟨#[61, 62]⟩) w := fun _ => by kernel_rfl
  have i5 : ∀ w : World, (Instr.index 89 (.agg #[.string ⟨#[61, 61, 61]⟩, .string ⟨#[58, 58]⟩, .string ⟨#[62, 58]⟩, .string ⟨#[60, 58]⟩, .string ⟨#[61, 62]⟩, .string ⟨#[61, 61]⟩, .string ⟨#[43, 43]⟩]) (.int .i64 5)).run Tryd.prog w = .ok (.string ⟨#[61, 61]⟩) w := fun _ => by kernel_rfl
  have i6 : ∀ w : World, (Instr.index 89 (.agg #[.string ⟨#[61, 61, 61]⟩, .string ⟨#[58, 58]⟩, .string ⟨#[62, 58]⟩, .string ⟨#[60, 58]⟩, .string ⟨#[61, 62]⟩, .string ⟨#[61, 61]⟩, .string ⟨#[43, 43]⟩]) (.int .i64 6)).run Tryd.prog w = .ok (.string ⟨#[43, 43]⟩) w := fun _ => by kernel_rfl
  go_enter Tryd.func76, Tryd.ntmps76
  go_wp2
  go_loop [6] (fun i => ∃ k : Nat, k ≤ 7 ∧ i = .int .i64 k ∧ Hid (noneOf k s.data.toList)) (fun i => 7 - (intOf i).toNat)
  case atStart => exact ⟨0, by omega, rfl, Lib.hid (fun x hx => by simp at hx)⟩
  case round =>
    obtain ⟨k, hk, rfl, HA⟩ := hrel
    rcases (show k = 0 ∨ k = 1 ∨ k = 2 ∨ k = 3 ∨ k = 4 ∨ k = 5 ∨ k = 6 ∨ k = 7 from by omega) with rfl | rfl | rfl | rfl | rfl | rfl | rfl | rfl
    · cases hp : (symList[0]).data.toList.isPrefixOf s.data.toList
      · have HN : Hid (noneOf 1 s.data.toList) := Lib.hid (noneOf_succ HA.out (by decide) hp)
        have HP : Hid ((ByteArray.mk #[61, 61, 61]).data.toList.isPrefixOf s.data.toList = false) := Lib.hid hp
        clear hp
        go_wp2_with (go_at_call 30; refine (pf_call s _ _ HP _).mono ?_; rintro e w' ⟨rfl, rfl⟩)
        go_round
        case rel => exact ⟨1, by omega, rfl, HN⟩
        case measure => simp [intOf]
      · have HS : Hid (symL s.data.toList = (symList[0]).data.toList) := Lib.hid (sym_hit HA.out (by decide) hp)
        have HP : Hid ((ByteArray.mk #[61, 61, 61]).data.toList.isPrefixOf s.data.toList = true) := Lib.hid hp
        clear hp
        go_wp2_with (go_at_call 30; refine (pf_call s _ _ HP _).mono ?_; rintro e w' ⟨rfl, rfl⟩)
        go_ret
        exact ⟨by rw [HS.out]; rfl, rfl⟩
    · cases hp : (symList[1]).data.toList.isPrefixOf s.data.toList
      · have HN : Hid (noneOf 2 s.data.toList) := Lib.hid (noneOf_succ HA.out (by decide) hp)
        have HP : Hid ((ByteArray.mk #[58, 58]).data.toList.isPrefixOf s.data.toList = false) := Lib.hid hp
        clear hp
        go_wp2_with (go_at_call 30; refine (pf_call s _ _ HP _).mono ?_; rintro e w' ⟨rfl, rfl⟩)
        go_round
        case rel => exact ⟨2, by omega, rfl, HN⟩
        case measure => simp [intOf]
      · have HS : Hid (symL s.data.toList = (symList[1]).data.toList) := Lib.hid (sym_hit HA.out (by decide) hp)
        have HP : Hid ((ByteArray.mk #[58, 58]).data.toList.isPrefixOf s.data.toList = true) := Lib.hid hp
        clear hp
        go_wp2_with (go_at_call 30; refine (pf_call s _ _ HP _).mono ?_; rintro e w' ⟨rfl, rfl⟩)
        go_ret
        exact ⟨by rw [HS.out]; rfl, rfl⟩
    · cases hp : (symList[2]).data.toList.isPrefixOf s.data.toList
      · have HN : Hid (noneOf 3 s.data.toList) := Lib.hid (noneOf_succ HA.out (by decide) hp)
        have HP : Hid ((ByteArray.mk #[62, 58]).data.toList.isPrefixOf s.data.toList = false) := Lib.hid hp
        clear hp
        go_wp2_with (go_at_call 30; refine (pf_call s _ _ HP _).mono ?_; rintro e w' ⟨rfl, rfl⟩)
        go_round
        case rel => exact ⟨3, by omega, rfl, HN⟩
        case measure => simp [intOf]
      · have HS : Hid (symL s.data.toList = (symList[2]).data.toList) := Lib.hid (sym_hit HA.out (by decide) hp)
        have HP : Hid ((ByteArray.mk #[62, 58]).data.toList.isPrefixOf s.data.toList = true) := Lib.hid hp
        clear hp
        go_wp2_with (go_at_call 30; refine (pf_call s _ _ HP _).mono ?_; rintro e w' ⟨rfl, rfl⟩)
        go_ret
        exact ⟨by rw [HS.out]; rfl, rfl⟩
    · cases hp : (symList[3]).data.toList.isPrefixOf s.data.toList
      · have HN : Hid (noneOf 4 s.data.toList) := Lib.hid (noneOf_succ HA.out (by decide) hp)
        have HP : Hid ((ByteArray.mk #[60, 58]).data.toList.isPrefixOf s.data.toList = false) := Lib.hid hp
        clear hp
        go_wp2_with (go_at_call 30; refine (pf_call s _ _ HP _).mono ?_; rintro e w' ⟨rfl, rfl⟩)
        go_round
        case rel => exact ⟨4, by omega, rfl, HN⟩
        case measure => simp [intOf]
      · have HS : Hid (symL s.data.toList = (symList[3]).data.toList) := Lib.hid (sym_hit HA.out (by decide) hp)
        have HP : Hid ((ByteArray.mk #[60, 58]).data.toList.isPrefixOf s.data.toList = true) := Lib.hid hp
        clear hp
        go_wp2_with (go_at_call 30; refine (pf_call s _ _ HP _).mono ?_; rintro e w' ⟨rfl, rfl⟩)
        go_ret
        exact ⟨by rw [HS.out]; rfl, rfl⟩
    · cases hp : (symList[4]).data.toList.isPrefixOf s.data.toList
      · have HN : Hid (noneOf 5 s.data.toList) := Lib.hid (noneOf_succ HA.out (by decide) hp)
        have HP : Hid ((ByteArray.mk #[61, 62]).data.toList.isPrefixOf s.data.toList = false) := Lib.hid hp
        clear hp
        go_wp2_with (go_at_call 30; refine (pf_call s _ _ HP _).mono ?_; rintro e w' ⟨rfl, rfl⟩)
        go_round
        case rel => exact ⟨5, by omega, rfl, HN⟩
        case measure => simp [intOf]
      · have HS : Hid (symL s.data.toList = (symList[4]).data.toList) := Lib.hid (sym_hit HA.out (by decide) hp)
        have HP : Hid ((ByteArray.mk #[61, 62]).data.toList.isPrefixOf s.data.toList = true) := Lib.hid hp
        clear hp
        go_wp2_with (go_at_call 30; refine (pf_call s _ _ HP _).mono ?_; rintro e w' ⟨rfl, rfl⟩)
        go_ret
        exact ⟨by rw [HS.out]; rfl, rfl⟩
    · cases hp : (symList[5]).data.toList.isPrefixOf s.data.toList
      · have HN : Hid (noneOf 6 s.data.toList) := Lib.hid (noneOf_succ HA.out (by decide) hp)
        have HP : Hid ((ByteArray.mk #[61, 61]).data.toList.isPrefixOf s.data.toList = false) := Lib.hid hp
        clear hp
        go_wp2_with (go_at_call 30; refine (pf_call s _ _ HP _).mono ?_; rintro e w' ⟨rfl, rfl⟩)
        go_round
        case rel => exact ⟨6, by omega, rfl, HN⟩
        case measure => simp [intOf]
      · have HS : Hid (symL s.data.toList = (symList[5]).data.toList) := Lib.hid (sym_hit HA.out (by decide) hp)
        have HP : Hid ((ByteArray.mk #[61, 61]).data.toList.isPrefixOf s.data.toList = true) := Lib.hid hp
        clear hp
        go_wp2_with (go_at_call 30; refine (pf_call s _ _ HP _).mono ?_; rintro e w' ⟨rfl, rfl⟩)
        go_ret
        exact ⟨by rw [HS.out]; rfl, rfl⟩
    · cases hp : (symList[6]).data.toList.isPrefixOf s.data.toList
      · have HN : Hid (noneOf 7 s.data.toList) := Lib.hid (noneOf_succ HA.out (by decide) hp)
        have HP : Hid ((ByteArray.mk #[43, 43]).data.toList.isPrefixOf s.data.toList = false) := Lib.hid hp
        clear hp
        go_wp2_with (go_at_call 30; refine (pf_call s _ _ HP _).mono ?_; rintro e w' ⟨rfl, rfl⟩)
        go_round
        case rel => exact ⟨7, by omega, rfl, HN⟩
        case measure => simp [intOf]
      · have HS : Hid (symL s.data.toList = (symList[6]).data.toList) := Lib.hid (sym_hit HA.out (by decide) hp)
        have HP : Hid ((ByteArray.mk #[43, 43]).data.toList.isPrefixOf s.data.toList = true) := Lib.hid hp
        clear hp
        go_wp2_with (go_at_call 30; refine (pf_call s _ _ HP _).mono ?_; rintro e w' ⟨rfl, rfl⟩)
        go_ret
        exact ⟨by rw [HS.out]; rfl, rfl⟩
    · clear i0 i1 i2 i3 i4 i5 i6
      by_cases h1 : 1 ≤ s.size
      · have he1 := ne_nil s h1
        have he2 := ne_empty s h1
        have hd := drop_cons s 0 h1
        rw [List.drop_zero] at hd
        generalize hcs : s[0] = c at *
        have HD := Lib.hid hd
        cases h2 : singles.contains c
        · have hI := symI_no c h2
          have HS : Hid (symL s.data.toList = []) := Lib.hid (by have := HA.out; rw [hd] at this ⊢; rw [sym_single this, h2]; rfl)
          clear hd h2
          go_wp2_with (go_at_call 73; refine (sym_call c _).mono ?_; rintro e w' ⟨rfl, rfl⟩)
          go_ret
          exact ⟨by rw [HS.out]; rfl, rfl⟩
        · have hI := symI_yes c h2
          have HS : Hid (symL s.data.toList = [c]) := Lib.hid (by have := HA.out; rw [hd] at this ⊢; rw [sym_single this, h2]; rfl)
          clear hd h2
          go_wp2_with (go_at_call 73; refine (sym_call c _).mono ?_; rintro e w' ⟨rfl, rfl⟩)
          go_ret
          exact ⟨ret_string (by rw [HS.out, Lib.extract_eq, HD.out]; rfl), rfl⟩
      · have he1 := is_nil s h1
        have HS : Hid (symL s.data.toList = []) := Lib.hid (by rw [← Lib.toList_data, he1]; exact sym_nil)
        go_wp2
        go_ret
        exact ⟨by rw [HS.out]; rfl, rfl⟩
end Go.Proofs.YtmlfoffahfbalaaDoor
