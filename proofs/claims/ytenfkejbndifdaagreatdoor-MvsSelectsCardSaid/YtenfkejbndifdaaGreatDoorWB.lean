/- Contracts of package version's functions on numbers: parts, Valid, Compare. Contract of package version's Valid. Plain definitions and facts of the lexer chapter: no program in sight. Contracts of the byte predicates (small, capital, digit, word, hex) of the lexer and of its reference: each returns what a plain function of the byte says, and leaves memory as it was. Contracts of the loops over a string: all, words, span. The library's contracts, with the world's equation the other way round. Slices that a call makes itself: what is owned, and what an append to it leaves. Contract of package version's Format. Contracts of Keywords, Symbols, Has. Contracts of the reference's IsName, IsType. Contracts of the lexer's keyword, IsName, IsType. -/
import Derived.Test.YtenfkejbndifdaaGreatDoorProg
import Derived.WalkKit
import Derived.WalkSpells
import Derived.WalkLawsBesides
import Derived.BigQuiet
import Derived.Deep.QuietTactic
import Derived.Deep.DrawnRows
import Derived.Lib.Hide
import Derived.Lib.Strings
import Derived.Lib.IndexBytes
import Derived.Lib.IndexMore
import Derived.Test.YtenfkejbndifdaaGreatDoorRows
import Derived.Test.YtenfkejbndifdaaGreatDoorQShelf
import Derived.Maps.AppendAt
import Derived.Lib.Bytes
import Derived.Lib.Builder
import Derived.WalkSmall
import Derived.Lib.Join
import Derived.Lib.ItoaNum
namespace Go.Proofs.YtenfkejbndifdaaGreatDoor
open Go Go.RowKit

def partB (a : Int) : Bool := decide (0 ≤ a ∧ a ≤ 999)
def validB (a b c : Int) : Bool := partB a && (partB b && partB c)
def cmpI (a b : Int) : Int := if a < b then -1 else if b < a then 1 else 0
def cmpV (a b c x y z : Int) : Int := if cmpI a x ≠ 0 then cmpI a x else if cmpI b y ≠ 0 then cmpI b y else cmpI c z

theorem parts_any (a b c : Int) (w : World) :
    Calls Tryz.prog 136 #[.agg #[.int .i64 a, .int .i64 b, .int .i64 c]] w fun e w' => e = .returned (.agg #[.int .i64 a, .int .i64 b, .int .i64 c]) ∧ w' = (w.alloc (.cells #[.int .i64 a, .int .i64 b, .int .i64 c] 41)).alloc (.cells #[.int .i64 a, .int .i64 b, .int .i64 c] 174) := by
  go_enter Tryz.func136, Tryz.ntmps136
  go_wp2
  exact bodyPost_ret (v := .agg #[.int .i64 a, .int .i64 b, .int .i64 c]) (by simp [results, Tryz.results136, go_sem]) rfl ⟨rfl, rfl⟩
theorem nan_any (a : Int) (w : World) : Calls Tryz.prog 202 #[.int .i64 a] w fun e w' => e = .returned (.bool false) ∧ w = w' := by
  go_enter Tryz.func202, Tryz.ntmps202
  go_wp2
  go_ret
  exact ⟨rfl, rfl⟩
theorem cmp_any (a b : Int) (w : World) : Calls Tryz.prog 180 #[.int .i64 a, .int .i64 b] w fun e w' => e = .returned (.int .i64 (cmpI a b)) ∧ w = w' := by
  rcases Int.lt_trichotomy a b with h | h | h
  · have hc : cmpI a b = -1 := by unfold cmpI; rw [if_pos h]
    rw [hc]; clear hc
    go_enter Tryz.func180, Tryz.ntmps180
    go_wp2_with (go_at_call 202; refine (nan_any _ _).mono ?_; rintro e w' ⟨rfl, rfl⟩)
    go_ret
    exact ⟨rfl, rfl⟩
  · have hc : cmpI a b = 0 := by unfold cmpI; rw [if_neg (by omega), if_neg (by omega)]
    rw [hc]; clear hc
    subst h
    go_enter Tryz.func180, Tryz.ntmps180
    go_wp2_with (go_at_call 202; refine (nan_any _ _).mono ?_; rintro e w' ⟨rfl, rfl⟩)
    go_ret
    exact ⟨rfl, rfl⟩
  · have hc : cmpI a b = 1 := by unfold cmpI; rw [if_neg (by omega), if_pos h]
    rw [hc]; clear hc
    have h2 : ¬ a < b := by omega
    go_enter Tryz.func180, Tryz.ntmps180
    go_wp2_with (go_at_call 202; refine (nan_any _ _).mono ?_; rintro e w' ⟨rfl, rfl⟩)
    go_ret
    exact ⟨rfl, rfl⟩
end Go.Proofs.YtenfkejbndifdaaGreatDoor

namespace Go.Proofs.YtenfkejbndifdaaGreatDoor
open Go Go.RowKit

theorem valid_le {a b c : Int} (h : validB a b c = true) : (0 ≤ a ∧ a ≤ 999) ∧ (0 ≤ b ∧ b ≤ 999) ∧ 0 ≤ c ∧ c ≤ 999 := by
  unfold validB partB at h
  simpa using h
theorem part_yes {a : Int} (h : partB a = true) : ¬ a < 0 ∧ ¬ 999 < a := by unfold partB at h; have := of_decide_eq_true h; omega
theorem part_no {a : Int} (h : partB a = false) : a < 0 ∨ (¬ a < 0 ∧ 999 < a) := by unfold partB at h; have := of_decide_eq_false h; omega
set_option maxRecDepth 100000 in
set_option maxHeartbeats 1000000 in
theorem Valid_any (a b c : Int) (w : World) : Calls Tryz.prog 95 #[.agg #[.int .i64 a, .int .i64 b, .int .i64 c]] w fun e w' => e = .returned (.bool (validB a b c)) ∧ w' = ((w.alloc (.cells #[.int .i64 a, .int .i64 b, .int .i64 c] 41)).alloc (.cells #[.int .i64 a, .int .i64 b, .int .i64 c] 41)).alloc (.cells #[.int .i64 a, .int .i64 b, .int .i64 c] 174) := by
  have i0 : ∀ w, (Instr.index 174 (.agg #[.int .i64 a, .int .i64 b, .int .i64 c]) (.int .i64 0)).run Tryz.prog w = .ok (.int .i64 a) w := fun _ => by kernel_rfl
  have i1 : ∀ w, (Instr.index 174 (.agg #[.int .i64 a, .int .i64 b, .int .i64 c]) (.int .i64 1)).run Tryz.prog w = .ok (.int .i64 b) w := fun _ => by kernel_rfl
  have i2 : ∀ w, (Instr.index 174 (.agg #[.int .i64 a, .int .i64 b, .int .i64 c]) (.int .i64 2)).run Tryz.prog w = .ok (.int .i64 c) w := fun _ => by kernel_rfl
  obtain ⟨v, hv⟩ : ∃ v, validB a b c = v := ⟨_, rfl⟩
  rw [hv]
  have HV := Lib.hid hv
  clear hv
  go_enter Tryz.func95, Tryz.ntmps95
  go_wp2_with (go_at_call 136; refine (parts_any _ _ _ _).mono ?_; rintro e w' ⟨rfl, rfl⟩)
  go_loop [7] (fun i => (i = .int .i64 0) ∨ (i = .int .i64 1 ∧ Hid (partB a = true)) ∨ (i = .int .i64 2 ∧ Hid (partB a = true ∧ partB b = true)) ∨ (i = .int .i64 3 ∧ Hid (partB a = true ∧ partB b = true ∧ partB c = true))) (fun i => 3 - (intOf i).toNat)
  case atStart => exact .inl rfl
  case round =>
    rcases hrel with rfl | ⟨rfl, H1⟩ | ⟨rfl, H2⟩ | ⟨rfl, H3⟩
    · by_cases hp : partB a = true
      · obtain ⟨h1, h2⟩ := part_yes hp
        have HP := Lib.hid hp
        clear hp
        go_wp2
        go_round
        case rel => exact .inr (.inl ⟨rfl, HP⟩)
        case measure => simp [intOf]
      · have HP := Lib.hid hp
        have HVF := Lib.hid (show v = false by rw [← HV.out]; unfold validB; simp [HP.out])
        rcases part_no (by simpa using hp) with h1 | ⟨h1, h2⟩
        all_goals
          clear hp
          go_wp2
          go_ret
          exact ⟨by rw [HVF.out]; rfl, rfl⟩
    · by_cases hp : partB b = true
      · obtain ⟨h1, h2⟩ := part_yes hp
        have HP := Lib.hid hp
        clear hp
        go_wp2
        go_round
        case rel => exact .inr (.inr (.inl ⟨rfl, Lib.hid ⟨H1.out, HP.out⟩⟩))
        case measure => simp [intOf]
      · have HP := Lib.hid hp
        have HVF := Lib.hid (show v = false by rw [← HV.out]; unfold validB; simp [HP.out])
        rcases part_no (by simpa using hp) with h1 | ⟨h1, h2⟩
        all_goals
          clear hp
          go_wp2
          go_ret
          exact ⟨by rw [HVF.out]; rfl, rfl⟩
    · by_cases hp : partB c = true
      · obtain ⟨h1, h2⟩ := part_yes hp
        have HP := Lib.hid hp
        clear hp
        go_wp2
        go_round
        case rel => exact .inr (.inr (.inr ⟨rfl, Lib.hid ⟨H2.out.1, H2.out.2, HP.out⟩⟩))
        case measure => simp [intOf]
      · have HP := Lib.hid hp
        have HVF := Lib.hid (show v = false by rw [← HV.out]; unfold validB; simp [HP.out])
        rcases part_no (by simpa using hp) with h1 | ⟨h1, h2⟩
        all_goals
          clear hp
          go_wp2
          go_ret
          exact ⟨by rw [HVF.out]; rfl, rfl⟩
    · have HVF := Lib.hid (show v = true by rw [← HV.out]; unfold validB; simp [H3.out])
      go_wp2
      go_ret
      exact ⟨by rw [HVF.out]; rfl, rfl⟩
def knownB (l : Int) : Bool := decide (0 ≤ l ∧ l ≤ 2)
end Go.Proofs.YtenfkejbndifdaaGreatDoor

namespace Go.Proofs.YtenfkejbndifdaaGreatDoor
open Go

def smallZ (c : Int) : Bool := decide (97 ≤ c) && decide (c ≤ 122)
def capitalZ (c : Int) : Bool := decide (65 ≤ c) && decide (c ≤ 90)
def digitZ (c : Int) : Bool := decide (48 ≤ c) && decide (c ≤ 57)
def wordZ (c : Int) : Bool := smallZ c || capitalZ c || digitZ c || c == 95
def pathZ (c : Int) : Bool := smallZ c || digitZ c

def hexZ (c : Int) : Int := if digitZ c then c - 48 else if 97 ≤ c ∧ c ≤ 102 then c - 87 else -1

def allZ (p : Int → Bool) (s : ByteArray) : Bool := s.data.toList.all fun b => p b.toNat

theorem all_take (p : Int → Bool) (s : ByteArray) (k : Nat) (h : k < s.size) (hp : (s.data.toList.take k).all (fun b => p b.toNat) = true) (hb : p (s[k].toNat) = true) :
    (s.data.toList.take (k + 1)).all (fun b => p b.toNat) = true := by
  rw [List.take_succ_eq_append_getElem (by simpa using h)]
  simp only [List.all_append, hp, Bool.true_and, List.all_cons, List.all_nil, Bool.and_true]
  exact hb
theorem all_done (p : Int → Bool) (s : ByteArray) (k : Nat) (h : s.size ≤ k) (hp : (s.data.toList.take k).all (fun b => p b.toNat) = true) : allZ p s = true := by
  rw [List.take_of_length_le (by simpa using h)] at hp; exact hp
theorem all_not (p : Int → Bool) (s : ByteArray) (k : Nat) (h : k < s.size) (hb : ¬ p (s[k].toNat) = true) : allZ p s = false := by
  unfold allZ
  rw [List.all_eq_false]
  refine ⟨s[k], ?_, hb⟩
  exact Array.mem_toList_iff.2 (Array.getElem_mem _)

theorem any_take (ss : List ByteArray) (s : ByteArray) (k : Nat) (h : k < ss.length) (hp : (ss.take k).any (fun x => x.toList == s.toList) = false) (hb : ((ss.getD k ByteArray.empty).toList == s.toList) = false) :
    (ss.take (k + 1)).any (fun x => x.toList == s.toList) = false := by
  rw [List.take_succ_eq_append_getElem h, List.any_append, hp]
  have : ss.getD k ByteArray.empty = ss[k] := by simp [h]
  rw [this] at hb
  simp only [List.any_cons, List.any_nil, hb, Bool.or_false]
theorem any_done (ss : List ByteArray) (s : ByteArray) (k : Nat) (h : ss.length ≤ k) (hp : (ss.take k).any (fun x => x.toList == s.toList) = false) : ss.any (fun x => x.toList == s.toList) = false := by
  rw [List.take_of_length_le h] at hp; exact hp
theorem any_hit (ss : List ByteArray) (s : ByteArray) (k : Nat) (h : k < ss.length) (hb : ((ss.getD k ByteArray.empty).toList == s.toList) = true) : ss.any (fun x => x.toList == s.toList) = true := by
  rw [List.any_eq_true]
  have : ss.getD k ByteArray.empty = ss[k] := by simp [h]
  rw [this] at hb
  exact ⟨ss[k], List.getElem_mem h, hb⟩

def kwList : List ByteArray := [⟨#[97, 110, 100]⟩, ⟨#[97, 110, 121]⟩, ⟨#[97, 115]⟩, ⟨#[98, 111, 111, 108]⟩, ⟨#[100, 101, 112, 114, 101, 99, 97, 116, 101, 100]⟩, ⟨#[101, 108, 115, 101]⟩, ⟨#[101, 120, 112, 111, 114, 116]⟩, ⟨#[102, 97, 108, 115, 101]⟩, ⟨#[102, 110]⟩, ⟨#[102, 111, 108, 100]⟩, ⟨#[102, 114, 111, 109]⟩, ⟨#[105, 102]⟩, ⟨#[105, 109, 112, 111, 114, 116]⟩, ⟨#[105, 110]⟩, ⟨#[105, 110, 116]⟩, ⟨#[108, 101, 110, 103, 116, 104]⟩, ⟨#[108, 101, 116]⟩, ⟨#[108, 105, 115, 116]⟩, ⟨#[109, 97, 116, 99, 104]⟩, ⟨#[109, 111, 100, 117, 108, 101]⟩, ⟨#[110, 111, 110, 101]⟩, ⟨#[110, 111, 116]⟩, ⟨#[111, 114]⟩, ⟨#[116, 101, 120, 116]⟩, ⟨#[116, 104, 101, 110]⟩, ⟨#[116, 114, 117, 101]⟩, ⟨#[116, 121, 112, 101]⟩, ⟨#[117, 115, 101]⟩]
def symList : List ByteArray := [⟨#[61, 61, 61]⟩, ⟨#[58, 58]⟩, ⟨#[62, 58]⟩, ⟨#[60, 58]⟩, ⟨#[61, 62]⟩, ⟨#[61, 61]⟩, ⟨#[43, 43]⟩, ⟨#[40]⟩, ⟨#[41]⟩, ⟨#[91]⟩, ⟨#[93]⟩, ⟨#[123]⟩, ⟨#[125]⟩, ⟨#[60]⟩, ⟨#[62]⟩, ⟨#[44]⟩, ⟨#[58]⟩, ⟨#[61]⟩, ⟨#[46]⟩, ⟨#[43]⟩, ⟨#[45]⟩, ⟨#[42]⟩, ⟨#[124]⟩, ⟨#[63]⟩, ⟨#[47]⟩]

def headZ (s : ByteArray) : Int := if h : 0 < s.size then ((s[0]'h).toNat : Int) else 0
theorem headZ_eq (s : ByteArray) (h : 0 < s.size) : headZ s = ((s[0]'h).toNat : Int) := by unfold headZ; rw [dif_pos h]
def kwS (s : ByteArray) : Bool := kwList.any fun x => x.toList == s.toList
theorem kwS_eq (s : ByteArray) : kwS s = kwList.any (fun x => x.data.toList == s.data.toList) := by unfold kwS; simp only [ByteArray.toList_eq]
def nameS (s : ByteArray) : Bool := decide (1 ≤ s.size) && (decide (s.size ≤ 32) && (smallZ (headZ s) && (allZ wordZ s && !kwS s)))
def typeS (s : ByteArray) : Bool := decide (1 ≤ s.size) && (decide (s.size ≤ 32) && (capitalZ (headZ s) && allZ wordZ s))


def kwText : List UInt8 := kwList.flatMap (fun b => 32 :: b.data.toList) ++ [32]
theorem kw_fin : ∀ j, j < 200 → kwText[j]? = some 32 → (kwText.drop (j + 1)).contains 32 = true → kwList.any (fun x => x.data.toList == (kwText.drop (j + 1)).takeWhile (· != 32)) = true := by decide +kernel
theorem kw_len : kwText.length < 200 := by decide +kernel
theorem kw_all : kwList.all (fun x => Lib.contains kwText (32 :: x.data.toList ++ [32])) = true := by decide +kernel
theorem take_no (l r : List UInt8) (h : ∀ b ∈ l, b ≠ 32) : (l ++ 32 :: r).takeWhile (· != 32) = l := by
  induction l with
  | nil => simp
  | cons b l ih => rw [List.cons_append, List.takeWhile_cons, if_pos (by simpa using h b (by simp)), ih (fun c hc => h c (by simp [hc]))]
theorem kw_contains (l : List UInt8) (h : ∀ b ∈ l, b ≠ 32) : Lib.contains kwText (32 :: l ++ [32]) = kwList.any (fun x => x.data.toList == l) := by
  rw [Bool.eq_iff_iff]
  constructor
  · intro hc
    rcases Lib.index_spec kwText (32 :: l ++ [32]) with ⟨h1, _⟩ | ⟨i, _, hi, ho, _⟩
    · rw [Lib.contains, h1] at hc; exact absurd hc (by decide)
    · simp only [Lib.occAt, List.isPrefixOf_iff_prefix] at ho
      obtain ⟨r, hr⟩ := ho
      have e1 : kwText.drop i = 32 :: (l ++ 32 :: r) := by rw [← hr]; simp
      have e2 : kwText.drop (i + 1) = l ++ 32 :: r := by rw [← List.drop_drop, e1]; rfl
      have e3 : kwText[i]? = some 32 := by rw [← Nat.add_zero i, ← List.getElem?_drop, e1]; rfl
      have := kw_fin i (by have := kw_len; omega) e3 (by rw [e2]; simp)
      rw [e2, take_no l r h] at this
      exact this
  · intro hc
    rw [List.any_eq_true] at hc
    obtain ⟨x, hx, he⟩ := hc
    have := List.all_eq_true.1 kw_all x hx
    simp only [beq_iff_eq] at he
    rw [he] at this
    exact this

theorem toList_data (s : ByteArray) : s.toList = s.data.toList := Lib.toList_data s
theorem ne_nil (s : ByteArray) (h : 1 ≤ s.size) : ¬ s.toList = [] := by
  rw [toList_data]; intro e; rw [Lib.size_eq, e] at h; exact absurd h (by decide)
theorem ne_empty (s : ByteArray) (h : 1 ≤ s.size) : s.toList.isEmpty = false := by
  have := ne_nil s h; simpa using this
theorem is_nil (s : ByteArray) (h : ¬ 1 ≤ s.size) : s.toList = [] := by
  rw [toList_data]; rw [Lib.size_eq] at h; exact List.length_eq_zero_iff.1 (by omega)

end Go.Proofs.YtenfkejbndifdaaGreatDoor

namespace Go.Proofs.YtenfkejbndifdaaGreatDoor
open Go Go.RowKit

theorem ret_bool {a b : Bool} (h : a = b) : Ending.returned (.bool a) = Ending.returned (.bool b) := by rw [h]
theorem ret_int {k : IntKind} {a b : Int} (h : a = b) : Ending.returned (.int k a) = Ending.returned (.int k b) := by rw [h]

theorem small_any (c : Int) (w : World) :
    Calls Tryz.prog 208 #[.int .u8 c] w fun e w' => e = .returned (.bool (smallZ c)) ∧ w = w' := by
  go_enter Tryz.func208, Tryz.ntmps208
  go_wp2
  all_goals go_ret
  all_goals exact ⟨ret_bool (by simp [smallZ, *] <;> omega), rfl⟩

theorem capital_any (c : Int) (w : World) :
    Calls Tryz.prog 233 #[.int .u8 c] w fun e w' => e = .returned (.bool (capitalZ c)) ∧ w = w' := by
  go_enter Tryz.func233, Tryz.ntmps233
  go_wp2
  all_goals go_ret
  all_goals exact ⟨ret_bool (by simp [capitalZ, *] <;> omega), rfl⟩

theorem digit_any (c : Int) (w : World) :
    Calls Tryz.prog 209 #[.int .u8 c] w fun e w' => e = .returned (.bool (digitZ c)) ∧ w = w' := by
  go_enter Tryz.func209, Tryz.ntmps209
  go_wp2
  all_goals go_ret
  all_goals exact ⟨ret_bool (by simp [digitZ, *] <;> omega), rfl⟩

theorem word_any (c : Int) (w : World) :
    Calls Tryz.prog 222 #[.int .u8 c] w fun e w' => e = .returned (.bool (wordZ c)) ∧ w = w' := by
  go_enter Tryz.func222, Tryz.ntmps222
  go_wp2_with (first
   | (go_at_call 208; refine (small_any _ _).mono ?_; rintro e w' ⟨rfl, rfl⟩)
   | (go_at_call 233; refine (capital_any _ _).mono ?_; rintro e w' ⟨rfl, rfl⟩)
   | (go_at_call 209; refine (digit_any _ _).mono ?_; rintro e w' ⟨rfl, rfl⟩))
  all_goals go_ret
  all_goals exact ⟨ret_bool (by simp [wordZ, *]), rfl⟩

theorem rsmall_any (c : Int) (w : World) :
    Calls Tryz.prog 225 #[.int .u8 c] w fun e w' => e = .returned (.bool (smallZ c)) ∧ w = w' := by
  go_enter Tryz.func225, Tryz.ntmps225
  go_wp2
  all_goals go_ret
  all_goals exact ⟨ret_bool (by simp [smallZ, *] <;> omega), rfl⟩

theorem rcapital_any (c : Int) (w : World) :
    Calls Tryz.prog 249 #[.int .u8 c] w fun e w' => e = .returned (.bool (capitalZ c)) ∧ w = w' := by
  go_enter Tryz.func249, Tryz.ntmps249
  go_wp2
  all_goals go_ret
  all_goals exact ⟨ret_bool (by simp [capitalZ, *] <;> omega), rfl⟩

theorem rdigit_any (c : Int) (w : World) :
    Calls Tryz.prog 226 #[.int .u8 c] w fun e w' => e = .returned (.bool (digitZ c)) ∧ w = w' := by
  go_enter Tryz.func226, Tryz.ntmps226
  go_wp2
  all_goals go_ret
  all_goals exact ⟨ret_bool (by simp [digitZ, *] <;> omega), rfl⟩

theorem rword_any (c : Int) (w : World) :
    Calls Tryz.prog 243 #[.int .u8 c] w fun e w' => e = .returned (.bool (wordZ c)) ∧ w = w' := by
  go_enter Tryz.func243, Tryz.ntmps243
  go_wp2_with (first
   | (go_at_call 225; refine (rsmall_any _ _).mono ?_; rintro e w' ⟨rfl, rfl⟩)
   | (go_at_call 249; refine (rcapital_any _ _).mono ?_; rintro e w' ⟨rfl, rfl⟩)
   | (go_at_call 226; refine (rdigit_any _ _).mono ?_; rintro e w' ⟨rfl, rfl⟩))
  all_goals go_ret
  all_goals exact ⟨ret_bool (by simp [wordZ, *]), rfl⟩

theorem major1_any (c : Int) (w : World) :
    Calls Tryz.prog 207 #[.int .u8 c] w fun e w' => e = .returned (.bool (pathZ c)) ∧ w = w' := by
  go_enter Tryz.func207, Tryz.ntmps207
  go_wp2_with (first
   | (go_at_call 208; refine (small_any _ _).mono ?_; rintro e w' ⟨rfl, rfl⟩)
   | (go_at_call 209; refine (digit_any _ _).mono ?_; rintro e w' ⟨rfl, rfl⟩))
  all_goals go_ret
  all_goals exact ⟨ret_bool (by simp [pathZ, *]), rfl⟩

end Go.Proofs.YtenfkejbndifdaaGreatDoor

namespace Go.Proofs.YtenfkejbndifdaaGreatDoor
open Go Go.RowKit

set_option maxHeartbeats 400000 in
theorem all_wordZ (s : ByteArray) (w : World) (hs : s.size ≤ maxLen) :
    Calls Tryz.prog 206 #[.string s, .func (.func 222) #[] #[]] w fun e w' => e = .returned (.bool (allZ wordZ s)) ∧ w = w' := by
  unfold maxLen at hs
  go_enter Tryz.func206, Tryz.ntmps206
  go_wp2
  go_loop [8] (fun i => ∃ k : Nat, k ≤ s.size ∧ i = .int .i64 k ∧ Hid ((s.data.toList.take k).all (fun b => wordZ b.toNat) = true)) (fun i => s.size - (intOf i).toNat)
  case atStart => exact ⟨0, Nat.zero_le _, rfl, Lib.hid rfl⟩
  case round =>
    obtain ⟨k, hk, rfl, HA⟩ := hrel
    by_cases hlt : k < s.size
    · cases hb : wordZ (s[k].toNat : Int)
      · go_wp2_with (go_at_call 222; refine (word_any _ _).mono ?_; rintro e w' ⟨rfl, rfl⟩)
        go_ret
        exact ⟨ret_bool (all_not _ s k hlt (by rw [hb]; exact Bool.false_ne_true)).symm, rfl⟩
      · go_wp2_with (go_at_call 222; refine (word_any _ _).mono ?_; rintro e w' ⟨rfl, rfl⟩)
        go_round
        case rel => exact ⟨k + 1, by omega, by go_num, Lib.hid (all_take _ s k hlt HA.out hb)⟩
        case measure => simp [intOf]; omega
    · go_wp2
      go_ret
      exact ⟨ret_bool (all_done _ s k (by omega) HA.out).symm, rfl⟩
set_option maxHeartbeats 400000 in
theorem all_digitZ (s : ByteArray) (w : World) (hs : s.size ≤ maxLen) :
    Calls Tryz.prog 206 #[.string s, .func (.func 209) #[] #[]] w fun e w' => e = .returned (.bool (allZ digitZ s)) ∧ w = w' := by
  unfold maxLen at hs
  go_enter Tryz.func206, Tryz.ntmps206
  go_wp2
  go_loop [8] (fun i => ∃ k : Nat, k ≤ s.size ∧ i = .int .i64 k ∧ Hid ((s.data.toList.take k).all (fun b => digitZ b.toNat) = true)) (fun i => s.size - (intOf i).toNat)
  case atStart => exact ⟨0, Nat.zero_le _, rfl, Lib.hid rfl⟩
  case round =>
    obtain ⟨k, hk, rfl, HA⟩ := hrel
    by_cases hlt : k < s.size
    · cases hb : digitZ (s[k].toNat : Int)
      · go_wp2_with (go_at_call 209; refine (digit_any _ _).mono ?_; rintro e w' ⟨rfl, rfl⟩)
        go_ret
        exact ⟨ret_bool (all_not _ s k hlt (by rw [hb]; exact Bool.false_ne_true)).symm, rfl⟩
      · go_wp2_with (go_at_call 209; refine (digit_any _ _).mono ?_; rintro e w' ⟨rfl, rfl⟩)
        go_round
        case rel => exact ⟨k + 1, by omega, by go_num, Lib.hid (all_take _ s k hlt HA.out hb)⟩
        case measure => simp [intOf]; omega
    · go_wp2
      go_ret
      exact ⟨ret_bool (all_done _ s k (by omega) HA.out).symm, rfl⟩
set_option maxHeartbeats 400000 in
theorem all_pathZ (s : ByteArray) (w : World) (hs : s.size ≤ maxLen) :
    Calls Tryz.prog 206 #[.string s, .func (.func 207) #[] #[]] w fun e w' => e = .returned (.bool (allZ pathZ s)) ∧ w = w' := by
  unfold maxLen at hs
  go_enter Tryz.func206, Tryz.ntmps206
  go_wp2
  go_loop [8] (fun i => ∃ k : Nat, k ≤ s.size ∧ i = .int .i64 k ∧ Hid ((s.data.toList.take k).all (fun b => pathZ b.toNat) = true)) (fun i => s.size - (intOf i).toNat)
  case atStart => exact ⟨0, Nat.zero_le _, rfl, Lib.hid rfl⟩
  case round =>
    obtain ⟨k, hk, rfl, HA⟩ := hrel
    by_cases hlt : k < s.size
    · cases hb : pathZ (s[k].toNat : Int)
      · go_wp2_with (go_at_call 207; refine (major1_any _ _).mono ?_; rintro e w' ⟨rfl, rfl⟩)
        go_ret
        exact ⟨ret_bool (all_not _ s k hlt (by rw [hb]; exact Bool.false_ne_true)).symm, rfl⟩
      · go_wp2_with (go_at_call 207; refine (major1_any _ _).mono ?_; rintro e w' ⟨rfl, rfl⟩)
        go_round
        case rel => exact ⟨k + 1, by omega, by go_num, Lib.hid (all_take _ s k hlt HA.out hb)⟩
        case measure => simp [intOf]; omega
    · go_wp2
      go_ret
      exact ⟨ret_bool (all_done _ s k (by omega) HA.out).symm, rfl⟩

set_option maxHeartbeats 400000 in
theorem words_any (s : ByteArray) (w : World) (hs : s.size ≤ maxLen) :
    Calls Tryz.prog 235 #[.string s] w fun e w' => e = .returned (.bool (allZ wordZ s)) ∧ w = w' := by
  unfold maxLen at hs
  go_enter Tryz.func235, Tryz.ntmps235
  go_wp2
  go_loop [3] (fun i => ∃ k : Nat, k ≤ s.size ∧ i = .int .i64 k ∧ Hid ((s.data.toList.take k).all (fun b => wordZ b.toNat) = true)) (fun i => s.size - (intOf i).toNat)
  case atStart => exact ⟨0, Nat.zero_le _, rfl, Lib.hid rfl⟩
  case round =>
    obtain ⟨k, hk, rfl, HA⟩ := hrel
    by_cases hlt : k < s.size
    · cases hb : wordZ (s[k].toNat : Int)
      · go_wp2_with (go_at_call 243; refine (rword_any _ _).mono ?_; rintro e w' ⟨rfl, rfl⟩)
        go_ret
        exact ⟨ret_bool (all_not _ s k hlt (by rw [hb]; exact Bool.false_ne_true)).symm, rfl⟩
      · go_wp2_with (go_at_call 243; refine (rword_any _ _).mono ?_; rintro e w' ⟨rfl, rfl⟩)
        go_round
        case rel => exact ⟨k + 1, by omega, by go_num, Lib.hid (all_take _ s k hlt HA.out hb)⟩
        case measure => simp [intOf]; omega
    · go_wp2
      go_ret
      exact ⟨ret_bool (all_done _ s k (by omega) HA.out).symm, rfl⟩
end Go.Proofs.YtenfkejbndifdaaGreatDoor

namespace Go.Proofs.YtenfkejbndifdaaGreatDoor
open Go Go.RowKit

def MaxOk (w : World) : Prop := ∃ m : Int, w.cell? ⟨0, 0, none⟩ = some (.int .i64 m)
theorem MaxOk.below {B : Nat} {w w' : World} (h : MaxOk w) (hb : Below B w w') (hB : 0 < B) : MaxOk w' := by
  obtain ⟨m, hm⟩ := h
  exact ⟨m, (hb.cell (p := ⟨0, 0, none⟩) hB).trans hm⟩

theorem MaxOk.pos {w : World} (h : MaxOk w) : 0 < w.heap.size := by
  obtain ⟨m, h⟩ := h
  unfold World.cell? at h
  rcases Nat.lt_or_ge 0 w.heap.size with hp | hp
  · exact hp
  · rw [Array.getElem?_eq_none hp] at h; exact absurd h (by simp)
theorem MaxOk.alloc {w : World} (h : MaxOk w) (o : Obj) : MaxOk (w.alloc o) := h.below (B := w.heap.size) ((Below.refl _ w).alloc (Nat.le_refl _) o) h.pos

theorem flip {P : Program} {f : FuncId} {a : Array Value} {w : World} {v : Value} (h : Calls P f a w fun e w' => e = .returned v ∧ w' = w) : Calls P f a w fun e w' => e = .returned v ∧ w = w' :=
  h.mono fun _ _ ⟨h1, h2⟩ => ⟨h1, h2.symm⟩
theorem CutPrefix_any (s p : ByteArray) (w : World) :
    Calls Tryz.prog 221 #[.string s, .string p] w fun e w' => e = .returned (.tuple #[.string ⟨(Lib.trimPrefix s.data.toList p.data.toList).toArray⟩, .bool (Lib.hasPrefix s.data.toList p.data.toList)]) ∧ w = w' := flip (Tryz.strings_CutPrefix s p w)
theorem Contains_any (s sub : ByteArray) (w : World) (hs : s.size < 4294967281) (hm : MaxOk w) :
    Calls Tryz.prog 234 #[.string s, .string sub] w fun e w' => e = .returned (.bool (Lib.contains s.data.toList sub.data.toList)) ∧ w = w' := by
  obtain ⟨m, hm⟩ := hm
  exact flip (Tryz.strings_Contains s sub m w hs hm)

theorem ret_ii {j k : IntKind} {a b c d : Int} (h : a = b) (h' : c = d) : Ending.returned (.tuple #[.int j a, .int k c]) = Ending.returned (.tuple #[.int j b, .int k d]) := by rw [h, h']
theorem ret_ib {j : IntKind} {a b : Int} {c d : Bool} (h : a = b) (h' : c = d) : Ending.returned (.tuple #[.int j a, .bool c]) = Ending.returned (.tuple #[.int j b, .bool d]) := by rw [h, h']
end Go.Proofs.YtenfkejbndifdaaGreatDoor

namespace Go.Proofs.YtenfkejbndifdaaGreatDoor
open Go Go.RowKit

def Mine (e size B : Nat) (v : Value) (n : Nat) (xs : List Value) (w : World) : Prop := w.ownsRow B e size v n xs ∧ B ≤ w.heap.size
theorem Mine.new (e size B : Nat) (n : Nat) (xs : List Value) (cs : Array Value) (w : World) (h : B ≤ w.heap.size) (hc : cs = xs.toArray) (hx : xs.length = n * size) (hn : n ≤ maxLen) :
    Hid (Mine e size B (.slice (some ⟨w.heap.size, 0, none⟩) n n) n xs (w.alloc (.cells cs e))) := by
  subst hc
  refine Lib.hid ⟨?_, by simp; omega⟩
  have := World.ownsRow_made (base := B) (e := e) (size := size) w xs.toArray n h hn (by simpa using hx)
  refine ⟨hx, .inr ⟨w.heap.size, n, xs.toArray, rfl, h, heap_alloc_new w _, Nat.le_refl _, hn, by simpa using hx, ?_⟩⟩
  rw [← hx]; simp
theorem Mine.below {e size B : Nat} {v : Value} {n : Nat} {xs : List Value} {w w' : World} (h : Hid (Mine e size B v n xs w)) (hb : Below w.heap.size w w') : Hid (Mine e size B v n xs w') := by
  obtain ⟨⟨h1, h2⟩, h3⟩ := h.out
  refine Lib.hid ⟨⟨h1, ?_⟩, by have := hb.size; omega⟩
  rcases h2 with h2 | ⟨g, cap, cur, hv, hg, hh, r⟩
  · exact .inl h2
  · exact .inr ⟨g, cap, cur, hv, hg, by rw [hb.block g (lt_of_block hh)]; exact hh, r⟩
theorem Mine.shape {e size B : Nat} {v : Value} {n : Nat} {xs : List Value} {w : World} (h : Mine e size B v n xs w) (hn : 0 < n) : ∃ g cap, v = .slice (some ⟨g, 0, none⟩) n cap := by
  obtain ⟨⟨h1, h2⟩, h3⟩ := h
  rcases h2 with ⟨_, h2⟩ | ⟨g, cap, cur, hv, _⟩
  · omega
  · exact ⟨g, cap, hv⟩
theorem Mine.ge {e size B g cap : Nat} {n : Nat} {xs : List Value} {w : World} (h : Mine e size B (.slice (some ⟨g, 0, none⟩) n cap) n xs w) : B ≤ g ∧ g < w.heap.size := h.1.lt g rfl
theorem Mine.cell {e size B g cap : Nat} {n : Nat} {xs : List Value} {w : World} (h : Mine e size B (.slice (some ⟨g, 0, none⟩) n cap) n xs w) (j : Nat) (hj : j < n * size) : w.cell? ⟨g, j, none⟩ = xs[j]? := h.1.cellAt j hj

theorem news_at (w : World) (news : List Value) (e : TypeId) : ∀ j u, news[j]? = some u → (w.alloc (.cells news.toArray e)).cell? ((⟨w.heap.size, 0, none⟩ : Addr).add j) = some u := by
  intro j u h
  have : ((⟨w.heap.size, 0, none⟩ : Addr).add j) = ⟨w.heap.size, j, none⟩ := by
    unfold Addr.add
    split
    · rename_i h; subst h; rfl
    · simp
  rw [this, World.cell?_alloc_at _ _ _ _ rfl]
  simpa using h

theorem info_strs : (Tryz.prog.info? 9).map (fun i => (i.zero, i.size, i.bytes)) = some (some (.string ⟨#[]⟩), 1, 16) := by kernel_rfl
theorem app_strs {ops : Array Oper} {rest : List Oper} {o : Oper} {a : Act} {Q : Exit → Act → World → Prop} (w : World) (hgd : o.guard = none) (s x : Operand)
    (ho : o.op = .call { callee := .builtin .append, args := #[s, x], argTypes := #[97, 97] }) (B : Nat) (v : Value) (n : Nat) (xs : List Value) (hs : a.eval s = v) (hown : Hid (Mine 9 1 B v n xs w))
    (m : Nat) (news : List Value) (cs : Array Value) (hcs : cs = news.toArray) (hx : a.eval x = .slice (some ⟨w.heap.size, 0, none⟩) m m) (hl : news.length = m * 1) (h1 : ∀ u ∈ news, u.oneCell' = true) (hm : 0 < m) (hb : n + m ≤ 4000000000)
    (h : ∀ g cap w', Hid (Mine 9 1 B (.slice (some ⟨g, 0, none⟩) (n + m) cap) (n + m) (xs ++ news) w') → Below B w w' → wpList Tryz.prog ops Q rest (a.put o.dst (.slice (some ⟨g, 0, none⟩) (n + m) cap)) w') :
    wpList Tryz.prog ops Q (o :: rest) a (w.alloc (.cells cs 9)) := by
  subst hcs
  obtain ⟨i0, hi, hz0, hz1, hz2⟩ := info_parts info_strs
  obtain ⟨ho1, hB⟩ := hown.out
  refine wpList_append_own _ hgd s x 97 ho B 9 i0 (.string ⟨#[]⟩) 1 16 Tryz.underlying97 hi hz0 hz1 hz2 rfl (by decide) v n xs hs (ho1.alloc _) ⟨w.heap.size, 0, none⟩ m m news hx hl (news_at w news _) h1 (by unfold maxLen; omega) (by omega) (by simp; omega) ?_
  intro v' w' hown' hgrow _
  have hbel : Below B w w' := ((Below.refl B w).alloc hB _).grown hgrow (by simp; omega) (fun k hk => (ho1.lt k hk).1)
  have hO : Mine 9 1 B v' (n + m) (xs ++ news) w' := ⟨hown', by have := hbel.size; omega⟩
  obtain ⟨g, cap, rfl⟩ := hO.shape (by omega)
  exact h g cap w' (Lib.hid hO) hbel
theorem conv_own (B : Nat) (v : Value) (l : List UInt8) (w : World) (h : Hid (Mine 5 1 B v l.length (Lib.byteCells l) w)) :
    (convert 241 9 v).run Tryz.prog w = .ok (.string ⟨l.toArray⟩) w := by
  obtain ⟨⟨h1, h2⟩, h3⟩ := h.out
  rcases h2 with ⟨rfl, h2⟩ | ⟨g, cap, cur, rfl, hg, hh, hn, hm, hs, ht⟩
  · have : l = [] := List.length_eq_zero_iff.1 h2
    subst this
    rw [run_convert_bytes_string w 241 9 5 none 0 0 Tryz.underlying241 Tryz.underlying5 Tryz.underlying9]
    rfl
  · refine run_convert_bytes_back w 241 9 5 ⟨g, 0, none⟩ cap l Tryz.underlying241 Tryz.underlying5 Tryz.underlying9 (fun j hj => ?_)
    have ho : Mine 5 1 B (.slice (some ⟨g, 0, none⟩) l.length cap) l.length (Lib.byteCells l) w := ⟨⟨h1, .inr ⟨g, cap, cur, rfl, hg, hh, hn, hm, hs, ht⟩⟩, h3⟩
    have := ho.cell j (by omega)
    have e : ((⟨g, 0, none⟩ : Addr).add j) = ⟨g, j, none⟩ := by
      unfold Addr.add
      split
      · rename_i h; subst h; rfl
      · simp
    rw [e, this]
    simp [Lib.byteCells, hj]
end Go.Proofs.YtenfkejbndifdaaGreatDoor

namespace Go.Proofs.YtenfkejbndifdaaGreatDoor
open Go Go.RowKit

def TabOk (w : World) : Prop := Lib.TabIs Tryz.prog w "internal/strconv.uint64pow10" .u64 Lib.pow10Tab
def decL (n : Int) : List UInt8 := Lib.decDigits n.toNat
def fmtL (a b c : Int) : List UInt8 := decL a ++ 46 :: (decL b ++ 46 :: decL c)
def formatV (a b c : Int) : List UInt8 × Int := if validB a b c = true then (fmtL a b c, 0) else ([], 2)
end Go.Proofs.YtenfkejbndifdaaGreatDoor

namespace Go.Proofs.YtenfkejbndifdaaGreatDoor
open Go Go.RowKit

set_option maxHeartbeats 400000 in
theorem has_any (b off n cap : Nat) (ss : List ByteArray) (s : ByteArray) (w : World) (hn : n = ss.length) (hm : n ≤ 9223372036854775807)
    (hc : ∀ i, i < n → w.cell? ⟨b, off + i, none⟩ = some (.string (ss.getD i ByteArray.empty))) :
    Calls Tryz.prog 236 #[.slice (some ⟨b, off, none⟩) n cap, .string s] w fun e w' => e = .returned (.bool (ss.any fun x => x.toList == s.toList)) ∧ w = w' := by
  have HN := Lib.hid hn; clear hn
  go_enter Tryz.func236, Tryz.ntmps236
  go_wp2
  go_loop [5] (fun i => ∃ k : Nat, k ≤ n ∧ i = .int .i64 k ∧ Hid ((ss.take k).any (fun x => x.toList == s.toList) = false)) (fun i => n - (intOf i).toNat)
  case atStart => exact ⟨0, Nat.zero_le _, rfl, Lib.hid rfl⟩
  case round =>
    obtain ⟨k, hk, rfl, HA⟩ := hrel
    by_cases hlt : k < n
    · obtain ⟨x, hx⟩ : ∃ x, x = ss.getD k ByteArray.empty := ⟨_, rfl⟩
      have hcx : w.cell? ⟨b, off + k, none⟩ = some (.string x) := by rw [hx]; exact hc k hlt
      have HX := Lib.hid hx; clear hx hc
      cases hb : (x.toList == s.toList)
      · go_wp2
        go_round
        case rel => exact ⟨k + 1, by omega, by go_num, Lib.hid (any_take ss s k (by rw [← HN.out]; exact hlt) HA.out (by rw [← HX.out]; exact hb))⟩
        case measure => simp [intOf]; omega
      · go_wp2
        go_ret
        exact ⟨ret_bool (any_hit ss s k (by rw [← HN.out]; exact hlt) (by rw [← HX.out]; exact hb)).symm, rfl⟩
    · go_wp2
      go_ret
      exact ⟨ret_bool (any_done ss s k (by rw [← HN.out]; omega) HA.out).symm, rfl⟩

theorem cells_new (w : World) (ss : List ByteArray) (t : TypeId) (i : Nat) (h : i < ss.length) :
    (w.alloc (.cells (ss.map Value.string).toArray t)).cell? ⟨w.heap.size, 0 + i, none⟩ = some (.string (ss.getD i ByteArray.empty)) := by
  rw [World.cell?_alloc_at _ _ _ _ rfl]
  simp [h]

set_option maxHeartbeats 400000 in
theorem keywords_any (w : World) :
    Calls Tryz.prog 237 #[] w fun e w' => e = .returned (.slice (some ⟨w.heap.size, 0, none⟩) 28 28) ∧ w.alloc (.cells (kwList.map Value.string).toArray 9) = w' := by
  go_enter Tryz.func237, Tryz.ntmps237
  go_wp2
  go_ret
  exact ⟨rfl, by simp [kwList]⟩

end Go.Proofs.YtenfkejbndifdaaGreatDoor

namespace Go.Proofs.YtenfkejbndifdaaGreatDoor
open Go Go.RowKit

theorem has_kw (s : ByteArray) (w : World) :
    Calls Tryz.prog 236 #[.slice (some ⟨w.heap.size, 0, none⟩) 28 28, .string s] (w.alloc (.cells (kwList.map Value.string).toArray 9)) fun e w' => e = .returned (.bool (kwS s)) ∧ (w.alloc (.cells (kwList.map Value.string).toArray 9)) = w' :=
  has_any _ 0 28 28 kwList s _ rfl (by decide) (fun i hi => cells_new w kwList _ i hi)

set_option maxHeartbeats 400000 in
theorem rIsName_any (s : ByteArray) (w : World) (hs : s.size ≤ maxLen) :
    Calls Tryz.prog 227 #[.string s] w fun e w' => e = .returned (.bool (nameS s)) ∧ Below w.heap.size w w' := by
  by_cases h1 : 1 ≤ s.size
  · have hh := headZ_eq s h1
    by_cases h2 : s.size ≤ 32
    · cases h3 : smallZ (s[0].toNat : Int)
      · have HT : Hid (nameS s = false) := Lib.hid (by rw [← hh] at h3; simp [nameS, h3])
        clear hh
        go_enter Tryz.func227, Tryz.ntmps227
        go_wp2_with (first | (go_at_call 225; refine (rsmall_any _ _).mono ?_; rintro e w' ⟨rfl, rfl⟩))
        go_ret
        exact ⟨ret_bool HT.out.symm, Below.refl _ _⟩
      · cases h4 : allZ wordZ s
        · have HT : Hid (nameS s = false) := Lib.hid (by simp [nameS, h4])
          clear hh
          go_enter Tryz.func227, Tryz.ntmps227
          go_wp2_with (first | (go_at_call 225; refine (rsmall_any _ _).mono ?_; rintro e w' ⟨rfl, rfl⟩) | (go_at_call 235; refine (words_any _ _ hs).mono ?_; rintro e w' ⟨rfl, rfl⟩))
          go_ret
          exact ⟨ret_bool HT.out.symm, Below.refl _ _⟩
        · have HT : Hid (nameS s = !kwS s) := Lib.hid (by rw [← hh] at h3; simp [nameS, h3, h1, h2, h4])
          clear hh
          go_enter Tryz.func227, Tryz.ntmps227
          go_wp2_with (first | (go_at_call 225; refine (rsmall_any _ _).mono ?_; rintro e w' ⟨rfl, rfl⟩) | (go_at_call 235; refine (words_any _ _ hs).mono ?_; rintro e w' ⟨rfl, rfl⟩) | (go_at_call 237; refine (keywords_any _).mono ?_; rintro e w' ⟨rfl, rfl⟩) | (go_at_call 236; refine (has_kw _ _).mono ?_; rintro e w' ⟨rfl, rfl⟩))
          go_ret
          exact ⟨ret_bool HT.out.symm, (Below.refl _ _).alloc (Nat.le_refl _) _⟩
    · have HT : Hid (nameS s = false) := Lib.hid (by simp [nameS, h2])
      go_enter Tryz.func227, Tryz.ntmps227
      go_wp2
      go_ret
      exact ⟨ret_bool HT.out.symm, Below.refl _ _⟩
  · have HT : Hid (nameS s = false) := Lib.hid (by simp [nameS, h1])
    go_enter Tryz.func227, Tryz.ntmps227
    go_wp2
    go_ret
    exact ⟨ret_bool HT.out.symm, Below.refl _ _⟩
end Go.Proofs.YtenfkejbndifdaaGreatDoor

namespace Go.Proofs.YtenfkejbndifdaaGreatDoor
open Go Go.RowKit

theorem word_no (s : ByteArray) (h : allZ wordZ s = true) : ∀ b ∈ s.data.toList, b ≠ 32 := by
  intro b hb e
  have := List.all_eq_true.1 h b hb
  rw [e] at this
  exact absurd this (by decide)

set_option maxRecDepth 100000 in
set_option maxHeartbeats 400000 in
theorem keyword_any (s : ByteArray) (w : World) (hs : s.size ≤ 1000000) (hm : MaxOk w) (hw : Hid (allZ wordZ s = true)) :
    Calls Tryz.prog 223 #[.string s] w fun e w' => e = .returned (.bool (kwS s)) ∧ w = w' := by
  have HM := Lib.hid hm; clear hm
  go_enter Tryz.func223, Tryz.ntmps223
  go_wp2_with fail
  refine (Contains_any _ _ w (by decide) HM.out).mono ?_
  rintro e w' ⟨rfl, rfl⟩
  go_wp2
  go_ret
  refine ⟨ret_bool ?_, rfl⟩
  rw [kwS_eq, ← kw_contains s.data.toList (word_no s hw.out)]
  congr 1
set_option maxHeartbeats 400000 in
theorem IsName_any (s : ByteArray) (w : World) (hs : s.size ≤ maxLen) (hm : MaxOk w) :
    Calls Tryz.prog 205 #[.string s] w fun e w' => e = .returned (.bool (nameS s)) ∧ w = w' := by
  by_cases h1 : 1 ≤ s.size
  · have hh := headZ_eq s h1
    have he1 := ne_nil s h1
    have he2 := ne_empty s h1
    by_cases h2 : s.size ≤ 32
    · cases h3 : smallZ (s[0].toNat : Int)
      · have HT : Hid (nameS s = false) := Lib.hid (by rw [← hh] at h3; simp [nameS, h3])
        clear hh
        go_enter Tryz.func205, Tryz.ntmps205
        go_wp2_with (first | (go_at_call 208; refine (small_any _ _).mono ?_; rintro e w' ⟨rfl, rfl⟩))
        go_ret
        exact ⟨ret_bool HT.out.symm, rfl⟩
      · cases h4 : allZ wordZ s
        · have HT : Hid (nameS s = false) := Lib.hid (by simp [nameS, h4])
          clear hh
          go_enter Tryz.func205, Tryz.ntmps205
          go_wp2_with (first | (go_at_call 208; refine (small_any _ _).mono ?_; rintro e w' ⟨rfl, rfl⟩) | (go_at_call 206; refine (all_wordZ _ _ hs).mono ?_; rintro e w' ⟨rfl, rfl⟩))
          go_ret
          exact ⟨ret_bool HT.out.symm, rfl⟩
        · have HT : Hid (nameS s = !kwS s) := Lib.hid (by rw [← hh] at h3; simp [nameS, h3, h1, h2, h4])
          have H4 := Lib.hid h4
          have hs2 : s.size ≤ 1000000 := by omega
          clear hh
          go_enter Tryz.func205, Tryz.ntmps205
          go_wp2_with (first | (go_at_call 208; refine (small_any _ _).mono ?_; rintro e w' ⟨rfl, rfl⟩) | (go_at_call 206; refine (all_wordZ _ _ hs).mono ?_; rintro e w' ⟨rfl, rfl⟩) | (go_at_call 223; refine (keyword_any _ _ hs2 hm H4).mono ?_; rintro e w' ⟨rfl, rfl⟩))
          go_ret
          exact ⟨ret_bool HT.out.symm, rfl⟩
    · have HT : Hid (nameS s = false) := Lib.hid (by simp [nameS, h2])
      go_enter Tryz.func205, Tryz.ntmps205
      go_wp2
      go_ret
      exact ⟨ret_bool HT.out.symm, rfl⟩
  · have HT : Hid (nameS s = false) := Lib.hid (by simp [nameS, h1])
    have he1 : s.toList = [] := is_nil s h1
    go_enter Tryz.func205, Tryz.ntmps205
    go_wp2
    go_ret
    exact ⟨ret_bool HT.out.symm, rfl⟩

end Go.Proofs.YtenfkejbndifdaaGreatDoor
