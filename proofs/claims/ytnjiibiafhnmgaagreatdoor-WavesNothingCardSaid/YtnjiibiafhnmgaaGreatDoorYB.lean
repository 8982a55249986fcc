/- Sets of places, plain: union, intersection, complement, difference; the references' ways give the same. -/
import Derived.Test.YtnjiibiafhnmgaaGreatDoorYA
import Derived.Test.YtnjiibiafhnmgaaGreatDoorProg
import Derived.WalkKit
import Derived.WalkSpells
import Derived.WalkLawsBesides
import Derived.BigQuiet
import Derived.Deep.QuietTactic
import Derived.Deep.DrawnRows
import Derived.Lib.Hide
import Derived.Lib.Strings
import Derived.Lib.IndexBytes
import Derived.Lib.IndexMore
import Derived.Test.YtnjiibiafhnmgaaGreatDoorRows
import Derived.Test.YtnjiibiafhnmgaaGreatDoorQShelf
namespace Go.Proofs.YtnjiibiafhnmgaaGreatDoor
set_option linter.unusedVariables false
set_option linter.unusedSimpArgs false

def unionS (l : List (List (Int × Int))) : List (Int × Int) := combS (fun n => decide (0 < n)) l
def interS (l : List (List (Int × Int))) : List (Int × Int) := combS (fun n => decide (n = (l.length : Int))) l
def complS (s : List (Int × Int)) : List (Int × Int) := combS (fun n => decide (n = 0)) [s]
def minusS (a b : List (Int × Int)) : List (Int × Int) := interS [a, complS b]
def subB (a b : List (Int × Int)) : Bool := decide (minusS a b = [])

def gapsF (q : Int) : List (Int × Int) → List (Int × Int)
  | [] => if q < 1000000 then [(q, 1000000)] else []
  | x :: t => (if q < x.1 then [(q, x.1)] else []) ++ gapsF x.2 t
def gapSt (s : List (Int × Int) × Int) (x : Int × Int) : List (Int × Int) × Int := (if s.2 < x.1 then s.1 ++ [(s.2, x.1)] else s.1, x.2)
def gapEnd (s : List (Int × Int) × Int) : List (Int × Int) := if s.2 < 1000000 then s.1 ++ [(s.2, 1000000)] else s.1
end Go.Proofs.YtnjiibiafhnmgaaGreatDoor

namespace Go.Proofs.YtnjiibiafhnmgaaGreatDoor
open Go Go.RowKit

def partB (a : Int) : Bool := decide (0 ≤ a ∧ a ≤ 999)
def validB (a b c : Int) : Bool := partB a && (partB b && partB c)
def cmpI (a b : Int) : Int := if a < b then -1 else if b < a then 1 else 0
def cmpV (a b c x y z : Int) : Int := if cmpI a x ≠ 0 then cmpI a x else if cmpI b y ≠ 0 then cmpI b y else cmpI c z

theorem parts_any (a b c : Int) (w : World) :
    Calls Tryz.prog 188 #[.agg #[.int .i64 a, .int .i64 b, .int .i64 c]] w fun e w' => e = .returned (.agg #[.int .i64 a, .int .i64 b, .int .i64 c]) ∧ w' = (w.alloc (.cells #[.int .i64 a, .int .i64 b, .int .i64 c] 51)).alloc (.cells #[.int .i64 a, .int .i64 b, .int .i64 c] 225) := by
  go_enter Tryz.func188, Tryz.ntmps188
  go_wp2
  exact bodyPost_ret (v := .agg #[.int .i64 a, .int .i64 b, .int .i64 c]) (by simp [results, Tryz.results188, go_sem]) rfl ⟨rfl, rfl⟩
theorem nan_any (a : Int) (w : World) : Calls Tryz.prog 181 #[.int .i64 a] w fun e w' => e = .returned (.bool false) ∧ w = w' := by
  go_enter Tryz.func181, Tryz.ntmps181
  go_wp2
  go_ret
  exact ⟨rfl, rfl⟩
theorem cmp_any (a b : Int) (w : World) : Calls Tryz.prog 201 #[.int .i64 a, .int .i64 b] w fun e w' => e = .returned (.int .i64 (cmpI a b)) ∧ w = w' := by
  rcases Int.lt_trichotomy a b with h | h | h
  · have hc : cmpI a b = -1 := by unfold cmpI; rw [if_pos h]
    rw [hc]; clear hc
    go_enter Tryz.func201, Tryz.ntmps201
    go_wp2_with (go_at_call 181; refine (nan_any _ _).mono ?_; rintro e w' ⟨rfl, rfl⟩)
    go_ret
    exact ⟨rfl, rfl⟩
  · have hc : cmpI a b = 0 := by unfold cmpI; rw [if_neg (by omega), if_neg (by omega)]
    rw [hc]; clear hc
    subst h
    go_enter Tryz.func201, Tryz.ntmps201
    go_wp2_with (go_at_call 181; refine (nan_any _ _).mono ?_; rintro e w' ⟨rfl, rfl⟩)
    go_ret
    exact ⟨rfl, rfl⟩
  · have hc : cmpI a b = 1 := by unfold cmpI; rw [if_neg (by omega), if_pos h]
    rw [hc]; clear hc
    have h2 : ¬ a < b := by omega
    go_enter Tryz.func201, Tryz.ntmps201
    go_wp2_with (go_at_call 181; refine (nan_any _ _).mono ?_; rintro e w' ⟨rfl, rfl⟩)
    go_ret
    exact ⟨rfl, rfl⟩
end Go.Proofs.YtnjiibiafhnmgaaGreatDoor

namespace Go.Proofs.YtnjiibiafhnmgaaGreatDoor
open Go Go.RowKit

theorem valid_le {a b c : Int} (h : validB a b c = true) : (0 ≤ a ∧ a ≤ 999) ∧ (0 ≤ b ∧ b ≤ 999) ∧ 0 ≤ c ∧ c ≤ 999 := by
  unfold validB partB at h
  simpa using h
theorem part_yes {a : Int} (h : partB a = true) : ¬ a < 0 ∧ ¬ 999 < a := by unfold partB at h; have := of_decide_eq_true h; omega
theorem part_no {a : Int} (h : partB a = false) : a < 0 ∨ (¬ a < 0 ∧ 999 < a) := by unfold partB at h; have := of_decide_eq_false h; omega
set_option maxRecDepth 100000 in
set_option maxHeartbeats 1000000 in
theorem Valid_any (a b c : Int) (w : World) : Calls Tryz.prog 157 #[.agg #[.int .i64 a, .int .i64 b, .int .i64 c]] w fun e w' => e = .returned (.bool (validB a b c)) ∧ w' = ((w.alloc (.cells #[.int .i64 a, .int .i64 b, .int .i64 c] 51)).alloc (.cells #[.int .i64 a, .int .i64 b, .int .i64 c] 51)).alloc (.cells #[.int .i64 a, .int .i64 b, .int .i64 c] 225) := by
  have i0 : ∀ w, (Instr.index 225 (.agg #[.int .i64 a, .int .i64 b, .int .i64 c]) (.int .i64 0)).run Tryz.prog w = .ok (.int .i64 a) w := fun _ => by kernel_rfl
  have i1 : ∀ w, (Instr.index 225 (.agg #[.int .i64 a, .int .i64 b, .int .i64 c]) (.int .i64 1)).run Tryz.prog w = .ok (.int .i64 b) w := fun _ => by kernel_rfl
  have i2 : ∀ w, (Instr.index 225 (.agg #[.int .i64 a, .int .i64 b, .int .i64 c]) (.int .i64 2)).run Tryz.prog w = .ok (.int .i64 c) w := fun _ => by kernel_rfl
  obtain ⟨v, hv⟩ : ∃ v, validB a b c = v := ⟨_, rfl⟩
  rw [hv]
  have HV := Lib.hid hv
  clear hv
  go_enter Tryz.func157, Tryz.ntmps157
  go_wp2_with (go_at_call 188; refine (parts_any _ _ _ _).mono ?_; rintro e w' ⟨rfl, rfl⟩)
  go_loop [7] (fun i => (i = .int .i64 0) ∨ (i = .int .i64 1 ∧ Hid (partB a = true)) ∨ (i = .int .i64 2 ∧ Hid (partB a = true ∧ partB b = true)) ∨ (i = .int .i64 3 ∧ Hid (partB a = true ∧ partB b = true ∧ partB c = true))) (fun i => 3 - (intOf i).toNat)
  case atStart => exact .inl rfl
  case round =>
    rcases hrel with rfl | ⟨rfl, H1⟩ | ⟨rfl, H2⟩ | ⟨rfl, H3⟩
    · by_cases hp : partB a = true
      · obtain ⟨h1, h2⟩ := part_yes hp
        have HP := Lib.hid hp
        clear hp
        go_wp2
        go_round
        case rel => exact .inr (.inl ⟨rfl, HP⟩)
        case measure => simp [intOf]
      · have HP := Lib.hid hp
        have HVF := Lib.hid (show v = false by rw [← HV.out]; unfold validB; simp [HP.out])
        rcases part_no (by simpa using hp) with h1 | ⟨h1, h2⟩
        all_goals
          clear hp
          go_wp2
          go_ret
          exact ⟨by rw [HVF.out]; rfl, rfl⟩
    · by_cases hp : partB b = true
      · obtain ⟨h1, h2⟩ := part_yes hp
        have HP := Lib.hid hp
        clear hp
        go_wp2
        go_round
        case rel => exact .inr (.inr (.inl ⟨rfl, Lib.hid ⟨H1.out, HP.out⟩⟩))
        case measure => simp [intOf]
      · have HP := Lib.hid hp
        have HVF := Lib.hid (show v = false by rw [← HV.out]; unfold validB; simp [HP.out])
        rcases part_no (by simpa using hp) with h1 | ⟨h1, h2⟩
        all_goals
          clear hp
          go_wp2
          go_ret
          exact ⟨by rw [HVF.out]; rfl, rfl⟩
    · by_cases hp : partB c = true
      · obtain ⟨h1, h2⟩ := part_yes hp
        have HP := Lib.hid hp
        clear hp
        go_wp2
        go_round
        case rel => exact .inr (.inr (.inr ⟨rfl, Lib.hid ⟨H2.out.1, H2.out.2, HP.out⟩⟩))
        case measure => simp [intOf]
      · have HP := Lib.hid hp
        have HVF := Lib.hid (show v = false by rw [← HV.out]; unfold validB; simp [HP.out])
        rcases part_no (by simpa using hp) with h1 | ⟨h1, h2⟩
        all_goals
          clear hp
          go_wp2
          go_ret
          exact ⟨by rw [HVF.out]; rfl, rfl⟩
    · have HVF := Lib.hid (show v = true by rw [← HV.out]; unfold validB; simp [H3.out])
      go_wp2
      go_ret
      exact ⟨by rw [HVF.out]; rfl, rfl⟩
def knownB (l : Int) : Bool := decide (0 ≤ l ∧ l ≤ 2)
end Go.Proofs.YtnjiibiafhnmgaaGreatDoor

namespace Go.Proofs.YtnjiibiafhnmgaaGreatDoor
open Go

def smallZ (c : Int) : Bool := decide (97 ≤ c) && decide (c ≤ 122)
def capitalZ (c : Int) : Bool := decide (65 ≤ c) && decide (c ≤ 90)
def digitZ (c : Int) : Bool := decide (48 ≤ c) && decide (c ≤ 57)
def wordZ (c : Int) : Bool := smallZ c || capitalZ c || digitZ c || c == 95
def pathZ (c : Int) : Bool := smallZ c || digitZ c

def hexZ (c : Int) : Int := if digitZ c then c - 48 else if 97 ≤ c ∧ c ≤ 102 then c - 87 else -1

def allZ (p : Int → Bool) (s : ByteArray) : Bool := s.data.toList.all fun b => p b.toNat

theorem all_take (p : Int → Bool) (s : ByteArray) (k : Nat) (h : k < s.size) (hp : (s.data.toList.take k).all (fun b => p b.toNat) = true) (hb : p (s[k].toNat) = true) :
    (s.data.toList.take (k + 1)).all (fun b => p b.toNat) = true := by
  rw [List.take_succ_eq_append_getElem (by simpa using h)]
  simp only [List.all_append, hp, Bool.true_and, List.all_cons, List.all_nil, Bool.and_true]
  exact hb
theorem all_done (p : Int → Bool) (s : ByteArray) (k : Nat) (h : s.size ≤ k) (hp : (s.data.toList.take k).all (fun b => p b.toNat) = true) : allZ p s = true := by
  rw [List.take_of_length_le (by simpa using h)] at hp; exact hp
theorem all_not (p : Int → Bool) (s : ByteArray) (k : Nat) (h : k < s.size) (hb : ¬ p (s[k].toNat) = true) : allZ p s = false := by
  unfold allZ
  rw [List.all_eq_false]
  refine ⟨s[k], ?_, hb⟩
  exact Array.mem_toList_iff.2 (Array.getElem_mem _)

def kwList : List ByteArray := [⟨#[97, 110, 100]⟩, ⟨#[97, 110, 121]⟩, ⟨#[97, 115]⟩, ⟨#[98, 111, 111, 108]⟩, ⟨#[100, 101, 112, 114, 101, 99, 97, 116, 101, 100]⟩, ⟨#[101, 108, 115, 101]⟩, ⟨#[101, 120, 112, 111, 114, 116]⟩, ⟨#[102, 97, 108, 115, 101]⟩, ⟨#[102, 110]⟩, ⟨#[102, 111, 108, 100]⟩, ⟨#[102, 114, 111, 109]⟩, ⟨#[105, 102]⟩, ⟨#[105, 109, 112, 111, 114, 116]⟩, ⟨#[105, 110]⟩, ⟨#[105, 110, 116]⟩, ⟨#[108, 101, 110, 103, 116, 104]⟩, ⟨#[108, 101, 116]⟩, ⟨#[108, 105, 115, 116]⟩, ⟨#[109, 97, 116, 99, 104]⟩, ⟨#[109, 111, 100, 117, 108, 101]⟩, ⟨#[110, 111, 110, 101]⟩, ⟨#[110, 111, 116]⟩, ⟨#[111, 114]⟩, ⟨#[116, 101, 120, 116]⟩, ⟨#[116, 104, 101, 110]⟩, ⟨#[116, 114, 117, 101]⟩, ⟨#[116, 121, 112, 101]⟩, ⟨#[117, 115, 101]⟩]
def symList : List ByteArray := [⟨#[61, 61, 61]⟩, ⟨#[58, 58]⟩, ⟨#[62, 58]⟩, ⟨#[60, 58]⟩, ⟨#[61, 62]⟩, ⟨#[61, 61]⟩, ⟨#[43, 43]⟩, ⟨#[40]⟩, ⟨#[41]⟩, ⟨#[91]⟩, ⟨#[93]⟩, ⟨#[123]⟩, ⟨#[125]⟩, ⟨#[60]⟩, ⟨#[62]⟩, ⟨#[44]⟩, ⟨#[58]⟩, ⟨#[61]⟩, ⟨#[46]⟩, ⟨#[43]⟩, ⟨#[45]⟩, ⟨#[42]⟩, ⟨#[124]⟩, ⟨#[63]⟩, ⟨#[47]⟩]

def headZ (s : ByteArray) : Int := if h : 0 < s.size then ((s[0]'h).toNat : Int) else 0
theorem headZ_eq (s : ByteArray) (h : 0 < s.size) : headZ s = ((s[0]'h).toNat : Int) := by unfold headZ; rw [dif_pos h]
def kwS (s : ByteArray) : Bool := kwList.any fun x => x.toList == s.toList
theorem kwS_eq (s : ByteArray) : kwS s = kwList.any (fun x => x.data.toList == s.data.toList) := by unfold kwS; simp only [ByteArray.toList_eq]
def nameS (s : ByteArray) : Bool := decide (1 ≤ s.size) && (decide (s.size ≤ 32) && (smallZ (headZ s) && (allZ wordZ s && !kwS s)))
def typeS (s : ByteArray) : Bool := decide (1 ≤ s.size) && (decide (s.size ≤ 32) && (capitalZ (headZ s) && allZ wordZ s))


def kwText : List UInt8 := kwList.flatMap (fun b => 32 :: b.data.toList) ++ [32]
theorem kw_fin : ∀ j, j < 200 → kwText[j]? = some 32 → (kwText.drop (j + 1)).contains 32 = true → kwList.any (fun x => x.data.toList == (kwText.drop (j + 1)).takeWhile (· != 32)) = true := by decide +kernel
theorem kw_len : kwText.length < 200 := by decide +kernel
theorem kw_all : kwList.all (fun x => Lib.contains kwText (32 :: x.data.toList ++ [32])) = true := by decide +kernel
theorem take_no (l r : List UInt8) (h : ∀ b ∈ l, b ≠ 32) : (l ++ 32 :: r).takeWhile (· != 32) = l := by
  induction l with
  | nil => simp
  | cons b l ih => rw [List.cons_append, List.takeWhile_cons, if_pos (by simpa using h b (by simp)), ih (fun c hc => h c (by simp [hc]))]
theorem kw_contains (l : List UInt8) (h : ∀ b ∈ l, b ≠ 32) : Lib.contains kwText (32 :: l ++ [32]) = kwList.any (fun x => x.data.toList == l) := by
  rw [Bool.eq_iff_iff]
  constructor
  · intro hc
    rcases Lib.index_spec kwText (32 :: l ++ [32]) with ⟨h1, _⟩ | ⟨i, _, hi, ho, _⟩
    · rw [Lib.contains, h1] at hc; exact absurd hc (by decide)
    · simp only [Lib.occAt, List.isPrefixOf_iff_prefix] at ho
      obtain ⟨r, hr⟩ := ho
      have e1 : kwText.drop i = 32 :: (l ++ 32 :: r) := by rw [← hr]; simp
      have e2 : kwText.drop (i + 1) = l ++ 32 :: r := by rw [← List.drop_drop, e1]; rfl
      have e3 : kwText[i]? = some 32 := by rw [← Nat.add_zero i, ← List.getElem?_drop, e1]; rfl
      have := kw_fin i (by have := kw_len; omega) e3 (by rw [e2]; simp)
      rw [e2, take_no l r h] at this
      exact this
  · intro hc
    rw [List.any_eq_true] at hc
    obtain ⟨x, hx, he⟩ := hc
    have := List.all_eq_true.1 kw_all x hx
    simp only [beq_iff_eq] at he
    rw [he] at this
    exact this

theorem toList_data (s : ByteArray) : s.toList = s.data.toList := Lib.toList_data s
theorem ne_nil (s : ByteArray) (h : 1 ≤ s.size) : ¬ s.toList = [] := by
  rw [toList_data]; intro e; rw [Lib.size_eq, e] at h; exact absurd h (by decide)
theorem ne_empty (s : ByteArray) (h : 1 ≤ s.size) : s.toList.isEmpty = false := by
  have := ne_nil s h; simpa using this
theorem is_nil (s : ByteArray) (h : ¬ 1 ≤ s.size) : s.toList = [] := by
  rw [toList_data]; rw [Lib.size_eq] at h; exact List.length_eq_zero_iff.1 (by omega)

end Go.Proofs.YtnjiibiafhnmgaaGreatDoor

namespace Go.Proofs.YtnjiibiafhnmgaaGreatDoor
open Go Go.RowKit

theorem ret_bool {a b : Bool} (h : a = b) : Ending.returned (.bool a) = Ending.returned (.bool b) := by rw [h]
theorem small_any (c : Int) (w : World) :
    Calls Tryz.prog 211 #[.int .u8 c] w fun e w' => e = .returned (.bool (smallZ c)) ∧ w = w' := by
  go_enter Tryz.func211, Tryz.ntmps211
  go_wp2
  all_goals go_ret
  all_goals exact ⟨ret_bool (by simp [smallZ, *] <;> omega), rfl⟩

theorem capital_any (c : Int) (w : World) :
    Calls Tryz.prog 234 #[.int .u8 c] w fun e w' => e = .returned (.bool (capitalZ c)) ∧ w = w' := by
  go_enter Tryz.func234, Tryz.ntmps234
  go_wp2
  all_goals go_ret
  all_goals exact ⟨ret_bool (by simp [capitalZ, *] <;> omega), rfl⟩

theorem digit_any (c : Int) (w : World) :
    Calls Tryz.prog 212 #[.int .u8 c] w fun e w' => e = .returned (.bool (digitZ c)) ∧ w = w' := by
  go_enter Tryz.func212, Tryz.ntmps212
  go_wp2
  all_goals go_ret
  all_goals exact ⟨ret_bool (by simp [digitZ, *] <;> omega), rfl⟩

theorem word_any (c : Int) (w : World) :
    Calls Tryz.prog 222 #[.int .u8 c] w fun e w' => e = .returned (.bool (wordZ c)) ∧ w = w' := by
  go_enter Tryz.func222, Tryz.ntmps222
  go_wp2_with (first
   | (go_at_call 211; refine (small_any _ _).mono ?_; rintro e w' ⟨rfl, rfl⟩)
   | (go_at_call 234; refine (capital_any _ _).mono ?_; rintro e w' ⟨rfl, rfl⟩)
   | (go_at_call 212; refine (digit_any _ _).mono ?_; rintro e w' ⟨rfl, rfl⟩))
  all_goals go_ret
  all_goals exact ⟨ret_bool (by simp [wordZ, *]), rfl⟩

theorem major1_any (c : Int) (w : World) :
    Calls Tryz.prog 210 #[.int .u8 c] w fun e w' => e = .returned (.bool (pathZ c)) ∧ w = w' := by
  go_enter Tryz.func210, Tryz.ntmps210
  go_wp2_with (first
   | (go_at_call 211; refine (small_any _ _).mono ?_; rintro e w' ⟨rfl, rfl⟩)
   | (go_at_call 212; refine (digit_any _ _).mono ?_; rintro e w' ⟨rfl, rfl⟩))
  all_goals go_ret
  all_goals exact ⟨ret_bool (by simp [pathZ, *]), rfl⟩

end Go.Proofs.YtnjiibiafhnmgaaGreatDoor

namespace Go.Proofs.YtnjiibiafhnmgaaGreatDoor
open Go Go.RowKit

set_option maxHeartbeats 400000 in
theorem all_wordZ (s : ByteArray) (w : World) (hs : s.size ≤ maxLen) :
    Calls Tryz.prog 209 #[.string s, .func (.func 222) #[] #[]] w fun e w' => e = .returned (.bool (allZ wordZ s)) ∧ w = w' := by
  unfold maxLen at hs
  go_enter Tryz.func209, Tryz.ntmps209
  go_wp2
  go_loop [8] (fun i => ∃ k : Nat, k ≤ s.size ∧ i = .int .i64 k ∧ Hid ((s.data.toList.take k).all (fun b => wordZ b.toNat) = true)) (fun i => s.size - (intOf i).toNat)
  case atStart => exact ⟨0, Nat.zero_le _, rfl, Lib.hid rfl⟩
  case round =>
    obtain ⟨k, hk, rfl, HA⟩ := hrel
    by_cases hlt : k < s.size
    · cases hb : wordZ (s[k].toNat : Int)
      · go_wp2_with (go_at_call 222; refine (word_any _ _).mono ?_; rintro e w' ⟨rfl, rfl⟩)
        go_ret
        exact ⟨ret_bool (all_not _ s k hlt (by rw [hb]; exact Bool.false_ne_true)).symm, rfl⟩
      · go_wp2_with (go_at_call 222; refine (word_any _ _).mono ?_; rintro e w' ⟨rfl, rfl⟩)
        go_round
        case rel => exact ⟨k + 1, by omega, by go_num, Lib.hid (all_take _ s k hlt HA.out hb)⟩
        case measure => simp [intOf]; omega
    · go_wp2
      go_ret
      exact ⟨ret_bool (all_done _ s k (by omega) HA.out).symm, rfl⟩
set_option maxHeartbeats 400000 in
theorem all_digitZ (s : ByteArray) (w : World) (hs : s.size ≤ maxLen) :
    Calls Tryz.prog 209 #[.string s, .func (.func 212) #[] #[]] w fun e w' => e = .returned (.bool (allZ digitZ s)) ∧ w = w' := by
  unfold maxLen at hs
  go_enter Tryz.func209, Tryz.ntmps209
  go_wp2
  go_loop [8] (fun i => ∃ k : Nat, k ≤ s.size ∧ i = .int .i64 k ∧ Hid ((s.data.toList.take k).all (fun b => digitZ b.toNat) = true)) (fun i => s.size - (intOf i).toNat)
  case atStart => exact ⟨0, Nat.zero_le _, rfl, Lib.hid rfl⟩
  case round =>
    obtain ⟨k, hk, rfl, HA⟩ := hrel
    by_cases hlt : k < s.size
    · cases hb : digitZ (s[k].toNat : Int)
      · go_wp2_with (go_at_call 212; refine (digit_any _ _).mono ?_; rintro e w' ⟨rfl, rfl⟩)
        go_ret
        exact ⟨ret_bool (all_not _ s k hlt (by rw [hb]; exact Bool.false_ne_true)).symm, rfl⟩
      · go_wp2_with (go_at_call 212; refine (digit_any _ _).mono ?_; rintro e w' ⟨rfl, rfl⟩)
        go_round
        case rel => exact ⟨k + 1, by omega, by go_num, Lib.hid (all_take _ s k hlt HA.out hb)⟩
        case measure => simp [intOf]; omega
    · go_wp2
      go_ret
      exact ⟨ret_bool (all_done _ s k (by omega) HA.out).symm, rfl⟩
set_option maxHeartbeats 400000 in
theorem all_pathZ (s : ByteArray) (w : World) (hs : s.size ≤ maxLen) :
    Calls Tryz.prog 209 #[.string s, .func (.func 210) #[] #[]] w fun e w' => e = .returned (.bool (allZ pathZ s)) ∧ w = w' := by
  unfold maxLen at hs
  go_enter Tryz.func209, Tryz.ntmps209
  go_wp2
  go_loop [8] (fun i => ∃ k : Nat, k ≤ s.size ∧ i = .int .i64 k ∧ Hid ((s.data.toList.take k).all (fun b => pathZ b.toNat) = true)) (fun i => s.size - (intOf i).toNat)
  case atStart => exact ⟨0, Nat.zero_le _, rfl, Lib.hid rfl⟩
  case round =>
    obtain ⟨k, hk, rfl, HA⟩ := hrel
    by_cases hlt : k < s.size
    · cases hb : pathZ (s[k].toNat : Int)
      · go_wp2_with (go_at_call 210; refine (major1_any _ _).mono ?_; rintro e w' ⟨rfl, rfl⟩)
        go_ret
        exact ⟨ret_bool (all_not _ s k hlt (by rw [hb]; exact Bool.false_ne_true)).symm, rfl⟩
      · go_wp2_with (go_at_call 210; refine (major1_any _ _).mono ?_; rintro e w' ⟨rfl, rfl⟩)
        go_round
        case rel => exact ⟨k + 1, by omega, by go_num, Lib.hid (all_take _ s k hlt HA.out hb)⟩
        case measure => simp [intOf]; omega
    · go_wp2
      go_ret
      exact ⟨ret_bool (all_done _ s k (by omega) HA.out).symm, rfl⟩

end Go.Proofs.YtnjiibiafhnmgaaGreatDoor

namespace Go.Proofs.YtnjiibiafhnmgaaGreatDoor
open Go Go.RowKit

def MaxOk (w : World) : Prop := ∃ m : Int, w.cell? ⟨0, 0, none⟩ = some (.int .i64 m)
theorem MaxOk.below {B : Nat} {w w' : World} (h : MaxOk w) (hb : Below B w w') (hB : 0 < B) : MaxOk w' := by
  obtain ⟨m, hm⟩ := h
  exact ⟨m, (hb.cell (p := ⟨0, 0, none⟩) hB).trans hm⟩

theorem MaxOk.pos {w : World} (h : MaxOk w) : 0 < w.heap.size := by
  obtain ⟨m, h⟩ := h
  unfold World.cell? at h
  rcases Nat.lt_or_ge 0 w.heap.size with hp | hp
  · exact hp
  · rw [Array.getElem?_eq_none hp] at h; exact absurd h (by simp)
theorem MaxOk.alloc {w : World} (h : MaxOk w) (o : Obj) : MaxOk (w.alloc o) := h.below (B := w.heap.size) ((Below.refl _ w).alloc (Nat.le_refl _) o) h.pos

theorem flip {P : Program} {f : FuncId} {a : Array Value} {w : World} {v : Value} (h : Calls P f a w fun e w' => e = .returned v ∧ w' = w) : Calls P f a w fun e w' => e = .returned v ∧ w = w' :=
  h.mono fun _ _ ⟨h1, h2⟩ => ⟨h1, h2.symm⟩
theorem CutPrefix_any (s p : ByteArray) (w : World) :
    Calls Tryz.prog 221 #[.string s, .string p] w fun e w' => e = .returned (.tuple #[.string ⟨(Lib.trimPrefix s.data.toList p.data.toList).toArray⟩, .bool (Lib.hasPrefix s.data.toList p.data.toList)]) ∧ w = w' := flip (Tryz.strings_CutPrefix s p w)
theorem Contains_any (s sub : ByteArray) (w : World) (hs : s.size < 4294967281) (hm : MaxOk w) :
    Calls Tryz.prog 235 #[.string s, .string sub] w fun e w' => e = .returned (.bool (Lib.contains s.data.toList sub.data.toList)) ∧ w = w' := by
  obtain ⟨m, hm⟩ := hm
  exact flip (Tryz.strings_Contains s sub m w hs hm)

theorem ret_ii {j k : IntKind} {a b c d : Int} (h : a = b) (h' : c = d) : Ending.returned (.tuple #[.int j a, .int k c]) = Ending.returned (.tuple #[.int j b, .int k d]) := by rw [h, h']
theorem ret_ib {j : IntKind} {a b : Int} {c d : Bool} (h : a = b) (h' : c = d) : Ending.returned (.tuple #[.int j a, .bool c]) = Ending.returned (.tuple #[.int j b, .bool d]) := by rw [h, h']
end Go.Proofs.YtnjiibiafhnmgaaGreatDoor
