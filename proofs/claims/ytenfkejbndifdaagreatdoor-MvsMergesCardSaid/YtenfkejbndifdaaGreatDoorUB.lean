/- Contracts of the byte predicates (small, capital, digit, word, hex) of the lexer and of its reference: each returns what a plain function of the byte  -/
import Derived.Test.YtenfkejbndifdaaGreatDoorRows
import Derived.Test.YtenfkejbndifdaaGreatDoorUA
import Derived.WalkKit
import Derived.WalkSpells
import Derived.WalkLawsBesides
import Derived.Lib.Hide
import Derived.Test.YtenfkejbndifdaaGreatDoorQShelf
import Derived.Maps.AppendAt
import Derived.Lib.Bytes
import Derived.Lib.Builder
import Derived.WalkSmall
import Derived.Lib.Join
import Derived.Lib.ItoaNum
import Derived.Lib.SplitLaws
namespace Go.Proofs.YtenfkejbndifdaaGreatDoor
open Go Go.RowKit

theorem ret_bool {a b : Bool} (h : a = b) : Ending.returned (.bool a) = Ending.returned (.bool b) := by rw [h]
theorem ret_int {k : IntKind} {a b : Int} (h : a = b) : Ending.returned (.int k a) = Ending.returned (.int k b) := by rw [h]

theorem small_any (c : Int) (w : World) :
    Calls Tryz.prog 208 #[.int .u8 c] w fun e w' => e = .returned (.bool (smallZ c)) ∧ w = w' := by
  go_enter Tryz.func208, Tryz.ntmps208
  go_wp2
  all_goals go_ret
  all_goals exact ⟨ret_bool (by simp [smallZ, *] <;> omega), rfl⟩

theorem capital_any (c : Int) (w : World) :
    Calls Tryz.prog 233 #[.int .u8 c] w fun e w' => e = .returned (.bool (capitalZ c)) ∧ w = w' := by
  go_enter Tryz.func233, Tryz.ntmps233
  go_wp2
  all_goals go_ret
  all_goals exact ⟨ret_bool (by simp [capitalZ, *] <;> omega), rfl⟩

theorem digit_any (c : Int) (w : World) :
    Calls Tryz.prog 209 #[.int .u8 c] w fun e w' => e = .returned (.bool (digitZ c)) ∧ w = w' := by
  go_enter Tryz.func209, Tryz.ntmps209
  go_wp2
  all_goals go_ret
  all_goals exact ⟨ret_bool (by simp [digitZ, *] <;> omega), rfl⟩

theorem word_any (c : Int) (w : World) :
    Calls Tryz.prog 222 #[.int .u8 c] w fun e w' => e = .returned (.bool (wordZ c)) ∧ w = w' := by
  go_enter Tryz.func222, Tryz.ntmps222
  go_wp2_with (first
   | (go_at_call 208; refine (small_any _ _).mono ?_; rintro e w' ⟨rfl, rfl⟩)
   | (go_at_call 233; refine (capital_any _ _).mono ?_; rintro e w' ⟨rfl, rfl⟩)
   | (go_at_call 209; refine (digit_any _ _).mono ?_; rintro e w' ⟨rfl, rfl⟩))
  all_goals go_ret
  all_goals exact ⟨ret_bool (by simp [wordZ, *]), rfl⟩

theorem rsmall_any (c : Int) (w : World) :
    Calls Tryz.prog 225 #[.int .u8 c] w fun e w' => e = .returned (.bool (smallZ c)) ∧ w = w' := by
  go_enter Tryz.func225, Tryz.ntmps225
  go_wp2
  all_goals go_ret
  all_goals exact ⟨ret_bool (by simp [smallZ, *] <;> omega), rfl⟩

theorem rcapital_any (c : Int) (w : World) :
    Calls Tryz.prog 249 #[.int .u8 c] w fun e w' => e = .returned (.bool (capitalZ c)) ∧ w = w' := by
  go_enter Tryz.func249, Tryz.ntmps249
  go_wp2
  all_goals go_ret
  all_goals exact ⟨ret_bool (by simp [capitalZ, *] <;> omega), rfl⟩

theorem rdigit_any (c : Int) (w : World) :
    Calls Tryz.prog 226 #[.int .u8 c] w fun e w' => e = .returned (.bool (digitZ c)) ∧ w = w' := by
  go_enter Tryz.func226, Tryz.ntmps226
  go_wp2
  all_goals go_ret
  all_goals exact ⟨ret_bool (by simp [digitZ, *] <;> omega), rfl⟩

theorem rword_any (c : Int) (w : World) :
    Calls Tryz.prog 243 #[.int .u8 c] w fun e w' => e = .returned (.bool (wordZ c)) ∧ w = w' := by
  go_enter Tryz.func243, Tryz.ntmps243
  go_wp2_with (first
   | (go_at_call 225; refine (rsmall_any _ _).mono ?_; rintro e w' ⟨rfl, rfl⟩)
   | (go_at_call 249; refine (rcapital_any _ _).mono ?_; rintro e w' ⟨rfl, rfl⟩)
   | (go_at_call 226; refine (rdigit_any _ _).mono ?_; rintro e w' ⟨rfl, rfl⟩))
  all_goals go_ret
  all_goals exact ⟨ret_bool (by simp [wordZ, *]), rfl⟩

theorem major1_any (c : Int) (w : World) :
    Calls Tryz.prog 207 #[.int .u8 c] w fun e w' => e = .returned (.bool (pathZ c)) ∧ w = w' := by
  go_enter Tryz.func207, Tryz.ntmps207
  go_wp2_with (first
   | (go_at_call 208; refine (small_any _ _).mono ?_; rintro e w' ⟨rfl, rfl⟩)
   | (go_at_call 209; refine (digit_any _ _).mono ?_; rintro e w' ⟨rfl, rfl⟩))
  all_goals go_ret
  all_goals exact ⟨ret_bool (by simp [pathZ, *]), rfl⟩

end Go.Proofs.YtenfkejbndifdaaGreatDoor

namespace Go.Proofs.YtenfkejbndifdaaGreatDoor
open Go Go.RowKit

set_option maxHeartbeats 400000 in
theorem all_wordZ (s : ByteArray) (w : World) (hs : s.size ≤ maxLen) :
    Calls Tryz.prog 206 #[.string s, .func (.func 222) #[] #[]] w fun e w' => e = .returned (.bool (allZ wordZ s)) ∧ w = w' := by
  unfold maxLen at hs
  go_enter Tryz.func206, Tryz.ntmps206
  go_wp2
  go_loop [8] (fun i => ∃ k : Nat, k ≤ s.size ∧ i = .int .i64 k ∧ Hid ((s.data.toList.take k).all (fun b => wordZ b.toNat) = true)) (fun i => s.size - (intOf i).toNat)
  case atStart => exact ⟨0, Nat.zero_le _, rfl, Lib.hid rfl⟩
  case round =>
    obtain ⟨k, hk, rfl, HA⟩ := hrel
    by_cases hlt : k < s.size
    · cases hb : wordZ (s[k].toNat : Int)
      · go_wp2_with (go_at_call 222; refine (word_any _ _).mono ?_; rintro e w' ⟨rfl, rfl⟩)
        go_ret
        exact ⟨ret_bool (all_not _ s k hlt (by rw [hb]; exact Bool.false_ne_true)).symm, rfl⟩
      · go_wp2_with (go_at_call 222; refine (word_any _ _).mono ?_; rintro e w' ⟨rfl, rfl⟩)
        go_round
        case rel => exact ⟨k + 1, by omega, by go_num, Lib.hid (all_take _ s k hlt HA.out hb)⟩
        case measure => simp [intOf]; omega
    · go_wp2
      go_ret
      exact ⟨ret_bool (all_done _ s k (by omega) HA.out).symm, rfl⟩
set_option maxHeartbeats 400000 in
theorem all_digitZ (s : ByteArray) (w : World) (hs : s.size ≤ maxLen) :
    Calls Tryz.prog 206 #[.string s, .func (.func 209) #[] #[]] w fun e w' => e = .returned (.bool (allZ digitZ s)) ∧ w = w' := by
  unfold maxLen at hs
  go_enter Tryz.func206, Tryz.ntmps206
  go_wp2
  go_loop [8] (fun i => ∃ k : Nat, k ≤ s.size ∧ i = .int .i64 k ∧ Hid ((s.data.toList.take k).all (fun b => digitZ b.toNat) = true)) (fun i => s.size - (intOf i).toNat)
  case atStart => exact ⟨0, Nat.zero_le _, rfl, Lib.hid rfl⟩
  case round =>
    obtain ⟨k, hk, rfl, HA⟩ := hrel
    by_cases hlt : k < s.size
    · cases hb : digitZ (s[k].toNat : Int)
      · go_wp2_with (go_at_call 209; refine (digit_any _ _).mono ?_; rintro e w' ⟨rfl, rfl⟩)
        go_ret
        exact ⟨ret_bool (all_not _ s k hlt (by rw [hb]; exact Bool.false_ne_true)).symm, rfl⟩
      · go_wp2_with (go_at_call 209; refine (digit_any _ _).mono ?_; rintro e w' ⟨rfl, rfl⟩)
        go_round
        case rel => exact ⟨k + 1, by omega, by go_num, Lib.hid (all_take _ s k hlt HA.out hb)⟩
        case measure => simp [intOf]; omega
    · go_wp2
      go_ret
      exact ⟨ret_bool (all_done _ s k (by omega) HA.out).symm, rfl⟩
set_option maxHeartbeats 400000 in
theorem all_pathZ (s : ByteArray) (w : World) (hs : s.size ≤ maxLen) :
    Calls Tryz.prog 206 #[.string s, .func (.func 207) #[] #[]] w fun e w' => e = .returned (.bool (allZ pathZ s)) ∧ w = w' := by
  unfold maxLen at hs
  go_enter Tryz.func206, Tryz.ntmps206
  go_wp2
  go_loop [8] (fun i => ∃ k : Nat, k ≤ s.size ∧ i = .int .i64 k ∧ Hid ((s.data.toList.take k).all (fun b => pathZ b.toNat) = true)) (fun i => s.size - (intOf i).toNat)
  case atStart => exact ⟨0, Nat.zero_le _, rfl, Lib.hid rfl⟩
  case round =>
    obtain ⟨k, hk, rfl, HA⟩ := hrel
    by_cases hlt : k < s.size
    · cases hb : pathZ (s[k].toNat : Int)
      · go_wp2_with (go_at_call 207; refine (major1_any _ _).mono ?_; rintro e w' ⟨rfl, rfl⟩)
        go_ret
        exact ⟨ret_bool (all_not _ s k hlt (by rw [hb]; exact Bool.false_ne_true)).symm, rfl⟩
      · go_wp2_with (go_at_call 207; refine (major1_any _ _).mono ?_; rintro e w' ⟨rfl, rfl⟩)
        go_round
        case rel => exact ⟨k + 1, by omega, by go_num, Lib.hid (all_take _ s k hlt HA.out hb)⟩
        case measure => simp [intOf]; omega
    · go_wp2
      go_ret
      exact ⟨ret_bool (all_done _ s k (by omega) HA.out).symm, rfl⟩

set_option maxHeartbeats 400000 in
theorem words_any (s : ByteArray) (w : World) (hs : s.size ≤ maxLen) :
    Calls Tryz.prog 235 #[.string s] w fun e w' => e = .returned (.bool (allZ wordZ s)) ∧ w = w' := by
  unfold maxLen at hs
  go_enter Tryz.func235, Tryz.ntmps235
  go_wp2
  go_loop [3] (fun i => ∃ k : Nat, k ≤ s.size ∧ i = .int .i64 k ∧ Hid ((s.data.toList.take k).all (fun b => wordZ b.toNat) = true)) (fun i => s.size - (intOf i).toNat)
  case atStart => exact ⟨0, Nat.zero_le _, rfl, Lib.hid rfl⟩
  case round =>
    obtain ⟨k, hk, rfl, HA⟩ := hrel
    by_cases hlt : k < s.size
    · cases hb : wordZ (s[k].toNat : Int)
      · go_wp2_with (go_at_call 243; refine (rword_any _ _).mono ?_; rintro e w' ⟨rfl, rfl⟩)
        go_ret
        exact ⟨ret_bool (all_not _ s k hlt (by rw [hb]; exact Bool.false_ne_true)).symm, rfl⟩
      · go_wp2_with (go_at_call 243; refine (rword_any _ _).mono ?_; rintro e w' ⟨rfl, rfl⟩)
        go_round
        case rel => exact ⟨k + 1, by omega, by go_num, Lib.hid (all_take _ s k hlt HA.out hb)⟩
        case measure => simp [intOf]; omega
    · go_wp2
      go_ret
      exact ⟨ret_bool (all_done _ s k (by omega) HA.out).symm, rfl⟩
end Go.Proofs.YtenfkejbndifdaaGreatDoor

namespace Go.Proofs.YtenfkejbndifdaaGreatDoor
open Go Go.RowKit

def MaxOk (w : World) : Prop := ∃ m : Int, w.cell? ⟨0, 0, none⟩ = some (.int .i64 m)
theorem MaxOk.below {B : Nat} {w w' : World} (h : MaxOk w) (hb : Below B w w') (hB : 0 < B) : MaxOk w' := by
  obtain ⟨m, hm⟩ := h
  exact ⟨m, (hb.cell (p := ⟨0, 0, none⟩) hB).trans hm⟩

theorem MaxOk.pos {w : World} (h : MaxOk w) : 0 < w.heap.size := by
  obtain ⟨m, h⟩ := h
  unfold World.cell? at h
  rcases Nat.lt_or_ge 0 w.heap.size with hp | hp
  · exact hp
  · rw [Array.getElem?_eq_none hp] at h; exact absurd h (by simp)
theorem MaxOk.alloc {w : World} (h : MaxOk w) (o : Obj) : MaxOk (w.alloc o) := h.below (B := w.heap.size) ((Below.refl _ w).alloc (Nat.le_refl _) o) h.pos

theorem flip {P : Program} {f : FuncId} {a : Array Value} {w : World} {v : Value} (h : Calls P f a w fun e w' => e = .returned v ∧ w' = w) : Calls P f a w fun e w' => e = .returned v ∧ w = w' :=
  h.mono fun _ _ ⟨h1, h2⟩ => ⟨h1, h2.symm⟩
theorem CutPrefix_any (s p : ByteArray) (w : World) :
    Calls Tryz.prog 221 #[.string s, .string p] w fun e w' => e = .returned (.tuple #[.string ⟨(Lib.trimPrefix s.data.toList p.data.toList).toArray⟩, .bool (Lib.hasPrefix s.data.toList p.data.toList)]) ∧ w = w' := flip (Tryz.strings_CutPrefix s p w)
theorem Contains_any (s sub : ByteArray) (w : World) (hs : s.size < 4294967281) (hm : MaxOk w) :
    Calls Tryz.prog 234 #[.string s, .string sub] w fun e w' => e = .returned (.bool (Lib.contains s.data.toList sub.data.toList)) ∧ w = w' := by
  obtain ⟨m, hm⟩ := hm
  exact flip (Tryz.strings_Contains s sub m w hs hm)

theorem ret_ii {j k : IntKind} {a b c d : Int} (h : a = b) (h' : c = d) : Ending.returned (.tuple #[.int j a, .int k c]) = Ending.returned (.tuple #[.int j b, .int k d]) := by rw [h, h']
theorem ret_ib {j : IntKind} {a b : Int} {c d : Bool} (h : a = b) (h' : c = d) : Ending.returned (.tuple #[.int j a, .bool c]) = Ending.returned (.tuple #[.int j b, .bool d]) := by rw [h, h']
end Go.Proofs.YtenfkejbndifdaaGreatDoor

namespace Go.Proofs.YtenfkejbndifdaaGreatDoor
open Go Go.RowKit

def Mine (e size B : Nat) (v : Value) (n : Nat) (xs : List Value) (w : World) : Prop := w.ownsRow B e size v n xs ∧ B ≤ w.heap.size
theorem Mine.new (e size B : Nat) (n : Nat) (xs : List Value) (cs : Array Value) (w : World) (h : B ≤ w.heap.size) (hc : cs = xs.toArray) (hx : xs.length = n * size) (hn : n ≤ maxLen) :
    Hid (Mine e size B (.slice (some ⟨w.heap.size, 0, none⟩) n n) n xs (w.alloc (.cells cs e))) := by
  subst hc
  refine Lib.hid ⟨?_, by simp; omega⟩
  have := World.ownsRow_made (base := B) (e := e) (size := size) w xs.toArray n h hn (by simpa using hx)
  refine ⟨hx, .inr ⟨w.heap.size, n, xs.toArray, rfl, h, heap_alloc_new w _, Nat.le_refl _, hn, by simpa using hx, ?_⟩⟩
  rw [← hx]; simp
theorem Mine.below {e size B : Nat} {v : Value} {n : Nat} {xs : List Value} {w w' : World} (h : Hid (Mine e size B v n xs w)) (hb : Below w.heap.size w w') : Hid (Mine e size B v n xs w') := by
  obtain ⟨⟨h1, h2⟩, h3⟩ := h.out
  refine Lib.hid ⟨⟨h1, ?_⟩, by have := hb.size; omega⟩
  rcases h2 with h2 | ⟨g, cap, cur, hv, hg, hh, r⟩
  · exact .inl h2
  · exact .inr ⟨g, cap, cur, hv, hg, by rw [hb.block g (lt_of_block hh)]; exact hh, r⟩
theorem Mine.shape {e size B : Nat} {v : Value} {n : Nat} {xs : List Value} {w : World} (h : Mine e size B v n xs w) (hn : 0 < n) : ∃ g cap, v = .slice (some ⟨g, 0, none⟩) n cap := by
  obtain ⟨⟨h1, h2⟩, h3⟩ := h
  rcases h2 with ⟨_, h2⟩ | ⟨g, cap, cur, hv, _⟩
  · omega
  · exact ⟨g, cap, hv⟩
theorem Mine.ge {e size B g cap : Nat} {n : Nat} {xs : List Value} {w : World} (h : Mine e size B (.slice (some ⟨g, 0, none⟩) n cap) n xs w) : B ≤ g ∧ g < w.heap.size := h.1.lt g rfl
theorem Mine.cell {e size B g cap : Nat} {n : Nat} {xs : List Value} {w : World} (h : Mine e size B (.slice (some ⟨g, 0, none⟩) n cap) n xs w) (j : Nat) (hj : j < n * size) : w.cell? ⟨g, j, none⟩ = xs[j]? := h.1.cellAt j hj

theorem news_at (w : World) (news : List Value) (e : TypeId) : ∀ j u, news[j]? = some u → (w.alloc (.cells news.toArray e)).cell? ((⟨w.heap.size, 0, none⟩ : Addr).add j) = some u := by
  intro j u h
  have : ((⟨w.heap.size, 0, none⟩ : Addr).add j) = ⟨w.heap.size, j, none⟩ := by
    unfold Addr.add
    split
    · rename_i h; subst h; rfl
    · simp
  rw [this, World.cell?_alloc_at _ _ _ _ rfl]
  simpa using h

theorem info_strs : (Tryz.prog.info? 9).map (fun i => (i.zero, i.size, i.bytes)) = some (some (.string ⟨#[]⟩), 1, 16) := by kernel_rfl
theorem app_strs {ops : Array Oper} {rest : List Oper} {o : Oper} {a : Act} {Q : Exit → Act → World → Prop} (w : World) (hgd : o.guard = none) (s x : Operand)
    (ho : o.op = .call { callee := .builtin .append, args := #[s, x], argTypes := #[97, 97] }) (B : Nat) (v : Value) (n : Nat) (xs : List Value) (hs : a.eval s = v) (hown : Hid (Mine 9 1 B v n xs w))
    (m : Nat) (news : List Value) (cs : Array Value) (hcs : cs = news.toArray) (hx : a.eval x = .slice (some ⟨w.heap.size, 0, none⟩) m m) (hl : news.length = m * 1) (h1 : ∀ u ∈ news, u.oneCell' = true) (hm : 0 < m) (hb : n + m ≤ 4000000000)
    (h : ∀ g cap w', Hid (Mine 9 1 B (.slice (some ⟨g, 0, none⟩) (n + m) cap) (n + m) (xs ++ news) w') → Below B w w' → wpList Tryz.prog ops Q rest (a.put o.dst (.slice (some ⟨g, 0, none⟩) (n + m) cap)) w') :
    wpList Tryz.prog ops Q (o :: rest) a (w.alloc (.cells cs 9)) := by
  subst hcs
  obtain ⟨i0, hi, hz0, hz1, hz2⟩ := info_parts info_strs
  obtain ⟨ho1, hB⟩ := hown.out
  refine wpList_append_own _ hgd s x 97 ho B 9 i0 (.string ⟨#[]⟩) 1 16 Tryz.underlying97 hi hz0 hz1 hz2 rfl (by decide) v n xs hs (ho1.alloc _) ⟨w.heap.size, 0, none⟩ m m news hx hl (news_at w news _) h1 (by unfold maxLen; omega) (by omega) (by simp; omega) ?_
  intro v' w' hown' hgrow _
  have hbel : Below B w w' := ((Below.refl B w).alloc hB _).grown hgrow (by simp; omega) (fun k hk => (ho1.lt k hk).1)
  have hO : Mine 9 1 B v' (n + m) (xs ++ news) w' := ⟨hown', by have := hbel.size; omega⟩
  obtain ⟨g, cap, rfl⟩ := hO.shape (by omega)
  exact h g cap w' (Lib.hid hO) hbel
theorem conv_own (B : Nat) (v : Value) (l : List UInt8) (w : World) (h : Hid (Mine 5 1 B v l.length (Lib.byteCells l) w)) :
    (convert 241 9 v).run Tryz.prog w = .ok (.string ⟨l.toArray⟩) w := by
  obtain ⟨⟨h1, h2⟩, h3⟩ := h.out
  rcases h2 with ⟨rfl, h2⟩ | ⟨g, cap, cur, rfl, hg, hh, hn, hm, hs, ht⟩
  · have : l = [] := List.length_eq_zero_iff.1 h2
    subst this
    rw [run_convert_bytes_string w 241 9 5 none 0 0 Tryz.underlying241 Tryz.underlying5 Tryz.underlying9]
    rfl
  · refine run_convert_bytes_back w 241 9 5 ⟨g, 0, none⟩ cap l Tryz.underlying241 Tryz.underlying5 Tryz.underlying9 (fun j hj => ?_)
    have ho : Mine 5 1 B (.slice (some ⟨g, 0, none⟩) l.length cap) l.length (Lib.byteCells l) w := ⟨⟨h1, .inr ⟨g, cap, cur, rfl, hg, hh, hn, hm, hs, ht⟩⟩, h3⟩
    have := ho.cell j (by omega)
    have e : ((⟨g, 0, none⟩ : Addr).add j) = ⟨g, j, none⟩ := by
      unfold Addr.add
      split
      · rename_i h; subst h; rfl
      · simp
    rw [e, this]
    simp [Lib.byteCells, hj]
end Go.Proofs.YtenfkejbndifdaaGreatDoor

namespace Go.Proofs.YtenfkejbndifdaaGreatDoor
open Go Go.RowKit

def TabOk (w : World) : Prop := Lib.TabIs Tryz.prog w "internal/strconv.uint64pow10" .u64 Lib.pow10Tab
def decL (n : Int) : List UInt8 := Lib.decDigits n.toNat
def fmtL (a b c : Int) : List UInt8 := decL a ++ 46 :: (decL b ++ 46 :: decL c)
def formatV (a b c : Int) : List UInt8 × Int := if validB a b c = true then (fmtL a b c, 0) else ([], 2)
end Go.Proofs.YtenfkejbndifdaaGreatDoor

namespace Go.Proofs.YtenfkejbndifdaaGreatDoor
open Go Go.RowKit

set_option maxHeartbeats 400000 in
theorem has_any (b off n cap : Nat) (ss : List ByteArray) (s : ByteArray) (w : World) (hn : n = ss.length) (hm : n ≤ 9223372036854775807)
    (hc : ∀ i, i < n → w.cell? ⟨b, off + i, none⟩ = some (.string (ss.getD i ByteArray.empty))) :
    Calls Tryz.prog 236 #[.slice (some ⟨b, off, none⟩) n cap, .string s] w fun e w' => e = .returned (.bool (ss.any fun x => x.toList == s.toList)) ∧ w = w' := by
  have HN := Lib.hid hn; clear hn
  go_enter Tryz.func236, Tryz.ntmps236
  go_wp2
  go_loop [5] (fun i => ∃ k : Nat, k ≤ n ∧ i = .int .i64 k ∧ Hid ((ss.take k).any (fun x => x.toList == s.toList) = false)) (fun i => n - (intOf i).toNat)
  case atStart => exact ⟨0, Nat.zero_le _, rfl, Lib.hid rfl⟩
  case round =>
    obtain ⟨k, hk, rfl, HA⟩ := hrel
    by_cases hlt : k < n
    · obtain ⟨x, hx⟩ : ∃ x, x = ss.getD k ByteArray.empty := ⟨_, rfl⟩
      have hcx : w.cell? ⟨b, off + k, none⟩ = some (.string x) := by rw [hx]; exact hc k hlt
      have HX := Lib.hid hx; clear hx hc
      cases hb : (x.toList == s.toList)
      · go_wp2
        go_round
        case rel => exact ⟨k + 1, by omega, by go_num, Lib.hid (any_take ss s k (by rw [← HN.out]; exact hlt) HA.out (by rw [← HX.out]; exact hb))⟩
        case measure => simp [intOf]; omega
      · go_wp2
        go_ret
        exact ⟨ret_bool (any_hit ss s k (by rw [← HN.out]; exact hlt) (by rw [← HX.out]; exact hb)).symm, rfl⟩
    · go_wp2
      go_ret
      exact ⟨ret_bool (any_done ss s k (by rw [← HN.out]; omega) HA.out).symm, rfl⟩

theorem cells_new (w : World) (ss : List ByteArray) (t : TypeId) (i : Nat) (h : i < ss.length) :
    (w.alloc (.cells (ss.map Value.string).toArray t)).cell? ⟨w.heap.size, 0 + i, none⟩ = some (.string (ss.getD i ByteArray.empty)) := by
  rw [World.cell?_alloc_at _ _ _ _ rfl]
  simp [h]

set_option maxHeartbeats 400000 in
theorem keywords_any (w : World) :
    Calls Tryz.prog 237 #[] w fun e w' => e = .returned (.slice (some ⟨w.heap.size, 0, none⟩) 28 28) ∧ w.alloc (.cells (kwList.map Value.string).toArray 9) = w' := by
  go_enter Tryz.func237, Tryz.ntmps237
  go_wp2
  go_ret
  exact ⟨rfl, by simp [kwList]⟩

end Go.Proofs.YtenfkejbndifdaaGreatDoor

namespace Go.Proofs.YtenfkejbndifdaaGreatDoor
open Go Go.RowKit

theorem has_kw (s : ByteArray) (w : World) :
    Calls Tryz.prog 236 #[.slice (some ⟨w.heap.size, 0, none⟩) 28 28, .string s] (w.alloc (.cells (kwList.map Value.string).toArray 9)) fun e w' => e = .returned (.bool (kwS s)) ∧ (w.alloc (.cells (kwList.map Value.string).toArray 9)) = w' :=
  has_any _ 0 28 28 kwList s _ rfl (by decide) (fun i hi => cells_new w kwList _ i hi)

set_option maxHeartbeats 400000 in
theorem rIsName_any (s : ByteArray) (w : World) (hs : s.size ≤ maxLen) :
    Calls Tryz.prog 227 #[.string s] w fun e w' => e = .returned (.bool (nameS s)) ∧ Below w.heap.size w w' := by
  by_cases h1 : 1 ≤ s.size
  · have hh := headZ_eq s h1
    by_cases h2 : s.size ≤ 32
    · cases h3 : smallZ (s[0].toNat : Int)
      · have HT : Hid (nameS s = false) := Lib.hid (by rw [← hh] at h3; simp [nameS, h3])
        clear hh
        go_enter Tryz.func227, Tryz.ntmps227
        go_wp2_with (first | (go_at_call 225; refine (rsmall_any _ _).mono ?_; rintro e w' ⟨rfl, rfl⟩))
        go_ret
        exact ⟨ret_bool HT.out.symm, Below.refl _ _⟩
      · cases h4 : allZ wordZ s
        · have HT : Hid (nameS s = false) := Lib.hid (by simp [nameS, h4])
          clear hh
          go_enter Tryz.func227, Tryz.ntmps227
          go_wp2_with (first | (go_at_call 225; refine (rsmall_any _ _).mono ?_; rintro e w' ⟨rfl, rfl⟩) | (go_at_call 235; refine (words_any _ _ hs).mono ?_; rintro e w' ⟨rfl, rfl⟩))
          go_ret
          exact ⟨ret_bool HT.out.symm, Below.refl _ _⟩
        · have HT : Hid (nameS s = !kwS s) := Lib.hid (by rw [← hh] at h3; simp [nameS, h3, h1, h2, h4])
          clear hh
          go_enter Tryz.func227, Tryz.ntmps227
          go_wp2_with (first | (go_at_call 225; refine (rsmall_any _ _).mono ?_; rintro e w' ⟨rfl, rfl⟩) | (go_at_call 235; refine (words_any _ _ hs).mono ?_; rintro e w' ⟨rfl, rfl⟩) | (go_at_call 237; refine (keywords_any _).mono ?_; rintro e w' ⟨rfl, rfl⟩) | (go_at_call 236; refine (has_kw _ _).mono ?_; rintro e w' ⟨rfl, rfl⟩))
          go_ret
          exact ⟨ret_bool HT.out.symm, (Below.refl _ _).alloc (Nat.le_refl _) _⟩
    · have HT : Hid (nameS s = false) := Lib.hid (by simp [nameS, h2])
      go_enter Tryz.func227, Tryz.ntmps227
      go_wp2
      go_ret
      exact ⟨ret_bool HT.out.symm, Below.refl _ _⟩
  · have HT : Hid (nameS s = false) := Lib.hid (by simp [nameS, h1])
    go_enter Tryz.func227, Tryz.ntmps227
    go_wp2
    go_ret
    exact ⟨ret_bool HT.out.symm, Below.refl _ _⟩
end Go.Proofs.YtenfkejbndifdaaGreatDoor

namespace Go.Proofs.YtenfkejbndifdaaGreatDoor
open Go Go.RowKit

theorem word_no (s : ByteArray) (h : allZ wordZ s = true) : ∀ b ∈ s.data.toList, b ≠ 32 := by
  intro b hb e
  have := List.all_eq_true.1 h b hb
  rw [e] at this
  exact absurd this (by decide)

set_option maxRecDepth 100000 in
set_option maxHeartbeats 400000 in
theorem keyword_any (s : ByteArray) (w : World) (hs : s.size ≤ 1000000) (hm : MaxOk w) (hw : Hid (allZ wordZ s = true)) :
    Calls Tryz.prog 223 #[.string s] w fun e w' => e = .returned (.bool (kwS s)) ∧ w = w' := by
  have HM := Lib.hid hm; clear hm
  go_enter Tryz.func223, Tryz.ntmps223
  go_wp2_with fail
  refine (Contains_any _ _ w (by decide) HM.out).mono ?_
  rintro e w' ⟨rfl, rfl⟩
  go_wp2
  go_ret
  refine ⟨ret_bool ?_, rfl⟩
  rw [kwS_eq, ← kw_contains s.data.toList (word_no s hw.out)]
  congr 1
set_option maxHeartbeats 400000 in
theorem IsName_any (s : ByteArray) (w : World) (hs : s.size ≤ maxLen) (hm : MaxOk w) :
    Calls Tryz.prog 205 #[.string s] w fun e w' => e = .returned (.bool (nameS s)) ∧ w = w' := by
  by_cases h1 : 1 ≤ s.size
  · have hh := headZ_eq s h1
    have he1 := ne_nil s h1
    have he2 := ne_empty s h1
    by_cases h2 : s.size ≤ 32
    · cases h3 : smallZ (s[0].toNat : Int)
      · have HT : Hid (nameS s = false) := Lib.hid (by rw [← hh] at h3; simp [nameS, h3])
        clear hh
        go_enter Tryz.func205, Tryz.ntmps205
        go_wp2_with (first | (go_at_call 208; refine (small_any _ _).mono ?_; rintro e w' ⟨rfl, rfl⟩))
        go_ret
        exact ⟨ret_bool HT.out.symm, rfl⟩
      · cases h4 : allZ wordZ s
        · have HT : Hid (nameS s = false) := Lib.hid (by simp [nameS, h4])
          clear hh
          go_enter Tryz.func205, Tryz.ntmps205
          go_wp2_with (first | (go_at_call 208; refine (small_any _ _).mono ?_; rintro e w' ⟨rfl, rfl⟩) | (go_at_call 206; refine (all_wordZ _ _ hs).mono ?_; rintro e w' ⟨rfl, rfl⟩))
          go_ret
          exact ⟨ret_bool HT.out.symm, rfl⟩
        · have HT : Hid (nameS s = !kwS s) := Lib.hid (by rw [← hh] at h3; simp [nameS, h3, h1, h2, h4])
          have H4 := Lib.hid h4
          have hs2 : s.size ≤ 1000000 := by omega
          clear hh
          go_enter Tryz.func205, Tryz.ntmps205
          go_wp2_with (first | (go_at_call 208; refine (small_any _ _).mono ?_; rintro e w' ⟨rfl, rfl⟩) | (go_at_call 206; refine (all_wordZ _ _ hs).mono ?_; rintro e w' ⟨rfl, rfl⟩) | (go_at_call 223; refine (keyword_any _ _ hs2 hm H4).mono ?_; rintro e w' ⟨rfl, rfl⟩))
          go_ret
          exact ⟨ret_bool HT.out.symm, rfl⟩
    · have HT : Hid (nameS s = false) := Lib.hid (by simp [nameS, h2])
      go_enter Tryz.func205, Tryz.ntmps205
      go_wp2
      go_ret
      exact ⟨ret_bool HT.out.symm, rfl⟩
  · have HT : Hid (nameS s = false) := Lib.hid (by simp [nameS, h1])
    have he1 : s.toList = [] := is_nil s h1
    go_enter Tryz.func205, Tryz.ntmps205
    go_wp2
    go_ret
    exact ⟨ret_bool HT.out.symm, rfl⟩

end Go.Proofs.YtenfkejbndifdaaGreatDoor

namespace Go.Proofs.YtenfkejbndifdaaGreatDoor
open Go

def valL (l : List UInt8) : Int := l.foldl (fun n b => 10 * n + ((b.toNat : Int) - 48)) 0
theorem valL_snoc (l : List UInt8) (b : UInt8) : valL (l ++ [b]) = 10 * valL l + ((b.toNat : Int) - 48) := by unfold valL; rw [List.foldl_append]; rfl
theorem valL_lt (l : List UInt8) (h : ∀ b ∈ l, digitZ b.toNat = true) : 0 ≤ valL l ∧ valL l < 10 ^ l.length := by
  rcases List.eq_nil_or_concat l with rfl | ⟨m, b, rfl⟩
  · simp [valL]
  · rw [List.concat_eq_append] at *
    have ih := valL_lt m (fun x hx => h x (by simp [hx]))
    have hb := h b (by simp)
    simp only [digitZ, Bool.and_eq_true, decide_eq_true_eq] at hb
    rw [valL_snoc, List.length_append, List.length_singleton, Int.pow_succ]
    omega
termination_by l.length
decreasing_by subst_vars; simp

def tailS (s : ByteArray) : ByteArray := ⟨(s.data.toList.drop 1).toArray⟩
def okR (r : ByteArray) : Bool := decide (1 ≤ r.size) && (decide (r.size ≤ 3) && (!(decide (1 < r.size) && headZ r == 48) && allZ digitZ r))
def verOk (s : ByteArray) : Bool := headZ s == 118 && okR (tailS s)
def verN (s : ByteArray) : Int := if verOk s then valL (s.data.toList.drop 1) else 0
theorem tailS_data (s : ByteArray) : (tailS s).data.toList = s.data.toList.drop 1 := by simp [tailS]
theorem tailS_size (s : ByteArray) : (tailS s).size = s.size - 1 := by rw [Lib.size_eq, tailS_data, List.length_drop, ← Lib.size_eq]
theorem headZ_cons (s : ByteArray) (b : UInt8) (l : List UInt8) (h : s.data.toList = b :: l) : headZ s = b.toNat := by
  have hs : 0 < s.size := by rw [Lib.size_eq, h]; simp
  rw [headZ_eq s hs]
  have : s[0] = s.data.toList[0]'(by rw [← Lib.size_eq]; exact hs) := by simp; rfl
  rw [this]; simp only [h]; rfl
theorem headZ_nil (s : ByteArray) (h : s.size = 0) : headZ s = 0 := by unfold headZ; rw [dif_neg (by omega)]
theorem prefix_v (s : ByteArray) : Lib.hasPrefix s.data.toList [118] = (headZ s == 118) := by
  cases h : s.data.toList with
  | nil => rw [headZ_nil s (by rw [Lib.size_eq, h]; rfl)]; rfl
  | cons b l =>
    rw [headZ_cons s b l h]
    simp only [Lib.hasPrefix, List.isPrefixOf, Bool.and_true]
    rw [Bool.eq_iff_iff, beq_iff_eq, beq_iff_eq]
    constructor
    · intro e; rw [← e]; rfl
    · intro e; exact UInt8.toNat_inj.1 (by have : ((118 : UInt8).toNat) = 118 := rfl; omega)
theorem trim_v (s : ByteArray) (h : headZ s = 118) : (⟨(Lib.trimPrefix s.data.toList [118]).toArray⟩ : ByteArray) = tailS s := by
  have h2 : Lib.hasPrefix s.data.toList [118] = true := by rw [prefix_v, h]; rfl
  unfold Lib.trimPrefix tailS
  rw [if_pos h2]; rfl
end Go.Proofs.YtenfkejbndifdaaGreatDoor

namespace Go.Proofs.YtenfkejbndifdaaGreatDoor
open Go Go.RowKit

theorem valL_take (r : ByteArray) (k : Nat) (h : k < r.size) : valL (r.data.toList.take (k + 1)) = 10 * valL (r.data.toList.take k) + ((r[k].toNat : Int) - 48) := by
  rw [List.take_succ_eq_append_getElem (by simpa using h), valL_snoc]; rfl
theorem all_at (p : Int → Bool) (r : ByteArray) (h : allZ p r = true) (k : Nat) (hk : k < r.size) : p (r[k].toNat) = true :=
  List.all_eq_true.1 h _ (Array.mem_toList_iff.2 (Array.getElem_mem (xs := r.data) hk))

set_option maxHeartbeats 600000 in
theorem version_any (s : ByteArray) (w : World) (hs : s.size ≤ 140737488351232) :
    Calls Tryz.prog 204 #[.string s] w fun e w' => e = .returned (.tuple #[.int .i64 (verN s), .bool (verOk s)]) ∧ w = w' := by
  by_cases h1 : headZ s = 118
  case neg =>
    have hp : Lib.hasPrefix s.data.toList [118] = false := by rw [prefix_v]; simpa using h1
    have HT : Hid (verOk s = false) := Lib.hid (by simp [verOk, h1])
    clear h1
    go_enter Tryz.func204, Tryz.ntmps204
    go_wp2_with ((go_at_call 221; refine (CutPrefix_any _ _ _).mono ?_; rintro e w' ⟨rfl, rfl⟩))
    go_ret2
    exact ⟨ret_ib (by rw [verN, HT.out]; rfl) HT.out.symm, rfl⟩
  have hp : Lib.hasPrefix s.data.toList [118] = true := by rw [prefix_v, h1]; rfl
  have HO : Hid (verOk s = okR (tailS s)) := Lib.hid (by simp [verOk, h1])
  have HTR := Lib.hid (trim_v s h1)
  have hrs : (tailS s).size ≤ 140737488351232 := by rw [tailS_size]; omega
  have HV : Hid (verN s = if okR (tailS s) then valL (tailS s).data.toList else 0) := Lib.hid (by rw [verN, HO.out, tailS_data])
  generalize tailS s = r at *
  clear h1
  by_cases h2 : 1 ≤ r.size
  case neg =>
    have he := is_nil r h2
    have HT : Hid (okR r = false) := Lib.hid (by simp [okR, h2])
    clear h2
    go_enter Tryz.func204, Tryz.ntmps204
    go_wp2_with fail
    refine (CutPrefix_any _ _ _).mono ?_
    rintro e w' ⟨rfl, rfl⟩
    rw [HTR.out]
    go_wp2
    go_ret2
    exact ⟨ret_ib (by rw [HV.out, HT.out]; rfl) (by rw [HO.out, HT.out]), rfl⟩
  have he1 := ne_nil r h2
  have he2 := ne_empty r h2
  by_cases h3 : r.size ≤ 3
  case neg =>
    have HT : Hid (okR r = false) := Lib.hid (by simp [okR, h3])
    go_enter Tryz.func204, Tryz.ntmps204
    go_wp2_with fail
    refine (CutPrefix_any _ _ _).mono ?_
    rintro e w' ⟨rfl, rfl⟩
    rw [HTR.out]
    go_wp2
    go_ret2
    exact ⟨ret_ib (by rw [HV.out, HT.out]; rfl) (by rw [HO.out, HT.out]), rfl⟩
  by_cases h4 : 1 < r.size ∧ (r[0].toNat : Int) = 48
  case pos =>
    obtain ⟨h4, h5⟩ := h4
    have HT : Hid (okR r = false) := Lib.hid (by rw [← headZ_eq r h2] at h5; simp [okR, h4, h5])
    have h6 : ((r[0].toNat : Int) == 48) = true := by rw [h5]; rfl
    clear h5
    go_enter Tryz.func204, Tryz.ntmps204
    go_wp2_with fail
    refine (CutPrefix_any _ _ _).mono ?_
    rintro e w' ⟨rfl, rfl⟩
    rw [HTR.out]
    go_wp2
    go_ret2
    exact ⟨ret_ib (by rw [HV.out, HT.out]; rfl) (by rw [HO.out, HT.out]), rfl⟩
  have HT : Hid (okR r = allZ digitZ r) := Lib.hid (by
    rw [← headZ_eq r h2] at h4
    have : (!(decide (1 < r.size) && headZ r == 48)) = true := by
      rw [Bool.not_eq_true', Bool.and_eq_false_iff]
      by_cases h : 1 < r.size
      · exact .inr (by simpa using fun e => h4 ⟨h, e⟩)
      · exact .inl (by simpa using h)
    rw [okR, decide_eq_true h2, decide_eq_true h3, this]; rfl)
  have hml : r.size ≤ maxLen := by unfold maxLen; omega
  cases h7 : allZ digitZ r
  case false =>
    by_cases h8 : 1 < r.size
    · have h6 : ((r[0].toNat : Int) == 48) = false := by rw [beq_eq_false_iff_ne]; exact fun e => h4 ⟨h8, e⟩
      have H7 := Lib.hid h7
      clear h4
      go_enter Tryz.func204, Tryz.ntmps204
      go_wp2_with fail
      refine (CutPrefix_any _ _ _).mono ?_
      rintro e w' ⟨rfl, rfl⟩
      rw [HTR.out]
      go_wp2_with ((go_at_call 206; refine (all_digitZ _ _ hml).mono ?_; rintro e w' ⟨rfl, rfl⟩))
      go_ret2
      exact ⟨ret_ib (by rw [HV.out, HT.out, H7.out]; rfl) (by rw [HO.out, HT.out, H7.out]), rfl⟩
    · have H7 := Lib.hid h7
      clear h4
      go_enter Tryz.func204, Tryz.ntmps204
      go_wp2_with fail
      refine (CutPrefix_any _ _ _).mono ?_
      rintro e w' ⟨rfl, rfl⟩
      rw [HTR.out]
      go_wp2_with ((go_at_call 206; refine (all_digitZ _ _ hml).mono ?_; rintro e w' ⟨rfl, rfl⟩))
      go_ret2
      exact ⟨ret_ib (by rw [HV.out, HT.out, H7.out]; rfl) (by rw [HO.out, HT.out, H7.out]), rfl⟩
  case true =>
    have H7 := Lib.hid h7
    have hfin : ∀ w' : World, w = w' → (Ending.returned (.tuple #[.int .i64 (valL r.data.toList), .bool true]) = Ending.returned (.tuple #[.int .i64 (verN s), .bool (verOk s)])) ∧ w = w' := fun w' hw => ⟨ret_ib (by rw [HV.out, HT.out, H7.out]; rfl) (by rw [HO.out, HT.out, H7.out]), hw⟩
    have HF := Lib.hid hfin
    clear hfin
    have h6 : 1 < r.size → ¬ (r[0].toNat : Int) = 48 := fun a b => h4 ⟨a, b⟩
    have H6 := Lib.hid h6
    clear h4 h6
    by_cases h8 : 1 < r.size
    all_goals
      first
      | have h6 : ((r[0].toNat : Int) == 48) = false := by rw [beq_eq_false_iff_ne]; exact H6.out h8
      | skip
      go_enter Tryz.func204, Tryz.ntmps204
      go_wp2_with fail
      refine (CutPrefix_any _ _ _).mono ?_
      rintro e w' ⟨rfl, rfl⟩
      rw [HTR.out]
      go_wp2_with ((go_at_call 206; refine (all_digitZ _ _ hml).mono ?_; rintro e w' ⟨rfl, rfl⟩))
      go_loop [5, 40] (fun n i => ∃ (k : Nat) (x : Int), k ≤ r.size ∧ i = .int .i64 k ∧ n = .int .i64 x ∧ 0 ≤ x ∧ x < 10 ^ k ∧ Hid (x = valL (r.data.toList.take k))) (fun _ i => r.size - (intOf i).toNat)
      case atStart => exact ⟨0, 0, Nat.zero_le _, rfl, rfl, by omega, by simp, Lib.hid rfl⟩
      case round =>
        obtain ⟨k, x, hk, rfl, rfl, x0, x1, HA⟩ := hrel
        by_cases hlt : k < r.size
        · have hd := all_at _ r H7.out k hlt
          simp only [digitZ, Bool.and_eq_true, decide_eq_true_eq] at hd
          obtain ⟨hd1, hd2⟩ := hd
          have x2 : x < 100 := by
            have : k = 0 ∨ k = 1 ∨ k = 2 := by omega
            rcases this with rfl | rfl | rfl <;> simp at x1 <;> omega
          have HX := Lib.hid x1
          clear x1
          go_wp2
          go_round
          case rel => exact ⟨k + 1, 10 * x + ((r[k].toNat : Int) - 48), by omega, by go_num, rfl, by omega, by have := HX.out; rw [Int.pow_succ]; omega, Lib.hid (by rw [valL_take r k hlt, ← HA.out])⟩
          case measure => simp [intOf]; omega
        · obtain rfl : k = r.size := by omega
          clear x1
          go_wp2
          go_ret2
          have := HF.out w rfl
          rw [← show x = valL r.data.toList from by rw [HA.out, List.take_of_length_le (by simp)]] at this
          exact this
end Go.Proofs.YtenfkejbndifdaaGreatDoor

namespace Go.Proofs.YtenfkejbndifdaaGreatDoor
open Go Go.RowKit

def majZ (s : ByteArray) : Int := if verOk s then verN s else -1
theorem majZ_no {s : ByteArray} (h : verOk s = false) : majZ s = -1 := by unfold majZ; rw [h]; rfl

theorem tail_step (s : ByteArray) (k : Nat) (h1 : 1 ≤ k) (h : k < s.size) : (s.data.toList.drop 1).take (k + 1 - 1) = (s.data.toList.drop 1).take (k - 1) ++ [s[k]] := by
  have e : k + 1 - 1 = (k - 1) + 1 := by omega
  rw [e, List.take_succ_eq_append_getElem (by simp; omega), List.getElem_drop]
  congr 2
  have : 1 + (k - 1) = k := by omega
  simp only [this]; rfl
theorem tail_get (s : ByteArray) (h : 1 < s.size) : headZ (tailS s) = (s[1].toNat : Int) := by
  have hl : (tailS s).data.toList = s[1] :: (s.data.toList.drop 2) := by
    rw [tailS_data]
    have := List.drop_eq_getElem_cons (l := s.data.toList) (i := 1) (by rw [← Lib.size_eq]; exact h)
    rw [this]; rfl
  rw [headZ_cons _ _ _ hl]

set_option maxHeartbeats 600000 in
theorem rmajor_any (s : ByteArray) (w : World) (hs : s.size ≤ 140737488351232) :
    Calls Tryz.prog 214 #[.string s] w fun e w' => e = .returned (.int .i64 (majZ s)) ∧ w = w' := by
  have ht := tailS_size s
  by_cases h1 : 2 ≤ s.size
  case neg =>
    have HT : Hid (majZ s = -1) := Lib.hid (majZ_no (by simp [verOk, okR]; intro _ h; omega))
    go_enter Tryz.func214, Tryz.ntmps214
    go_wp2
    go_ret
    exact ⟨ret_int HT.out.symm, rfl⟩
  by_cases h2 : s.size ≤ 4
  case neg =>
    have HT : Hid (majZ s = -1) := Lib.hid (majZ_no (by simp [verOk, okR]; intro _ _ h; omega))
    go_enter Tryz.func214, Tryz.ntmps214
    go_wp2
    go_ret
    exact ⟨ret_int HT.out.symm, rfl⟩
  have hh := headZ_eq s (by omega)
  have hg := tail_get s (by omega)
  cases h3 : ((s[0].toNat : Int) == 118)
  case false =>
    have HT : Hid (majZ s = -1) := Lib.hid (majZ_no (by rw [verOk, hh, h3]; rfl))
    have h3' : ((s[0].toNat : Int) != 118) = true := by rw [bne, h3]; rfl
    clear hh hg h3 ht
    go_enter Tryz.func214, Tryz.ntmps214
    go_wp2
    go_ret
    exact ⟨ret_int HT.out.symm, rfl⟩
  have h3' : ((s[0].toNat : Int) != 118) = false := by rw [bne, h3]; rfl
  by_cases h4 : (s[1].toNat : Int) = 48 ∧ 2 < s.size
  case pos =>
    obtain ⟨h4, h5⟩ := h4
    have HT : Hid (majZ s = -1) := Lib.hid (majZ_no (by
      rw [verOk, okR, hg, h4]
      have : decide (1 < (tailS s).size) = true := by rw [ht]; simp; omega
      rw [this]; simp))
    have h4' : ((s[1].toNat : Int) == 48) = true := by rw [h4]; rfl
    clear hh hg h3 ht h4
    go_enter Tryz.func214, Tryz.ntmps214
    go_wp2
    go_ret
    exact ⟨ret_int HT.out.symm, rfl⟩
  have HO : Hid (verOk s = allZ digitZ (tailS s)) := Lib.hid (by
    have e : (!(decide (1 < (tailS s).size) && headZ (tailS s) == 48)) = true := by
      rw [Bool.not_eq_true', Bool.and_eq_false_iff, ht, hg]
      by_cases h : (s[1].toNat : Int) = 48
      · exact .inl (by simp; have : ¬ 2 < s.size := fun x => h4 ⟨h, x⟩; omega)
      · exact .inr (by simpa using h)
    rw [verOk, okR, hh, h3, e, decide_eq_true (show 1 ≤ (tailS s).size by omega), decide_eq_true (show (tailS s).size ≤ 3 by omega)]; rfl)
  have HG := Lib.hid h4
  have HH3 := Lib.hid h3
  clear h4 hh hg ht h3
  cases h5 : ((s[1].toNat : Int) == 48)
  all_goals
    first
    | (have h6 : s.size ≤ 2 := by
        have := HG.out
        rw [beq_iff_eq] at h5
        by_cases h : 2 < s.size
        · exact absurd ⟨h5, h⟩ this
        · omega)
    | skip
    go_enter Tryz.func214, Tryz.ntmps214
    go_wp2
    go_loop [3, 4] (fun n i => ∃ (k : Nat) (x : Int), 1 ≤ k ∧ k ≤ s.size ∧ i = .int .i64 k ∧ n = .int .i64 x ∧ 0 ≤ x ∧ x < 10 ^ (k - 1) ∧ Hid (x = valL ((s.data.toList.drop 1).take (k - 1)) ∧ ((s.data.toList.drop 1).take (k - 1)).all (fun b => digitZ b.toNat) = true)) (fun _ i => s.size - (intOf i).toNat)
    case atStart => exact ⟨1, 0, by omega, by omega, rfl, rfl, by omega, by simp, Lib.hid ⟨rfl, rfl⟩⟩
    case round =>
      obtain ⟨k, x, hk1, hk, rfl, rfl, x0, x1, HA⟩ := hrel
      by_cases hlt : k < s.size
      · have HS := Lib.hid (tail_step s k hk1 hlt)
        have x2 : x < 1000 := by
          have : k = 1 ∨ k = 2 ∨ k = 3 := by omega
          rcases this with rfl | rfl | rfl <;> simp at x1 <;> omega
        have HX := Lib.hid x1
        clear x1
        cases hd : digitZ (s[k].toNat : Int)
        · have HN : Hid (majZ s = -1) := Lib.hid (majZ_no (by
            rw [HO.out, allZ, tailS_data, List.all_eq_false]
            refine ⟨s[k], ?_, by rw [hd]; exact Bool.false_ne_true⟩
            have : s[k] ∈ (s.data.toList.drop 1).take (k + 1 - 1) := by rw [HS.out]; simp
            exact List.mem_of_mem_take this))
          clear h5
          go_wp2_with ((go_at_call 226; refine (rdigit_any _ _).mono ?_; rintro e w' ⟨rfl, rfl⟩))
          go_ret
          exact ⟨ret_int HN.out.symm, rfl⟩
        · have HD := Lib.hid hd
          have hd' := hd
          simp only [digitZ, Bool.and_eq_true, decide_eq_true_eq] at hd'
          obtain ⟨hd1, hd2⟩ := hd'
          clear h5
          go_wp2_with ((go_at_call 226; refine (rdigit_any _ _).mono ?_; rintro e w' ⟨rfl, rfl⟩))
          go_round
          case rel => exact ⟨k + 1, 10 * x + ((s[k].toNat : Int) - 48), by omega, by omega, by go_num, rfl, by omega, by have := HX.out; rw [show k + 1 - 1 = (k - 1) + 1 from by omega, Int.pow_succ]; omega, Lib.hid ⟨by rw [HS.out, valL_snoc, ← HA.out.1], by rw [HS.out, List.all_append, HA.out.2]; simp [HD.out]⟩⟩
          case measure => simp [intOf]; omega
      · obtain rfl : k = s.size := by omega
        clear x1 h5
        go_wp2
        go_ret
        have e : (s.data.toList.drop 1).take (s.size - 1) = s.data.toList.drop 1 := List.take_of_length_le (by simp)
        have ho : verOk s = true := by rw [HO.out, allZ, tailS_data, ← e]; exact HA.out.2
        exact ⟨ret_int (by rw [majZ, verN, ho, HA.out.1, e]; rfl), rfl⟩
end Go.Proofs.YtenfkejbndifdaaGreatDoor

namespace Go.Proofs.YtenfkejbndifdaaGreatDoor
open Go

def segsL : List UInt8 → List (List UInt8)
  | [] => [[]]
  | c :: r => if c = 47 then [] :: segsL r else match segsL r with
    | [] => [[c]]
    | h :: t => (c :: h) :: t
theorem segsL_ne (l : List UInt8) : segsL l ≠ [] := by
  cases l with
  | nil => simp [segsL]
  | cons c r =>
    unfold segsL
    split
    · simp
    · split <;> simp
theorem segsL_slash (r : List UInt8) : segsL (47 :: r) = [] :: segsL r := by rw [segsL, if_pos rfl]
theorem segsL_other (c : UInt8) (r h : List UInt8) (t : List (List UInt8)) (hc : c ≠ 47) (e : segsL r = h :: t) : segsL (c :: r) = (c :: h) :: t := by rw [segsL, if_neg hc, e]
theorem segsL_one (a : List UInt8) (h : ∀ b ∈ a, b ≠ 47) : segsL a = [a] := by
  induction a with
  | nil => rfl
  | cons c a ih => exact segsL_other c a a [] (h c (by simp)) (ih (fun b hb => h b (by simp [hb])))
theorem segsL_cut (a r : List UInt8) (h : ∀ b ∈ a, b ≠ 47) : segsL (a ++ 47 :: r) = a :: segsL r := by
  induction a with
  | nil => exact segsL_slash r
  | cons c a ih => exact segsL_other c _ a _ (h c (by simp)) (ih (fun b hb => h b (by simp [hb])))
theorem segsL_snoc_slash (l : List UInt8) : segsL (l ++ [47]) = segsL l ++ [[]] := by
  induction l with
  | nil => rfl
  | cons c r ih =>
    by_cases hc : c = 47
    · subst hc; rw [List.cons_append, segsL_slash, segsL_slash, ih]; rfl
    · cases e : segsL r with
      | nil => exact absurd e (segsL_ne r)
      | cons h t => rw [List.cons_append, segsL_other c _ h (t ++ [[]]) hc (by rw [ih, e]; rfl), segsL_other c r h t hc e]; rfl
theorem segsL_snoc_other (l : List UInt8) (c : UInt8) (hc : c ≠ 47) : segsL (l ++ [c]) = (segsL l).dropLast ++ [(segsL l).getLast (segsL_ne l) ++ [c]] := by
  induction l with
  | nil => simp [segsL, hc]
  | cons d r ih =>
    by_cases hd : d = 47
    · subst hd
      simp only [List.cons_append, segsL_slash, ih]
      rw [List.dropLast_cons_of_ne_nil (segsL_ne r)]
      simp [List.getLast_cons (segsL_ne r)]
    · cases e : segsL r with
      | nil => exact absurd e (segsL_ne r)
      | cons h t =>
        have e2 := segsL_other d r h t hd e
        cases t with
        | nil =>
          have : segsL (r ++ [c]) = [h ++ [c]] := by rw [ih]; simp [e]
          rw [List.cons_append, segsL_other d _ _ _ hd this]
          simp [e2]
        | cons x t =>
          have : segsL (r ++ [c]) = h :: ((x :: t).dropLast ++ [(x :: t).getLast (by simp) ++ [c]]) := by
            rw [ih]; simp only [e, List.dropLast_cons_cons, List.cons_append, List.getLast_cons_cons]
          rw [List.cons_append, segsL_other d _ _ _ hd this]
          simp only [e2, List.dropLast_cons_cons, List.cons_append, List.getLast_cons_cons]

theorem piece (l : List UInt8) (i : Nat) (h : Lib.indexByte l 47 = i) : l = l.take i ++ 47 :: l.drop (i + 1) ∧ ∀ b ∈ l.take i, b ≠ 47 := by
  obtain ⟨h1, h2⟩ := Lib.indexByte_some h
  have hi : i < l.length := by
    rcases Nat.lt_or_ge i l.length with h | h
    · exact h
    · rw [List.getElem?_eq_none h] at h1; exact absurd h1 (by simp)
  have e : l[i] = 47 := by rw [List.getElem?_eq_getElem hi] at h1; exact Option.some.inj h1
  refine ⟨by rw [← e, List.getElem_cons_drop, List.take_append_drop], fun b hb => ?_⟩
  obtain ⟨j, hj, rfl⟩ := List.getElem_of_mem hb
  rw [List.getElem_take]
  rw [List.length_take] at hj
  intro e2
  exact h2 j (by omega) (by rw [List.getElem?_eq_getElem (by omega), e2])
theorem no_piece (l : List UInt8) (h : Lib.indexByte l 47 = -1) : ∀ b ∈ l, b ≠ 47 := by
  intro b hb e
  obtain ⟨j, hj, rfl⟩ := List.getElem_of_mem hb
  exact Lib.indexByte_none h j (by rw [List.getElem?_eq_getElem hj, e])

theorem split_segs : ∀ (k : Nat) (l : List UInt8), l.count 47 = k → Lib.splitK [47] 0 k l = segsL l := by
  intro k
  induction k with
  | zero =>
    intro l h
    rw [segsL_one l (fun b hb e => by subst e; have := List.count_pos_iff.2 hb; omega)]
    rfl
  | succ k ih =>
    intro l h
    rw [Lib.splitK, Lib.index_one]
    by_cases hm : Lib.indexByte l 47 = -1
    · have := no_piece l hm
      have h0 : l.count 47 = 0 := List.count_eq_zero.2 (fun hb => this 47 hb rfl)
      omega
    · have hge := Lib.index_ge l [47]
      rw [Lib.index_one] at hge
      obtain ⟨i, hi⟩ : ∃ i : Nat, Lib.indexByte l 47 = i := ⟨(Lib.indexByte l 47).toNat, by omega⟩
      obtain ⟨e, hn⟩ := piece l i hi
      have hc : (l.drop (i + 1)).count 47 = k := by
        have h0 : (l.take i).count 47 = 0 := List.count_eq_zero.2 (fun hb => hn 47 hb rfl)
        rw [e, List.count_append, List.count_cons_self, h0] at h
        omega
      rw [if_neg (by simpa using hm), hi]
      have e1 : ((i : Int).toNat + 0) = i := by simp
      have e2 : ((i : Int).toNat + ([47] : List UInt8).length) = i + 1 := by simp
      rw [e1, e2, ih _ hc]
      conv => rhs; rw [e]
      rw [segsL_cut _ _ hn]

def segB (s : ByteArray) : List ByteArray := (segsL s.data.toList).map fun l => ⟨l.toArray⟩
theorem ba_ext {a b : ByteArray} (h : a.data.toList = b.data.toList) : a = b := by
  rw [← Lib.mk_data a, ← Lib.mk_data b, h]
theorem map_data_inj : ∀ {a b : List ByteArray}, a.map (·.data.toList) = b.map (·.data.toList) → a = b
  | [], [], _ => rfl
  | [], _ :: _, h => by simp at h
  | _ :: _, [], h => by simp at h
  | x :: a, y :: b, h => by
    rw [List.map_cons, List.map_cons, List.cons.injEq] at h
    rw [ba_ext h.1, map_data_inj h.2]
theorem segB_data (s : ByteArray) : (segB s).map (·.data.toList) = segsL s.data.toList := by
  unfold segB
  rw [List.map_map]
  conv => rhs; rw [← List.map_id (segsL s.data.toList)]
  exact List.map_congr_left (fun l _ => rfl)
theorem split_segB (s : ByteArray) : Lib.splitB ⟨#[47]⟩ 0 (Lib.countB s ⟨#[47]⟩) s = segB s := by
  apply map_data_inj
  rw [Lib.splitB_data, segB_data]
  exact split_segs _ _ (Lib.count_one 47 _).symm
theorem count_segB (s : ByteArray) : Lib.countB s ⟨#[47]⟩ + 1 = (segB s).length := by
  rw [← split_segB]
  exact (Lib.splitB_all ⟨#[47]⟩ (by decide) 0 _ s rfl).symm
theorem segB_ne (s : ByteArray) : 0 < (segB s).length := by rw [← count_segB]; omega

theorem segsL_length (l : List UInt8) : (segsL l).length ≤ l.length + 1 := by
  induction l with
  | nil => simp [segsL]
  | cons c r ih =>
    unfold segsL
    split
    · simp; omega
    · split
      · simp
      · rename_i h t e
        rw [e] at ih; simp at ih ⊢; omega
theorem segsL_le (l : List UInt8) : ∀ x ∈ segsL l, x.length ≤ l.length := by
  induction l with
  | nil => simp [segsL]
  | cons c r ih =>
    intro x hx
    unfold segsL at hx
    split at hx
    · rcases List.mem_cons.1 hx with rfl | hx
      · simp
      · have := ih x hx; simp; omega
    · split at hx
      · simp at hx; subst hx; simp
      · rename_i h t e
        rcases List.mem_cons.1 hx with rfl | hx
        · have := ih h (by rw [e]; simp); simp; omega
        · have := ih x (by rw [e]; simp [hx]); simp; omega
theorem segB_length (s : ByteArray) : (segB s).length ≤ s.size + 1 := by
  unfold segB; rw [List.length_map]; have := segsL_length s.data.toList; rw [← Lib.size_eq] at this; exact this
theorem segB_le (s : ByteArray) : ∀ x ∈ segB s, x.size ≤ s.size := by
  intro x hx
  obtain ⟨l, hl, rfl⟩ := List.mem_map.1 hx
  have := segsL_le _ l hl
  rw [Lib.size_eq, Lib.size_eq s]
  simpa using this
def lastB (s : ByteArray) : ByteArray := (segB s).getD ((segB s).length - 1) ByteArray.empty
theorem lastB_mem (s : ByteArray) : lastB s ∈ segB s := by
  have := segB_ne s
  unfold lastB
  rw [List.getD_eq_getElem?_getD, List.getElem?_eq_getElem (by omega)]
  exact List.getElem_mem _
def segOk (x : ByteArray) : Bool := nameS x && allZ pathZ x
def pathOk (s : ByteArray) : Bool := decide (s.size ≤ 64) && (decide (2 ≤ (segB s).length) && (verOk (lastB s) && (segB s).all segOk))
def majN (s : ByteArray) : Int := if pathOk s then verN (lastB s) else 0
def majE (s : ByteArray) : Int := if pathOk s then 0 else 4
end Go.Proofs.YtenfkejbndifdaaGreatDoor
