/- Contracts of the loops over a string: all, words, span. The library's contracts, with the world's equation the other way round. Slices that a call makes itself: what is owned, and what an append to it leaves. Contract of package version's Format. Contracts of Keywords, Symbols, Has. Contracts of the reference's IsName, IsType. Contracts of the lexer's keyword, IsName, IsType. Plain facts on the major version of a segment. -/
import Derived.Test.YtenfkejbndifdaaGreatDoorQB
import Derived.Test.YtenfkejbndifdaaGreatDoorShelf
import Derived.Maps.AppendAt
import Derived.Lib.Bytes
import Derived.Lib.Builder
import Derived.WalkSmall
import Derived.Lib.Join
import Derived.Lib.ItoaNum
namespace Go.Proofs.YtenfkejbndifdaaGreatDoor
open Go Go.RowKit

set_option maxHeartbeats 400000 in
theorem all_wordZ (s : ByteArray) (w : World) (hs : s.size ≤ maxLen) :
    Calls Tryz.prog 206 #[.string s, .func (.func 222) #[] #[]] w fun e w' => e = .returned (.bool (allZ wordZ s)) ∧ w = w' := by
  unfold maxLen at hs
  go_enter Tryz.func206, Tryz.ntmps206
  go_wp2
  go_loop [8] (fun i => ∃ k : Nat, k ≤ s.size ∧ i = .int .i64 k ∧ Hid ((s.data.toList.take k).all (fun b => wordZ b.toNat) = true)) (fun i => s.size - (intOf i).toNat)
  case atStart => exact ⟨0, Nat.zero_le _, rfl, Lib.hid rfl⟩
  case round =>
    obtain ⟨k, hk, rfl, HA⟩ := hrel
    by_cases hlt : k < s.size
    · cases hb : wordZ (s[k].toNat : Int)
      · go_wp2_with (go_at_call 222; refine (word_any _ _).mono ?_; rintro e w' ⟨rfl, rfl⟩)
        go_ret
        exact ⟨ret_bool (all_not _ s k hlt (by rw [hb]; exact Bool.false_ne_true)).symm, rfl⟩
      · go_wp2_with (go_at_call 222; refine (word_any _ _).mono ?_; rintro e w' ⟨rfl, rfl⟩)
        go_round
        case rel => exact ⟨k + 1, by omega, by go_num, Lib.hid (all_take _ s k hlt HA.out hb)⟩
        case measure => simp [intOf]; omega
    · go_wp2
      go_ret
      exact ⟨ret_bool (all_done _ s k (by omega) HA.out).symm, rfl⟩
set_option maxHeartbeats 400000 in
theorem all_digitZ (s : ByteArray) (w : World) (hs : s.size ≤ maxLen) :
    Calls Tryz.prog 206 #[.string s, .func (.func 209) #[] #[]] w fun e w' => e = .returned (.bool (allZ digitZ s)) ∧ w = w' := by
  unfold maxLen at hs
  go_enter Tryz.func206, Tryz.ntmps206
  go_wp2
  go_loop [8] (fun i => ∃ k : Nat, k ≤ s.size ∧ i = .int .i64 k ∧ Hid ((s.data.toList.take k).all (fun b => digitZ b.toNat) = true)) (fun i => s.size - (intOf i).toNat)
  case atStart => exact ⟨0, Nat.zero_le _, rfl, Lib.hid rfl⟩
  case round =>
    obtain ⟨k, hk, rfl, HA⟩ := hrel
    by_cases hlt : k < s.size
    · cases hb : digitZ (s[k].toNat : Int)
      · go_wp2_with (go_at_call 209; refine (digit_any _ _).mono ?_; rintro e w' ⟨rfl, rfl⟩)
        go_ret
        exact ⟨ret_bool (all_not _ s k hlt (by rw [hb]; exact Bool.false_ne_true)).symm, rfl⟩
      · go_wp2_with (go_at_call 209; refine (digit_any _ _).mono ?_; rintro e w' ⟨rfl, rfl⟩)
        go_round
        case rel => exact ⟨k + 1, by omega, by go_num, Lib.hid (all_take _ s k hlt HA.out hb)⟩
        case measure => simp [intOf]; omega
    · go_wp2
      go_ret
      exact ⟨ret_bool (all_done _ s k (by omega) HA.out).symm, rfl⟩
set_option maxHeartbeats 400000 in
theorem all_pathZ (s : ByteArray) (w : World) (hs : s.size ≤ maxLen) :
    Calls Tryz.prog 206 #[.string s, .func (.func 207) #[] #[]] w fun e w' => e = .returned (.bool (allZ pathZ s)) ∧ w = w' := by
  unfold maxLen at hs
  go_enter Tryz.func206, Tryz.ntmps206
  go_wp2
  go_loop [8] (fun i => ∃ k : Nat, k ≤ s.size ∧ i = .int .i64 k ∧ Hid ((s.data.toList.take k).all (fun b => pathZ b.toNat) = true)) (fun i => s.size - (intOf i).toNat)
  case atStart => exact ⟨0, Nat.zero_le _, rfl, Lib.hid rfl⟩
  case round =>
    obtain ⟨k, hk, rfl, HA⟩ := hrel
    by_cases hlt : k < s.size
    · cases hb : pathZ (s[k].toNat : Int)
      · go_wp2_with (go_at_call 207; refine (major1_any _ _).mono ?_; rintro e w' ⟨rfl, rfl⟩)
        go_ret
        exact ⟨ret_bool (all_not _ s k hlt (by rw [hb]; exact Bool.false_ne_true)).symm, rfl⟩
      · go_wp2_with (go_at_call 207; refine (major1_any _ _).mono ?_; rintro e w' ⟨rfl, rfl⟩)
        go_round
        case rel => exact ⟨k + 1, by omega, by go_num, Lib.hid (all_take _ s k hlt HA.out hb)⟩
        case measure => simp [intOf]; omega
    · go_wp2
      go_ret
      exact ⟨ret_bool (all_done _ s k (by omega) HA.out).symm, rfl⟩

set_option maxHeartbeats 400000 in
theorem words_any (s : ByteArray) (w : World) (hs : s.size ≤ maxLen) :
    Calls Tryz.prog 235 #[.string s] w fun e w' => e = .returned (.bool (allZ wordZ s)) ∧ w = w' := by
  unfold maxLen at hs
  go_enter Tryz.func235, Tryz.ntmps235
  go_wp2
  go_loop [3] (fun i => ∃ k : Nat, k ≤ s.size ∧ i = .int .i64 k ∧ Hid ((s.data.toList.take k).all (fun b => wordZ b.toNat) = true)) (fun i => s.size - (intOf i).toNat)
  case atStart => exact ⟨0, Nat.zero_le _, rfl, Lib.hid rfl⟩
  case round =>
    obtain ⟨k, hk, rfl, HA⟩ := hrel
    by_cases hlt : k < s.size
    · cases hb : wordZ (s[k].toNat : Int)
      · go_wp2_with (go_at_call 243; refine (rword_any _ _).mono ?_; rintro e w' ⟨rfl, rfl⟩)
        go_ret
        exact ⟨ret_bool (all_not _ s k hlt (by rw [hb]; exact Bool.false_ne_true)).symm, rfl⟩
      · go_wp2_with (go_at_call 243; refine (rword_any _ _).mono ?_; rintro e w' ⟨rfl, rfl⟩)
        go_round
        case rel => exact ⟨k + 1, by omega, by go_num, Lib.hid (all_take _ s k hlt HA.out hb)⟩
        case measure => simp [intOf]; omega
    · go_wp2
      go_ret
      exact ⟨ret_bool (all_done _ s k (by omega) HA.out).symm, rfl⟩
end Go.Proofs.YtenfkejbndifdaaGreatDoor

namespace Go.Proofs.YtenfkejbndifdaaGreatDoor
open Go Go.RowKit

/-- the library's variable MaxLen reads as some number. -/
def MaxOk (w : World) : Prop := ∃ m : Int, w.cell? ⟨0, 0, none⟩ = some (.int .i64 m)
theorem MaxOk.below {B : Nat} {w w' : World} (h : MaxOk w) (hb : Below B w w') (hB : 0 < B) : MaxOk w' := by
  obtain ⟨m, hm⟩ := h
  exact ⟨m, (hb.cell (p := ⟨0, 0, none⟩) hB).trans hm⟩

theorem MaxOk.pos {w : World} (h : MaxOk w) : 0 < w.heap.size := by
  obtain ⟨m, h⟩ := h
  unfold World.cell? at h
  rcases Nat.lt_or_ge 0 w.heap.size with hp | hp
  · exact hp
  · rw [Array.getElem?_eq_none hp] at h; exact absurd h (by simp)
theorem MaxOk.alloc {w : World} (h : MaxOk w) (o : Obj) : MaxOk (w.alloc o) := h.below (B := w.heap.size) ((Below.refl _ w).alloc (Nat.le_refl _) o) h.pos

theorem flip {P : Program} {f : FuncId} {a : Array Value} {w : World} {v : Value} (h : Calls P f a w fun e w' => e = .returned v ∧ w' = w) : Calls P f a w fun e w' => e = .returned v ∧ w = w' :=
  h.mono fun _ _ ⟨h1, h2⟩ => ⟨h1, h2.symm⟩
theorem CutPrefix_any (s p : ByteArray) (w : World) :
    Calls Tryz.prog 221 #[.string s, .string p] w fun e w' => e = .returned (.tuple #[.string ⟨(Lib.trimPrefix s.data.toList p.data.toList).toArray⟩, .bool (Lib.hasPrefix s.data.toList p.data.toList)]) ∧ w = w' := flip (Tryz.strings_CutPrefix s p w)
theorem Count_any (s : ByteArray) (c : UInt8) (w : World) :
    Calls Tryz.prog 230 #[.string s, .string ⟨#[c]⟩] w fun e w' => e = .returned (.int .i64 (Lib.countByte s.data.toList c)) ∧ w = w' := flip (Tryz.strings_Count_one s c w)
theorem Contains_any (s sub : ByteArray) (w : World) (hs : s.size < 4294967281) (hm : MaxOk w) :
    Calls Tryz.prog 234 #[.string s, .string sub] w fun e w' => e = .returned (.bool (Lib.contains s.data.toList sub.data.toList)) ∧ w = w' := by
  obtain ⟨m, hm⟩ := hm
  exact flip (Tryz.strings_Contains s sub m w hs hm)

theorem ret_ii {j k : IntKind} {a b c d : Int} (h : a = b) (h' : c = d) : Ending.returned (.tuple #[.int j a, .int k c]) = Ending.returned (.tuple #[.int j b, .int k d]) := by rw [h, h']
theorem ret_ib {j : IntKind} {a b : Int} {c d : Bool} (h : a = b) (h' : c = d) : Ending.returned (.tuple #[.int j a, .bool c]) = Ending.returned (.tuple #[.int j b, .bool d]) := by rw [h, h']
theorem ret_string {a b : ByteArray} (h : a = b) : Ending.returned (.string a) = Ending.returned (.string b) := by rw [h]
end Go.Proofs.YtenfkejbndifdaaGreatDoor

namespace Go.Proofs.YtenfkejbndifdaaGreatDoor
open Go Go.RowKit

/-- a slice value of the call's own (in blocks from B on): its elements' cells. -/
def Mine (e size B : Nat) (v : Value) (n : Nat) (xs : List Value) (w : World) : Prop := w.ownsRow B e size v n xs ∧ B ≤ w.heap.size
theorem Mine.nil (e size B : Nat) (w : World) (h : B ≤ w.heap.size) : Hid (Mine e size B (.slice none 0 0) 0 [] w) := Lib.hid ⟨World.ownsRow_nil _ _ _ _, h⟩
theorem Mine.new (e size B : Nat) (n : Nat) (xs : List Value) (cs : Array Value) (w : World) (h : B ≤ w.heap.size) (hc : cs = xs.toArray) (hx : xs.length = n * size) (hn : n ≤ maxLen) :
    Hid (Mine e size B (.slice (some ⟨w.heap.size, 0, none⟩) n n) n xs (w.alloc (.cells cs e))) := by
  subst hc
  refine Lib.hid ⟨?_, by simp; omega⟩
  have := World.ownsRow_made (base := B) (e := e) (size := size) w xs.toArray n h hn (by simpa using hx)
  refine ⟨hx, .inr ⟨w.heap.size, n, xs.toArray, rfl, h, heap_alloc_new w _, Nat.le_refl _, hn, by simpa using hx, ?_⟩⟩
  rw [← hx]; simp
theorem Mine.below {e size B : Nat} {v : Value} {n : Nat} {xs : List Value} {w w' : World} (h : Hid (Mine e size B v n xs w)) (hb : Below w.heap.size w w') : Hid (Mine e size B v n xs w') := by
  obtain ⟨⟨h1, h2⟩, h3⟩ := h.out
  refine Lib.hid ⟨⟨h1, ?_⟩, by have := hb.size; omega⟩
  rcases h2 with h2 | ⟨g, cap, cur, hv, hg, hh, r⟩
  · exact .inl h2
  · exact .inr ⟨g, cap, cur, hv, hg, by rw [hb.block g (lt_of_block hh)]; exact hh, r⟩
theorem Mine.shape {e size B : Nat} {v : Value} {n : Nat} {xs : List Value} {w : World} (h : Mine e size B v n xs w) (hn : 0 < n) : ∃ g cap, v = .slice (some ⟨g, 0, none⟩) n cap := by
  obtain ⟨⟨h1, h2⟩, h3⟩ := h
  rcases h2 with ⟨_, h2⟩ | ⟨g, cap, cur, hv, _⟩
  · omega
  · exact ⟨g, cap, hv⟩
theorem Mine.ge {e size B g cap : Nat} {n : Nat} {xs : List Value} {w : World} (h : Mine e size B (.slice (some ⟨g, 0, none⟩) n cap) n xs w) : B ≤ g ∧ g < w.heap.size := h.1.lt g rfl
theorem Mine.cell {e size B g cap : Nat} {n : Nat} {xs : List Value} {w : World} (h : Mine e size B (.slice (some ⟨g, 0, none⟩) n cap) n xs w) (j : Nat) (hj : j < n * size) : w.cell? ⟨g, j, none⟩ = xs[j]? := h.1.cellAt j hj

theorem news_at (w : World) (news : List Value) (e : TypeId) : ∀ j u, news[j]? = some u → (w.alloc (.cells news.toArray e)).cell? ((⟨w.heap.size, 0, none⟩ : Addr).add j) = some u := by
  intro j u h
  have : ((⟨w.heap.size, 0, none⟩ : Addr).add j) = ⟨w.heap.size, j, none⟩ := by
    unfold Addr.add
    split
    · rename_i h; subst h; rfl
    · simp
  rw [this, World.cell?_alloc_at _ _ _ _ rfl]
  simpa using h

theorem info_bytes : (Tryz.prog.info? 5).map (fun i => (i.zero, i.size, i.bytes)) = some (some (.int .u8 0), 1, 1) := by kernel_rfl
/-- an append of new elements to a slice of the call's own. -/
theorem app_bytes {ops : Array Oper} {rest : List Oper} {o : Oper} {a : Act} {Q : Exit → Act → World → Prop} (w : World) (hgd : o.guard = none) (s x : Operand)
    (ho : o.op = .call { callee := .builtin .append, args := #[s, x], argTypes := #[241, 241] }) (B : Nat) (v : Value) (n : Nat) (xs : List Value) (hs : a.eval s = v) (hown : Hid (Mine 5 1 B v n xs w))
    (m : Nat) (news : List Value) (cs : Array Value) (hcs : cs = news.toArray) (hx : a.eval x = .slice (some ⟨w.heap.size, 0, none⟩) m m) (hl : news.length = m * 1) (h1 : ∀ u ∈ news, u.oneCell' = true) (hm : 0 < m) (hb : n + m ≤ 4000000000)
    (h : ∀ g cap w', Hid (Mine 5 1 B (.slice (some ⟨g, 0, none⟩) (n + m) cap) (n + m) (xs ++ news) w') → Below B w w' → wpList Tryz.prog ops Q rest (a.put o.dst (.slice (some ⟨g, 0, none⟩) (n + m) cap)) w') :
    wpList Tryz.prog ops Q (o :: rest) a (w.alloc (.cells cs 5)) := by
  subst hcs
  obtain ⟨i0, hi, hz0, hz1, hz2⟩ := info_parts info_bytes
  obtain ⟨ho1, hB⟩ := hown.out
  refine wpList_append_own _ hgd s x 241 ho B 5 i0 (.int .u8 0) 1 1 Tryz.underlying241 hi hz0 hz1 hz2 rfl (by decide) v n xs hs (ho1.alloc _) ⟨w.heap.size, 0, none⟩ m m news hx hl (news_at w news _) h1 (by unfold maxLen; omega) (by omega) (by simp; omega) ?_
  intro v' w' hown' hgrow _
  have hbel : Below B w w' := ((Below.refl B w).alloc hB _).grown hgrow (by simp; omega) (fun k hk => (ho1.lt k hk).1)
  have hO : Mine 5 1 B v' (n + m) (xs ++ news) w' := ⟨hown', by have := hbel.size; omega⟩
  obtain ⟨g, cap, rfl⟩ := hO.shape (by omega)
  exact h g cap w' (Lib.hid hO) hbel
theorem info_strs : (Tryz.prog.info? 9).map (fun i => (i.zero, i.size, i.bytes)) = some (some (.string ⟨#[]⟩), 1, 16) := by kernel_rfl
/-- an append of new elements to a slice of the call's own. -/
theorem app_strs {ops : Array Oper} {rest : List Oper} {o : Oper} {a : Act} {Q : Exit → Act → World → Prop} (w : World) (hgd : o.guard = none) (s x : Operand)
    (ho : o.op = .call { callee := .builtin .append, args := #[s, x], argTypes := #[97, 97] }) (B : Nat) (v : Value) (n : Nat) (xs : List Value) (hs : a.eval s = v) (hown : Hid (Mine 9 1 B v n xs w))
    (m : Nat) (news : List Value) (cs : Array Value) (hcs : cs = news.toArray) (hx : a.eval x = .slice (some ⟨w.heap.size, 0, none⟩) m m) (hl : news.length = m * 1) (h1 : ∀ u ∈ news, u.oneCell' = true) (hm : 0 < m) (hb : n + m ≤ 4000000000)
    (h : ∀ g cap w', Hid (Mine 9 1 B (.slice (some ⟨g, 0, none⟩) (n + m) cap) (n + m) (xs ++ news) w') → Below B w w' → wpList Tryz.prog ops Q rest (a.put o.dst (.slice (some ⟨g, 0, none⟩) (n + m) cap)) w') :
    wpList Tryz.prog ops Q (o :: rest) a (w.alloc (.cells cs 9)) := by
  subst hcs
  obtain ⟨i0, hi, hz0, hz1, hz2⟩ := info_parts info_strs
  obtain ⟨ho1, hB⟩ := hown.out
  refine wpList_append_own _ hgd s x 97 ho B 9 i0 (.string ⟨#[]⟩) 1 16 Tryz.underlying97 hi hz0 hz1 hz2 rfl (by decide) v n xs hs (ho1.alloc _) ⟨w.heap.size, 0, none⟩ m m news hx hl (news_at w news _) h1 (by unfold maxLen; omega) (by omega) (by simp; omega) ?_
  intro v' w' hown' hgrow _
  have hbel : Below B w w' := ((Below.refl B w).alloc hB _).grown hgrow (by simp; omega) (fun k hk => (ho1.lt k hk).1)
  have hO : Mine 9 1 B v' (n + m) (xs ++ news) w' := ⟨hown', by have := hbel.size; omega⟩
  obtain ⟨g, cap, rfl⟩ := hO.shape (by omega)
  exact h g cap w' (Lib.hid hO) hbel
/-- the bytes of a slice of the call's own, as a string. -/
theorem conv_own (B : Nat) (v : Value) (l : List UInt8) (w : World) (h : Hid (Mine 5 1 B v l.length (Lib.byteCells l) w)) :
    (convert 241 9 v).run Tryz.prog w = .ok (.string ⟨l.toArray⟩) w := by
  obtain ⟨⟨h1, h2⟩, h3⟩ := h.out
  rcases h2 with ⟨rfl, h2⟩ | ⟨g, cap, cur, rfl, hg, hh, hn, hm, hs, ht⟩
  · have : l = [] := List.length_eq_zero_iff.1 h2
    subst this
    rw [run_convert_bytes_string w 241 9 5 none 0 0 Tryz.underlying241 Tryz.underlying5 Tryz.underlying9]
    rfl
  · refine run_convert_bytes_back w 241 9 5 ⟨g, 0, none⟩ cap l Tryz.underlying241 Tryz.underlying5 Tryz.underlying9 (fun j hj => ?_)
    have ho : Mine 5 1 B (.slice (some ⟨g, 0, none⟩) l.length cap) l.length (Lib.byteCells l) w := ⟨⟨h1, .inr ⟨g, cap, cur, rfl, hg, hh, hn, hm, hs, ht⟩⟩, h3⟩
    have := ho.cell j (by omega)
    have e : ((⟨g, 0, none⟩ : Addr).add j) = ⟨g, j, none⟩ := by
      unfold Addr.add
      split
      · rename_i h; subst h; rfl
      · simp
    rw [e, this]
    simp [Lib.byteCells, hj]
end Go.Proofs.YtenfkejbndifdaaGreatDoor

namespace Go.Proofs.YtenfkejbndifdaaGreatDoor
open Go Go.RowKit

/-- the table of the powers of ten. -/
def TabOk (w : World) : Prop := Lib.TabIs Tryz.prog w "internal/strconv.uint64pow10" .u64 Lib.pow10Tab
/-- a number in decimal. -/
def decL (n : Int) : List UInt8 := Lib.decDigits n.toNat
theorem decL_len (n : Int) (h1 : n ≤ 999) : (decL n).length ≤ 3 := by
  unfold decL
  have : n.toNat ≤ 999 := by omega
  generalize n.toNat = m at *
  rw [Lib.decDigits]
  split
  · simp
  · rw [Lib.decDigits]
    split
    · simp
    · rw [Lib.decDigits]
      rw [dif_pos (by omega)]; simp
theorem below_grow (w : World) (k : Nat) (os : Array Obj) : Below w.heap.size w (Go.Sort.grow (w.drewN k) os) :=
  ⟨rfl, rfl, rfl, by show w.heap.size ≤ (w.heap ++ os).size; rw [Array.size_append]; omega, fun j hj => by show (w.heap ++ os)[j]? = _; rw [Array.getElem?_append_left hj]⟩
/-- the text of a number. -/
def fmtL (a b c : Int) : List UInt8 := decL a ++ 46 :: (decL b ++ 46 :: decL c)
/-- the text of a number, or none; and the error. -/
def formatV (a b c : Int) : List UInt8 × Int := if validB a b c = true then (fmtL a b c, 0) else ([], 2)
theorem join_three (x y z : List UInt8) : Lib.join [x, y, z] [46] = x ++ 46 :: (y ++ 46 :: z) := by
  rw [Lib.join_cons]; simp [Lib.joinTail]

end Go.Proofs.YtenfkejbndifdaaGreatDoor

namespace Go.Proofs.YtenfkejbndifdaaGreatDoor
open Go Go.RowKit

set_option maxHeartbeats 400000 in
theorem has_any (b off n cap : Nat) (ss : List ByteArray) (s : ByteArray) (w : World) (hn : n = ss.length) (hm : n ≤ 9223372036854775807)
    (hc : ∀ i, i < n → w.cell? ⟨b, off + i, none⟩ = some (.string (ss.getD i ByteArray.empty))) :
    Calls Tryz.prog 236 #[.slice (some ⟨b, off, none⟩) n cap, .string s] w fun e w' => e = .returned (.bool (ss.any fun x => x.toList == s.toList)) ∧ w = w' := by
  have HN := Lib.hid hn; clear hn
  go_enter Tryz.func236, Tryz.ntmps236
  go_wp2
  go_loop [5] (fun i => ∃ k : Nat, k ≤ n ∧ i = .int .i64 k ∧ Hid ((ss.take k).any (fun x => x.toList == s.toList) = false)) (fun i => n - (intOf i).toNat)
  case atStart => exact ⟨0, Nat.zero_le _, rfl, Lib.hid rfl⟩
  case round =>
    obtain ⟨k, hk, rfl, HA⟩ := hrel
    by_cases hlt : k < n
    · obtain ⟨x, hx⟩ : ∃ x, x = ss.getD k ByteArray.empty := ⟨_, rfl⟩
      have hcx : w.cell? ⟨b, off + k, none⟩ = some (.string x) := by rw [hx]; exact hc k hlt
      have HX := Lib.hid hx; clear hx hc
      cases hb : (x.toList == s.toList)
      · go_wp2
        go_round
        case rel => exact ⟨k + 1, by omega, by go_num, Lib.hid (any_take ss s k (by rw [← HN.out]; exact hlt) HA.out (by rw [← HX.out]; exact hb))⟩
        case measure => simp [intOf]; omega
      · go_wp2
        go_ret
        exact ⟨ret_bool (any_hit ss s k (by rw [← HN.out]; exact hlt) (by rw [← HX.out]; exact hb)).symm, rfl⟩
    · go_wp2
      go_ret
      exact ⟨ret_bool (any_done ss s k (by rw [← HN.out]; omega) HA.out).symm, rfl⟩

/-- a row of a new block, as a list of strings. -/
theorem cells_new (w : World) (ss : List ByteArray) (t : TypeId) (i : Nat) (h : i < ss.length) :
    (w.alloc (.cells (ss.map Value.string).toArray t)).cell? ⟨w.heap.size, 0 + i, none⟩ = some (.string (ss.getD i ByteArray.empty)) := by
  rw [World.cell?_alloc_at _ _ _ _ rfl]
  simp [h]

set_option maxHeartbeats 400000 in
theorem keywords_any (w : World) :
    Calls Tryz.prog 237 #[] w fun e w' => e = .returned (.slice (some ⟨w.heap.size, 0, none⟩) 28 28) ∧ w.alloc (.cells (kwList.map Value.string).toArray 9) = w' := by
  go_enter Tryz.func237, Tryz.ntmps237
  go_wp2
  go_ret
  exact ⟨rfl, by simp [kwList]⟩

end Go.Proofs.YtenfkejbndifdaaGreatDoor

namespace Go.Proofs.YtenfkejbndifdaaGreatDoor
open Go Go.RowKit

theorem has_kw (s : ByteArray) (w : World) :
    Calls Tryz.prog 236 #[.slice (some ⟨w.heap.size, 0, none⟩) 28 28, .string s] (w.alloc (.cells (kwList.map Value.string).toArray 9)) fun e w' => e = .returned (.bool (kwS s)) ∧ (w.alloc (.cells (kwList.map Value.string).toArray 9)) = w' :=
  has_any _ 0 28 28 kwList s _ rfl (by decide) (fun i hi => cells_new w kwList _ i hi)

set_option maxHeartbeats 400000 in
theorem rIsName_any (s : ByteArray) (w : World) (hs : s.size ≤ maxLen) :
    Calls Tryz.prog 227 #[.string s] w fun e w' => e = .returned (.bool (nameS s)) ∧ Below w.heap.size w w' := by
  by_cases h1 : 1 ≤ s.size
  · have hh := headZ_eq s h1
    by_cases h2 : s.size ≤ 32
    · cases h3 : smallZ (s[0].toNat : Int)
      · have HT : Hid (nameS s = false) := Lib.hid (by rw [← hh] at h3; simp [nameS, h3])
        clear hh
        go_enter Tryz.func227, Tryz.ntmps227
        go_wp2_with (first | (go_at_call 225; refine (rsmall_any _ _).mono ?_; rintro e w' ⟨rfl, rfl⟩))
        go_ret
        exact ⟨ret_bool HT.out.symm, Below.refl _ _⟩
      · cases h4 : allZ wordZ s
        · have HT : Hid (nameS s = false) := Lib.hid (by simp [nameS, h4])
          clear hh
          go_enter Tryz.func227, Tryz.ntmps227
          go_wp2_with (first | (go_at_call 225; refine (rsmall_any _ _).mono ?_; rintro e w' ⟨rfl, rfl⟩) | (go_at_call 235; refine (words_any _ _ hs).mono ?_; rintro e w' ⟨rfl, rfl⟩))
          go_ret
          exact ⟨ret_bool HT.out.symm, Below.refl _ _⟩
        · have HT : Hid (nameS s = !kwS s) := Lib.hid (by rw [← hh] at h3; simp [nameS, h3, h1, h2, h4])
          clear hh
          go_enter Tryz.func227, Tryz.ntmps227
          go_wp2_with (first | (go_at_call 225; refine (rsmall_any _ _).mono ?_; rintro e w' ⟨rfl, rfl⟩) | (go_at_call 235; refine (words_any _ _ hs).mono ?_; rintro e w' ⟨rfl, rfl⟩) | (go_at_call 237; refine (keywords_any _).mono ?_; rintro e w' ⟨rfl, rfl⟩) | (go_at_call 236; refine (has_kw _ _).mono ?_; rintro e w' ⟨rfl, rfl⟩))
          go_ret
          exact ⟨ret_bool HT.out.symm, (Below.refl _ _).alloc (Nat.le_refl _) _⟩
    · have HT : Hid (nameS s = false) := Lib.hid (by simp [nameS, h2])
      go_enter Tryz.func227, Tryz.ntmps227
      go_wp2
      go_ret
      exact ⟨ret_bool HT.out.symm, Below.refl _ _⟩
  · have HT : Hid (nameS s = false) := Lib.hid (by simp [nameS, h1])
    go_enter Tryz.func227, Tryz.ntmps227
    go_wp2
    go_ret
    exact ⟨ret_bool HT.out.symm, Below.refl _ _⟩
end Go.Proofs.YtenfkejbndifdaaGreatDoor

namespace Go.Proofs.YtenfkejbndifdaaGreatDoor
open Go Go.RowKit

theorem word_no (s : ByteArray) (h : allZ wordZ s = true) : ∀ b ∈ s.data.toList, b ≠ 32 := by
  intro b hb e
  have := List.all_eq_true.1 h b hb
  rw [e] at this
  exact absurd this (by decide)

set_option maxRecDepth 100000 in
set_option maxHeartbeats 400000 in
theorem keyword_any (s : ByteArray) (w : World) (hs : s.size ≤ 1000000) (hm : MaxOk w) (hw : Hid (allZ wordZ s = true)) :
    Calls Tryz.prog 223 #[.string s] w fun e w' => e = .returned (.bool (kwS s)) ∧ w = w' := by
  have HM := Lib.hid hm; clear hm
  go_enter Tryz.func223, Tryz.ntmps223
  go_wp2_with fail
  refine (Contains_any _ _ w (by decide) HM.out).mono ?_
  rintro e w' ⟨rfl, rfl⟩
  go_wp2
  go_ret
  refine ⟨ret_bool ?_, rfl⟩
  rw [kwS_eq, ← kw_contains s.data.toList (word_no s hw.out)]
  congr 1
set_option maxHeartbeats 400000 in
theorem IsName_any (s : ByteArray) (w : World) (hs : s.size ≤ maxLen) (hm : MaxOk w) :
    Calls Tryz.prog 205 #[.string s] w fun e w' => e = .returned (.bool (nameS s)) ∧ w = w' := by
  by_cases h1 : 1 ≤ s.size
  · have hh := headZ_eq s h1
    have he1 := ne_nil s h1
    have he2 := ne_empty s h1
    by_cases h2 : s.size ≤ 32
    · cases h3 : smallZ (s[0].toNat : Int)
      · have HT : Hid (nameS s = false) := Lib.hid (by rw [← hh] at h3; simp [nameS, h3])
        clear hh
        go_enter Tryz.func205, Tryz.ntmps205
        go_wp2_with (first | (go_at_call 208; refine (small_any _ _).mono ?_; rintro e w' ⟨rfl, rfl⟩))
        go_ret
        exact ⟨ret_bool HT.out.symm, rfl⟩
      · cases h4 : allZ wordZ s
        · have HT : Hid (nameS s = false) := Lib.hid (by simp [nameS, h4])
          clear hh
          go_enter Tryz.func205, Tryz.ntmps205
          go_wp2_with (first | (go_at_call 208; refine (small_any _ _).mono ?_; rintro e w' ⟨rfl, rfl⟩) | (go_at_call 206; refine (all_wordZ _ _ hs).mono ?_; rintro e w' ⟨rfl, rfl⟩))
          go_ret
          exact ⟨ret_bool HT.out.symm, rfl⟩
        · have HT : Hid (nameS s = !kwS s) := Lib.hid (by rw [← hh] at h3; simp [nameS, h3, h1, h2, h4])
          have H4 := Lib.hid h4
          have hs2 : s.size ≤ 1000000 := by omega
          clear hh
          go_enter Tryz.func205, Tryz.ntmps205
          go_wp2_with (first | (go_at_call 208; refine (small_any _ _).mono ?_; rintro e w' ⟨rfl, rfl⟩) | (go_at_call 206; refine (all_wordZ _ _ hs).mono ?_; rintro e w' ⟨rfl, rfl⟩) | (go_at_call 223; refine (keyword_any _ _ hs2 hm H4).mono ?_; rintro e w' ⟨rfl, rfl⟩))
          go_ret
          exact ⟨ret_bool HT.out.symm, rfl⟩
    · have HT : Hid (nameS s = false) := Lib.hid (by simp [nameS, h2])
      go_enter Tryz.func205, Tryz.ntmps205
      go_wp2
      go_ret
      exact ⟨ret_bool HT.out.symm, rfl⟩
  · have HT : Hid (nameS s = false) := Lib.hid (by simp [nameS, h1])
    have he1 : s.toList = [] := is_nil s h1
    go_enter Tryz.func205, Tryz.ntmps205
    go_wp2
    go_ret
    exact ⟨ret_bool HT.out.symm, rfl⟩

end Go.Proofs.YtenfkejbndifdaaGreatDoor

namespace Go.Proofs.YtenfkejbndifdaaGreatDoor
open Go

def valL (l : List UInt8) : Int := l.foldl (fun n b => 10 * n + ((b.toNat : Int) - 48)) 0
theorem valL_snoc (l : List UInt8) (b : UInt8) : valL (l ++ [b]) = 10 * valL l + ((b.toNat : Int) - 48) := by unfold valL; rw [List.foldl_append]; rfl
theorem valL_lt (l : List UInt8) (h : ∀ b ∈ l, digitZ b.toNat = true) : 0 ≤ valL l ∧ valL l < 10 ^ l.length := by
  rcases List.eq_nil_or_concat l with rfl | ⟨m, b, rfl⟩
  · simp [valL]
  · rw [List.concat_eq_append] at *
    have ih := valL_lt m (fun x hx => h x (by simp [hx]))
    have hb := h b (by simp)
    simp only [digitZ, Bool.and_eq_true, decide_eq_true_eq] at hb
    rw [valL_snoc, List.length_append, List.length_singleton, Int.pow_succ]
    omega
termination_by l.length
decreasing_by subst_vars; simp

/-- what stands behind the first byte. -/
def tailS (s : ByteArray) : ByteArray := ⟨(s.data.toList.drop 1).toArray⟩
def okR (r : ByteArray) : Bool := decide (1 ≤ r.size) && (decide (r.size ≤ 3) && (!(decide (1 < r.size) && headZ r == 48) && allZ digitZ r))
def verOk (s : ByteArray) : Bool := headZ s == 118 && okR (tailS s)
def verN (s : ByteArray) : Int := if verOk s then valL (s.data.toList.drop 1) else 0
theorem tailS_data (s : ByteArray) : (tailS s).data.toList = s.data.toList.drop 1 := by simp [tailS]
theorem tailS_size (s : ByteArray) : (tailS s).size = s.size - 1 := by rw [Lib.size_eq, tailS_data, List.length_drop, ← Lib.size_eq]
theorem headZ_cons (s : ByteArray) (b : UInt8) (l : List UInt8) (h : s.data.toList = b :: l) : headZ s = b.toNat := by
  have hs : 0 < s.size := by rw [Lib.size_eq, h]; simp
  rw [headZ_eq s hs]
  have : s[0] = s.data.toList[0]'(by rw [← Lib.size_eq]; exact hs) := by simp; rfl
  rw [this]; simp only [h]; rfl
theorem headZ_nil (s : ByteArray) (h : s.size = 0) : headZ s = 0 := by unfold headZ; rw [dif_neg (by omega)]
theorem prefix_v (s : ByteArray) : Lib.hasPrefix s.data.toList [118] = (headZ s == 118) := by
  cases h : s.data.toList with
  | nil => rw [headZ_nil s (by rw [Lib.size_eq, h]; rfl)]; rfl
  | cons b l =>
    rw [headZ_cons s b l h]
    simp only [Lib.hasPrefix, List.isPrefixOf, Bool.and_true]
    rw [Bool.eq_iff_iff, beq_iff_eq, beq_iff_eq]
    constructor
    · intro e; rw [← e]; rfl
    · intro e; exact UInt8.toNat_inj.1 (by have : ((118 : UInt8).toNat) = 118 := rfl; omega)
theorem trim_v (s : ByteArray) (h : headZ s = 118) : (⟨(Lib.trimPrefix s.data.toList [118]).toArray⟩ : ByteArray) = tailS s := by
  have h2 : Lib.hasPrefix s.data.toList [118] = true := by rw [prefix_v, h]; rfl
  unfold Lib.trimPrefix tailS
  rw [if_pos h2]; rfl
theorem trim_no (s : ByteArray) (h : ¬ headZ s = 118) : (⟨(Lib.trimPrefix s.data.toList [118]).toArray⟩ : ByteArray) = s := by
  have h2 : Lib.hasPrefix s.data.toList [118] = false := by rw [prefix_v]; simpa using h
  unfold Lib.trimPrefix
  rw [if_neg (by rw [h2]; exact Bool.false_ne_true)]
end Go.Proofs.YtenfkejbndifdaaGreatDoor
