/- Plain facts on the reference's reader of a number. Slices of integers that a call makes itself. Contract of the reference's Parse. The walk of the reference's Parse. Contract of the reference's decimal. Contract of the reference's Format. Contracts of the reference's Split, Trim, dots. Contracts of the reference's text, span, Format. Contract of the reference's alternative. Contract of the reference's alternative, no mark; and whole. Contract of the reference's Parse. ConstraintTexts returns true at every input. -/
import Derived.Test.YtdhihdiifgcfdaaGreatDoorVPlainParse
import Derived.Test.YtdhihdiifgcfdaaGreatDoorOwn
import Derived.Test.YtdhihdiifgcfdaaGreatDoorVValid
import Derived.Test.YtdhihdiifgcfdaaGreatDoorVCompare
import Derived.RegionTactic
import Derived.Test.YtdhihdiifgcfdaaGreatDoorVRef1
import Derived.Test.YtdhihdiifgcfdaaGreatDoorVFormat
import Derived.Test.YtdhihdiifgcfdaaGreatDoorPlainSeg
import Derived.Deep.RegionHeld3
import Derived.Deep.DrawnRows
import Derived.Test.YtdhihdiifgcfdaaGreatDoorCPlainBack
import Derived.Test.YtdhihdiifgcfdaaGreatDoorCMap
import Derived.Test.YtdhihdiifgcfdaaGreatDoorCPlainFmt
import Derived.Test.YtdhihdiifgcfdaaGreatDoorCRCanon
import Derived.Test.YtdhihdiifgcfdaaGreatDoorCPlainAlt
import Derived.Test.YtdhihdiifgcfdaaGreatDoorCSpanR
import Derived.Test.YtdhihdiifgcfdaaGreatDoorCRef2
import Derived.Test.YtdhihdiifgcfdaaGreatDoorCParse
import Derived.Test.YtdhihdiifgcfdaaGreatDoorCLawKit
namespace Go.Proofs.YtdhihdiifgcfdaaGreatDoor
open Go

/-- the beginning of a part that is right so far. -/
def AccW (l : List UInt8) : Prop := l.all dgB = true ∧ l.length ≤ 3 ∧ ¬ (1 < l.length ∧ l.head? = some 48)
theorem wordOk_iff (l : List UInt8) : wordOk l = true ↔ l ≠ [] ∧ AccW l := by
  unfold wordOk AccW
  simp only [Bool.and_eq_true, decide_eq_true_eq, Bool.not_eq_true', Bool.and_eq_false_iff, decide_eq_false_iff_not]
  constructor
  · rintro ⟨h1, h2, h3, h4⟩
    exact ⟨h1, h3, h2, fun ⟨h5, h6⟩ => by rcases h4 with h4 | h4 <;> contradiction⟩
  · rintro ⟨h1, h3, h2, h4⟩
    refine ⟨h1, h2, h3, ?_⟩
    by_cases h5 : 1 < l.length
    · exact .inr (fun h6 => h4 ⟨h5, h6⟩)
    · exact .inl h5
theorem valF_ge : ∀ (l : List UInt8) (n : Nat), n ≤ valF n l
  | [], n => Nat.le_refl _
  | b :: r, n => by
    have := valF_ge r (n * 10 + (b.toNat - 48))
    have e : valF n (b :: r) = valF (n * 10 + (b.toNat - 48)) r := rfl
    omega
theorem valF_snoc (l : List UInt8) (n : Nat) (c : UInt8) : valF n (l ++ [c]) = valF n l * 10 + (c.toNat - 48) := by
  unfold valF; rw [List.foldl_append]; rfl
/-- a part whose number is nought begins with it. -/
theorem zero_head (l : List UInt8) (h : l ≠ []) (ha : l.all dgB = true) (hz : wordV l = 0) : l.head? = some 48 := by
  cases l with
  | nil => exact absurd rfl h
  | cons b r =>
    have := valF_ge r (0 * 10 + (b.toNat - 48))
    have e : wordV (b :: r) = valF (0 * 10 + (b.toNat - 48)) r := rfl
    have hb : dgB b = true := List.all_eq_true.1 ha b (by simp)
    unfold dgB at hb
    simp only [decide_eq_true_eq] at hb
    have : b = 48 := UInt8.toNat_inj.1 (by have : (48 : UInt8).toNat = 48 := rfl; omega)
    rw [this]; rfl
theorem acc_nil : AccW [] := ⟨rfl, by simp, by simp⟩
/-- a digit more. -/
theorem acc_snoc (l : List UInt8) (c : UInt8) (h : AccW l) (hc : dgB c = true) (h3 : l.length < 3) (hz : l = [] ∨ wordV l ≠ 0) : AccW (l ++ [c]) := by
  obtain ⟨h1, h2, h4⟩ := h
  refine ⟨by simp [h1, hc], by simp; omega, fun ⟨_, h5⟩ => ?_⟩
  rcases hz with rfl | hz
  · simp at *
  · cases l with
    | nil => exact hz rfl
    | cons b r =>
      have hb : b = 48 := by simpa using h5
      subst hb
      cases r with
      | nil => exact hz rfl
      | cons d r => exact h4 ⟨by simp, rfl⟩
/-- what follows a wrong beginning is wrong. -/
theorem bad_char (l : List UInt8) (c : UInt8) (r : List UInt8) (h : dgB c = false) : wordOk (l ++ c :: r) = false := by
  cases h2 : wordOk (l ++ c :: r) with
  | false => rfl
  | true =>
    have := ((wordOk_iff _).1 h2).2.1
    rw [List.all_append, List.all_cons, h] at this
    simp at this
theorem bad_long (l : List UInt8) (c : UInt8) (r : List UInt8) (h : l.length = 3) : wordOk (l ++ c :: r) = false := by
  cases h2 : wordOk (l ++ c :: r) with
  | false => rfl
  | true =>
    have := ((wordOk_iff _).1 h2).2.2.1
    simp at this; omega
theorem bad_zero (l : List UInt8) (c : UInt8) (r : List UInt8) (h : l ≠ []) (ha : l.all dgB = true) (hz : wordV l = 0) : wordOk (l ++ c :: r) = false := by
  cases h2 : wordOk (l ++ c :: r) with
  | false => rfl
  | true =>
    have h3 := ((wordOk_iff _).1 h2).2.2.2
    exfalso
    refine h3 ⟨?_, ?_⟩
    · have := List.length_pos_iff.2 h; simp; omega
    · have h4 := zero_head l h ha hz
      cases l with
      | nil => exact absurd rfl h
      | cons b r => simpa using h4
theorem wordOk_nil : wordOk [] = false := by decide
/-- a wrong part. -/
theorem parse_bad (s : List UInt8) (x : List UInt8) (hx : x ∈ dotsL s) (h : wordOk x = false) : parseV s = ((0, 0, 0), 3) := by
  unfold parseV
  split
  · rename_i a b c e
    rw [e] at hx
    rw [if_neg]
    intro h2
    simp only [Bool.and_eq_true] at h2
    simp only [List.mem_cons, List.not_mem_nil, or_false] at hx
    rcases hx with rfl | rfl | rfl
    · rw [h] at h2; exact absurd h2.1 (by simp)
    · rw [h] at h2; exact absurd h2.2.1 (by simp)
    · rw [h] at h2; exact absurd h2.2.2 (by simp)
  · rfl
/-- right parts, but not three of them. -/
theorem parse_len (s : List UInt8) (h : (dotsL s).length ≠ 3) : parseV s = ((0, 0, 0), 3) := by
  unfold parseV
  split
  · rename_i a b c e
    rw [e] at h
    exact absurd rfl h
  · rfl
theorem parse_ok (s : List UInt8) (a b c : List UInt8) (e : dotsL s = [a, b, c]) (h : ∀ x ∈ dotsL s, wordOk x = true) : parseV s = (((wordV a : Int), (wordV b : Int), (wordV c : Int)), 0) := by
  unfold parseV
  rw [e] at h ⊢
  simp only
  rw [if_pos (by simp [h a (by simp), h b (by simp), h c (by simp)])]
end Go.Proofs.YtdhihdiifgcfdaaGreatDoor

namespace Go.Proofs.YtdhihdiifgcfdaaGreatDoor
open Go Go.RowKit

theorem info_ints : (Tryz.prog.info? 3).map (fun i => (i.zero, i.size, i.bytes)) = some (some (.int .i64 0), 1, 8) := by kernel_rfl
/-- an append of new elements to a slice of the call's own. -/
theorem app_ints {ops : Array Oper} {rest : List Oper} {o : Oper} {a : Act} {Q : Exit → Act → World → Prop} (w : World) (hgd : o.guard = none) (s x : Operand)
    (ho : o.op = .call { callee := .builtin .append, args := #[s, x], argTypes := #[54, 54] }) (B : Nat) (v : Value) (n : Nat) (xs : List Value) (hs : a.eval s = v) (hown : Hid (Mine 3 1 B v n xs w))
    (m : Nat) (news : List Value) (cs : Array Value) (hcs : cs = news.toArray) (hx : a.eval x = .slice (some ⟨w.heap.size, 0, none⟩) m m) (hl : news.length = m * 1) (h1 : ∀ u ∈ news, u.oneCell' = true) (hm : 0 < m) (hb : n + m ≤ 4000000000)
    (h : ∀ g cap w', Hid (Mine 3 1 B (.slice (some ⟨g, 0, none⟩) (n + m) cap) (n + m) (xs ++ news) w') → Below B w w' → wpList Tryz.prog ops Q rest (a.put o.dst (.slice (some ⟨g, 0, none⟩) (n + m) cap)) w') :
    wpList Tryz.prog ops Q (o :: rest) a (w.alloc (.cells cs 3)) := by
  subst hcs
  obtain ⟨i0, hi, hz0, hz1, hz2⟩ := info_parts info_ints
  obtain ⟨ho1, hB⟩ := hown.out
  refine wpList_append_own _ hgd s x 54 ho B 3 i0 (.int .i64 0) 1 8 Tryz.underlying54 hi hz0 hz1 hz2 rfl (by decide) v n xs hs (ho1.alloc _) ⟨w.heap.size, 0, none⟩ m m news hx hl (news_at w news _) h1 (by unfold maxLen; omega) (by omega) (by simp; omega) ?_
  intro v' w' hown' hgrow _
  have hbel : Below B w w' := ((Below.refl B w).alloc hB _).grown hgrow (by simp; omega) (fun k hk => (ho1.lt k hk).1)
  have hO : Mine 3 1 B v' (n + m) (xs ++ news) w' := ⟨hown', by have := hbel.size; omega⟩
  obtain ⟨g, cap, rfl⟩ := hO.shape (by omega)
  exact h g cap w' (Lib.hid hO) hbel
end Go.Proofs.YtdhihdiifgcfdaaGreatDoor

namespace Go.Proofs.YtdhihdiifgcfdaaGreatDoor
open Go Go.RowKit

/-- the values of some parts. -/
def wVs (l : List (List UInt8)) : List Value := l.map fun x => .int .i64 (wordV x : Int)
/-- where the reference's reader stands: the parts that are done, and the part that it reads. -/
def RdS (s : ByteArray) (k : Nat) (done : List (List UInt8)) (cur : List UInt8) : Prop :=
  ∃ h t, dotsL (s.data.toList.drop k) = h :: t ∧ dotsL s.data.toList = done ++ (cur ++ h) :: t ∧ (∀ x ∈ done, wordOk x = true) ∧ AccW cur ∧ done.length + cur.length ≤ k
theorem RdS.start (s : ByteArray) : RdS s 0 [] [] := by
  cases e : dotsL s.data.toList with
  | nil => exact absurd e (dotsL_ne _)
  | cons h t => exact ⟨h, t, by rw [List.drop_zero, e], by simp [e], by simp, acc_nil, by simp⟩
theorem drop_at (s : ByteArray) (k : Nat) (h : k < s.size) : s.data.toList.drop k = s[k] :: s.data.toList.drop (k + 1) := by
  have hl : k < s.data.toList.length := by rw [← Lib.size_eq]; exact h
  rw [List.drop_eq_getElem_cons hl]; simp; rfl
theorem RdS.dot {s : ByteArray} {k : Nat} {done : List (List UInt8)} {cur : List UInt8} (h : RdS s k done cur) (hk : k < s.size) (hc : s[k] = 46) :
    (cur = [] → parseV s.data.toList = ((0, 0, 0), 3)) ∧ (cur ≠ [] → RdS s (k + 1) (done ++ [cur]) []) := by
  obtain ⟨h1, t1, e1, e2, e3, e4, e5⟩ := h
  rw [drop_at s k hk, hc, dotsL_dot] at e1
  obtain ⟨rfl, rfl⟩ := List.cons.inj e1
  rw [List.append_nil] at e2
  refine ⟨fun h0 => parse_bad _ cur (by rw [e2]; simp) (by rw [h0]; decide), fun h0 => ?_⟩
  cases e : dotsL (s.data.toList.drop (k + 1)) with
  | nil => exact absurd e (dotsL_ne _)
  | cons h t =>
    refine ⟨h, t, e, ?_, ?_, acc_nil, ?_⟩
    · rw [e2, e]; simp
    · intro x hx
      rcases List.mem_append.1 hx with hx | hx
      · exact e3 x hx
      · rw [List.mem_singleton.1 hx]; exact (wordOk_iff _).2 ⟨h0, e4⟩
    · simp; omega
theorem RdS.char {s : ByteArray} {k : Nat} {done : List (List UInt8)} {cur : List UInt8} (h : RdS s k done cur) (hk : k < s.size) (hc : s[k] ≠ 46) :
    ((dgB s[k] = false ∨ cur.length = 3 ∨ (cur ≠ [] ∧ wordV cur = 0)) → parseV s.data.toList = ((0, 0, 0), 3)) ∧
    (dgB s[k] = true → cur.length ≠ 3 → (cur = [] ∨ wordV cur ≠ 0) → RdS s (k + 1) done (cur ++ [s[k]])) := by
  obtain ⟨h1, t1, e1, e2, e3, e4, e5⟩ := h
  rw [drop_at s k hk] at e1
  cases e : dotsL (s.data.toList.drop (k + 1)) with
  | nil => exact absurd e (dotsL_ne _)
  | cons h t =>
    rw [dotsL_other _ _ h t hc e] at e1
    obtain ⟨rfl, rfl⟩ := List.cons.inj e1
    refine ⟨fun h0 => parse_bad _ (cur ++ s[k] :: h) (by rw [e2]; simp) ?_, fun g1 g2 g3 => ⟨h, t, e, by rw [e2]; simp, e3, acc_snoc _ _ e4 g1 (by have := e4.2.1; omega) g3, by simp; omega⟩⟩
    rcases h0 with h0 | h0 | ⟨h0, h2⟩
    · exact bad_char _ _ _ h0
    · exact bad_long _ _ _ h0
    · exact bad_zero _ _ _ h0 e4.1 h2
theorem RdS.stop {s : ByteArray} {done : List (List UInt8)} {cur : List UInt8} (h : RdS s s.size done cur) :
    (cur = [] → parseV s.data.toList = ((0, 0, 0), 3)) ∧ (cur ≠ [] → dotsL s.data.toList = done ++ [cur] ∧ ∀ x ∈ dotsL s.data.toList, wordOk x = true) := by
  obtain ⟨h1, t1, e1, e2, e3, e4, e5⟩ := h
  rw [List.drop_eq_nil_iff.2 (by rw [← Lib.size_eq]; exact Nat.le_refl _)] at e1
  obtain ⟨rfl, rfl⟩ := List.cons.inj (show [[]] = h1 :: t1 from e1)
  rw [List.append_nil] at e2
  refine ⟨fun h0 => parse_bad _ cur (by rw [e2]; simp) (by rw [h0]; decide), fun h0 => ⟨e2, fun x hx => ?_⟩⟩
  rw [e2] at hx
  rcases List.mem_append.1 hx with hx | hx
  · exact e3 x hx
  · rw [List.mem_singleton.1 hx]; exact (wordOk_iff _).2 ⟨h0, e4⟩
end Go.Proofs.YtdhihdiifgcfdaaGreatDoor

namespace Go.Proofs.YtdhihdiifgcfdaaGreatDoor
open Go Go.RowKit

theorem wordV_acc (l : List UInt8) (h : AccW l) : wordV l ≤ 999 := by
  have := valF_le l 0 (List.all_eq_true.1 h.1)
  have hp : 10 ^ l.length ≤ 10 ^ 3 := Nat.pow_le_pow_right (by decide) h.2.1
  unfold wordV
  have : (10 : Nat) ^ 3 = 1000 := by decide
  omega
theorem RdS.acc {s : ByteArray} {k : Nat} {done : List (List UInt8)} {cur : List UInt8} (h : RdS s k done cur) : AccW cur ∧ done.length + cur.length ≤ k := by
  obtain ⟨_, _, _, _, _, e4, e5⟩ := h
  exact ⟨e4, e5⟩
theorem wVs_snoc (l : List (List UInt8)) (x : List UInt8) : wVs (l ++ [x]) = wVs l ++ [.int .i64 (wordV x : Int)] := by unfold wVs; simp
set_option maxRecDepth 100000 in
set_option maxHeartbeats 40000000 in
theorem rParse_any (s : ByteArray) (w : World) (hs : s.size ≤ 1000000) :
    Calls Tryz.prog 85 #[.string s] w fun e w' => e = .returned (.tuple #[.agg #[.int .i64 (parseV s.data.toList).1.1, .int .i64 (parseV s.data.toList).1.2.1, .int .i64 (parseV s.data.toList).1.2.2], .int .i64 (parseV s.data.toList).2]) ∧ Below w.heap.size w w' := by
  obtain ⟨v, hv⟩ : ∃ v, parseV s.data.toList = v := ⟨_, rfl⟩
  rw [hv]
  have HV := Lib.hid hv
  clear hv
  have hz := heap_alloc_new w (.cells #[.int .i64 0, .int .i64 0, .int .i64 0] 23)
  have HZ0 : Hid (((w.alloc (.cells #[.int .i64 0, .int .i64 0, .int .i64 0] 23)).alloc (.cells #[] 3)).heap[w.heap.size]? = some (.cells #[.int .i64 0, .int .i64 0, .int .i64 0] 23 (0, 0))) := Lib.hid (by
    rw [Below.heap_alloc _ _ _ (by simp)]; exact hz)
  have HO0 : Hid (Mine 3 1 (w.heap.size + 1) (.slice (some ⟨w.heap.size + 1, 0, none⟩) 0 0) 0 [] ((w.alloc (.cells #[.int .i64 0, .int .i64 0, .int .i64 0] 23)).alloc (.cells #[] 3))) := by
    have := Mine.new 3 1 (w.heap.size + 1) 0 [] #[] (w.alloc (.cells #[.int .i64 0, .int .i64 0, .int .i64 0] 23)) (by simp) rfl rfl (by decide)
    rw [World.size_alloc] at this
    exact this
  have hsz : (s.size : Int) ≤ 1000000 := by omega
  clear hz
  go_enter Tryz.func85, Tryz.ntmps85
  go_wp2_with fail
  go_loopw [4, 5, 6, 7] (fun sl n d i wr => ∃ (k : Nat) (done : List (List UInt8)) (cur : List UInt8), ((k ≤ s.size ∧ Hid (RdS s k done cur)) ∨ (k = s.size + 1 ∧ cur = [] ∧ Hid (done.length ≤ 1000001 ∧ dotsL s.data.toList = done ∧ ∀ x ∈ dotsL s.data.toList, wordOk x = true))) ∧
    i = .int .i64 k ∧ d = .int .i64 cur.length ∧ n = .int .i64 (wordV cur : Int) ∧ Hid (Mine 3 1 (w.heap.size + 1) sl done.length (wVs done) wr) ∧ Hid (wr.heap[w.heap.size]? = some (.cells #[.int .i64 0, .int .i64 0, .int .i64 0] 23 (0, 0))) ∧ Hid (Below w.heap.size w wr)) (fun _ _ _ i _ => s.size + 1 - (intOf i).toNat)
  case atStart => exact ⟨0, [], [], .inl ⟨Nat.zero_le _, Lib.hid (RdS.start s)⟩, rfl, rfl, rfl, HO0, HZ0, Lib.hid (by repeat (first | exact Below.refl _ _ | refine Below.drew ?_ | refine Below.alloc ?_ (by simp <;> omega) _ | refine Below.setCell ?_ (by simp <;> omega) _))⟩
  case round =>
    clear HO0 HZ0
    obtain ⟨k, done, cur, hcase, rfl, rfl, rfl, HO, HZ, HB⟩ := hrel
    have z0 : wr.cell? ⟨w.heap.size, 0, none⟩ = some (.int .i64 0) := by rw [Lib.cell_of_heap HZ.out]; rfl
    have z1 : wr.cell? ⟨w.heap.size, 1, none⟩ = some (.int .i64 0) := by rw [Lib.cell_of_heap HZ.out]; rfl
    have z2 : wr.cell? ⟨w.heap.size, 2, none⟩ = some (.int .i64 0) := by rw [Lib.cell_of_heap HZ.out]; rfl
    have f0 := Lib.frozen_of_heap HZ.out 0
    have f1 := Lib.frozen_of_heap HZ.out 1
    have f2 := Lib.frozen_of_heap HZ.out 2
    have HBZ : Hid (Below w.heap.size w (((wr.setCell ⟨w.heap.size, 0, none⟩ (.int .i64 0)).setCell ⟨w.heap.size, 1, none⟩ (.int .i64 0)).setCell ⟨w.heap.size, 2, none⟩ (.int .i64 0))) := Lib.hid (((HB.out.setCell (p := ⟨_, 0, none⟩) (Nat.le_refl _) _).setCell (p := ⟨_, 1, none⟩) (Nat.le_refl _) _).setCell (p := ⟨_, 2, none⟩) (Nat.le_refl _) _)
    rcases hcase with ⟨hk, HR⟩ | ⟨rfl, rfl, HR⟩
    · obtain ⟨hacc, hlen⟩ := HR.out.acc
      have hV := wordV_acc cur hacc
      obtain ⟨V, hVV⟩ : ∃ V, wordV cur = V := ⟨_, rfl⟩
      obtain ⟨L, hLL⟩ : ∃ L, cur.length = L := ⟨_, rfl⟩
      rw [hVV] at hV ⊢
      rw [hLL] at hlen ⊢
      have HVV := Lib.hid hVV
      have HLL := Lib.hid hLL
      have hk0 : (0 : Int) ≤ (k : Int) := by omega
      have hki : (k : Int) ≤ (s.size : Int) := by omega
      have hVi : (V : Int) ≤ 999 := by omega
      have hV0 : (0 : Int) ≤ (V : Int) := by omega
      have hL3 : L ≤ 3 := by rw [← hLL]; exact hacc.2.1
      have hLi : (L : Int) ≤ 3 := by omega
      have hdl : done.length ≤ 1000000 := by omega
      clear hacc hVV hLL
      by_cases hlt : k < s.size
      · have hkl : (k : Int) < (s.size : Int) := by omega
        have hke : ((k : Int) == (s.size : Int)) = false := by rw [beq_eq_false_iff_ne]; omega
        by_cases hc : s[k] = 46
        · have hd46 : (((s[k]).toNat : Int) == 46) = true := by rw [hc]; rfl
          obtain ⟨r1, r2⟩ := HR.out.dot hlt hc
          by_cases hL0 : L = 0
          · have hcur : cur = [] := List.length_eq_zero_iff.1 (by have := HLL.out; omega)
            have HE : Hid (v = ((0, 0, 0), 3)) := Lib.hid (by rw [← HV.out]; exact r1 hcur)
            subst hL0
            clear r1 r2 hcur hc
            go_wp2_with fail
            rw [HE.out]
            exact bodyPost_ret (v := .tuple #[.agg #[.int .i64 0, .int .i64 0, .int .i64 0], .int .i64 3]) (by simp [results, Tryz.results85, go_sem, z0, z1, z2]) rfl ⟨rfl, HBZ.out⟩
          · have hcur : cur ≠ [] := fun h => hL0 (by rw [← HLL.out, h]; rfl)
            have HN := Lib.hid (r2 hcur)
            have hLe : ((L : Int) == 0) = false := by rw [beq_eq_false_iff_ne]; omega
            clear r1 r2 hcur hc
            go_wp2_with (at_builtin; refine app_ints _ rfl _ _ (by rfl) (w.heap.size + 1) _ _ _ (by rfl) HO 1 [.int .i64 V] _ (by rfl) (by rfl) (by rfl) (by simp [Value.oneCell']) (by decide) (by omega) ?_; intro g cap w2 HO3 hb2)
            have HZ2 : Hid (w2.heap[w.heap.size]? = some (.cells #[.int .i64 0, .int .i64 0, .int .i64 0] 23 (0, 0))) := Lib.hid ((hb2.block _ (Nat.lt_succ_self _)).trans HZ.out)
            have HB2 : Hid (Below w.heap.size w w2) := Lib.hid (HB.out.trans (hb2.mono (Nat.le_succ _)))
            clear hb2
            go_wp2_with fail
            go_roundw
            case rel => exact ⟨k + 1, done ++ [cur], [], .inl ⟨by omega, HN⟩, by go_num, rfl, rfl, by rw [wVs_snoc, HVV.out, List.length_append]; exact HO3, HZ2, HB2⟩
            case measure => simp [intOf]; omega
        · have hd46 : (((s[k]).toNat : Int) == 46) = false := by
            rw [beq_eq_false_iff_ne]; intro h; exact hc (UInt8.toNat_inj.1 (by have : (46 : UInt8).toNat = 46 := rfl; omega))
          obtain ⟨r1, r2⟩ := HR.out.char hlt hc
          have hdg : dgB s[k] = decide (48 ≤ ((s[k]).toNat : Int) ∧ ((s[k]).toNat : Int) ≤ 57) := by unfold dgB; rw [decide_eq_decide]; omega
          have hvs := valF_snoc cur 0 s[k]
          generalize hcs : s[k] = c at *
          have HRD := Lib.hid (And.intro r1 (And.intro r2 (And.intro hdg hvs)))
          have hc0 : (0 : Int) ≤ (c.toNat : Int) := by omega
          have hc1 : (c.toNat : Int) ≤ 255 := by have := c.toNat_lt; omega
          clear r1 r2 hdg hvs hc
          rcases (show ((c.toNat : Int) < 48) ∨ (¬ (c.toNat : Int) < 48 ∧ 57 < (c.toNat : Int)) ∨ (¬ (c.toNat : Int) < 48 ∧ ¬ 57 < (c.toNat : Int) ∧ L = 3) ∨ (¬ (c.toNat : Int) < 48 ∧ ¬ 57 < (c.toNat : Int) ∧ L ≠ 3 ∧ 0 < L ∧ V = 0) ∨ (¬ (c.toNat : Int) < 48 ∧ ¬ 57 < (c.toNat : Int) ∧ L = 0) ∨ (¬ (c.toNat : Int) < 48 ∧ ¬ 57 < (c.toNat : Int) ∧ L ≠ 3 ∧ 0 < L ∧ V ≠ 0) by omega) with g1 | ⟨g1, g2⟩ | ⟨g1, g2, g3⟩ | ⟨g1, g2, g3, g4, g5⟩ | ⟨g1, g2, g3⟩ | ⟨g1, g2, g3, g4, g5⟩
          · have HE : Hid (v = ((0, 0, 0), 3)) := Lib.hid (by rw [← HV.out]; exact HRD.out.1 (.inl (by rw [HRD.out.2.2.1]; exact decide_eq_false (by omega))))
            go_wp2_with fail
            rw [HE.out]
            exact bodyPost_ret (v := .tuple #[.agg #[.int .i64 0, .int .i64 0, .int .i64 0], .int .i64 3]) (by simp [results, Tryz.results85, go_sem, z0, z1, z2]) rfl ⟨rfl, HBZ.out⟩
          · have HE : Hid (v = ((0, 0, 0), 3)) := Lib.hid (by rw [← HV.out]; exact HRD.out.1 (.inl (by rw [HRD.out.2.2.1]; exact decide_eq_false (by omega))))
            go_wp2_with fail
            rw [HE.out]
            exact bodyPost_ret (v := .tuple #[.agg #[.int .i64 0, .int .i64 0, .int .i64 0], .int .i64 3]) (by simp [results, Tryz.results85, go_sem, z0, z1, z2]) rfl ⟨rfl, HBZ.out⟩
          · have HE : Hid (v = ((0, 0, 0), 3)) := Lib.hid (by rw [← HV.out]; exact HRD.out.1 (.inr (.inl (by rw [HLL.out]; exact g3))))
            subst g3
            go_wp2_with fail
            rw [HE.out]
            exact bodyPost_ret (v := .tuple #[.agg #[.int .i64 0, .int .i64 0, .int .i64 0], .int .i64 3]) (by simp [results, Tryz.results85, go_sem, z0, z1, z2]) rfl ⟨rfl, HBZ.out⟩
          · have hcur : cur ≠ [] := fun h => by rw [h] at HLL; have := HLL.out; simp at this; omega
            have HE : Hid (v = ((0, 0, 0), 3)) := Lib.hid (by rw [← HV.out]; exact HRD.out.1 (.inr (.inr ⟨hcur, by rw [HVV.out]; exact g5⟩)))
            have g6 : ((L : Int) == 3) = false := by rw [beq_eq_false_iff_ne]; omega
            have g7 : 0 < (L : Int) := by omega
            subst g5
            clear hcur g3
            go_wp2_with fail
            rw [HE.out]
            exact bodyPost_ret (v := .tuple #[.agg #[.int .i64 0, .int .i64 0, .int .i64 0], .int .i64 3]) (by simp [results, Tryz.results85, go_sem, z0, z1, z2]) rfl ⟨rfl, HBZ.out⟩
          · have hcur : cur = [] := List.length_eq_zero_iff.1 (by rw [HLL.out]; exact g3)
            have HN := Lib.hid (HRD.out.2.1 (by rw [HRD.out.2.2.1]; exact decide_eq_true (by omega)) (by rw [HLL.out]; omega) (.inl hcur))
            have HW : Hid ((wordV (cur ++ [c]) : Int) = 10 * V + ((c.toNat : Int) - 48)) := Lib.hid (by
              have h1 : wordV (cur ++ [c]) = wordV cur * 10 + (c.toNat - 48) := HRD.out.2.2.2
              rw [h1, HVV.out]; omega)
            have HLN : Hid (((cur ++ [c]).length : Int) = (L : Int) + 1) := Lib.hid (by rw [List.length_append, HLL.out]; simp)
            subst g3
            clear hcur
            go_wp2_with fail
            go_roundw
            case rel => exact ⟨k + 1, done, cur ++ [c], .inl ⟨by omega, HN⟩, by go_num, by rw [HLN.out] <;> go_num, by rw [HW.out], HO, HZ, HB⟩
            case measure => simp [intOf]; omega
          · have HN := Lib.hid (HRD.out.2.1 (by rw [HRD.out.2.2.1]; exact decide_eq_true (by omega)) (by rw [HLL.out]; exact g3) (.inr (by rw [HVV.out]; exact g5)))
            have HW : Hid ((wordV (cur ++ [c]) : Int) = 10 * V + ((c.toNat : Int) - 48)) := Lib.hid (by
              have h1 : wordV (cur ++ [c]) = wordV cur * 10 + (c.toNat - 48) := HRD.out.2.2.2
              rw [h1, HVV.out]; omega)
            have HLN : Hid (((cur ++ [c]).length : Int) = (L : Int) + 1) := Lib.hid (by rw [List.length_append, HLL.out]; simp)
            have g6 : ((L : Int) == 3) = false := by rw [beq_eq_false_iff_ne]; omega
            have g7 : 0 < (L : Int) := by omega
            have g8 : ((V : Int) == 0) = false := by rw [beq_eq_false_iff_ne]; omega
            clear g3 g5
            go_wp2_with fail
            go_roundw
            case rel => exact ⟨k + 1, done, cur ++ [c], .inl ⟨by omega, HN⟩, by go_num, by rw [HLN.out] <;> go_num, by rw [HW.out], HO, HZ, HB⟩
            case measure => simp [intOf]; omega
      · obtain rfl : k = s.size := by omega
        obtain ⟨r1, r2⟩ := HR.out.stop
        by_cases hL0 : L = 0
        · have hcur : cur = [] := List.length_eq_zero_iff.1 (by have := HLL.out; omega)
          have HE : Hid (v = ((0, 0, 0), 3)) := Lib.hid (by rw [← HV.out]; exact r1 hcur)
          subst hL0
          clear r1 r2 hcur
          go_wp2_with fail
          rw [HE.out]
          exact bodyPost_ret (v := .tuple #[.agg #[.int .i64 0, .int .i64 0, .int .i64 0], .int .i64 3]) (by simp [results, Tryz.results85, go_sem, z0, z1, z2]) rfl ⟨rfl, HBZ.out⟩
        · have hcur : cur ≠ [] := fun h => hL0 (by rw [← HLL.out, h]; rfl)
          obtain ⟨r3, r4⟩ := r2 hcur
          have HN := Lib.hid (show (done ++ [cur]).length ≤ 1000001 ∧ dotsL s.data.toList = done ++ [cur] ∧ ∀ x ∈ dotsL s.data.toList, wordOk x = true from ⟨by simp; omega, r3, r4⟩)
          have hLe : ((L : Int) == 0) = false := by rw [beq_eq_false_iff_ne]; omega
          clear r1 r2 hcur r3 r4
          go_wp2_with (at_builtin; refine app_ints _ rfl _ _ (by rfl) (w.heap.size + 1) _ _ _ (by rfl) HO 1 [.int .i64 V] _ (by rfl) (by rfl) (by rfl) (by simp [Value.oneCell']) (by decide) (by omega) ?_; intro g cap w2 HO3 hb2)
          have HZ2 : Hid (w2.heap[w.heap.size]? = some (.cells #[.int .i64 0, .int .i64 0, .int .i64 0] 23 (0, 0))) := Lib.hid ((hb2.block _ (Nat.lt_succ_self _)).trans HZ.out)
          have HB2 : Hid (Below w.heap.size w w2) := Lib.hid (HB.out.trans (hb2.mono (Nat.le_succ _)))
          clear hb2
          go_wp2_with fail
          go_roundw
          case rel => exact ⟨s.size + 1, done ++ [cur], [], .inr ⟨rfl, rfl, HN⟩, by go_num, rfl, rfl, by rw [wVs_snoc, HVV.out, List.length_append]; exact HO3, HZ2, HB2⟩
          case measure => simp [intOf]
    · obtain ⟨hdl, hde, hdo⟩ := HR.out
      by_cases h3 : done.length = 3
      · obtain ⟨a, b, c, rfl⟩ : ∃ a b c, done = [a, b, c] := by
          match done, h3 with
          | [a, b, c], _ => exact ⟨a, b, c, rfl⟩
        have HE : Hid (v = (((wordV a : Int), (wordV b : Int), (wordV c : Int)), 0)) := Lib.hid (by rw [← HV.out]; exact parse_ok _ a b c hde hdo)
        obtain ⟨g, cap, rfl⟩ := HO.out.shape (by simp)
        have e0 : wr.cell? ⟨g, 0, none⟩ = some (.int .i64 (wordV a : Int)) := HO.out.cell 0 (by simp)
        have e1 : wr.cell? ⟨g, 1, none⟩ = some (.int .i64 (wordV b : Int)) := HO.out.cell 1 (by simp)
        have e2 : wr.cell? ⟨g, 2, none⟩ = some (.int .i64 (wordV c : Int)) := HO.out.cell 2 (by simp)
        simp only [List.length_cons, List.length_nil, Nat.reduceAdd]
        clear hdl hde hdo h3 HR HO
        go_wp2_with fail
        go_region
        all_goals
          go_wp2_with fail
          rw [HE.out]
          exact bodyPost_ret (v := .tuple #[.agg #[.int .i64 (wordV a), .int .i64 (wordV b), .int .i64 (wordV c)], .int .i64 0]) (by simp [results, Tryz.results85, go_sem, z0, z1, z2]) rfl ⟨rfl, by first | exact (((HB.out.drew.setCell (p := ⟨_, 0, none⟩) (Nat.le_refl _) _).setCell (p := ⟨_, 1, none⟩) (Nat.le_refl _) _).setCell (p := ⟨_, 2, none⟩) (Nat.le_refl _) _) | exact (((HB.out.setCell (p := ⟨_, 0, none⟩) (Nat.le_refl _) _).setCell (p := ⟨_, 1, none⟩) (Nat.le_refl _) _).setCell (p := ⟨_, 2, none⟩) (Nat.le_refl _) _).drew⟩
      · have HE : Hid (v = ((0, 0, 0), 3)) := Lib.hid (by rw [← HV.out]; exact parse_len _ (by rw [hde]; exact h3))
        have h4 : ((done.length : Int) != 3) = true := by simpa using (by omega : ¬ (done.length : Int) = 3)
        obtain ⟨g, cap, rfl⟩ := HO.out.shape (by rw [← hde]; exact List.length_pos_iff.2 (dotsL_ne _))
        clear hde hdo h3
        go_wp2_with fail
        rw [HE.out]
        exact bodyPost_ret (v := .tuple #[.agg #[.int .i64 0, .int .i64 0, .int .i64 0], .int .i64 3]) (by simp [results, Tryz.results85, go_sem, z0, z1, z2]) rfl ⟨rfl, HBZ.out⟩
end Go.Proofs.YtdhihdiifgcfdaaGreatDoor

namespace Go.Proofs.YtdhihdiifgcfdaaGreatDoor
open Go Go.RowKit

theorem dec_one (n : Int) (h0 : 0 ≤ n) (h : n < 10) : decL n = [UInt8.ofNat (48 + n.toNat)] := by unfold decL; rw [Lib.decDigits, dif_pos (by omega)]
theorem dec_more (n : Int) (h : 10 ≤ n) : decL n = decL (n / 10) ++ decL (n % 10) := by
  rw [dec_one (n % 10) (by omega) (by omega)]
  unfold decL
  rw [Lib.decDigits, dif_neg (by omega), show (n / 10).toNat = n.toNat / 10 by omega, show (n % 10).toNat = n.toNat % 10 by omega]
set_option maxRecDepth 100000 in
set_option maxHeartbeats 2000000 in
theorem rdec_one (n : Int) (w : World) (h0 : 0 ≤ n) (h : n < 10) : Calls Tryz.prog 133 #[.int .i64 n] w fun e w' => e = .returned (.string ⟨(decL n).toArray⟩) ∧ Below w.heap.size w w' := by
  have HE := Lib.hid (dec_one n h0 h)
  obtain ⟨b, hb⟩ : ∃ b : UInt8, UInt8.ofNat (48 + n.toNat) = b := ⟨_, rfl⟩
  have hbn : (b.toNat : Int) = 48 + n := by rw [← hb, UInt8.toNat_ofNat']; omega
  have hconv : (convert 100 9 (.slice (some ⟨w.heap.size, 0, none⟩) 1 1)).run Tryz.prog (w.alloc (.cells #[.int .u8 (48 + n)] 5)) = .ok (.string ⟨#[b]⟩) (w.alloc (.cells #[.int .u8 (48 + n)] 5)) := by
    rw [← hbn]
    exact conv_own 0 _ [b] _ (Lib.hid (Mine.new 5 1 0 1 [.int .u8 b.toNat] _ w (Nat.zero_le _) rfl rfl (by decide)).out)
  have HB := Lib.hid hb
  clear hb hbn
  go_enter Tryz.func133, Tryz.ntmps133
  go_wp2_with fail
  go_ret
  exact ⟨by rw [HE.out, HB.out]; rfl, (Below.refl _ _).alloc (Nat.le_refl _) _⟩
theorem ret_str {a b : ByteArray} (h : a = b) : Ending.returned (.string a) = Ending.returned (.string b) := by rw [h]
set_option maxRecDepth 100000 in
set_option maxHeartbeats 2000000 in
theorem rdec_step (N : Int) (hN : N ≤ 1000) (hN2 : 10 ≤ N) (H : ∀ (m : Int) (W : World), 0 ≤ m → m < N → Calls Tryz.prog 133 #[.int .i64 m] W fun e w' => e = .returned (.string ⟨(decL m).toArray⟩) ∧ Below W.heap.size W w')
    (n : Int) (w : World) (h0 : 10 ≤ n) (h : n < 10 * N) (h2 : n ≤ 999) : Calls Tryz.prog 133 #[.int .i64 n] w fun e w' => e = .returned (.string ⟨(decL n).toArray⟩) ∧ Below w.heap.size w w' := by
  have HE := Lib.hid (dec_more n h0)
  have HA := Lib.hid (fun W => H (n / 10) W (by omega) (by omega))
  have HB := Lib.hid (fun W => H (n % 10) W (by omega) (by omega))
  obtain ⟨sa, hsa⟩ : ∃ s : ByteArray, (⟨(decL (n / 10)).toArray⟩ : ByteArray) = s := ⟨_, rfl⟩
  obtain ⟨sb, hsb⟩ : ∃ s : ByteArray, (⟨(decL (n % 10)).toArray⟩ : ByteArray) = s := ⟨_, rfl⟩
  have l1 : sa.size ≤ 3 := by rw [← hsa, Lib.size_eq]; exact decL_len _ (by omega)
  have l2 : sb.size ≤ 3 := by rw [← hsb, Lib.size_eq]; exact decL_len _ (by omega)
  have HR := Lib.hid (show (⟨(decL n).toArray⟩ : ByteArray) = sa ++ sb from ba_ext (by
    rw [HE.out, ByteArray.data_append, Array.toList_append, ← hsa, ← hsb]))
  rw [hsa] at HA
  rw [hsb] at HB
  have hno : ¬ 9223372036854775807 < sa.size + sb.size := by omega
  have g0 : ¬ n < 10 := by omega
  have g1 : 0 ≤ n := by omega
  clear hsa hsb H
  go_enter Tryz.func133, Tryz.ntmps133
  go_wp2_with fail
  (with_reducible refine (HA.out _).mono ?_)
  rintro e w1 ⟨rfl, hb1⟩
  have HB1 := Lib.hid hb1
  clear hb1
  go_wp2_with fail
  (with_reducible refine (HB.out _).mono ?_)
  rintro e w2 ⟨rfl, hb2⟩
  have HB2 : Hid (Below w.heap.size w w2) := Lib.hid (HB1.out.trans (hb2.mono HB1.out.size))
  clear hb2
  go_wp2_with fail
  go_ret
  exact ⟨(ret_str HR.out).symm ▸ rfl, HB2.out⟩
theorem decimal_any (n : Int) (w : World) (h0 : 0 ≤ n) (h1 : n ≤ 999) : Calls Tryz.prog 133 #[.int .i64 n] w fun e w' => e = .returned (.string ⟨(decL n).toArray⟩) ∧ Below w.heap.size w w' := by
  have H1 : ∀ (m : Int) (W : World), 0 ≤ m → m < 10 → Calls Tryz.prog 133 #[.int .i64 m] W fun e w' => e = .returned (.string ⟨(decL m).toArray⟩) ∧ Below W.heap.size W w' := fun m W a b => rdec_one m W a b
  have H2 : ∀ (m : Int) (W : World), 0 ≤ m → m < 100 → Calls Tryz.prog 133 #[.int .i64 m] W fun e w' => e = .returned (.string ⟨(decL m).toArray⟩) ∧ Below W.heap.size W w' := fun m W a b => by
    by_cases hm : m < 10
    · exact H1 m W a hm
    · exact rdec_step 10 (by omega) (by omega) H1 m W (by omega) (by omega) (by omega)
  by_cases hm : n < 100
  · exact H2 n w h0 hm
  · exact rdec_step 100 (by omega) (by omega) H2 n w (by omega) (by omega) h1
end Go.Proofs.YtdhihdiifgcfdaaGreatDoor

namespace Go.Proofs.YtdhihdiifgcfdaaGreatDoor
open Go Go.RowKit
attribute [local go_sem ↓] Go.wp_at_zero Go.wp_at_succ

theorem keep3 {W w' : World} {B : Nat} {a b c : Value} (hz : B < W.heap.size) (e0 : W.cell? ⟨B, 0, none⟩ = some a) (e1 : W.cell? ⟨B, 1, none⟩ = some b) (e2 : W.cell? ⟨B, 2, none⟩ = some c) (h : Below W.heap.size W w') :
    w'.cell? ⟨B, 0, none⟩ = some a ∧ w'.cell? ⟨B, 1, none⟩ = some b ∧ w'.cell? ⟨B, 2, none⟩ = some c := ⟨(h.cell hz).trans e0, (h.cell hz).trans e1, (h.cell hz).trans e2⟩
theorem sz_app (x y : ByteArray) : (x ++ y).size = x.size + y.size := by
  rw [Lib.size_eq, ByteArray.data_append, Array.toList_append, List.length_append, ← Lib.size_eq, ← Lib.size_eq]
set_option maxRecDepth 100000 in
set_option maxHeartbeats 4000000 in
theorem rFormat_any (a b c : Int) (w : World) : Calls Tryz.prog 107 #[.agg #[.int .i64 a, .int .i64 b, .int .i64 c]] w fun e w' =>
    e = .returned (.tuple #[.string ⟨(formatV a b c).1.toArray⟩, .int .i64 (formatV a b c).2]) ∧ Below w.heap.size w w' := by
  by_cases hv : validB a b c = true
  · have HE := Lib.hid (show formatV a b c = (fmtL a b c, 0) by unfold formatV; rw [if_pos hv])
    rw [HE.out]
    obtain ⟨⟨a0, a1⟩, ⟨b0, b1⟩, c0, c1⟩ := valid_le hv
    have HV := Lib.hid (rValid_any a b c)
    rw [hv] at HV
    have HA := Lib.hid (fun W => decimal_any a W a0 a1)
    have HB := Lib.hid (fun W => decimal_any b W b0 b1)
    have HC := Lib.hid (fun W => decimal_any c W c0 c1)
    obtain ⟨sa, hsa⟩ : ∃ s : ByteArray, (⟨(decL a).toArray⟩ : ByteArray) = s := ⟨_, rfl⟩
    obtain ⟨sb, hsb⟩ : ∃ s : ByteArray, (⟨(decL b).toArray⟩ : ByteArray) = s := ⟨_, rfl⟩
    obtain ⟨sc, hsc⟩ : ∃ s : ByteArray, (⟨(decL c).toArray⟩ : ByteArray) = s := ⟨_, rfl⟩
    have l1 : sa.size ≤ 3 := by rw [← hsa, Lib.size_eq]; exact decL_len _ a1
    have l2 : sb.size ≤ 3 := by rw [← hsb, Lib.size_eq]; exact decL_len _ b1
    have l3 : sc.size ≤ 3 := by rw [← hsc, Lib.size_eq]; exact decL_len _ c1
    have HR := Lib.hid (show sa ++ ⟨#[46]⟩ ++ sb ++ ⟨#[46]⟩ ++ sc = (⟨(fmtL a b c).toArray⟩ : ByteArray) from ba_ext (by
      rw [← hsa, ← hsb, ← hsc]; simp only [ByteArray.data_append, Array.toList_append]; simp [fmtL]))
    rw [hsa] at HA
    rw [hsb] at HB
    rw [hsc] at HC
    have d1 : (⟨#[46]⟩ : ByteArray).size = 1 := rfl
    have s1 : (sa ++ (⟨#[46]⟩ : ByteArray)).size = sa.size + 1 := by rw [sz_app, d1]
    have s2 : (sa ++ (⟨#[46]⟩ : ByteArray) ++ sb).size = sa.size + 1 + sb.size := by rw [sz_app, s1]
    have s3 : (sa ++ (⟨#[46]⟩ : ByteArray) ++ sb ++ (⟨#[46]⟩ : ByteArray)).size = sa.size + 1 + sb.size + 1 := by rw [sz_app, s2, d1]
    have n1 : ¬ 9223372036854775807 < sa.size + 1 := by omega
    have n1b : ¬ 9223372036854775806 < sa.size := by omega
    have n2 : ¬ 9223372036854775807 < sa.size + 1 + sb.size := by omega
    have n3 : ¬ 9223372036854775807 < sa.size + 1 + sb.size + 1 := by omega
    have n3b : ¬ 9223372036854775806 < sa.size + 1 + sb.size := by omega
    have n4 : ¬ 9223372036854775807 < sa.size + 1 + sb.size + 1 + sc.size := by omega
    clear hsa hsb hsc
    go_enter Tryz.func107, Tryz.ntmps107
    go_wp2_with fail
    (with_reducible refine (HV.out _).mono ?_)
    rintro e w1 ⟨rfl, rfl⟩
    go_wp2_with fail
    obtain ⟨W, hW⟩ : ∃ W, (w.alloc (.cells #[.int .i64 a, .int .i64 b, .int .i64 c] 23)).alloc (.cells #[.int .i64 a, .int .i64 b, .int .i64 c] 23) = W := ⟨_, rfl⟩
    rw [hW]
    have HB0 : Hid (Below w.heap.size w W) := Lib.hid (by rw [← hW]; exact (by repeat (first | exact Below.refl _ _ | refine Below.drew ?_ | refine Below.alloc ?_ (by simp <;> omega) _ | refine Below.setCell ?_ (by simp <;> omega) _)))
    have e0 : W.cell? ⟨w.heap.size, 0, none⟩ = some (.int .i64 a) := by rw [← hW]; simp [go_sem]
    have e1 : W.cell? ⟨w.heap.size, 1, none⟩ = some (.int .i64 b) := by rw [← hW]; simp [go_sem]
    have e2 : W.cell? ⟨w.heap.size, 2, none⟩ = some (.int .i64 c) := by rw [← hW]; simp [go_sem]
    have hz : w.heap.size < W.heap.size := by rw [← hW]; simp; omega
    clear hW
    have HBC : Hid (Below W.heap.size W W) := Lib.hid (Below.refl _ _)
    have tok1 : True := trivial
    have tok2 : True := trivial
    have tok3 : True := trivial
    go_region_held3 (fun w' => w'.cell? ⟨w.heap.size, 0, none⟩ = some (.int .i64 a) ∧ w'.cell? ⟨w.heap.size, 1, none⟩ = some (.int .i64 b) ∧ w'.cell? ⟨w.heap.size, 2, none⟩ = some (.int .i64 c))
      ((first | (exact keep3 hz e0 e1 e2 HBC.out) | (exact keep3 hz e0 e1 e2 HBC.out.drew)))
      (first | (go_at_call_of 133 (Value.int IntKind.i64 a); refine (HA.out _).mono ?_; rintro e wq ⟨rfl, hbc⟩; (first | (replace HBC := Lib.hid (HBC.out.trans (hbc.mono HBC.out.size))) | (replace HBC := Lib.hid (HBC.out.drew.trans (hbc.mono HBC.out.size)))); clear hbc)
             | (go_at_call_of 133 (Value.int IntKind.i64 b); refine (HB.out _).mono ?_; rintro e wq ⟨rfl, hbc⟩; (first | (replace HBC := Lib.hid (HBC.out.trans (hbc.mono HBC.out.size))) | (replace HBC := Lib.hid (HBC.out.drew.trans (hbc.mono HBC.out.size)))); clear hbc)
             | (go_at_call_of 133 (Value.int IntKind.i64 c); refine (HC.out _).mono ?_; rintro e wq ⟨rfl, hbc⟩; (first | (replace HBC := Lib.hid (HBC.out.trans (hbc.mono HBC.out.size))) | (replace HBC := Lib.hid (HBC.out.drew.trans (hbc.mono HBC.out.size)))); clear hbc))
    all_goals
      go_wp2_with fail
      go_ret2
      exact ⟨by rw [← HR.out]; rfl, HB0.out.trans (HBC.out.mono HB0.out.size)⟩
  · have hv : validB a b c = false := by simpa using hv
    have HE := Lib.hid (show formatV a b c = ([], 2) by unfold formatV; rw [hv]; rfl)
    rw [HE.out]
    have HV := Lib.hid (rValid_any a b c)
    rw [hv] at HV
    go_enter Tryz.func107, Tryz.ntmps107
    go_wp2_with fail
    (with_reducible refine (HV.out _).mono ?_)
    rintro e w1 ⟨rfl, rfl⟩
    go_wp2_with fail
    go_ret2
    exact ⟨rfl, (by repeat (first | exact Below.refl _ _ | refine Below.drew ?_ | refine Below.alloc ?_ (by simp <;> omega) _ | refine Below.setCell ?_ (by simp <;> omega) _))⟩
end Go.Proofs.YtdhihdiifgcfdaaGreatDoor

namespace Go.Proofs.YtdhihdiifgcfdaaGreatDoor
set_option linter.unusedVariables false
set_option linter.unusedSimpArgs false
open Go Go.RowKit

/-- the values of some strings. -/
def strVs (l : List (List UInt8)) : List Value := l.map fun x => .string ⟨x.toArray⟩
theorem strVs_bars (s : ByteArray) : strVs (barsL s.data.toList) = (barB s).map Value.string := by
  unfold strVs barB; rw [List.map_map]; rfl
/-- what is behind the last bar, and what is ahead of it. -/
def barHd (l : List UInt8) : List (List UInt8) := (barsL l).dropLast
def barTl (l : List UInt8) : List UInt8 := (barsL l).getLast (barsL_ne l)
theorem bar_both (l : List UInt8) : barsL l = barHd l ++ [barTl l] := (List.dropLast_concat_getLast (barsL_ne l)).symm
theorem barTl_bar (l : List UInt8) : barHd (l ++ [124]) = barHd l ++ [barTl l] ∧ barTl (l ++ [124]) = [] := by
  have h := barsL_snoc_bar l
  rw [bar_both (l ++ [124]), bar_both l] at h
  exact ⟨List.append_inj_left' h rfl, (List.cons.inj (List.append_inj_right' h rfl)).1⟩
theorem barTl_other (l : List UInt8) (c : UInt8) (hc : c ≠ 124) : barHd (l ++ [c]) = barHd l ∧ barTl (l ++ [c]) = barTl l ++ [c] := by
  have h := barsL_snoc_other l c hc
  rw [bar_both (l ++ [c])] at h
  exact ⟨List.append_inj_left' h rfl, (List.cons.inj (List.append_inj_right' h rfl)).1⟩
/-- the state of the reference's Split. -/
def SplR (s : ByteArray) (k f : Nat) : Prop := f ≤ k ∧ k ≤ s.size ∧ s.data.toList.take k = s.data.toList.take f ++ barTl (s.data.toList.take k)
theorem SplR.start (s : ByteArray) : SplR s 0 0 := ⟨Nat.le_refl _, Nat.zero_le _, rfl⟩
theorem SplR.cut {s : ByteArray} {k f : Nat} (h : SplR s k f) : (s.extract f k) = ⟨(barTl (s.data.toList.take k)).toArray⟩ := by
  obtain ⟨h1, h2, h3⟩ := h
  rw [Lib.extract_eq]
  have hl : (s.data.toList.take f).length = f := by rw [List.length_take, ← Lib.size_eq]; omega
  have : (s.data.toList.take k).drop f = (s.data.toList.take f ++ barTl (s.data.toList.take k)).drop f := by rw [← h3]
  rw [List.drop_left' hl, List.drop_take] at this
  rw [this]
theorem take_byte {s : ByteArray} {k : Nat} (h : k < s.size) : s.data.toList.take (k + 1) = s.data.toList.take k ++ [s[k]] := by
  rw [List.take_succ_eq_append_getElem (by simpa using h)]; rfl
theorem SplR.bar {s : ByteArray} {k f : Nat} (h : SplR s k f) (hk : k < s.size) (hc : s[k] = 124) : SplR s (k + 1) (k + 1) ∧ barHd (s.data.toList.take (k + 1)) = barHd (s.data.toList.take k) ++ [barTl (s.data.toList.take k)] := by
  have e := take_byte hk
  rw [hc] at e
  obtain ⟨g1, g2⟩ := barTl_bar (s.data.toList.take k)
  rw [← e] at g1 g2
  exact ⟨⟨Nat.le_refl _, hk, by rw [g2, List.append_nil]⟩, g1⟩
theorem SplR.other {s : ByteArray} {k f : Nat} (h : SplR s k f) (hk : k < s.size) (hc : s[k] ≠ 124) : SplR s (k + 1) f ∧ barHd (s.data.toList.take (k + 1)) = barHd (s.data.toList.take k) := by
  obtain ⟨h1, h2, h3⟩ := h
  have e := take_byte hk
  obtain ⟨g1, g2⟩ := barTl_other (s.data.toList.take k) s[k] hc
  rw [← e] at g1 g2
  refine ⟨⟨by omega, hk, ?_⟩, g1⟩
  rw [g2, ← List.append_assoc, ← h3, e]
theorem barHd_len (l : List UInt8) : (barHd l).length ≤ l.length := by
  have := barsL_length l
  unfold barHd
  rw [List.length_dropLast]
  omega
theorem strVs_snoc (l : List (List UInt8)) (x : List UInt8) : strVs (l ++ [x]) = strVs l ++ [.string ⟨x.toArray⟩] := by unfold strVs; simp
theorem byte_ne {c d : UInt8} (h : c ≠ d) : ((c.toNat : Int) == (d.toNat : Int)) = false := by
  rw [beq_eq_false_iff_ne]
  intro e
  exact h (UInt8.toNat_inj.1 (by omega))
theorem byte_eq {c d : UInt8} (h : c = d) : ((c.toNat : Int) == (d.toNat : Int)) = true := by rw [h]; exact beq_self_eq_true _
set_option maxRecDepth 100000 in
set_option maxHeartbeats 4000000 in
theorem rSplit_any (s : ByteArray) (w : World) (hs : s.size ≤ 1000000) :
    Calls Tryz.prog 52 #[.string s, .int .u8 124] w fun e w' => ∃ v, e = .returned v ∧ Mine 9 1 w.heap.size v (barB s).length ((barB s).map Value.string) w' ∧ Below w.heap.size w w' := by
  have HF : Hid (strVs (barsL s.data.toList) = (barB s).map Value.string ∧ (barsL s.data.toList).length = (barB s).length) := Lib.hid ⟨strVs_bars s, by unfold barB; rw [List.length_map]⟩
  have HN0 : Hid (Mine 9 1 w.heap.size (.slice (some ⟨w.heap.size, 0, none⟩) 0 0) 0 [] (w.alloc (.cells #[] 9))) := Mine.new _ _ _ _ _ _ _ (Nat.le_refl _) rfl rfl (by decide)
  have HSZ := Lib.hid (Lib.size_eq s)
  go_enter Tryz.func52, Tryz.ntmps52
  go_wp2_with fail
  go_loopw [5, 6, 7] (fun o fr p wr => ∃ (k f : Nat), p = .int .i64 k ∧ fr = .int .i64 f ∧ ((k ≤ s.size ∧ Hid (SplR s k f) ∧ Hid (Mine 9 1 w.heap.size o (barHd (s.data.toList.take k)).length (strVs (barHd (s.data.toList.take k))) wr)) ∨ (k = s.size + 1 ∧ Hid (Mine 9 1 w.heap.size o (barsL s.data.toList).length (strVs (barsL s.data.toList)) wr))) ∧ Hid (Below w.heap.size w wr)) (fun _ _ p _ => s.size + 1 - (intOf p).toNat)
  case atStart => exact ⟨0, 0, rfl, rfl, .inl ⟨Nat.zero_le _, Lib.hid (SplR.start s), HN0⟩, Lib.hid ((Below.refl _ _).alloc (Nat.le_refl _) _)⟩
  case round =>
    clear HN0
    obtain ⟨k, f, rfl, rfl, hcase, HB⟩ := hrel
    rcases hcase with ⟨hk, HR, HO⟩ | ⟨hk, HO⟩
    · have hfk := HR.out.1
      have hbl := barHd_len (s.data.toList.take k)
      rw [List.length_take, ← Lib.size_eq] at hbl
      by_cases hlt : k < s.size
      · have hne : ((k : Int) == (s.size : Int)) = false := by simp; omega
        have hki : (k : Int) ≤ (s.size : Int) := by omega
        by_cases hc : s[k] = 124
        · obtain ⟨g1, g2⟩ := HR.out.bar hlt hc
          have HR2 := Lib.hid g1
          have HG2 := Lib.hid g2
          have HCT := Lib.hid HR.out.cut
          obtain ⟨t, ht⟩ : ∃ t, s.extract f k = t := ⟨_, rfl⟩
          have HT := Lib.hid ht
          have hcc : ((s[k].toNat : Int) == 124) = true := byte_eq (d := 124) hc
          generalize barHd (s.data.toList.take k) = hd at *
          generalize hcs : s[k] = c at *
          clear g1 g2 hc
          have hfi : (f : Int) ≤ (k : Int) := by omega
          go_wp2_with (at_builtin; refine app_strs _ rfl _ _ (by rfl) w.heap.size _ _ _ (by rfl) HO 1 [.string t] _ (by rfl) (by rfl) (by rfl) (by simp [Value.oneCell']) (by decide) (by omega) ?_; intro g cap w2 HO2 hb2; have HB2 := Lib.hid (HB.out.trans hb2); clear hb2)
          go_roundw
          case rel =>
            refine ⟨k + 1, k + 1, by go_num, by go_num, .inl ⟨by omega, HR2, ?_⟩, HB2⟩
            rw [HG2.out, strVs_snoc, List.length_append, ← HCT.out, HT.out]
            exact HO2
          case measure => simp [intOf]; omega
        · obtain ⟨g1, g2⟩ := HR.out.other hlt hc
          have HR2 := Lib.hid g1
          have HG2 := Lib.hid g2
          have hcc : ((s[k].toNat : Int) == 124) = false := byte_ne (d := 124) hc
          generalize hcs : s[k] = c at *
          clear g1 g2 hc
          go_wp2_with fail
          go_roundw
          case rel => exact ⟨k + 1, f, by go_num, rfl, .inl ⟨by omega, HR2, by rw [HG2.out]; exact HO⟩, HB⟩
          case measure => simp [intOf]; omega
      · obtain rfl : k = s.size := by omega
        have hne : ((s.size : Int) == (s.size : Int)) = true := by simp
        have HCT := Lib.hid HR.out.cut
        have HTK : Hid (s.data.toList.take s.size = s.data.toList) := Lib.hid (by rw [Lib.size_eq, List.take_length])
        obtain ⟨t, ht⟩ : ∃ t, s.extract f s.size = t := ⟨_, rfl⟩
        have HT := Lib.hid ht
        have HG2 : Hid (barsL s.data.toList = barHd (s.data.toList.take s.size) ++ [barTl (s.data.toList.take s.size)]) := Lib.hid (by rw [HTK.out]; exact bar_both _)
        generalize barHd (s.data.toList.take s.size) = hd at *
        have hfi : (f : Int) ≤ (s.size : Int) := by omega
        go_wp2_with (at_builtin; refine app_strs _ rfl _ _ (by rfl) w.heap.size _ _ _ (by rfl) HO 1 [.string t] _ (by rfl) (by rfl) (by rfl) (by simp [Value.oneCell']) (by decide) (by omega) ?_; intro g cap w2 HO2 hb2; have HB2 := Lib.hid (HB.out.trans hb2); clear hb2)
        go_roundw
        case rel =>
          refine ⟨s.size + 1, s.size + 1, by go_num, by go_num, .inr ⟨rfl, ?_⟩, HB2⟩
          rw [HG2.out, strVs_snoc, List.length_append, ← HCT.out, HT.out]
          exact HO2
        case measure => simp [intOf]
    · subst hk
      have hlt : ¬ ((s.size : Int) + 1 ≤ (s.size : Int)) := by omega
      go_wp2_with fail
      go_ret
      refine ⟨_, rfl, ?_, HB.out⟩
      have := HO.out
      rw [HF.out.1, HF.out.2] at this
      exact this
theorem head_byte {t : ByteArray} (h : 0 < t.size) : t.data.toList = t[0] :: t.data.toList.drop 1 := by
  have hl : 0 < t.data.toList.length := by rw [← Lib.size_eq]; exact h
  have := List.drop_eq_getElem_cons hl
  rw [List.drop_zero] at this
  exact this
theorem last_byte {t : ByteArray} {n : Nat} (h : t.size = n + 1) : t.data.toList = t.data.toList.take n ++ [t[n]'(by omega)] := by
  have := take_byte (s := t) (k := n) (by omega)
  rw [show n + 1 = t.data.toList.length by rw [← Lib.size_eq, h], List.take_length] at this
  exact this
theorem mk_self (t : ByteArray) : (⟨t.data.toList.toArray⟩ : ByteArray) = t := by cases t; simp
theorem head_take {l : List UInt8} {n : Nat} (h : l.head? ≠ some 32) : (l.take n).head? ≠ some 32 := by
  cases n with
  | zero => simp
  | succ n =>
    cases l with
    | nil => simp
    | cons c r => simpa using h
set_option maxRecDepth 100000 in
set_option maxHeartbeats 4000000 in
theorem rTrim_any (s : ByteArray) (w : World) (hs : s.size ≤ 1000000) :
    Calls Tryz.prog 54 #[.string s] w fun e w' => e = .returned (.string ⟨(Lib.trimB s.data.toList 32).toArray⟩) ∧ w = w' := by
  obtain ⟨r, hr⟩ : ∃ r, Lib.trimB s.data.toList 32 = r := ⟨_, rfl⟩
  rw [hr]
  have HR := Lib.hid hr
  clear hr
  go_enter Tryz.func54, Tryz.ntmps54
  go_wp2_with fail
  go_loop [0] (fun o => ∃ t : ByteArray, o = .string t ∧ t.size ≤ s.size ∧ Hid (Lib.trimB t.data.toList 32 = r)) (fun o => Lib.strSize o)
  case atStart => exact ⟨s, rfl, Nat.le_refl _, HR⟩
  case round =>
    clear HR
    obtain ⟨t, rfl, ht, HT⟩ := hrel
    by_cases hgo : ∃ h : 0 < t.size, t[0] = 32
    · obtain ⟨h0, hc⟩ := hgo
      have h0i : (0 : Int) < (t.size : Int) := by omega
      have HE1 := Lib.hid (Lib.extract_to_end t 1)
      have HL := Lib.hid (head_byte h0)
      have hcc : ((t[0].toNat : Int) == 32) = true := byte_eq (d := 32) hc
      have HT2 : Hid (Lib.trimB (t.extract 1 t.size).data.toList 32 = r) := Lib.hid (by rw [HE1.out, ← HT.out]; conv => rhs; rw [HL.out, hc, trim_cons])
      have hsz : (t.extract 1 t.size).size = t.size - 1 := by rw [Lib.size_eq, HE1.out, List.length_drop, ← Lib.size_eq]
      clear HL HE1
      generalize hcs : t[0] = c at *
      obtain ⟨q, hq⟩ : ∃ q, t.extract 1 t.size = q := ⟨_, rfl⟩
      rw [hq] at HT2 hsz
      have hq1 : q.size ≤ s.size := by omega
      have hq2 : q.size < t.size := by omega
      clear hsz hc
      go_wp2_with fail
      go_round
      case rel => exact ⟨q, by first | rfl | (rw [hq]), hq1, HT2⟩
      case measure => simp only [Lib.strSize_string]; first | exact hq2 | (rw [hq]; exact hq2)
    · have HH : Hid (t.data.toList.head? ≠ some 32) := Lib.hid (by
        by_cases h0 : 0 < t.size
        · rw [head_byte h0]
          exact fun e => hgo ⟨h0, by simpa using e⟩
        · have : t.data.toList = [] := List.eq_nil_of_length_eq_zero (by rw [← Lib.size_eq]; omega)
          rw [this]; simp)
      have hcase : t.size = 0 ∨ ∃ h : 0 < t.size, ((t[0].toNat : Int) == 32) = false := by
        by_cases h0 : 0 < t.size
        · exact .inr ⟨h0, byte_ne (d := 32) (fun e => hgo ⟨h0, e⟩)⟩
        · exact .inl (by omega)
      clear hgo
      rcases hcase with h0 | ⟨h0, hcc⟩
      all_goals
        try (have h0i : (0 : Int) < (t.size : Int) := by omega)
        try (generalize hcs : t[0] = c at *)
        go_wp2_with fail
        go_loop [0] (fun o => ∃ q : ByteArray, o = .string q ∧ q.size ≤ s.size ∧ Hid (Lib.trimB q.data.toList 32 = r) ∧ Hid (q.data.toList.head? ≠ some 32)) (fun o => Lib.strSize o)
        case atStart => exact ⟨t, rfl, ht, HT, HH⟩
        case round =>
          clear HT HH ht
          obtain ⟨q, rfl, hq, HQ, HQH⟩ := hrel
          by_cases hgo : ∃ (n : Nat) (h : q.size = n + 1), q[n]'(by omega) = 32
          · obtain ⟨n, hn, hc⟩ := hgo
            have HL := Lib.hid (last_byte hn)
            have g3 : n < q.size := by omega
            have hcc2 : (((q[n]'g3).toNat : Int) == 32) = true := byte_eq (d := 32) hc
            have HE1 : Hid ((q.extract 0 n).data.toList = q.data.toList.take n) := Lib.hid (by rw [Lib.extract_upto])
            have HT2 : Hid (Lib.trimB (q.extract 0 n).data.toList 32 = r) := Lib.hid (by rw [HE1.out, ← HQ.out]; conv => rhs; rw [HL.out, hc, trim_snoc])
            have HH2 : Hid ((q.extract 0 n).data.toList.head? ≠ some 32) := Lib.hid (by rw [HE1.out]; exact head_take HQH.out)
            have hsz : (q.extract 0 n).size = n := by rw [Lib.size_eq, HE1.out, List.length_take, ← Lib.size_eq, hn]; omega
            have g1 : (0 : Int) < (q.size : Int) := by omega
            have g2 : IntKind.i64.wrap ((q.size : Int) - 1) = (n : Int) := by rw [IntWalk.i64_in _ (by omega)]; omega
            have g4 : (n : Int) < (q.size : Int) := by omega
            have g5 : (n : Int) ≤ (q.size : Int) := by omega
            obtain ⟨u, hu⟩ : ∃ u, q.extract 0 n = u := ⟨_, rfl⟩
            rw [hu] at HT2 HH2 hsz
            have hq1 : u.size ≤ s.size := by omega
            have hq2 : u.size < q.size := by omega
            clear hsz hc HL HE1 hn
            generalize hcs : q[n]'g3 = c at *
            go_wp2_with fail
            go_round
            case rel => exact ⟨u, by first | rfl | (rw [hu]), hq1, HT2, HH2⟩
            case measure => simp only [Lib.strSize_string]; first | exact hq2 | (rw [hu]; exact hq2)
          · have HD : Hid (q.data.toList = r) := Lib.hid (by
              rw [← HQ.out, trim_done _ HQH.out]
              rcases Nat.eq_zero_or_pos q.size with h1 | h1
              · have : q.data.toList = [] := List.eq_nil_of_length_eq_zero (by rw [← Lib.size_eq]; omega)
                rw [this]; simp
              · obtain ⟨n, hn⟩ : ∃ n, q.size = n + 1 := ⟨q.size - 1, by omega⟩
                rw [last_byte hn, List.getLast?_concat]
                exact fun e => hgo ⟨n, hn, by simpa using e⟩)
            have hcase2 : q.size = 0 ∨ ∃ (n : Nat) (_ : q.size = n + 1) (g3 : n < q.size), (((q[n]'g3).toNat : Int) == 32) = false := by
              rcases Nat.eq_zero_or_pos q.size with h1 | h1
              · exact .inl h1
              · obtain ⟨n, hn⟩ : ∃ n, q.size = n + 1 := ⟨q.size - 1, by omega⟩
                exact .inr ⟨n, hn, by omega, byte_ne (d := 32) (fun e => hgo ⟨n, hn, e⟩)⟩
            clear hgo
            rcases hcase2 with h1 | ⟨n, hn, g3, hcc2⟩
            · go_wp2_with fail
              go_ret
              exact ⟨by rw [← HD.out, mk_self]; rfl, rfl⟩
            · have g1 : (0 : Int) < (q.size : Int) := by omega
              have g2 : IntKind.i64.wrap ((q.size : Int) - 1) = (n : Int) := by rw [IntWalk.i64_in _ (by omega)]; omega
              have g4 : (n : Int) < (q.size : Int) := by omega
              clear hn
              generalize hcs : q[n]'g3 = c at *
              go_wp2_with fail
              go_ret
              exact ⟨by rw [← HD.out, mk_self]; rfl, rfl⟩
theorem occ_two {s : ByteArray} {k : Nat} (h : k + 1 < s.size) : Lib.occAt s.data.toList [46, 46] k = (decide (s[k] = 46) && decide (s[k + 1] = 46)) := by
  unfold Lib.occAt
  have hl : k + 1 < s.data.toList.length := by rw [← Lib.size_eq]; exact h
  rw [List.drop_eq_getElem_cons (by omega), List.drop_eq_getElem_cons hl]
  have e1 : s.data.toList[k]'(by omega) = s[k] := by simp; rfl
  have e2 : s.data.toList[k + 1] = s[k + 1] := by simp; rfl
  rw [e1, e2]
  simp only [List.isPrefixOf, Bool.and_true]
  rw [Bool.eq_iff_iff]
  simp only [Bool.and_eq_true, beq_iff_eq, decide_eq_true_eq]
  exact ⟨fun ⟨a, b⟩ => ⟨a.symm, b.symm⟩, fun ⟨a, b⟩ => ⟨a.symm, b.symm⟩⟩
set_option maxRecDepth 100000 in
set_option maxHeartbeats 4000000 in
theorem dots_any (s : ByteArray) (w : World) (hs : s.size ≤ 1000000) :
    Calls Tryz.prog 84 #[.string s] w fun e w' => e = .returned (.int .i64 (Lib.index s.data.toList [46, 46])) ∧ w = w' := by
  have HSZ := Lib.hid (Lib.size_eq s)
  obtain ⟨r, hr⟩ : ∃ r, Lib.index s.data.toList [46, 46] = r := ⟨_, rfl⟩
  rw [hr]
  have HR := Lib.hid hr
  clear hr
  go_enter Tryz.func84, Tryz.ntmps84
  go_wp2_with fail
  go_loop [3] (fun p => ∃ k : Nat, p = .int .i64 k ∧ k ≤ s.size ∧ Hid (Lib.NoOcc s.data.toList [46, 46] k)) (fun p => s.size - (intOf p).toNat)
  case atStart => exact ⟨0, rfl, Nat.zero_le _, Lib.hid (Lib.NoOcc.zero _ _)⟩
  case round =>
    obtain ⟨k, rfl, hk, HN⟩ := hrel
    by_cases hlt : k + 1 < s.size
    · have HO := Lib.hid (occ_two hlt)
      have hk1 : IntKind.i64.wrap ((k : Int) + 1) = ((k + 1 : Nat) : Int) := by rw [IntWalk.i64_in _ (by omega)]; omega
      have hk2 : ((k : Int) + 1).toNat = k + 1 := by omega
      have hlt2 : (k : Int) + 1 < (s.size : Int) := by omega
      have HY : Hid (s[k] = 46 → s[k + 1] = 46 → r = (k : Int)) := Lib.hid (fun h1 h2 => by
        rw [← HR.out]
        exact Lib.index_hit HN.out (by rw [← HSZ.out]; exact hk) (by rw [HO.out, h1, h2]; rfl))
      have HNO : Hid (¬ (s[k] = 46 ∧ s[k + 1] = 46) → Lib.NoOcc s.data.toList [46, 46] (k + 1)) := Lib.hid (fun h => HN.out.succ (by
        rw [HO.out, ← Bool.not_eq_true, Bool.and_eq_true, decide_eq_true_eq, decide_eq_true_eq]
        exact h))
      clear HO
      have hb1 : ((k : Int) + 1) < (s.size : Int) := hlt2
      by_cases h1 : s[k] = 46
      · have e1 : ((s[k].toNat : Int) == 46) = true := byte_eq (d := 46) h1
        by_cases h2 : s[k + 1] = 46
        · have e2 : ((s[k + 1].toNat : Int) == 46) = true := byte_eq (d := 46) h2
          have HE := Lib.hid (HY.out h1 h2)
          clear HY HNO h1 h2
          go_wp2_with fail
          go_ret
          exact ⟨by rw [HE.out]; rfl, rfl⟩
        · have e2 : ((s[k + 1].toNat : Int) == 46) = false := byte_ne (d := 46) h2
          have HE := Lib.hid (HNO.out (fun h => h2 h.2))
          clear HY HNO h1 h2
          go_wp2_with fail
          go_round
          case rel => exact ⟨k + 1, by go_num, by omega, HE⟩
          case measure => simp [intOf]; omega
      · have e1 : ((s[k].toNat : Int) == 46) = false := byte_ne (d := 46) h1
        have HE := Lib.hid (HNO.out (fun h => h1 h.1))
        clear HY HNO h1
        go_wp2_with fail
        go_round
        case rel => exact ⟨k + 1, by go_num, by omega, HE⟩
        case measure => simp [intOf]; omega
    · have hlt2 : ¬ ((k : Int) + 1 < (s.size : Int)) := by omega
      have HE : Hid (r = -1) := Lib.hid (by
        rw [← HR.out]
        exact Lib.index_past (by simp) HN.out (by rw [← HSZ.out]; simp; omega))
      have hk1 : IntKind.i64.wrap ((k : Int) + 1) = (k : Int) + 1 := IntWalk.i64_in _ (by omega)
      go_wp2_with fail
      go_ret
      exact ⟨by rw [HE.out]; rfl, rfl⟩
end Go.Proofs.YtdhihdiifgcfdaaGreatDoor

namespace Go.Proofs.YtdhihdiifgcfdaaGreatDoor
set_option linter.unusedVariables false
set_option linter.unusedSimpArgs false
open Go Go.RowKit
attribute [local go_sem ↓] Go.wp_at_zero Go.wp_at_succ

set_option maxRecDepth 100000 in
theorem rtext_any (m p : Int) (w : World) (hm : 0 ≤ m ∧ m ≤ 999) (h0 : 0 ≤ p) (h1 : p < 1000000) :
    Calls Tryz.prog 89 #[.int .i64 m, .int .i64 p] w fun e w' => e = .returned (.string (textB m p)) ∧ Below w.heap.size w w' := by
  have HF := Lib.hid (rFormat_any m (p / 1000) (p % 1000))
  have HT : Hid (textB m p = ⟨(formatV m (p / 1000) (p % 1000)).1.toArray⟩) := Lib.hid (by unfold textB textV atV; rw [if_pos ⟨by unfold partB; simp; omega, h0, h1⟩])
  rw [HT.out]
  generalize formatV m (p / 1000) (p % 1000) = f at *
  clear hm HT
  go_enter Tryz.func89, Tryz.ntmps89
  go_wp2_with fail
  (with_reducible refine (HF.out _).mono ?_)
  rintro e w1 ⟨rfl, hb1⟩
  have HB1 := Lib.hid hb1
  clear hb1
  go_wp2_with fail
  go_ret
  exact ⟨rfl, HB1.out⟩
set_option maxRecDepth 100000 in
set_option maxHeartbeats 4000000 in
theorem rspan_any (m : Int) (x : Int × Int) (w : World) (hm : 0 ≤ m ∧ m ≤ 999) (h0 : 0 ≤ x.1) (h1 : x.1 < x.2) (h2 : x.2 ≤ 1000000) :
    Calls Tryz.prog 57 #[.agg #[.int .i64 x.1, .int .i64 x.2], .int .i64 m] w fun e w' => e = .returned (.string (spanB m x)) ∧ Below w.heap.size w w' := by
  have HTX : Hid (∀ (W : World) (p : Int), 0 ≤ p → p < 1000000 → Calls Tryz.prog 89 #[.int .i64 m, .int .i64 p] W fun e w' => e = .returned (.string (textB m p)) ∧ Below W.heap.size W w') := Lib.hid (fun W p h0 h1 => rtext_any m p W hm h0 h1)
  have hsc := spanB_cases m x
  obtain ⟨x1, x2⟩ := x
  simp only at h0 h1 h2 hsc ⊢
  have t1 := textB_size m x1
  have t2 := textB_size m x2
  have d2 : (⟨#[46, 46]⟩ : ByteArray).size = 2 := rfl
  have s1 : (textB m x1 ++ (⟨#[46, 46]⟩ : ByteArray)).size = (textB m x1).size + 2 := by rw [size_app2, d2]
  generalize spanB m (x1, x2) = r at *
  have hb0 : Below w.heap.size w (w.alloc (.cells #[.int .i64 x1, .int .i64 x2] 49)) := (Below.refl _ _).alloc (Nat.le_refl _) _
  have HB0 := Lib.hid hb0
  have hx0 : (w.alloc (.cells #[.int .i64 x1, .int .i64 x2] 49)).cell? ⟨w.heap.size, 0, none⟩ = some (.int .i64 x1) := by simp [go_sem]
  have hx1 : (w.alloc (.cells #[.int .i64 x1, .int .i64 x2] 49)).cell? ⟨w.heap.size, 1, none⟩ = some (.int .i64 x2) := by simp [go_sem]
  have hz0 : w.heap.size < (w.alloc (.cells #[.int .i64 x1, .int .i64 x2] 49)).heap.size := by simp
  have HX := Lib.hid (And.intro hx0 (And.intro hx1 hz0))
  clear hb0 hx0 hx1 hz0 hm d2
  have hwr : IntKind.i64.wrap (x1 + 1) = x1 + 1 := IntWalk.i64_in _ (by omega)
  rcases hsc with ⟨g1, hs⟩ | ⟨g1, g2, hs⟩ | ⟨g1, g2, g3, hs⟩ | ⟨g1, g2, g3, g4, hs⟩ | ⟨g1, g2, g3, g4, hs⟩
  · obtain ⟨rfl, rfl⟩ := Prod.mk.inj g1
    have HS := Lib.hid hs
    clear g1 hs hwr s1 t1 t2
    go_enter Tryz.func57, Tryz.ntmps57
    go_wp2_with fail
    go_ret
    exact ⟨by rw [HS.out]; rfl, HB0.out⟩
  all_goals
    skip
    have HS := Lib.hid hs
    have hcs : (x1 == 0) = false ∨ ((x1 == 0) = true ∧ (x2 == 1000000) = false) := by
      by_cases hz : x1 = 0
      · subst hz
        by_cases hz2 : x2 = 1000000
        · subst hz2; exact absurd rfl g1
        · exact .inr ⟨rfl, by simpa using hz2⟩
      · exact .inl (by simpa using hz)
    clear hs g1
  · subst g2
    have e1 : (x1 + 1 == x1 + 1) = true := by simp
    rcases hcs with hc | ⟨hc, hc2⟩
    all_goals
      go_enter Tryz.func57, Tryz.ntmps57
      go_wp2_with fail
      (with_reducible refine (HTX.out _ _ (by omega) (by omega)).mono ?_)
      rintro e w1 ⟨rfl, hb1⟩
      have HB1 := Lib.hid (HB0.out.trans (hb1.mono HB0.out.size))
      clear hb1
      go_wp2_with fail
      go_ret
      exact ⟨by rw [HS.out]; rfl, HB1.out⟩
  · skip
    subst g3
    have e1 : ((1000000 : Int) == x1 + 1) = false := by simpa using g2
    have n1 : ¬ 9223372036854775807 < (textB m x1).size + 2 := by omega
    have n2 : ¬ 9223372036854775805 < (textB m x1).size := by omega
    clear g2
    rcases hcs with hc | ⟨hc, hc2⟩
    · go_enter Tryz.func57, Tryz.ntmps57
      go_wp2_with fail
      (with_reducible refine (HTX.out _ _ (by omega) (by omega)).mono ?_)
      rintro e w1 ⟨rfl, hb1⟩
      have HB1 := Lib.hid (HB0.out.trans (hb1.mono HB0.out.size))
      clear hb1
      go_wp2_with fail
      go_ret
      exact ⟨by rw [HS.out]; rfl, HB1.out⟩
    · cases hc2
  · skip
    subst g4
    have e1 : (x2 == 0 + 1) = false := by simpa using g2
    have e1b : (x2 == 1) = false := by simpa using g2
    have e2 : (x2 == 1000000) = false := by simpa using g3
    have n1 : ¬ 9223372036854775807 < 2 + (textB m x2).size := by omega
    have n2 : ¬ 9223372036854775805 < (textB m x2).size := by omega
    have n3 : ¬ 9223372036854775807 < (⟨#[46, 46]⟩ : ByteArray).size + (textB m x2).size := by have : (⟨#[46, 46]⟩ : ByteArray).size = 2 := rfl; omega
    clear g2 hcs hwr
    go_enter Tryz.func57, Tryz.ntmps57
    go_wp2_with fail
    (with_reducible refine (HTX.out _ _ (by omega) (by omega)).mono ?_)
    rintro e w1 ⟨rfl, hb1⟩
    have HB1 := Lib.hid (HB0.out.trans (hb1.mono HB0.out.size))
    clear hb1
    go_wp2_with fail
    go_ret
    exact ⟨by rw [HS.out]; rfl, HB1.out⟩
  · skip
    have e1 : (x2 == x1 + 1) = false := by simpa using g2
    have e2 : (x2 == 1000000) = false := by simpa using g3
    have e3 : (x1 == 0) = false := by simpa using g4
    have n1 : ¬ 9223372036854775807 < (textB m x1).size + 2 := by omega
    have n2 : ¬ 9223372036854775805 < (textB m x1).size := by omega
    have n3 : ¬ 9223372036854775807 < (textB m x1).size + 2 + (textB m x2).size := by omega
    clear g2 hcs
    go_enter Tryz.func57, Tryz.ntmps57
    go_wp2_with fail
    obtain ⟨W, hW⟩ : ∃ W, w.alloc (.cells #[.int .i64 x1, .int .i64 x2] 49) = W := ⟨_, rfl⟩
    rw [hW] at HX HB0 ⊢
    obtain ⟨hx0, hx1, hz0⟩ := HX.out
    clear hW
    have HBC : Hid (Below W.heap.size W W) := Lib.hid (Below.refl _ _)
    go_region_held3 (fun w' => w'.cell? ⟨w.heap.size, 0, none⟩ = some (.int .i64 x1) ∧ w'.cell? ⟨w.heap.size, 1, none⟩ = some (.int .i64 x2))
      ((first | (exact ⟨(HBC.out.cell (p := ⟨w.heap.size, 0, none⟩) hz0).trans hx0, (HBC.out.cell (p := ⟨w.heap.size, 1, none⟩) hz0).trans hx1⟩) | (exact ⟨(HBC.out.drew.cell (p := ⟨w.heap.size, 0, none⟩) hz0).trans hx0, (HBC.out.drew.cell (p := ⟨w.heap.size, 1, none⟩) hz0).trans hx1⟩)))
      (first | (go_at_call 89; refine (HTX.out _ _ (by omega) (by omega)).mono ?_; rintro e wq ⟨rfl, hbc⟩; (first | (replace HBC := Lib.hid (HBC.out.trans (hbc.mono HBC.out.size))) | (replace HBC := Lib.hid (HBC.out.drew.trans (hbc.mono HBC.out.size)))); clear hbc))
    all_goals
      go_wp2_with fail
      go_ret
      exact ⟨by rw [HS.out]; rfl, HB0.out.trans (HBC.out.mono HB0.out.size)⟩
set_option maxRecDepth 100000 in
set_option maxHeartbeats 4000000 in
theorem r31Format_any (v : Value) (s : List (Int × Int)) (m : Int) (w : World) (hs : s.length ≤ 100000) (hE : EdgesOf w.heap.size v s w) :
    Calls Tryz.prog 19 #[v, .int .i64 m] w fun e w' => e = .returned (.tuple #[.string ⟨(formatC m s).1.toArray⟩, .int .i64 (formatC m s).2]) ∧ Below w.heap.size w w' := by
  by_cases m0 : m < 0
  · have HE := Lib.hid (show formatC m s = ([], 2) by unfold formatC; rw [if_pos (by omega)])
    rw [HE.out]
    obtain ⟨ao, ec, rfl, _⟩ := hE
    go_enter Tryz.func19, Tryz.ntmps19
    go_wp2_with fail
    go_ret2
    exact ⟨rfl, Below.refl _ _⟩
  · by_cases m1 : 999 < m
    · have HE := Lib.hid (show formatC m s = ([], 2) by unfold formatC; rw [if_pos (by omega)])
      rw [HE.out]
      obtain ⟨ao, ec, rfl, _⟩ := hE
      go_enter Tryz.func19, Tryz.ntmps19
      go_wp2_with fail
      go_ret2
      exact ⟨rfl, Below.refl _ _⟩
    · have HCA := Lib.hid (rCanonical_any v s w (by omega) hE)
      have hE0 : formatC m s = if canon s = [] then ([110, 111, 110, 101], 0) else (Lib.join ((canon s).map (spanT m)) [32, 124, 32], 0) := by unfold formatC; rw [if_neg (by omega)]
      have hcl := canon_len s
      have hcm : ∀ x ∈ canon s, 0 ≤ x.1 ∧ x.1 < x.2 ∧ x.2 ≤ 1000000 := (canon_can s).2
      obtain ⟨r, hr⟩ : ∃ r, formatC m s = r := ⟨_, rfl⟩
      rw [hr] at hE0 ⊢
      have HE := Lib.hid hE0
      have HCM := Lib.hid hcm
      obtain ⟨ao, ec, rfl, _⟩ := hE
      generalize canon s = c at *
      clear hr hE0 hcm
      by_cases hc0 : c = []
      · have HR : Hid (r = ([110, 111, 110, 101], 0)) := Lib.hid (by rw [HE.out, if_pos hc0])
        subst hc0
        go_enter Tryz.func19, Tryz.ntmps19
        go_wp2_with fail
        (with_reducible refine HCA.out.mono ?_)
        rintro e w1 ⟨v1, rfl, ⟨ao1, ec1, rfl, _⟩, hb1⟩
        have HB1 := Lib.hid hb1
        clear hb1
        simp only [List.length_nil]
        go_wp2_with fail
        go_ret2
        exact ⟨by rw [HR.out]; rfl, HB1.out⟩
      · have HR : Hid (r = (Lib.join (c.map (spanT m)) [32, 124, 32], 0)) := Lib.hid (by rw [HE.out, if_neg hc0])
        have hn : 0 < c.length := List.length_pos_iff.2 hc0
        have hn1 : ((c.length : Int) == 0) = false := by simpa using hc0
        have hsx : Hid (∀ W x, x ∈ c → Calls Tryz.prog 57 #[.agg #[.int .i64 x.1, .int .i64 x.2], .int .i64 m] W fun e w' => e = .returned (.string (spanB m x)) ∧ Below W.heap.size W w') := Lib.hid (fun W x hx => rspan_any m x W (by omega) (HCM.out x hx).1 (HCM.out x hx).2.1 (HCM.out x hx).2.2)
        clear hc0
        go_enter Tryz.func19, Tryz.ntmps19
        go_wp2_with fail
        (with_reducible refine HCA.out.mono ?_)
        rintro e w1 ⟨v1, rfl, ⟨ao1, ec1, rfl, hE1⟩, hb1⟩
        have HB1 := Lib.hid hb1
        have HE1 := Lib.hid hE1
        clear hb1 hE1
        go_wp2_with fail
        go_loopw [7, 8] (fun o p wr => ∃ (k : Nat) (t : ByteArray), k ≤ c.length ∧ p = .int .i64 k ∧ o = .string t ∧ t.size ≤ 27 * k ∧ Hid (t.data.toList = Lib.join ((c.take k).map (spanT m)) [32, 124, 32]) ∧ Hid (Below w1.heap.size w1 wr)) (fun _ p _ => c.length - (intOf p).toNat)
        case atStart => exact ⟨0, ⟨#[]⟩, Nat.zero_le _, rfl, rfl, Nat.le_refl _, Lib.hid rfl, Lib.hid (Below.refl _ _)⟩
        case round =>
          obtain ⟨k, t, hk, rfl, rfl, ht, HT, HB⟩ := hrel
          have hszr := HB.out.size
          by_cases hlt : k < c.length
          · obtain ⟨b, off, rfl, hbl, hc1, hc2⟩ := HE1.out k c[k] (by simp [hlt])
            have hc1 := (HB.out.cell (p := ⟨b, off + k * 2, none⟩) hbl).trans hc1
            have hc2 := (HB.out.cell (p := ⟨b, off + k * 2 + 1, none⟩) hbl).trans hc2
            have HTK : Hid ((c.take (k + 1)).map (spanT m) = (c.take k).map (spanT m) ++ [spanT m c[k]]) := Lib.hid (by rw [List.take_succ_eq_append_getElem hlt, List.map_append]; rfl)
            have HXC := Lib.hid (hsx.out wr c[k] (List.getElem_mem hlt))
            have h24 := spanB_size m c[k]
            have HL : Hid ((c.take k).map (spanT m) = [] ↔ k = 0) := Lib.hid (by
              rw [← List.length_eq_zero_iff, List.length_map, List.length_take]; omega)
            obtain ⟨⟨x1, x2⟩, hx⟩ : ∃ x, x = c[k] := ⟨_, rfl⟩
            rw [← hx] at hc1 hc2 HTK HXC h24
            clear hx
            simp only at hc1 hc2
            obtain ⟨sb, hsb⟩ : ∃ sb, spanB m (x1, x2) = sb := ⟨_, rfl⟩
            have HSB : Hid (spanT m (x1, x2) = sb.data.toList) := Lib.hid (by unfold spanT; rw [hsb])
            rw [hsb] at HXC h24
            clear hsb
            have n1 : ¬ 9223372036854775807 < t.size + 3 := by omega
            have n2 : ¬ 9223372036854775804 < t.size := by omega
            have d3 : (t ++ (⟨#[32, 124, 32]⟩ : ByteArray)).size = t.size + 3 := by rw [size_app2]; rfl
            have d4 : (t ++ (⟨#[32, 124, 32]⟩ : ByteArray) ++ sb).size = t.size + 3 + sb.size := by rw [size_app2, d3]
            have d5 : (t ++ sb).size = t.size + sb.size := size_app2 _ _
            have n3 : ¬ 9223372036854775807 < t.size + 3 + sb.size := by omega
            have n4 : ¬ 9223372036854775807 < t.size + sb.size := by omega
            by_cases hk0 : k = 0
            · have HJ : Hid ((t ++ sb).data.toList = Lib.join ((c.take (k + 1)).map (spanT m)) [32, 124, 32]) := Lib.hid (by
                rw [HTK.out, join_snoc, if_pos (HL.out.2 hk0), HSB.out, ByteArray.data_append, Array.toList_append, HT.out, HL.out.2 hk0]
                rfl)
              have hki : ¬ (0 : Int) < (k : Int) := by omega
              have hki2 : decide (0 < k) = false := decide_eq_false (by omega)
              clear hk0 d3 d4 n1 n2 n3
              go_wp2_with fail
              (with_reducible refine HXC.out.mono ?_)
              rintro e w2 ⟨rfl, hb2⟩
              have HB2 := Lib.hid (HB.out.trans (hb2.mono hszr))
              clear hb2
              go_wp2_with fail
              go_roundw
              case rel => exact ⟨k + 1, t ++ sb, by omega, by go_num, rfl, by rw [d5]; omega, HJ, HB2⟩
              case measure => simp [intOf]; omega
            · have HJ : Hid ((t ++ (⟨#[32, 124, 32]⟩ : ByteArray) ++ sb).data.toList = Lib.join ((c.take (k + 1)).map (spanT m)) [32, 124, 32]) := Lib.hid (by
                rw [HTK.out, join_snoc, if_neg (fun h => hk0 (HL.out.1 h)), HSB.out, ByteArray.data_append, Array.toList_append, ByteArray.data_append, Array.toList_append, HT.out])
              have hki : (0 : Int) < (k : Int) := by omega
              have hki2 : decide (0 < k) = true := decide_eq_true (by omega)
              clear hk0 d5 n4
              go_wp2_with fail
              (with_reducible refine HXC.out.mono ?_)
              rintro e w2 ⟨rfl, hb2⟩
              have HB2 := Lib.hid (HB.out.trans (hb2.mono hszr))
              clear hb2
              go_wp2_with fail
              go_roundw
              case rel => exact ⟨k + 1, t ++ (⟨#[32, 124, 32]⟩ : ByteArray) ++ sb, by omega, by go_num, rfl, by rw [d4]; omega, HJ, HB2⟩
              case measure => simp [intOf]; omega
          · have hkk : k = c.length := by omega
            subst hkk
            rw [List.take_length] at HT
            go_wp2_with fail
            go_ret2
            exact ⟨by rw [HR.out, ← HT.out, mk_self]; rfl, HB1.out.trans (HB.out.mono HB1.out.size)⟩
end Go.Proofs.YtdhihdiifgcfdaaGreatDoor

namespace Go.Proofs.YtdhihdiifgcfdaaGreatDoor
set_option linter.unusedVariables false
set_option linter.unusedSimpArgs false
open Go Go.RowKit

/-- a span, an error, and no old cell has turned. -/
def AltR (w : World) (r : (Int × Int) × Int) (e : Ending) (w' : World) : Prop := e = .returned (.tuple #[.agg #[.int .i64 r.1.1, .int .i64 r.1.2], .int .i64 r.2]) ∧ Below w.heap.size w w'
theorem AltR.mk {w w' : World} {r : (Int × Int) × Int} {a b c : Int} {e : Ending} (hr : r = ((a, b), c)) (he : e = .returned (.tuple #[.agg #[.int .i64 a, .int .i64 b], .int .i64 c])) (hb : Below w.heap.size w w') : AltR w r e w' := by
  subst hr
  exact ⟨he, hb⟩
theorem belDN {B : Nat} {w w' : World} (h : Below B w w') (n : Nat) : Below B w (w'.drewN n) := ⟨h.os, h.tape, h.output, h.size, h.block⟩
theorem box2c {W : World} {B t : Nat} {x y : Value} (h : W.heap[B]? = some (.cells #[x, y] t (0, 0))) : W.cell? ⟨B, 0, none⟩ = some x ∧ W.cell? ⟨B, 1, none⟩ = some y ∧ W.frozen? ⟨B, 0, none⟩ = false ∧ W.frozen? ⟨B, 1, none⟩ = false :=
  ⟨by rw [Lib.cell_of_heap h]; rfl, by rw [Lib.cell_of_heap h]; rfl, Lib.frozen_of_heap h 0, Lib.frozen_of_heap h 1⟩
/-- two boxes: the result's, and x's. -/
def AltW (w : World) (X : Nat) (p q : Int) (W : World) : Prop :=
  W.heap[w.heap.size]? = some (.cells #[.int .i64 0, .int .i64 0] 49 (0, 0)) ∧ W.heap[X]? = some (.cells #[.int .i64 p, .int .i64 q] 49 (0, 0)) ∧ Below w.heap.size w W ∧ w.heap.size < X ∧ X < W.heap.size
theorem AltW.below {w W W' : World} {X : Nat} {p q : Int} (h : AltW w X p q W) (hb : Below W.heap.size W W') : AltW w X p q W' := by
  obtain ⟨h1, h2, h3, h4, h5⟩ := h
  exact ⟨(hb.block _ (by omega)).trans h1, (hb.block _ h5).trans h2, h3.trans (hb.mono (by omega)), h4, by have := hb.size; omega⟩
theorem AltW.start (w : World) : AltW w (w.heap.size + 1) 0 1000000 ((w.alloc (.cells #[.int .i64 0, .int .i64 0] 49)).alloc (.cells #[.int .i64 0, .int .i64 1000000] 49)) := by
  have h1 := heap_alloc_new w (.cells #[.int .i64 0, .int .i64 0] 49)
  have h2 := heap_alloc_new (w.alloc (.cells #[.int .i64 0, .int .i64 0] 49)) (.cells #[.int .i64 0, .int .i64 1000000] 49)
  rw [World.size_alloc] at h2
  exact ⟨(Below.heap_alloc _ _ _ (by simp)).trans h1, h2, ((Below.refl _ _).alloc (Nat.le_refl _) _).alloc (by simp) _, by omega, by simp⟩
theorem AltW.set {w W : World} {X : Nat} {p q : Int} (h : AltW w X p q W) (p' : Int) : AltW w X p' q (W.setCell ⟨X, 0, none⟩ (.int .i64 p')) := by
  obtain ⟨h1, h2, h3, h4, h5⟩ := h
  exact ⟨(Below.heap_setCell W ⟨X, 0, none⟩ _ _ (by simp; omega)).trans h1, heap_setCell_same W X 0 _ _ _ h2, h3.setCell (p := ⟨X, 0, none⟩) (by simp; omega) _, h4, by simpa using h5⟩
set_option maxRecDepth 100000 in
set_option maxHeartbeats 16000000 in
theorem alt_mark (s : ByteArray) (c : UInt8) (m : Int) (w : World) (hs : s.size ≤ 100000) (hc : c = 94 ∨ c = 126) (hh : s.data.toList.head? = some c) :
    Calls Tryz.prog 53 #[.string s, .int .i64 m] w (AltR w (altV m s.data.toList)) := by
  have h0 : 0 < s.size := by
    rw [Lib.size_eq]
    cases hl : s.data.toList with
    | nil => rw [hl] at hh; cases hh
    | cons x r => simp
  have hb := head_byte h0
  have hc0 : s[0] = c := by rw [hb] at hh; simpa using hh
  have HE1 : Hid ((s.extract 1 s.size).data.toList = s.data.toList.drop 1) := Lib.hid (Lib.extract_to_end s 1)
  have HL : Hid (s.data.toList = c :: (s.extract 1 s.size).data.toList) := Lib.hid (by rw [HE1.out, ← hc0]; exact hb)
  obtain ⟨r, hr⟩ : ∃ r, altV m s.data.toList = r := ⟨_, rfl⟩
  have hsz : (s.extract 1 s.size).size ≤ 100000 := by rw [Lib.size_eq, HE1.out, List.length_drop, ← Lib.size_eq]; omega
  obtain ⟨n1, n2⟩ := mark_ne hc (s.extract 1 s.size).data.toList
  rw [← HL.out] at n1 n2
  have q1 : (s.toList == [110, 111, 110, 101]) = false := by rw [ByteArray.toList_eq]; simpa using n1
  have q2 : (s.toList == [42]) = false := by rw [ByteArray.toList_eq]; simpa using n2
  obtain ⟨q3, q4⟩ := str_full (f := s) (fun e => by rw [e] at hh; cases hh)
  rw [HL.out] at hr
  rw [show altV m s.data.toList = r by rw [HL.out]; exact hr]
  have HR := Lib.hid hr
  have HC := Lib.hid hc
  obtain ⟨q, hq⟩ : ∃ q, s.extract 1 s.size = q := ⟨_, rfl⟩
  rw [hq] at HR hsz
  have h0i : (0 : Int) < (s.size : Int) := by omega
  have h1i : (1 : Int) ≤ (s.size : Int) := by omega
  have HD := Lib.hid (fun W => dots_any q W (by omega))
  have HP := Lib.hid (fun W => rParse_any q W (by omega))
  have hcs : ((c.toNat : Int) == 94) = true ∨ (((c.toNat : Int) == 94) = false ∧ ((c.toNat : Int) == 126) = true) := by
    rcases hc with rfl | rfl
    · exact .inl rfl
    · exact .inr ⟨rfl, rfl⟩
  have hcz : ((c.toNat : Int) == 0) = false ∧ ((c.toNat : Int) != 0) = true := by rcases hc with rfl | rfl <;> exact ⟨rfl, rfl⟩
  obtain ⟨hcz1, hcz2⟩ := hcz
  clear hb hh HE1 HL hr n1 n2 hc
  obtain ⟨k, hk⟩ : ∃ k, Lib.index q.data.toList [46, 46] = k := ⟨_, rfl⟩
  rw [hk] at HD
  have HKI := Lib.hid hk
  clear hk
  by_cases hk0 : 0 ≤ k
  · have HER : Hid (r = ((0, 0), 3)) := Lib.hid (by rw [← HR.out]; exact mark_err HC.out (dots_err _ (by rw [HKI.out]; exact hk0)))
    have hroom := Lib.index_room q.data.toList [46, 46] (by rw [HKI.out]; exact hk0)
    rw [HKI.out, ← Lib.size_eq] at hroom
    simp only [List.length_cons, List.length_nil] at hroom
    obtain ⟨i, rfl⟩ : ∃ i : Nat, k = (i : Int) := ⟨k.toNat, by omega⟩
    have a1 : (i : Int) ≤ (q.size : Int) := by omega
    have a2 : (i : Int) + 2 ≤ (q.size : Int) := by omega
    have a3 : (0 : Int) ≤ (i : Int) + 2 := by omega
    have a4 : IntKind.i64.wrap ((i : Int) + 2) = (i : Int) + 2 := IntWalk.i64_in _ (by omega)
    have a5 : ((i : Int) + 2).toNat = i + 2 := by omega
    have a6 : i ≤ q.size := by omega
    have a7 : i + 2 ≤ q.size := by omega
    rcases hcs with hcs | ⟨hcs, hcs2⟩
    all_goals
      go_enter Tryz.func53, Tryz.ntmps53
      go_wp2_with fail
      (with_reducible refine (HD.out _).mono ?_)
      rintro e w1 ⟨rfl, rfl⟩
      go_wp2_with fail
      go_quiet (fail)
      go_wp2_with fail
      exact bodyPost_ret (v := .tuple #[.agg #[.int .i64 0, .int .i64 0], .int .i64 3]) (by simp [results, Tryz.results53, go_sem]) rfl (AltR.mk HER.out rfl (by repeat (first | exact Below.refl _ _ | refine belDN ?_ _ | refine Below.drew ?_ | refine Below.setCell ?_ (by simp <;> omega) _ | refine Below.alloc ?_ (Nat.le_refl _) _)))
  · have hk1 : decide (0 ≤ k) = false := decide_eq_false hk0
    have hk2 : k < 0 := by omega
    by_cases hq0 : q.data.toList = []
    · have HER : Hid (r = ((0, 0), 3)) := Lib.hid (by rw [← HR.out, hq0]; exact mark_err HC.out nil_err)
      obtain ⟨e1, e2⟩ := str_empty hq0
      clear hq0
      rcases hcs with hcs | ⟨hcs, hcs2⟩
      all_goals
        go_enter Tryz.func53, Tryz.ntmps53
        go_wp2_with fail
        (with_reducible refine (HD.out _).mono ?_)
        rintro e w1 ⟨rfl, rfl⟩
        go_wp2_with fail
        exact bodyPost_ret (v := .tuple #[.agg #[.int .i64 0, .int .i64 0], .int .i64 3]) (by simp [results, Tryz.results53, go_sem]) rfl (AltR.mk HER.out rfl (by repeat (first | exact Below.refl _ _ | refine Below.drew ?_ | refine Below.alloc ?_ (by simp <;> omega) _ | refine Below.setCell ?_ (by simp <;> omega) _)))
    · obtain ⟨e1, e2⟩ := str_full hq0
      clear hq0
      rcases parse_cases q.data.toList with hp | ⟨a, b, d, hp, ha, hb, hd⟩
      · have HER : Hid (r = ((0, 0), 3)) := Lib.hid (by rw [← HR.out]; exact mark_err HC.out hp)
        rw [hp] at HP
        simp only at HP
        clear hp
        rcases hcs with hcs | ⟨hcs, hcs2⟩
        all_goals
          go_enter Tryz.func53, Tryz.ntmps53
          go_wp2_with fail
          (with_reducible refine (HD.out _).mono ?_)
          rintro e w1 ⟨rfl, rfl⟩
          go_wp2_with fail
          (with_reducible refine (HP.out _).mono ?_)
          rintro e w2 ⟨rfl, hb2⟩
          have HW := Lib.hid ((AltW.start w).below hb2)
          obtain ⟨g1, g2, hbw, g3, g4⟩ := HW.out
          obtain ⟨c0, c1, f0, f1⟩ := box2c g1
          obtain ⟨d0, d1, k0, k1⟩ := box2c g2
          have l1 : w.heap.size < w2.heap.size := by omega
          have l2 : w.heap.size ≠ w2.heap.size := by omega
          have l3 : w.heap.size + 1 ≠ w2.heap.size := by omega
          have HBW := Lib.hid hbw
          clear g1 g2 g3 hb2 hbw
          go_wp2_with fail
          exact bodyPost_ret (v := .tuple #[.agg #[.int .i64 0, .int .i64 0], .int .i64 3]) (by simp [results, Tryz.results53, go_sem, c0, c1, d0, d1, l1, l2, l3]) rfl (AltR.mk HER.out rfl (by repeat (first | exact HBW.out | refine Below.drew ?_ | refine Below.setCell ?_ (by simp <;> omega) _ | refine Below.alloc ?_ (by simp <;> omega) _)))
      · rw [hp] at HP
        simp only at HP
        rcases hcs with hcs | ⟨hcs, hcs2⟩
        · have hc94 : c = 94 := UInt8.toNat_inj.1 (by have : ((94 : UInt8).toNat) = 94 := rfl; have := beq_iff_eq.1 hcs; omega)
          have HER0 := Lib.hid (show r = if a = m then ((1000 * b + d, 1000000), 0) else ((0, 0), 1) by rw [← HR.out, hc94]; exact hat_ok hp hb.2 hd.2)
          have hc126 : ((c.toNat : Int) == 126) = false := by rw [hc94]; rfl
          have hlt : 1000 * b + d < 1000000 := by omega
          have hle : ¬ 1000000 ≤ 1000 * b + d := by omega
          clear hp hc94
          by_cases ham : a = m
          · have HER := Lib.hid (HER0.out.trans (if_pos ham))
            subst ham
            clear HER0
            go_enter Tryz.func53, Tryz.ntmps53
            go_wp2_with fail
            (with_reducible refine (HD.out _).mono ?_)
            rintro e w1 ⟨rfl, rfl⟩
            go_wp2_with fail
            (with_reducible refine (HP.out _).mono ?_)
            rintro e w2 ⟨rfl, hb2⟩
            have HW := Lib.hid ((AltW.start w).below hb2)
            obtain ⟨g1, g2, hbw, g3, g4⟩ := HW.out
            obtain ⟨c0, c1, f0, f1⟩ := box2c g1
            obtain ⟨d0, d1, k0, k1⟩ := box2c g2
            have l1 : w.heap.size < w2.heap.size := by omega
            have l2 : w.heap.size ≠ w2.heap.size := by omega
            have l3 : w.heap.size + 1 ≠ w2.heap.size := by omega
            have HBW := Lib.hid hbw
            clear g1 g2 g3 hb2 hbw
            go_wp2_with fail
            exact bodyPost_ret (v := .tuple #[.agg #[.int .i64 (1000 * b + d), .int .i64 1000000], .int .i64 0]) (by simp [results, Tryz.results53, go_sem, c0, c1, d0, d1, l1, l2, l3]) rfl (AltR.mk HER.out rfl (by repeat (first | exact HBW.out | refine Below.drew ?_ | refine Below.setCell ?_ (by simp <;> omega) _ | refine Below.alloc ?_ (by simp <;> omega) _)))
          · have HER := Lib.hid (HER0.out.trans (if_neg ham))
            have ham2 : (a == m) = false := by simpa using ham
            clear HER0
            go_enter Tryz.func53, Tryz.ntmps53
            go_wp2_with fail
            (with_reducible refine (HD.out _).mono ?_)
            rintro e w1 ⟨rfl, rfl⟩
            go_wp2_with fail
            (with_reducible refine (HP.out _).mono ?_)
            rintro e w2 ⟨rfl, hb2⟩
            have HW := Lib.hid ((AltW.start w).below hb2)
            obtain ⟨g1, g2, hbw, g3, g4⟩ := HW.out
            obtain ⟨c0, c1, f0, f1⟩ := box2c g1
            obtain ⟨d0, d1, k0, k1⟩ := box2c g2
            have l1 : w.heap.size < w2.heap.size := by omega
            have l2 : w.heap.size ≠ w2.heap.size := by omega
            have l3 : w.heap.size + 1 ≠ w2.heap.size := by omega
            have HBW := Lib.hid hbw
            clear g1 g2 g3 hb2 hbw
            go_wp2_with fail
            exact bodyPost_ret (v := .tuple #[.agg #[.int .i64 0, .int .i64 0], .int .i64 1]) (by simp [results, Tryz.results53, go_sem, c0, c1, d0, d1, l1, l2, l3]) rfl (AltR.mk HER.out rfl (by repeat (first | exact HBW.out | refine Below.drew ?_ | refine Below.setCell ?_ (by simp <;> omega) _ | refine Below.alloc ?_ (by simp <;> omega) _)))
        · have hc126 : c = 126 := UInt8.toNat_inj.1 (by have : ((126 : UInt8).toNat) = 126 := rfl; have := beq_iff_eq.1 hcs2; omega)
          have HER0 := Lib.hid (show r = if a = m then ((1000 * b + d, 1000 * (b + 1)), 0) else ((0, 0), 1) by rw [← HR.out, hc126]; exact tilde_ok hp hd.1 hd.2)
          have hlt : 1000 * b + d < 1000 * (b + 1) := by omega
          have hle : ¬ 1000 * (b + 1) ≤ 1000 * b + d := by omega
          clear hp hc126
          by_cases ham : a = m
          · have HER := Lib.hid (HER0.out.trans (if_pos ham))
            subst ham
            clear HER0
            go_enter Tryz.func53, Tryz.ntmps53
            go_wp2_with fail
            (with_reducible refine (HD.out _).mono ?_)
            rintro e w1 ⟨rfl, rfl⟩
            go_wp2_with fail
            (with_reducible refine (HP.out _).mono ?_)
            rintro e w2 ⟨rfl, hb2⟩
            have HW := Lib.hid ((AltW.start w).below hb2)
            obtain ⟨g1, g2, hbw, g3, g4⟩ := HW.out
            obtain ⟨c0, c1, f0, f1⟩ := box2c g1
            obtain ⟨d0, d1, k0, k1⟩ := box2c g2
            have l1 : w.heap.size < w2.heap.size := by omega
            have l2 : w.heap.size ≠ w2.heap.size := by omega
            have l3 : w.heap.size + 1 ≠ w2.heap.size := by omega
            have HBW := Lib.hid hbw
            clear g1 g2 g3 hb2 hbw
            go_wp2_with fail
            exact bodyPost_ret (v := .tuple #[.agg #[.int .i64 (1000 * b + d), .int .i64 (1000 * (b + 1))], .int .i64 0]) (by simp [results, Tryz.results53, go_sem, c0, c1, d0, d1, l1, l2, l3]) rfl (AltR.mk HER.out rfl (by repeat (first | exact HBW.out | refine Below.drew ?_ | refine Below.setCell ?_ (by simp <;> omega) _ | refine Below.alloc ?_ (by simp <;> omega) _)))
          · have HER := Lib.hid (HER0.out.trans (if_neg ham))
            have ham2 : (a == m) = false := by simpa using ham
            clear HER0
            go_enter Tryz.func53, Tryz.ntmps53
            go_wp2_with fail
            (with_reducible refine (HD.out _).mono ?_)
            rintro e w1 ⟨rfl, rfl⟩
            go_wp2_with fail
            (with_reducible refine (HP.out _).mono ?_)
            rintro e w2 ⟨rfl, hb2⟩
            have HW := Lib.hid ((AltW.start w).below hb2)
            obtain ⟨g1, g2, hbw, g3, g4⟩ := HW.out
            obtain ⟨c0, c1, f0, f1⟩ := box2c g1
            obtain ⟨d0, d1, k0, k1⟩ := box2c g2
            have l1 : w.heap.size < w2.heap.size := by omega
            have l2 : w.heap.size ≠ w2.heap.size := by omega
            have l3 : w.heap.size + 1 ≠ w2.heap.size := by omega
            have HBW := Lib.hid hbw
            clear g1 g2 g3 hb2 hbw
            go_wp2_with fail
            exact bodyPost_ret (v := .tuple #[.agg #[.int .i64 0, .int .i64 0], .int .i64 1]) (by simp [results, Tryz.results53, go_sem, c0, c1, d0, d1, l1, l2, l3]) rfl (AltR.mk HER.out rfl (by repeat (first | exact HBW.out | refine Below.drew ?_ | refine Below.setCell ?_ (by simp <;> omega) _ | refine Below.alloc ?_ (by simp <;> omega) _)))
end Go.Proofs.YtdhihdiifgcfdaaGreatDoor

namespace Go.Proofs.YtdhihdiifgcfdaaGreatDoor
set_option linter.unusedVariables false
set_option linter.unusedSimpArgs false
open Go Go.RowKit

theorem AltW.alloc {w W : World} {X : Nat} {p q : Int} (h : AltW w X p q W) (o : Obj) : AltW w X p q (W.alloc o) := h.below ((Below.refl _ _).alloc (Nat.le_refl _) o)
theorem AltW.startN (w : World) (n : Nat) : AltW w (w.heap.size + 1) 0 1000000 (((w.alloc (.cells #[.int .i64 0, .int .i64 0] 49)).drewN n).alloc (.cells #[.int .i64 0, .int .i64 1000000] 49)) := by
  obtain ⟨h1, h2, h3, h4, h5⟩ := AltW.start w
  exact ⟨h1, h2, ⟨h3.os, h3.tape, h3.output, h3.size, h3.block⟩, h4, h5⟩
/-- the tests ahead of the mark. -/
def HeadOk (s : ByteArray) : Prop := (s.toList = [] ∧ s.toList.isEmpty = true ∧ s.size = 0) ∨ (s.toList ≠ [] ∧ s.toList.isEmpty = false ∧ ∃ h : 0 < s.size, ((s[0].toNat : Int) == 94) = false ∧ ((s[0].toNat : Int) == 126) = false)
theorem headOk {s : ByteArray} (h : NoMark s.data.toList) : HeadOk s := by
  rcases Nat.eq_zero_or_pos s.size with h0 | h0
  · have : s.data.toList = [] := List.eq_nil_of_length_eq_zero (by rw [← Lib.size_eq]; exact h0)
    exact .inl ⟨(str_empty this).1, (str_empty this).2, h0⟩
  · have hne : s.data.toList ≠ [] := fun e => by rw [Lib.size_eq, e] at h0; cases h0
    have hb := head_byte h0
    refine .inr ⟨(str_full hne).1, (str_full hne).2, h0, byte_ne (d := 94) fun e => h.2.2.1 (by rw [hb, e]; rfl), byte_ne (d := 126) fun e => h.2.2.2 (by rw [hb, e]; rfl)⟩
set_option maxRecDepth 100000 in
theorem alt_word (s : ByteArray) (m : Int) (w : World) (h : s.data.toList = [110, 111, 110, 101] ∨ s.data.toList = [42]) :
    Calls Tryz.prog 53 #[.string s, .int .i64 m] w (AltR w (altV m s.data.toList)) := by
  rcases h with h | h
  · have HER := Lib.hid (show altV m s.data.toList = ((0, 0), 0) by rw [h]; exact alt_none m)
    have q1 : (s.toList == [110, 111, 110, 101]) = true := by rw [ByteArray.toList_eq, h]; rfl
    clear h
    go_enter Tryz.func53, Tryz.ntmps53
    go_wp2_with fail
    exact bodyPost_ret (v := .tuple #[.agg #[.int .i64 0, .int .i64 0], .int .i64 0]) (by simp [results, Tryz.results53, go_sem]) rfl (AltR.mk HER.out rfl (by repeat (first | exact Below.refl _ _ | refine Below.drew ?_ | refine Below.alloc ?_ (by simp <;> omega) _ | refine Below.setCell ?_ (by simp <;> omega) _)))
  · have HER := Lib.hid (show altV m s.data.toList = ((0, 1000000), 0) by rw [h]; exact alt_star m)
    have q1 : (s.toList == [110, 111, 110, 101]) = false := by rw [ByteArray.toList_eq, h]; rfl
    have q2 : (s.toList == [42]) = true := by rw [ByteArray.toList_eq, h]; rfl
    clear h
    go_enter Tryz.func53, Tryz.ntmps53
    go_wp2_with fail
    exact bodyPost_ret (v := .tuple #[.agg #[.int .i64 0, .int .i64 1000000], .int .i64 0]) (by simp [results, Tryz.results53, go_sem]) rfl (AltR.mk HER.out rfl (by repeat (first | exact Below.refl _ _ | refine Below.drew ?_ | refine Below.alloc ?_ (by simp <;> omega) _ | refine Below.setCell ?_ (by simp <;> omega) _)))

set_option maxRecDepth 100000 in
set_option maxHeartbeats 16000000 in
theorem alt_single (s : ByteArray) (m : Int) (w : World) (hs : s.size ≤ 100000) (hn : NoMark s.data.toList) (hi : ¬ 0 ≤ Lib.index s.data.toList [46, 46]) :
    Calls Tryz.prog 53 #[.string s, .int .i64 m] w (AltR w (altV m s.data.toList)) := by
  obtain ⟨r, hr⟩ : ∃ r, altV m s.data.toList = r := ⟨_, rfl⟩
  rw [hr]
  have HR := Lib.hid hr
  have HN := Lib.hid hn
  have HI := Lib.hid hi
  have q1 : (s.toList == [110, 111, 110, 101]) = false := by rw [ByteArray.toList_eq]; simpa using hn.1
  have q2 : (s.toList == [42]) = false := by rw [ByteArray.toList_eq]; simpa using hn.2.1
  have HD := Lib.hid (fun W => dots_any s W (by omega))
  have HP := Lib.hid (fun W => rParse_any s W (by omega))
  have hh := headOk hn
  obtain ⟨k, hk⟩ : ∃ k, Lib.index s.data.toList [46, 46] = k := ⟨_, rfl⟩
  rw [hk] at HD hi
  have hk1 : decide (0 ≤ k) = false := decide_eq_false hi
  have hk2 : k < 0 := by omega
  clear hr hn hk hi
  rcases hh with ⟨e1, e2, e3⟩ | ⟨e1, e2, h0, e3, e4⟩
  · have HER : Hid (r = ((0, 0), 3)) := Lib.hid (by
      rw [← HR.out]
      refine one_err HN.out HI.out ?_
      rw [show s.data.toList = [] from List.eq_nil_of_length_eq_zero (by rw [← Lib.size_eq]; exact e3)]
      exact nil_err)
    go_enter Tryz.func53, Tryz.ntmps53
    go_wp2_with fail
    (with_reducible refine (HD.out _).mono ?_)
    rintro e w1 ⟨rfl, rfl⟩
    go_wp2_with fail
    exact bodyPost_ret (v := .tuple #[.agg #[.int .i64 0, .int .i64 0], .int .i64 3]) (by simp [results, Tryz.results53, go_sem]) rfl (AltR.mk HER.out rfl (by repeat (first | exact Below.refl _ _ | exact HBW.out | refine belDN ?_ _ | refine Below.drew ?_ | refine Below.setCell ?_ (by simp <;> omega) _ | refine Below.alloc ?_ (by simp <;> omega) _)))
  · have h0i : (0 : Int) < (s.size : Int) := by omega
    generalize hcs : s[0] = c at *
    rcases parse_cases s.data.toList with hp | ⟨a, b, d, hp, ha, hb, hd⟩
    · have HER : Hid (r = ((0, 0), 3)) := Lib.hid (by rw [← HR.out]; exact one_err HN.out HI.out hp)
      rw [hp] at HP
      simp only at HP
      clear hp
      go_enter Tryz.func53, Tryz.ntmps53
      go_wp2_with fail
      (with_reducible refine (HD.out _).mono ?_)
      rintro e w1 ⟨rfl, rfl⟩
      go_wp2_with fail
      (with_reducible refine (HP.out _).mono ?_)
      rintro e w2 ⟨rfl, hb2⟩
      have HW2 := Lib.hid ((AltW.start w).below hb2)
      obtain ⟨g1, g2, hbw, g3, g4⟩ := HW2.out
      obtain ⟨c0, c1, f0, f1⟩ := box2c g1
      obtain ⟨d0, d1, k0, k1⟩ := box2c g2
      have l1 : w.heap.size < w2.heap.size := by omega
      have l2 : w.heap.size ≠ w2.heap.size := by omega
      have l3 : w.heap.size + 1 ≠ w2.heap.size := by omega
      have HBW := Lib.hid hbw
      clear g1 g2 g3 hb2 hbw
      go_wp2_with fail
      exact bodyPost_ret (v := .tuple #[.agg #[.int .i64 0, .int .i64 0], .int .i64 3]) (by simp [results, Tryz.results53, go_sem, c0, c1, d0, d1, l1, l2, l3]) rfl (AltR.mk HER.out rfl (by repeat (first | exact Below.refl _ _ | exact HBW.out | refine belDN ?_ _ | refine Below.drew ?_ | refine Below.setCell ?_ (by simp <;> omega) _ | refine Below.alloc ?_ (by simp <;> omega) _)))
    · rw [hp] at HP
      simp only at HP
      have HER0 := Lib.hid (show r = if a = m then ((1000 * b + d, 1000 * b + d + 1), 0) else ((0, 0), 1) by rw [← HR.out]; exact one_ok HN.out HI.out hp)
      have hlt : 1000 * b + d < 1000 * b + d + 1 := by omega
      have hle : ¬ 1000 * b + d + 1 ≤ 1000 * b + d := by omega
      clear hp
      by_cases ham : a = m
      · have HER := Lib.hid (HER0.out.trans (if_pos ham))
        subst ham
        clear HER0
        go_enter Tryz.func53, Tryz.ntmps53
        go_wp2_with fail
        (with_reducible refine (HD.out _).mono ?_)
        rintro e w1 ⟨rfl, rfl⟩
        go_wp2_with fail
        (with_reducible refine (HP.out _).mono ?_)
        rintro e w2 ⟨rfl, hb2⟩
        have HW2 := Lib.hid ((AltW.start w).below hb2)
        obtain ⟨g1, g2, hbw, g3, g4⟩ := HW2.out
        obtain ⟨c0, c1, f0, f1⟩ := box2c g1
        obtain ⟨d0, d1, k0, k1⟩ := box2c g2
        have l1 : w.heap.size < w2.heap.size := by omega
        have l2 : w.heap.size ≠ w2.heap.size := by omega
        have l3 : w.heap.size + 1 ≠ w2.heap.size := by omega
        have HBW := Lib.hid hbw
        clear g1 g2 g3 hb2 hbw
        go_wp2_with fail
        exact bodyPost_ret (v := .tuple #[.agg #[.int .i64 (1000 * b + d), .int .i64 (1000 * b + d + 1)], .int .i64 0]) (by simp [results, Tryz.results53, go_sem, c0, c1, d0, d1, l1, l2, l3]) rfl (AltR.mk HER.out rfl (by repeat (first | exact Below.refl _ _ | exact HBW.out | refine belDN ?_ _ | refine Below.drew ?_ | refine Below.setCell ?_ (by simp <;> omega) _ | refine Below.alloc ?_ (by simp <;> omega) _)))
      · have HER := Lib.hid (HER0.out.trans (if_neg ham))
        have ham2 : (a == m) = false := by simpa using ham
        clear HER0
        go_enter Tryz.func53, Tryz.ntmps53
        go_wp2_with fail
        (with_reducible refine (HD.out _).mono ?_)
        rintro e w1 ⟨rfl, rfl⟩
        go_wp2_with fail
        (with_reducible refine (HP.out _).mono ?_)
        rintro e w2 ⟨rfl, hb2⟩
        have HW2 := Lib.hid ((AltW.start w).below hb2)
        obtain ⟨g1, g2, hbw, g3, g4⟩ := HW2.out
        obtain ⟨c0, c1, f0, f1⟩ := box2c g1
        obtain ⟨d0, d1, k0, k1⟩ := box2c g2
        have l1 : w.heap.size < w2.heap.size := by omega
        have l2 : w.heap.size ≠ w2.heap.size := by omega
        have l3 : w.heap.size + 1 ≠ w2.heap.size := by omega
        have HBW := Lib.hid hbw
        clear g1 g2 g3 hb2 hbw
        go_wp2_with fail
        exact bodyPost_ret (v := .tuple #[.agg #[.int .i64 0, .int .i64 0], .int .i64 1]) (by simp [results, Tryz.results53, go_sem, c0, c1, d0, d1, l1, l2, l3]) rfl (AltR.mk HER.out rfl (by repeat (first | exact Below.refl _ _ | exact HBW.out | refine belDN ?_ _ | refine Below.drew ?_ | refine Below.setCell ?_ (by simp <;> omega) _ | refine Below.alloc ?_ (by simp <;> omega) _)))
set_option maxRecDepth 100000 in
set_option maxHeartbeats 32000000 in
theorem alt_two (s : ByteArray) (m : Int) (w : World) (hs : s.size ≤ 100000) (hn : NoMark s.data.toList) (i : Nat) (hi : Lib.index s.data.toList [46, 46] = i) :
    Calls Tryz.prog 53 #[.string s, .int .i64 m] w (AltR w (altV m s.data.toList)) := by
  obtain ⟨r, hr⟩ : ∃ r, altV m s.data.toList = r := ⟨_, rfl⟩
  rw [hr]
  have HR := Lib.hid hr
  have HN := Lib.hid hn
  have HI := Lib.hid hi
  have q1 : (s.toList == [110, 111, 110, 101]) = false := by rw [ByteArray.toList_eq]; simpa using hn.1
  have q2 : (s.toList == [42]) = false := by rw [ByteArray.toList_eq]; simpa using hn.2.1
  have HD := Lib.hid (fun W => dots_any s W (by omega))
  rw [hi] at HD
  have hroom := Lib.index_room s.data.toList [46, 46] (by rw [hi]; omega)
  rw [hi, ← Lib.size_eq] at hroom
  simp only [List.length_cons, List.length_nil] at hroom
  have a1 : (i : Int) ≤ (s.size : Int) := by omega
  have a2 : (i : Int) + 2 ≤ (s.size : Int) := by omega
  have a3 : (0 : Int) ≤ (i : Int) + 2 := by omega
  have a4 : IntKind.i64.wrap ((i : Int) + 2) = (i : Int) + 2 := IntWalk.i64_in _ (by omega)
  have a5 : ((i : Int) + 2).toNat = i + 2 := by omega
  have a6 : i ≤ s.size := by omega
  have a7 : i + 2 ≤ s.size := by omega
  have a8 : ¬ (i : Int) < 0 := by omega
  have HX : Hid ((s.extract 0 i).data.toList = s.data.toList.take i) := Lib.hid (by rw [Lib.extract_upto])
  have HY : Hid ((s.extract (i + 2) s.size).data.toList = s.data.toList.drop (i + 2)) := Lib.hid (Lib.extract_to_end s (i + 2))
  have hx1 : (s.extract 0 i).size ≤ 100000 := by rw [Lib.size_eq, HX.out, List.length_take, ← Lib.size_eq]; omega
  have hy1 : (s.extract (i + 2) s.size).size ≤ 100000 := by rw [Lib.size_eq, HY.out, List.length_drop, ← Lib.size_eq]; omega
  obtain ⟨f, hf⟩ : ∃ f, s.extract 0 i = f := ⟨_, rfl⟩
  obtain ⟨g, hg⟩ : ∃ g, s.extract (i + 2) s.size = g := ⟨_, rfl⟩
  rw [hf] at HX hx1
  rw [hg] at HY hy1
  have HPF := Lib.hid (fun W => rParse_any f W (by omega))
  have HPG := Lib.hid (fun W => rParse_any g W (by omega))
  have hh := headOk hn
  have h0 : 0 < s.size := by omega
  have h0i : (0 : Int) < (s.size : Int) := by omega
  rcases hh with ⟨_, _, e3⟩ | ⟨e1, e2, _, e3, e4⟩
  · omega
  generalize hcs : s[0] = c at *
  clear hr hn hi hroom
  by_cases hf0 : f.data.toList = []
  · obtain ⟨x1, x2⟩ := str_empty hf0
    rw [HX.out] at hf0
    by_cases hg0 : g.data.toList = []
    · obtain ⟨y1, y2⟩ := str_empty hg0
      rw [HY.out] at hg0
      have HER : Hid (r = ((0, 0), 3)) := Lib.hid (by rw [← HR.out]; exact two_nil HN.out i HI.out hf0 hg0)
      clear hf0 hg0
      go_enter Tryz.func53, Tryz.ntmps53
      go_wp2_with fail
      (with_reducible refine (HD.out _).mono ?_)
      rintro e w1 ⟨rfl, rfl⟩
      go_wp2_with fail
      go_quiet (fail)
      go_wp2_with fail
      exact bodyPost_ret (v := .tuple #[.agg #[.int .i64 0, .int .i64 0], .int .i64 3]) (by simp [results, Tryz.results53, go_sem]) rfl (AltR.mk HER.out rfl (by repeat (first | exact Below.refl _ _ | exact HBW.out | refine belDN ?_ _ | refine Below.drew ?_ | refine Below.setCell ?_ (by simp <;> omega) _ | refine Below.alloc ?_ (by simp <;> omega) _)))
    · obtain ⟨y1, y2⟩ := str_full hg0
      rw [HY.out] at hg0
      rcases parse_cases g.data.toList with hp | ⟨a, b, d, hp, ha, hb, hd⟩
      · rw [hp] at HPG
        simp only at HPG
        rw [HY.out] at hp
        have HER : Hid (r = ((0, 0), 3)) := Lib.hid (by rw [← HR.out]; exact two_err2 HN.out i HI.out hg0 hp)
        clear hf0 hg0 hp
        go_enter Tryz.func53, Tryz.ntmps53
        go_wp2_with fail
        (with_reducible refine (HD.out _).mono ?_)
        rintro e w1 ⟨rfl, rfl⟩
        go_wp2_with fail
        go_quiet (fail)
        go_wp2_with fail
        (with_reducible refine (HPG.out _).mono ?_)
        rintro e w2 ⟨rfl, hb2⟩
        have HW2 := Lib.hid ((AltW.startN w _).below hb2)
        obtain ⟨g1, g2, hbw, g3, g4⟩ := HW2.out
        obtain ⟨c0, c1, f0, f1⟩ := box2c g1
        obtain ⟨d0, d1, k0, k1⟩ := box2c g2
        have l1 : w.heap.size < w2.heap.size := by omega
        have l2 : w.heap.size ≠ w2.heap.size := by omega
        have l3 : w.heap.size + 1 ≠ w2.heap.size := by omega
        have HBW := Lib.hid hbw
        clear g1 g2 g3 hb2 hbw
        go_wp2_with fail
        exact bodyPost_ret (v := .tuple #[.agg #[.int .i64 0, .int .i64 0], .int .i64 3]) (by simp [results, Tryz.results53, go_sem, c0, c1, d0, d1, l1, l2, l3]) rfl (AltR.mk HER.out rfl (by repeat (first | exact Below.refl _ _ | exact HBW.out | refine belDN ?_ _ | refine Below.drew ?_ | refine Below.setCell ?_ (by simp <;> omega) _ | refine Below.alloc ?_ (by simp <;> omega) _)))
      · rw [hp] at HPG
        simp only at HPG
        rw [HY.out] at hp
        have HER0 := Lib.hid (show r = if a = m ∧ 0 < 1000 * b + d then ((0, 1000 * b + d), 0) else ((0, 0), 1) by rw [← HR.out]; exact two_second HN.out i HI.out hf0 hg0 hp)
        clear hf0 hg0 hp
        by_cases ham : a = m
        · by_cases hlt : 0 < 1000 * b + d
          · have HER := Lib.hid (HER0.out.trans (if_pos ⟨ham, hlt⟩))
            subst ham
            have hle : ¬ 1000 * b + d ≤ 0 := by omega
            clear HER0
            go_enter Tryz.func53, Tryz.ntmps53
            go_wp2_with fail
            (with_reducible refine (HD.out _).mono ?_)
            rintro e w1 ⟨rfl, rfl⟩
            go_wp2_with fail
            go_quiet (fail)
            go_wp2_with fail
            (with_reducible refine (HPG.out _).mono ?_)
            rintro e w2 ⟨rfl, hb2⟩
            have HW2 := Lib.hid ((AltW.startN w _).below hb2)
            obtain ⟨g1, g2, hbw, g3, g4⟩ := HW2.out
            obtain ⟨c0, c1, f0, f1⟩ := box2c g1
            obtain ⟨d0, d1, k0, k1⟩ := box2c g2
            have l1 : w.heap.size < w2.heap.size := by omega
            have l2 : w.heap.size ≠ w2.heap.size := by omega
            have l3 : w.heap.size + 1 ≠ w2.heap.size := by omega
            have HBW := Lib.hid hbw
            clear g1 g2 g3 hb2 hbw
            go_wp2_with fail
            exact bodyPost_ret (v := .tuple #[.agg #[.int .i64 0, .int .i64 (1000 * b + d)], .int .i64 0]) (by simp [results, Tryz.results53, go_sem, c0, c1, d0, d1, l1, l2, l3]) rfl (AltR.mk HER.out rfl (by repeat (first | exact Below.refl _ _ | exact HBW.out | refine belDN ?_ _ | refine Below.drew ?_ | refine Below.setCell ?_ (by simp <;> omega) _ | refine Below.alloc ?_ (by simp <;> omega) _)))
          · have HER := Lib.hid (HER0.out.trans (if_neg (by omega)))
            subst ham
            have hle : 1000 * b + d ≤ 0 := by omega
            clear HER0
            go_enter Tryz.func53, Tryz.ntmps53
            go_wp2_with fail
            (with_reducible refine (HD.out _).mono ?_)
            rintro e w1 ⟨rfl, rfl⟩
            go_wp2_with fail
            go_quiet (fail)
            go_wp2_with fail
            (with_reducible refine (HPG.out _).mono ?_)
            rintro e w2 ⟨rfl, hb2⟩
            have HW2 := Lib.hid ((AltW.startN w _).below hb2)
            obtain ⟨g1, g2, hbw, g3, g4⟩ := HW2.out
            obtain ⟨c0, c1, f0, f1⟩ := box2c g1
            obtain ⟨d0, d1, k0, k1⟩ := box2c g2
            have l1 : w.heap.size < w2.heap.size := by omega
            have l2 : w.heap.size ≠ w2.heap.size := by omega
            have l3 : w.heap.size + 1 ≠ w2.heap.size := by omega
            have HBW := Lib.hid hbw
            clear g1 g2 g3 hb2 hbw
            go_wp2_with fail
            exact bodyPost_ret (v := .tuple #[.agg #[.int .i64 0, .int .i64 0], .int .i64 1]) (by simp [results, Tryz.results53, go_sem, c0, c1, d0, d1, l1, l2, l3]) rfl (AltR.mk HER.out rfl (by repeat (first | exact Below.refl _ _ | exact HBW.out | refine belDN ?_ _ | refine Below.drew ?_ | refine Below.setCell ?_ (by simp <;> omega) _ | refine Below.alloc ?_ (by simp <;> omega) _)))
        · have HER := Lib.hid (HER0.out.trans (if_neg (fun h => ham h.1)))
          have ham2 : (a == m) = false := by simpa using ham
          clear HER0
          go_enter Tryz.func53, Tryz.ntmps53
          go_wp2_with fail
          (with_reducible refine (HD.out _).mono ?_)
          rintro e w1 ⟨rfl, rfl⟩
          go_wp2_with fail
          go_quiet (fail)
          go_wp2_with fail
          (with_reducible refine (HPG.out _).mono ?_)
          rintro e w2 ⟨rfl, hb2⟩
          have HW2 := Lib.hid ((AltW.startN w _).below hb2)
          obtain ⟨g1, g2, hbw, g3, g4⟩ := HW2.out
          obtain ⟨c0, c1, f0, f1⟩ := box2c g1
          obtain ⟨d0, d1, k0, k1⟩ := box2c g2
          have l1 : w.heap.size < w2.heap.size := by omega
          have l2 : w.heap.size ≠ w2.heap.size := by omega
          have l3 : w.heap.size + 1 ≠ w2.heap.size := by omega
          have HBW := Lib.hid hbw
          clear g1 g2 g3 hb2 hbw
          go_wp2_with fail
          exact bodyPost_ret (v := .tuple #[.agg #[.int .i64 0, .int .i64 0], .int .i64 1]) (by simp [results, Tryz.results53, go_sem, c0, c1, d0, d1, l1, l2, l3]) rfl (AltR.mk HER.out rfl (by repeat (first | exact Below.refl _ _ | exact HBW.out | refine belDN ?_ _ | refine Below.drew ?_ | refine Below.setCell ?_ (by simp <;> omega) _ | refine Below.alloc ?_ (by simp <;> omega) _)))
  · obtain ⟨x1, x2⟩ := str_full hf0
    rw [HX.out] at hf0
    rcases parse_cases f.data.toList with hp | ⟨a, b, d, hp, ha, hb, hd⟩
    · rw [hp] at HPF
      simp only at HPF
      rw [HX.out] at hp
      have HER : Hid (r = ((0, 0), 3)) := Lib.hid (by rw [← HR.out]; exact two_err1 HN.out i HI.out hf0 hp)
      clear hf0 hp
      go_enter Tryz.func53, Tryz.ntmps53
      go_wp2_with fail
      (with_reducible refine (HD.out _).mono ?_)
      rintro e w1 ⟨rfl, rfl⟩
      go_wp2_with fail
      go_quiet (fail)
      go_wp2_with fail
      (with_reducible refine (HPF.out _).mono ?_)
      rintro e w2 ⟨rfl, hb2⟩
      have HW2 := Lib.hid ((AltW.startN w _).below hb2)
      obtain ⟨g1, g2, hbw, g3, g4⟩ := HW2.out
      obtain ⟨c0, c1, f0, f1⟩ := box2c g1
      obtain ⟨d0, d1, k0, k1⟩ := box2c g2
      have l1 : w.heap.size < w2.heap.size := by omega
      have l2 : w.heap.size ≠ w2.heap.size := by omega
      have l3 : w.heap.size + 1 ≠ w2.heap.size := by omega
      have HBW := Lib.hid hbw
      clear g1 g2 g3 hb2 hbw
      go_wp2_with fail
      exact bodyPost_ret (v := .tuple #[.agg #[.int .i64 0, .int .i64 0], .int .i64 3]) (by simp [results, Tryz.results53, go_sem, c0, c1, d0, d1, l1, l2, l3]) rfl (AltR.mk HER.out rfl (by repeat (first | exact Below.refl _ _ | exact HBW.out | refine belDN ?_ _ | refine Below.drew ?_ | refine Below.setCell ?_ (by simp <;> omega) _ | refine Below.alloc ?_ (by simp <;> omega) _)))
    · rw [hp] at HPF
      simp only at HPF
      rw [HX.out] at hp
      by_cases hg0 : g.data.toList = []
      · obtain ⟨y1, y2⟩ := str_empty hg0
        rw [HY.out] at hg0
        have HER0 := Lib.hid (show r = if a = m then ((1000 * b + d, 1000000), 0) else ((0, 0), 1) by rw [← HR.out]; exact two_first HN.out i HI.out hf0 hg0 hp hb.2 hd.2)
        have hlt : 1000 * b + d < 1000000 := by omega
        have hle : ¬ 1000000 ≤ 1000 * b + d := by omega
        clear hf0 hg0 hp
        by_cases ham : a = m
        · have HER := Lib.hid (HER0.out.trans (if_pos ham))
          subst ham
          clear HER0
          go_enter Tryz.func53, Tryz.ntmps53
          go_wp2_with fail
          (with_reducible refine (HD.out _).mono ?_)
          rintro e w1 ⟨rfl, rfl⟩
          go_wp2_with fail
          go_quiet (fail)
          go_wp2_with fail
          (with_reducible refine (HPF.out _).mono ?_)
          rintro e w2 ⟨rfl, hb2⟩
          have HW2 := Lib.hid ((AltW.startN w _).below hb2)
          obtain ⟨g1, g2, hbw, g3, g4⟩ := HW2.out
          obtain ⟨c0, c1, f0, f1⟩ := box2c g1
          obtain ⟨d0, d1, k0, k1⟩ := box2c g2
          have l1 : w.heap.size < w2.heap.size := by omega
          have l2 : w.heap.size ≠ w2.heap.size := by omega
          have l3 : w.heap.size + 1 ≠ w2.heap.size := by omega
          have HBW := Lib.hid hbw
          clear g1 g2 g3 hb2 hbw
          go_wp2_with fail
          exact bodyPost_ret (v := .tuple #[.agg #[.int .i64 (1000 * b + d), .int .i64 1000000], .int .i64 0]) (by simp [results, Tryz.results53, go_sem, c0, c1, d0, d1, l1, l2, l3]) rfl (AltR.mk HER.out rfl (by repeat (first | exact Below.refl _ _ | exact HBW.out | refine belDN ?_ _ | refine Below.drew ?_ | refine Below.setCell ?_ (by simp <;> omega) _ | refine Below.alloc ?_ (by simp <;> omega) _)))
        · have HER := Lib.hid (HER0.out.trans (if_neg ham))
          have ham2 : (a == m) = false := by simpa using ham
          clear HER0
          go_enter Tryz.func53, Tryz.ntmps53
          go_wp2_with fail
          (with_reducible refine (HD.out _).mono ?_)
          rintro e w1 ⟨rfl, rfl⟩
          go_wp2_with fail
          go_quiet (fail)
          go_wp2_with fail
          (with_reducible refine (HPF.out _).mono ?_)
          rintro e w2 ⟨rfl, hb2⟩
          have HW2 := Lib.hid ((AltW.startN w _).below hb2)
          obtain ⟨g1, g2, hbw, g3, g4⟩ := HW2.out
          obtain ⟨c0, c1, f0, f1⟩ := box2c g1
          obtain ⟨d0, d1, k0, k1⟩ := box2c g2
          have l1 : w.heap.size < w2.heap.size := by omega
          have l2 : w.heap.size ≠ w2.heap.size := by omega
          have l3 : w.heap.size + 1 ≠ w2.heap.size := by omega
          have HBW := Lib.hid hbw
          clear g1 g2 g3 hb2 hbw
          go_wp2_with fail
          exact bodyPost_ret (v := .tuple #[.agg #[.int .i64 0, .int .i64 0], .int .i64 1]) (by simp [results, Tryz.results53, go_sem, c0, c1, d0, d1, l1, l2, l3]) rfl (AltR.mk HER.out rfl (by repeat (first | exact Below.refl _ _ | exact HBW.out | refine belDN ?_ _ | refine Below.drew ?_ | refine Below.setCell ?_ (by simp <;> omega) _ | refine Below.alloc ?_ (by simp <;> omega) _)))
      · obtain ⟨y1, y2⟩ := str_full hg0
        rw [HY.out] at hg0
        rcases parse_cases g.data.toList with hp' | ⟨a', b', d', hp', ha', hb', hd'⟩
        · rw [hp'] at HPG
          simp only at HPG
          rw [HY.out] at hp'
          have HER : Hid (r = ((0, 0), 3)) := Lib.hid (by rw [← HR.out]; exact two_err2 HN.out i HI.out hg0 hp')
          clear hf0 hg0 hp hp'
          go_enter Tryz.func53, Tryz.ntmps53
          go_wp2_with fail
          (with_reducible refine (HD.out _).mono ?_)
          rintro e w1 ⟨rfl, rfl⟩
          go_wp2_with fail
          go_quiet (fail)
          go_wp2_with fail
          (with_reducible refine (HPF.out _).mono ?_)
          rintro e w2 ⟨rfl, hb2⟩
          have HW2 := Lib.hid ((AltW.startN w _).below hb2)
          obtain ⟨g1, g2, hbw, g3, g4⟩ := HW2.out
          obtain ⟨c0, c1, f0, f1⟩ := box2c g1
          obtain ⟨d0, d1, k0, k1⟩ := box2c g2
          have l1 : w.heap.size < w2.heap.size := by omega
          have l2 : w.heap.size ≠ w2.heap.size := by omega
          have l3 : w.heap.size + 1 ≠ w2.heap.size := by omega
          have HBW := Lib.hid hbw
          clear g1 g2 g3 hb2 hbw
          go_wp2_with fail
          (with_reducible refine (HPG.out _).mono ?_)
          rintro e w3 ⟨rfl, hb3⟩
          clear c0 c1 d0 d1 f0 f1 k0 k1 l1 l2 l3 HBW g4
          have HW3 := Lib.hid (((HW2.out.set _).alloc _).below hb3)
          obtain ⟨g1, g2, hbw, g3, g4⟩ := HW3.out
          obtain ⟨c0, c1, f0, f1⟩ := box2c g1
          obtain ⟨d0, d1, k0, k1⟩ := box2c g2
          have l1 : w.heap.size < w3.heap.size := by omega
          have l2 : w.heap.size ≠ w3.heap.size := by omega
          have l3 : w.heap.size + 1 ≠ w3.heap.size := by omega
          have HBW := Lib.hid hbw
          clear g1 g2 g3 hb3 hbw
          go_wp2_with fail
          exact bodyPost_ret (v := .tuple #[.agg #[.int .i64 0, .int .i64 0], .int .i64 3]) (by simp [results, Tryz.results53, go_sem, c0, c1, d0, d1, l1, l2, l3]) rfl (AltR.mk HER.out rfl (by repeat (first | exact Below.refl _ _ | exact HBW.out | refine belDN ?_ _ | refine Below.drew ?_ | refine Below.setCell ?_ (by simp <;> omega) _ | refine Below.alloc ?_ (by simp <;> omega) _)))
        · rw [hp'] at HPG
          simp only at HPG
          rw [HY.out] at hp'
          have HER0 := Lib.hid (show r = if (a = m ∧ a' = m) ∧ 1000 * b + d < 1000 * b' + d' then ((1000 * b + d, 1000 * b' + d'), 0) else ((0, 0), 1) by rw [← HR.out]; exact two_both HN.out i HI.out hf0 hg0 hp hp')
          clear hf0 hg0 hp hp'
          by_cases ham : a = m
          · by_cases ham' : a' = m
            · by_cases hlt : 1000 * b + d < 1000 * b' + d'
              · have HER := Lib.hid (HER0.out.trans (if_pos ⟨⟨ham, ham'⟩, hlt⟩))
                subst ham
                subst ham'
                have hle : ¬ 1000 * b' + d' ≤ 1000 * b + d := by omega
                clear HER0
                go_enter Tryz.func53, Tryz.ntmps53
                go_wp2_with fail
                (with_reducible refine (HD.out _).mono ?_)
                rintro e w1 ⟨rfl, rfl⟩
                go_wp2_with fail
                go_quiet (fail)
                go_wp2_with fail
                (with_reducible refine (HPF.out _).mono ?_)
                rintro e w2 ⟨rfl, hb2⟩
                have HW2 := Lib.hid ((AltW.startN w _).below hb2)
                obtain ⟨g1, g2, hbw, g3, g4⟩ := HW2.out
                obtain ⟨c0, c1, f0, f1⟩ := box2c g1
                obtain ⟨d0, d1, k0, k1⟩ := box2c g2
                have l1 : w.heap.size < w2.heap.size := by omega
                have l2 : w.heap.size ≠ w2.heap.size := by omega
                have l3 : w.heap.size + 1 ≠ w2.heap.size := by omega
                have HBW := Lib.hid hbw
                clear g1 g2 g3 hb2 hbw
                go_wp2_with fail
                (with_reducible refine (HPG.out _).mono ?_)
                rintro e w3 ⟨rfl, hb3⟩
                clear c0 c1 d0 d1 f0 f1 k0 k1 l1 l2 l3 HBW g4
                have HW3 := Lib.hid (((HW2.out.set _).alloc _).below hb3)
                obtain ⟨g1, g2, hbw, g3, g4⟩ := HW3.out
                obtain ⟨c0, c1, f0, f1⟩ := box2c g1
                obtain ⟨d0, d1, k0, k1⟩ := box2c g2
                have l1 : w.heap.size < w3.heap.size := by omega
                have l2 : w.heap.size ≠ w3.heap.size := by omega
                have l3 : w.heap.size + 1 ≠ w3.heap.size := by omega
                have HBW := Lib.hid hbw
                clear g1 g2 g3 hb3 hbw
                go_wp2_with fail
                exact bodyPost_ret (v := .tuple #[.agg #[.int .i64 (1000 * b + d), .int .i64 (1000 * b' + d')], .int .i64 0]) (by simp [results, Tryz.results53, go_sem, c0, c1, d0, d1, l1, l2, l3]) rfl (AltR.mk HER.out rfl (by repeat (first | exact Below.refl _ _ | exact HBW.out | refine belDN ?_ _ | refine Below.drew ?_ | refine Below.setCell ?_ (by simp <;> omega) _ | refine Below.alloc ?_ (by simp <;> omega) _)))
              · have HER := Lib.hid (HER0.out.trans (if_neg (fun h => hlt h.2)))
                subst ham
                subst ham'
                have hle : 1000 * b' + d' ≤ 1000 * b + d := by omega
                clear HER0
                go_enter Tryz.func53, Tryz.ntmps53
                go_wp2_with fail
                (with_reducible refine (HD.out _).mono ?_)
                rintro e w1 ⟨rfl, rfl⟩
                go_wp2_with fail
                go_quiet (fail)
                go_wp2_with fail
                (with_reducible refine (HPF.out _).mono ?_)
                rintro e w2 ⟨rfl, hb2⟩
                have HW2 := Lib.hid ((AltW.startN w _).below hb2)
                obtain ⟨g1, g2, hbw, g3, g4⟩ := HW2.out
                obtain ⟨c0, c1, f0, f1⟩ := box2c g1
                obtain ⟨d0, d1, k0, k1⟩ := box2c g2
                have l1 : w.heap.size < w2.heap.size := by omega
                have l2 : w.heap.size ≠ w2.heap.size := by omega
                have l3 : w.heap.size + 1 ≠ w2.heap.size := by omega
                have HBW := Lib.hid hbw
                clear g1 g2 g3 hb2 hbw
                go_wp2_with fail
                (with_reducible refine (HPG.out _).mono ?_)
                rintro e w3 ⟨rfl, hb3⟩
                clear c0 c1 d0 d1 f0 f1 k0 k1 l1 l2 l3 HBW g4
                have HW3 := Lib.hid (((HW2.out.set _).alloc _).below hb3)
                obtain ⟨g1, g2, hbw, g3, g4⟩ := HW3.out
                obtain ⟨c0, c1, f0, f1⟩ := box2c g1
                obtain ⟨d0, d1, k0, k1⟩ := box2c g2
                have l1 : w.heap.size < w3.heap.size := by omega
                have l2 : w.heap.size ≠ w3.heap.size := by omega
                have l3 : w.heap.size + 1 ≠ w3.heap.size := by omega
                have HBW := Lib.hid hbw
                clear g1 g2 g3 hb3 hbw
                go_wp2_with fail
                exact bodyPost_ret (v := .tuple #[.agg #[.int .i64 0, .int .i64 0], .int .i64 1]) (by simp [results, Tryz.results53, go_sem, c0, c1, d0, d1, l1, l2, l3]) rfl (AltR.mk HER.out rfl (by repeat (first | exact Below.refl _ _ | exact HBW.out | refine belDN ?_ _ | refine Below.drew ?_ | refine Below.setCell ?_ (by simp <;> omega) _ | refine Below.alloc ?_ (by simp <;> omega) _)))
            · have HER := Lib.hid (HER0.out.trans (if_neg (fun h => ham' h.1.2)))
              subst ham
              have ham2 : (a' == a) = false := by simpa using ham'
              clear HER0
              go_enter Tryz.func53, Tryz.ntmps53
              go_wp2_with fail
              (with_reducible refine (HD.out _).mono ?_)
              rintro e w1 ⟨rfl, rfl⟩
              go_wp2_with fail
              go_quiet (fail)
              go_wp2_with fail
              (with_reducible refine (HPF.out _).mono ?_)
              rintro e w2 ⟨rfl, hb2⟩
              have HW2 := Lib.hid ((AltW.startN w _).below hb2)
              obtain ⟨g1, g2, hbw, g3, g4⟩ := HW2.out
              obtain ⟨c0, c1, f0, f1⟩ := box2c g1
              obtain ⟨d0, d1, k0, k1⟩ := box2c g2
              have l1 : w.heap.size < w2.heap.size := by omega
              have l2 : w.heap.size ≠ w2.heap.size := by omega
              have l3 : w.heap.size + 1 ≠ w2.heap.size := by omega
              have HBW := Lib.hid hbw
              clear g1 g2 g3 hb2 hbw
              go_wp2_with fail
              (with_reducible refine (HPG.out _).mono ?_)
              rintro e w3 ⟨rfl, hb3⟩
              clear c0 c1 d0 d1 f0 f1 k0 k1 l1 l2 l3 HBW g4
              have HW3 := Lib.hid (((HW2.out.set _).alloc _).below hb3)
              obtain ⟨g1, g2, hbw, g3, g4⟩ := HW3.out
              obtain ⟨c0, c1, f0, f1⟩ := box2c g1
              obtain ⟨d0, d1, k0, k1⟩ := box2c g2
              have l1 : w.heap.size < w3.heap.size := by omega
              have l2 : w.heap.size ≠ w3.heap.size := by omega
              have l3 : w.heap.size + 1 ≠ w3.heap.size := by omega
              have HBW := Lib.hid hbw
              clear g1 g2 g3 hb3 hbw
              go_wp2_with fail
              exact bodyPost_ret (v := .tuple #[.agg #[.int .i64 0, .int .i64 0], .int .i64 1]) (by simp [results, Tryz.results53, go_sem, c0, c1, d0, d1, l1, l2, l3]) rfl (AltR.mk HER.out rfl (by repeat (first | exact Below.refl _ _ | exact HBW.out | refine belDN ?_ _ | refine Below.drew ?_ | refine Below.setCell ?_ (by simp <;> omega) _ | refine Below.alloc ?_ (by simp <;> omega) _)))
          · have HER := Lib.hid (HER0.out.trans (if_neg (fun h => ham h.1.1)))
            have ham2 : (a == m) = false := by simpa using ham
            clear HER0
            go_enter Tryz.func53, Tryz.ntmps53
            go_wp2_with fail
            (with_reducible refine (HD.out _).mono ?_)
            rintro e w1 ⟨rfl, rfl⟩
            go_wp2_with fail
            go_quiet (fail)
            go_wp2_with fail
            (with_reducible refine (HPF.out _).mono ?_)
            rintro e w2 ⟨rfl, hb2⟩
            have HW2 := Lib.hid ((AltW.startN w _).below hb2)
            obtain ⟨g1, g2, hbw, g3, g4⟩ := HW2.out
            obtain ⟨c0, c1, f0, f1⟩ := box2c g1
            obtain ⟨d0, d1, k0, k1⟩ := box2c g2
            have l1 : w.heap.size < w2.heap.size := by omega
            have l2 : w.heap.size ≠ w2.heap.size := by omega
            have l3 : w.heap.size + 1 ≠ w2.heap.size := by omega
            have HBW := Lib.hid hbw
            clear g1 g2 g3 hb2 hbw
            go_wp2_with fail
            (with_reducible refine (HPG.out _).mono ?_)
            rintro e w3 ⟨rfl, hb3⟩
            clear c0 c1 d0 d1 f0 f1 k0 k1 l1 l2 l3 HBW g4
            have HW3 := Lib.hid (((HW2.out.set _).alloc _).below hb3)
            obtain ⟨g1, g2, hbw, g3, g4⟩ := HW3.out
            obtain ⟨c0, c1, f0, f1⟩ := box2c g1
            obtain ⟨d0, d1, k0, k1⟩ := box2c g2
            have l1 : w.heap.size < w3.heap.size := by omega
            have l2 : w.heap.size ≠ w3.heap.size := by omega
            have l3 : w.heap.size + 1 ≠ w3.heap.size := by omega
            have HBW := Lib.hid hbw
            clear g1 g2 g3 hb3 hbw
            go_wp2_with fail
            exact bodyPost_ret (v := .tuple #[.agg #[.int .i64 0, .int .i64 0], .int .i64 1]) (by simp [results, Tryz.results53, go_sem, c0, c1, d0, d1, l1, l2, l3]) rfl (AltR.mk HER.out rfl (by repeat (first | exact Below.refl _ _ | exact HBW.out | refine belDN ?_ _ | refine Below.drew ?_ | refine Below.setCell ?_ (by simp <;> omega) _ | refine Below.alloc ?_ (by simp <;> omega) _)))
theorem rAlt_any (s : ByteArray) (m : Int) (w : World) (hs : s.size ≤ 100000) : Calls Tryz.prog 53 #[.string s, .int .i64 m] w (AltR w (altV m s.data.toList)) := by
  by_cases h1 : s.data.toList = [110, 111, 110, 101]
  · exact alt_word s m w (.inl h1)
  by_cases h2 : s.data.toList = [42]
  · exact alt_word s m w (.inr h2)
  by_cases h3 : s.data.toList.head? = some 94
  · exact alt_mark s 94 m w hs (.inl rfl) h3
  by_cases h4 : s.data.toList.head? = some 126
  · exact alt_mark s 126 m w hs (.inr rfl) h4
  by_cases hi : 0 ≤ Lib.index s.data.toList [46, 46]
  · exact alt_two s m w hs ⟨h1, h2, h3, h4⟩ (Lib.index s.data.toList [46, 46]).toNat (by omega)
  · exact alt_single s m w hs ⟨h1, h2, h3, h4⟩ hi
end Go.Proofs.YtdhihdiifgcfdaaGreatDoor

namespace Go.Proofs.YtdhihdiifgcfdaaGreatDoor
set_option linter.unusedVariables false
set_option linter.unusedSimpArgs false
open Go Go.RowKit

set_option maxRecDepth 100000 in
set_option maxHeartbeats 16000000 in
theorem r31Parse_any (s : ByteArray) (m : Int) (w : World) : Calls Tryz.prog 17 #[.string s, .int .i64 m] w (SetErr w (parseC m s.data.toList)) := by
  have hsz := Lib.size_eq s
  by_cases h0 : 65536 < s.size
  · have HE := Lib.hid (show parseC m s.data.toList = ([], 7) by unfold parseC; rw [if_pos (.inl (by omega))])
    rw [HE.out]
    have h1 : (65536 : Int) < (s.size : Int) := by omega
    clear hsz
    go_enter Tryz.func17, Tryz.ntmps17
    go_wp2_with fail
    go_ret2
    exact ⟨_, rfl, edges_nil _ _ _ _, Below.refl _ _⟩
  · have h1 : ¬ (65536 : Int) < (s.size : Int) := by omega
    have hbl : (barB s).length = s.data.toList.count 124 + 1 := by rw [← alts_len, ← bars_count]; unfold altsL; rw [List.length_map]
    have HSP := Lib.hid (rSplit_any s w (by omega))
    by_cases h2 : 1024 ≤ s.data.toList.count 124
    · have HE := Lib.hid (show parseC m s.data.toList = ([], 7) by unfold parseC; rw [if_pos (.inr h2)])
      rw [HE.out]
      have h3 : (1024 : Int) < ((barB s).length : Int) := by omega
      have h4 : 0 < (barB s).length := by omega
      generalize barB s = ps at *
      clear hsz hbl
      go_enter Tryz.func17, Tryz.ntmps17
      go_wp2_with fail
      (with_reducible refine HSP.out.mono ?_)
      rintro e w1 ⟨v1, rfl, hO1, hb1⟩
      obtain ⟨g, cap, rfl⟩ := hO1.shape h4
      have HB1 := Lib.hid hb1
      clear hO1 hb1
      go_wp2_with fail
      go_ret2
      exact ⟨_, rfl, edges_nil _ _ _ _, HB1.out⟩
    · have hE0 : parseC m s.data.toList = if ¬ (0 ≤ m ∧ m ≤ 999) then ([], 2) else if errL m (altsL s.data.toList) ≠ 0 then ([], errL m (altsL s.data.toList)) else (canon ((altsL s.data.toList).map fun a => (altV m a).1), 0) := by
        unfold parseC
        rw [if_neg (by omega)]
      have h3 : ¬ (1024 : Int) < ((barB s).length : Int) := by omega
      have h3b : (barB s).length ≤ 1024 := by omega
      have h4 : 0 < (barB s).length := by omega
      clear hbl
      by_cases m0 : m < 0
      · have HE := Lib.hid (show parseC m s.data.toList = ([], 2) by rw [hE0, if_pos (by omega)])
        rw [HE.out]
        generalize barB s = ps at *
        clear hsz hE0 h2
        go_enter Tryz.func17, Tryz.ntmps17
        go_wp2_with fail
        (with_reducible refine HSP.out.mono ?_)
        rintro e w1 ⟨v1, rfl, hO1, hb1⟩
        obtain ⟨g, cap, rfl⟩ := hO1.shape h4
        have HB1 := Lib.hid hb1
        clear hO1 hb1
        go_wp2_with fail
        go_ret2
        exact ⟨_, rfl, edges_nil _ _ _ _, HB1.out⟩
      · by_cases m1 : 999 < m
        · have HE := Lib.hid (show parseC m s.data.toList = ([], 2) by rw [hE0, if_pos (by omega)])
          rw [HE.out]
          generalize barB s = ps at *
          clear hsz hE0 h2
          go_enter Tryz.func17, Tryz.ntmps17
          go_wp2_with fail
          (with_reducible refine HSP.out.mono ?_)
          rintro e w1 ⟨v1, rfl, hO1, hb1⟩
          obtain ⟨g, cap, rfl⟩ := hO1.shape h4
          have HB1 := Lib.hid hb1
          clear hO1 hb1
          go_wp2_with fail
          go_ret2
          exact ⟨_, rfl, edges_nil _ _ _ _, HB1.out⟩
        · rw [if_neg (by omega)] at hE0
          obtain ⟨r, hr⟩ : ∃ r, parseC m s.data.toList = r := ⟨_, rfl⟩
          rw [hr] at hE0 ⊢
          have HE := Lib.hid hE0
          have HAL := Lib.hid (alts_len s)
          have HAG := Lib.hid (fun k hk => @alts_get s k hk)
          have HBS := Lib.hid (barB_le s)
          generalize altsL s.data.toList = al at *
          generalize barB s = ps at *
          clear hsz hE0 hr h2
          go_enter Tryz.func17, Tryz.ntmps17
          go_wp2_with fail
          (with_reducible refine HSP.out.mono ?_)
          rintro e w1 ⟨v1, rfl, hO1, hb1⟩
          obtain ⟨g, cap, rfl⟩ := hO1.shape h4
          have hg := hO1.ge.2
          have HO1 := Lib.hid hO1
          have HB1 := Lib.hid hb1
          clear hO1 hb1
          go_wp2_with fail
          go_loopw [7, 8] (fun o p wr => ∃ k : Nat, k ≤ ps.length ∧ p = .int .i64 k ∧ Hid (∀ a ∈ al.take k, (altV m a).2 = 0) ∧ Hid (wr.ownsRow w1.heap.size 49 2 o k (edgeCells ((al.take k).map fun a => (altV m a).1))) ∧ Hid (Below w1.heap.size w1 wr)) (fun _ p _ => ps.length - (intOf p).toNat)
          case atStart => exact ⟨0, Nat.zero_le _, rfl, Lib.hid (by simp), Lib.hid (World.ownsRow_made w1 #[] 0 (Nat.le_refl _) (by decide) rfl), Lib.hid ((Below.refl _ _).alloc (Nat.le_refl _) _)⟩
          case round =>
            obtain ⟨k, hk, rfl, HOK, HO, HB⟩ := hrel
            have hszr := HB.out.size
            by_cases hlt : k < ps.length
            · have hc := (HB.out.cell (p := ⟨g, k, none⟩) hg).trans ((HO1.out.cell k (by omega)).trans (show (ps.map Value.string)[k]? = some (.string ps[k]) by rw [List.getElem?_map]; simp [hlt]))
              have hal : al[k]? = some (Lib.trimB ps[k].data.toList 32) := HAG.out k hlt
              have hps : ps[k].size ≤ 65536 := by have := HBS.out ps[k] (List.getElem_mem hlt); omega
              generalize ps[k] = pk at *
              have HTR := Lib.hid (rTrim_any pk wr (by omega))
              obtain ⟨t, ht⟩ : ∃ t : ByteArray, ⟨(Lib.trimB pk.data.toList 32).toArray⟩ = t := ⟨_, rfl⟩
              have htl : Lib.trimB pk.data.toList 32 = t.data.toList := by rw [← ht]
              have hts : t.size ≤ 65536 := by rw [Lib.size_eq, ← htl]; have := trim_len pk.data.toList; rw [← Lib.size_eq] at this; omega
              rw [ht] at HTR
              rw [htl] at hal
              have HAK := Lib.hid hal
              have HAR := Lib.hid (rAlt_any t m wr (by omega))
              clear ht htl hal
              have hkal : k < al.length := (List.getElem?_eq_some_iff.1 HAK.out).1
              have HTK : Hid (al.take (k + 1) = al.take k ++ [t.data.toList]) := Lib.hid (by
                rw [List.take_succ_eq_append_getElem hkal]
                have := (List.getElem?_eq_some_iff.1 HAK.out).2
                rw [this])
              have HEV : Hid (∀ (x : Int × Int) (e : Int), e ≠ 0 → altV m t.data.toList = (x, e) → r = ([], e)) := Lib.hid (fun x e he ha => by
                have h5 := (List.getElem?_eq_some_iff.1 HAK.out).2
                have h4 : errL m al = e := by
                  rw [errL_at hkal HOK.out (by rw [h5, ha]; exact he), h5, ha]
                rw [HE.out, h4, if_pos he])
              obtain ⟨⟨⟨x1, x2⟩, er⟩, hx⟩ : ∃ x, altV m t.data.toList = x := ⟨_, rfl⟩
              rw [hx] at HAR
              have HX := Lib.hid hx
              clear hx
              go_wp2_with fail
              (with_reducible refine HTR.out.mono ?_)
              rintro e w2 ⟨rfl, rfl⟩
              go_wp2_with fail
              (with_reducible refine HAR.out.mono ?_)
              rintro e w3 ⟨rfl, hb3⟩
              have HB3 := Lib.hid (HB.out.trans (hb3.mono hszr))
              have HO3 := Lib.hid (own_far HO.out (fun j hj => hb3.block j (HO.out.lt j hj).2))
              have hz3 := HB3.out.size
              clear hb3
              simp only
              by_cases her : er = 0
              · subst her
                have HOA := Lib.hid (HO3.out.alloc (.cells #[.int .i64 x1, .int .i64 x2] 49))
                have HBA : Hid (Below w1.heap.size w1 (w3.alloc (.cells #[.int .i64 x1, .int .i64 x2] 49))) := Lib.hid (HB3.out.alloc hz3 _)
                have HLM : Hid (((al.take k).map fun a => (altV m a).1).length = k) := Lib.hid (by rw [List.length_map, List.length_take, Nat.min_eq_left (Nat.le_of_lt hkal)])
                generalize hL : ((al.take k).map fun a => (altV m a).1) = L at *
                have HL := Lib.hid hL
                clear hL
                go_wp2_with (at_builtin; refine wpList_app_span rfl _ _ rfl w1.heap.size u7 k L (by rfl) HOA.out x1 x2 (by rw [World.size_alloc]; rfl) (by omega) (by simp; omega) ?_; intro g5 cap5 w5 hown' hbel; have HOW := Lib.hid hown'; have HBW := Lib.hid (HBA.out.trans hbel); clear hown' hbel)
                go_roundw
                case rel =>
                  refine ⟨k + 1, by omega, by go_num, Lib.hid ?_, Lib.hid ?_, HBW⟩
                  · rw [HTK.out]
                    intro a ha
                    rcases List.mem_append.1 ha with ha | ha
                    · exact HOK.out a ha
                    · rcases List.mem_singleton.1 ha with rfl
                      rw [HX.out]
                  · rw [HTK.out, List.map_append, HL.out]
                    simp only [List.map_cons, List.map_nil, HX.out]
                    exact HOW.out
                case measure => simp [intOf]; omega
              · have HR := Lib.hid (HEV.out _ er her HX.out)
                have her2 : (er == 0) = false := by simpa using her
                have her3 : (er != 0) = true := by simpa using her
                clear her
                go_wp2_with fail
                go_ret2
                exact setErr_mk rfl HR.out (edges_nil _ _ none 0) (HB1.out.trans ((HB3.out.alloc hz3 _).mono HB1.out.size))
            · have hkk : k = ps.length := by omega
              subst hkk
              have HTA : Hid (al.take ps.length = al) := Lib.hid (by rw [← HAL.out, List.take_length])
              rw [HTA.out] at HOK HO
              have HR : Hid (r = (canon (al.map fun a => (altV m a).1), 0)) := Lib.hid (by rw [HE.out, errL_none HOK.out, if_neg (by decide)])
              have hll : (al.map fun a => (altV m a).1).length = ps.length := by rw [List.length_map]; exact HAL.out
              have HC := Lib.hid (rCanonical_any u7 (al.map fun a => (altV m a).1) wr (by omega) (own_edges HO.out))
              obtain ⟨fa, fc, rfl⟩ := own_form HO.out
              generalize canon (al.map fun a => (altV m a).1) = cc at *
              clear hll
              go_wp2_with fail
              (with_reducible refine HC.out.mono ?_)
              rintro e w5 ⟨v5, rfl, hE5, hb5⟩
              have HE5 := Lib.hid hE5
              have HB5 := Lib.hid (HB1.out.trans ((HB.out.trans (hb5.mono hszr)).mono HB1.out.size))
              clear hE5 hb5
              go_wp2_with fail
              go_ret2
              exact setErr_mk rfl HR.out HE5.out HB5.out
end Go.Proofs.YtdhihdiifgcfdaaGreatDoor

namespace Go.Proofs.YtdhihdiifgcfdaaGreatDoor
set_option linter.unusedVariables false
set_option linter.unusedSimpArgs false
open Go Go.RowKit

theorem parseC_len (m : Int) (l : List UInt8) : (parseC m l).1.length ≤ 1000000 := by
  unfold parseC
  split
  · simp
  · split
    · simp
    · split
      · simp
      · rename_i h1 _ _
        refine Nat.le_trans (canon_len _) ?_
        rw [List.length_map]
        unfold altsL
        rw [List.length_map, bars_count]
        omega
set_option maxRecDepth 100000 in
set_option maxHeartbeats 16000000 in
theorem ConstraintTexts_any (s : ByteArray) (v : Value) (x : List (Int × Int)) (m : Int) (w : World) (hm : EnvOk w) (hE : EdgesOf w.heap.size v x w) :
    Calls Tryz.prog 4 #[.string s, v, .int .i64 m] w fun e w' => e = .returned (.bool true) ∧ Below w.heap.size w w' := by
  have HA := Lib.hid (cawake_any w hm)
  have HN := Lib.hid hm
  have HV := Lib.hid hE
  have HB : Hid (Below w.heap.size w w) := Lib.hid (Below.refl _ _)
  obtain ⟨ao, ec, rfl, _⟩ := hE
  clear hm
  by_cases hg : (3000 < s.size ∧ s.size ≤ 65536) ∨ 30 < x.length
  · have hgi : ((3000 : Int) < (s.size : Int) ∧ (s.size : Int) ≤ 65536) ∨ (¬ ((3000 : Int) < (s.size : Int)) ∧ (30 : Int) < (x.length : Int)) ∨ ((3000 : Int) < (s.size : Int) ∧ ¬ (s.size : Int) ≤ 65536 ∧ decide ((s.size : Int) ≤ 65536) = false ∧ (30 : Int) < (x.length : Int)) := by
      simp only [decide_eq_false_iff_not]
      omega
    clear hg
    rcases hgi with ⟨g1, g2⟩ | ⟨g1, g2⟩ | ⟨g1, g2, g3, g4⟩
    all_goals
      go_enter Tryz.func4, Tryz.ntmps4
      go_wp2_with fail
      (with_reducible refine HA.out.mono ?_)
      rintro e w1 ⟨rfl, hb⟩
      replace HB := Lib.hid (belT HB.out hb)
      clear hb
      go_wp2_with fail
      go_ret
      exact ⟨rfl, HB.out⟩
  · have hx : x.length ≤ 30 := by omega
    have h30i : ¬ (30 : Int) < (x.length : Int) := by omega
    have h30j : decide ((30 : Int) < (x.length : Int)) = false := decide_eq_false h30i
    have hgi : (¬ ((3000 : Int) < (s.size : Int))) ∨ ((3000 : Int) < (s.size : Int) ∧ ¬ (s.size : Int) ≤ 65536 ∧ decide ((s.size : Int) ≤ 65536) = false) := by
      simp only [decide_eq_false_iff_not]
      omega
    clear hg
    have H1 := Lib.hid (fun W (h : EnvOk W) => cParse_any s m W h.1)
    have H2 := Lib.hid (fun W => r31Parse_any s m W)
    have H3 := Lib.hid (fun (W : World) (hn : EnvOk W) (h : EdgesOf W.heap.size (.slice ao x.length ec) x W) => cFormat_any _ x m W hn.2 (by omega) h)
    have H4 := Lib.hid (fun (W : World) (h : EdgesOf W.heap.size (.slice ao x.length ec) x W) => r31Format_any _ x m W (by omega) h)
    have hcl : (parseC m s.data.toList).1.length ≤ 1000000 := parseC_len m s.data.toList
    obtain ⟨⟨pl, pe⟩, hp⟩ : ∃ q, parseC m s.data.toList = q := ⟨_, rfl⟩
    obtain ⟨⟨ft, fe⟩, hf⟩ : ∃ q, formatC m x = q := ⟨_, rfl⟩
    rw [hp] at H1 H2 hcl
    rw [hf] at H3 H4
    simp only at hcl H4
    have H5 := Lib.hid (fun (W : World) (a b : Value) (h : EdgesOf W.heap.size a pl W) (h2 : EdgesOf W.heap.size b pl W) => Same_yes _ a b W hcl h h2)
    clear hp hf hcl
    rcases hgi with g1 | ⟨g1, g2, g3⟩
    all_goals
      go_enter Tryz.func4, Tryz.ntmps4
      go_wp2_with fail
      (with_reducible refine (HA.out).mono ?_)
      rintro e w1 ⟨rfl, hb⟩
      replace HV := Lib.hid (HV.out.on hb)
      replace HN := Lib.hid (HN.out.below hb)
      replace HB := Lib.hid (belT HB.out hb)
      clear hb
      go_wp2_with fail
      (with_reducible refine (H1.out _ HN.out).mono ?_)
      rintro e w2 ⟨x5, rfl, hE, hb⟩
      replace HV := Lib.hid (HV.out.on hb)
      replace HN := Lib.hid (HN.out.below hb)
      replace HB := Lib.hid (belT HB.out hb)
      have Hx5 := Lib.hid hE
      clear hE
      clear hb
      go_wp2_with fail
      (with_reducible refine (H2.out _).mono ?_)
      rintro e w3 ⟨x6, rfl, hE, hb⟩
      replace HV := Lib.hid (HV.out.on hb)
      replace HN := Lib.hid (HN.out.below hb)
      replace Hx5 := Lib.hid (Hx5.out.on hb)
      replace HB := Lib.hid (belT HB.out hb)
      have Hx6 := Lib.hid hE
      clear hE
      clear hb
      go_wp2_with fail
      (with_reducible refine (H3.out _ HN.out HV.out).mono ?_)
      rintro e w4 ⟨rfl, hb⟩
      replace HV := Lib.hid (HV.out.on hb)
      replace HN := Lib.hid (HN.out.below hb)
      replace Hx5 := Lib.hid (Hx5.out.on hb)
      replace Hx6 := Lib.hid (Hx6.out.on hb)
      replace HB := Lib.hid (belT HB.out hb)
      clear hb
      go_wp2_with fail
      (with_reducible refine (H4.out _ HV.out).mono ?_)
      rintro e w5 ⟨rfl, hb⟩
      replace HV := Lib.hid (HV.out.on hb)
      replace HN := Lib.hid (HN.out.below hb)
      replace Hx5 := Lib.hid (Hx5.out.on hb)
      replace Hx6 := Lib.hid (Hx6.out.on hb)
      replace HB := Lib.hid (belT HB.out hb)
      clear hb
      go_wp2_with fail
      (with_reducible refine (H5.out _ _ _ Hx5.out Hx6.out).mono ?_)
      rintro e w6 ⟨rfl, hb⟩
      replace HV := Lib.hid (HV.out.on hb)
      replace HN := Lib.hid (HN.out.below hb)
      replace Hx5 := Lib.hid (Hx5.out.on hb)
      replace Hx6 := Lib.hid (Hx6.out.on hb)
      replace HB := Lib.hid (belT HB.out hb)
      clear hb
      go_wp2_with fail
      go_ret
      exact ⟨rfl, HB.out⟩
end Go.Proofs.YtdhihdiifgcfdaaGreatDoor
