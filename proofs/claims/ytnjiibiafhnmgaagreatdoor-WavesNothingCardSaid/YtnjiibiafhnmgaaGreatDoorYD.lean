/- Plain facts on the segments of a path. Contracts of the lexer's Major and IsPath. Contracts of package version's Line and Path. -/
import Derived.Test.YtnjiibiafhnmgaaGreatDoorYC
import Derived.Lib.SplitLaws
import Derived.Test.YtnjiibiafhnmgaaGreatDoorYB
import Derived.OrdersIn
import Derived.OrdersHeld
import Derived.StillTailTactics
import Derived.RangeFuncNested
import Derived.RangeFuncCalls
import Derived.WalkKit
import Derived.Deep.RegionHeld3
import Derived.Test.YtnjiibiafhnmgaaGreatDoorProg
import Derived.RangeFuncBound
import Derived.RangeFuncLeaves
import Derived.Shelf.Abstract
import Derived.Shelf.RegionOpen
import Derived.OwnWalkIn
import Derived.TacticsInMore
import Derived.LoopNIn
import Derived.LoopIn
import Derived.WalkSpells
import Derived.WalkLawsBesides
import Derived.BigQuiet
import Derived.Deep.QuietTactic
import Derived.Deep.AppendLies
import Derived.Maps.AppendAt
import Derived.Lib.Hide
import Derived.Laws.EntriesVeiled
namespace Go.Proofs.YtnjiibiafhnmgaaGreatDoor
open Go

def segsL : List UInt8 → List (List UInt8)
  | [] => [[]]
  | c :: r => if c = 47 then [] :: segsL r else match segsL r with
    | [] => [[c]]
    | h :: t => (c :: h) :: t
theorem segsL_slash (r : List UInt8) : segsL (47 :: r) = [] :: segsL r := by rw [segsL, if_pos rfl]
theorem segsL_other (c : UInt8) (r h : List UInt8) (t : List (List UInt8)) (hc : c ≠ 47) (e : segsL r = h :: t) : segsL (c :: r) = (c :: h) :: t := by rw [segsL, if_neg hc, e]
theorem segsL_one (a : List UInt8) (h : ∀ b ∈ a, b ≠ 47) : segsL a = [a] := by
  induction a with
  | nil => rfl
  | cons c a ih => exact segsL_other c a a [] (h c (by simp)) (ih (fun b hb => h b (by simp [hb])))
theorem segsL_cut (a r : List UInt8) (h : ∀ b ∈ a, b ≠ 47) : segsL (a ++ 47 :: r) = a :: segsL r := by
  induction a with
  | nil => exact segsL_slash r
  | cons c a ih => exact segsL_other c _ a _ (h c (by simp)) (ih (fun b hb => h b (by simp [hb])))
theorem piece (l : List UInt8) (i : Nat) (h : Lib.indexByte l 47 = i) : l = l.take i ++ 47 :: l.drop (i + 1) ∧ ∀ b ∈ l.take i, b ≠ 47 := by
  obtain ⟨h1, h2⟩ := Lib.indexByte_some h
  have hi : i < l.length := by
    rcases Nat.lt_or_ge i l.length with h | h
    · exact h
    · rw [List.getElem?_eq_none h] at h1; exact absurd h1 (by simp)
  have e : l[i] = 47 := by rw [List.getElem?_eq_getElem hi] at h1; exact Option.some.inj h1
  refine ⟨by rw [← e, List.getElem_cons_drop, List.take_append_drop], fun b hb => ?_⟩
  obtain ⟨j, hj, rfl⟩ := List.getElem_of_mem hb
  rw [List.getElem_take]
  rw [List.length_take] at hj
  intro e2
  exact h2 j (by omega) (by rw [List.getElem?_eq_getElem (by omega), e2])
theorem no_piece (l : List UInt8) (h : Lib.indexByte l 47 = -1) : ∀ b ∈ l, b ≠ 47 := by
  intro b hb e
  obtain ⟨j, hj, rfl⟩ := List.getElem_of_mem hb
  exact Lib.indexByte_none h j (by rw [List.getElem?_eq_getElem hj, e])

theorem split_segs : ∀ (k : Nat) (l : List UInt8), l.count 47 = k → Lib.splitK [47] 0 k l = segsL l := by
  intro k
  induction k with
  | zero =>
    intro l h
    rw [segsL_one l (fun b hb e => by subst e; have := List.count_pos_iff.2 hb; omega)]
    rfl
  | succ k ih =>
    intro l h
    rw [Lib.splitK, Lib.index_one]
    by_cases hm : Lib.indexByte l 47 = -1
    · have := no_piece l hm
      have h0 : l.count 47 = 0 := List.count_eq_zero.2 (fun hb => this 47 hb rfl)
      omega
    · have hge := Lib.index_ge l [47]
      rw [Lib.index_one] at hge
      obtain ⟨i, hi⟩ : ∃ i : Nat, Lib.indexByte l 47 = i := ⟨(Lib.indexByte l 47).toNat, by omega⟩
      obtain ⟨e, hn⟩ := piece l i hi
      have hc : (l.drop (i + 1)).count 47 = k := by
        have h0 : (l.take i).count 47 = 0 := List.count_eq_zero.2 (fun hb => hn 47 hb rfl)
        rw [e, List.count_append, List.count_cons_self, h0] at h
        omega
      rw [if_neg (by simpa using hm), hi]
      have e1 : ((i : Int).toNat + 0) = i := by simp
      have e2 : ((i : Int).toNat + ([47] : List UInt8).length) = i + 1 := by simp
      rw [e1, e2, ih _ hc]
      conv => rhs; rw [e]
      rw [segsL_cut _ _ hn]

def segB (s : ByteArray) : List ByteArray := (segsL s.data.toList).map fun l => ⟨l.toArray⟩
theorem ba_ext {a b : ByteArray} (h : a.data.toList = b.data.toList) : a = b := by
  rw [← Lib.mk_data a, ← Lib.mk_data b, h]
theorem map_data_inj : ∀ {a b : List ByteArray}, a.map (·.data.toList) = b.map (·.data.toList) → a = b
  | [], [], _ => rfl
  | [], _ :: _, h => by simp at h
  | _ :: _, [], h => by simp at h
  | x :: a, y :: b, h => by
    rw [List.map_cons, List.map_cons, List.cons.injEq] at h
    rw [ba_ext h.1, map_data_inj h.2]
theorem segB_data (s : ByteArray) : (segB s).map (·.data.toList) = segsL s.data.toList := by
  unfold segB
  rw [List.map_map]
  conv => rhs; rw [← List.map_id (segsL s.data.toList)]
  exact List.map_congr_left (fun l _ => rfl)
theorem split_segB (s : ByteArray) : Lib.splitB ⟨#[47]⟩ 0 (Lib.countB s ⟨#[47]⟩) s = segB s := by
  apply map_data_inj
  rw [Lib.splitB_data, segB_data]
  exact split_segs _ _ (Lib.count_one 47 _).symm
theorem count_segB (s : ByteArray) : Lib.countB s ⟨#[47]⟩ + 1 = (segB s).length := by
  rw [← split_segB]
  exact (Lib.splitB_all ⟨#[47]⟩ (by decide) 0 _ s rfl).symm
theorem segB_ne (s : ByteArray) : 0 < (segB s).length := by rw [← count_segB]; omega

theorem segsL_length (l : List UInt8) : (segsL l).length ≤ l.length + 1 := by
  induction l with
  | nil => simp [segsL]
  | cons c r ih =>
    unfold segsL
    split
    · simp; omega
    · split
      · simp
      · rename_i h t e
        rw [e] at ih; simp at ih ⊢; omega
theorem segsL_le (l : List UInt8) : ∀ x ∈ segsL l, x.length ≤ l.length := by
  induction l with
  | nil => simp [segsL]
  | cons c r ih =>
    intro x hx
    unfold segsL at hx
    split at hx
    · rcases List.mem_cons.1 hx with rfl | hx
      · simp
      · have := ih x hx; simp; omega
    · split at hx
      · simp at hx; subst hx; simp
      · rename_i h t e
        rcases List.mem_cons.1 hx with rfl | hx
        · have := ih h (by rw [e]; simp); simp; omega
        · have := ih x (by rw [e]; simp [hx]); simp; omega
theorem segB_length (s : ByteArray) : (segB s).length ≤ s.size + 1 := by
  unfold segB; rw [List.length_map]; have := segsL_length s.data.toList; rw [← Lib.size_eq] at this; exact this
theorem segB_le (s : ByteArray) : ∀ x ∈ segB s, x.size ≤ s.size := by
  intro x hx
  obtain ⟨l, hl, rfl⟩ := List.mem_map.1 hx
  have := segsL_le _ l hl
  rw [Lib.size_eq, Lib.size_eq s]
  simpa using this
def lastB (s : ByteArray) : ByteArray := (segB s).getD ((segB s).length - 1) ByteArray.empty
theorem lastB_mem (s : ByteArray) : lastB s ∈ segB s := by
  have := segB_ne s
  unfold lastB
  rw [List.getD_eq_getElem?_getD, List.getElem?_eq_getElem (by omega)]
  exact List.getElem_mem _
def segOk (x : ByteArray) : Bool := nameS x && allZ pathZ x
def pathOk (s : ByteArray) : Bool := decide (s.size ≤ 64) && (decide (2 ≤ (segB s).length) && (verOk (lastB s) && (segB s).all segOk))
def majN (s : ByteArray) : Int := if pathOk s then verN (lastB s) else 0
def majE (s : ByteArray) : Int := if pathOk s then 0 else 4
end Go.Proofs.YtnjiibiafhnmgaaGreatDoor

namespace Go.Proofs.YtnjiibiafhnmgaaGreatDoor
open Go Go.RowKit

theorem Split_any (s : ByteArray) (w : World) (hs : s.size < 4294967281) (hm : MaxOk w) :
    Calls Tryz.prog 206 #[.string s, .string ⟨#[47]⟩] w fun e w' => e = .returned (.slice (some ⟨w.heap.size, 0, none⟩) (segB s).length (segB s).length) ∧ w.alloc (.cells ((segB s).map Value.string).toArray 9) = w' := by
  obtain ⟨m, hm⟩ := hm
  refine (Tryz.strings_Split s ⟨#[47]⟩ m w hs hm (by decide)).mono ?_
  rintro e w' ⟨rfl, rfl⟩
  rw [count_segB, split_segB]
  exact ⟨rfl, rfl⟩

set_option maxHeartbeats 600000 in
theorem Major_any (s : ByteArray) (w : World) (hs : s.size ≤ 1000000) (hm : MaxOk w) :
    Calls Tryz.prog 197 #[.string s] w fun e w' => e = .returned (.tuple #[.int .i64 (majN s), .int .i64 (majE s)]) ∧ Below w.heap.size w w' := by
  have hne := segB_ne s
  have hln := segB_length s
  have hcell : (w.alloc (.cells ((segB s).map Value.string).toArray 9)).cell? ⟨w.heap.size, 0 + ((segB s).length - 1), none⟩ = some (.string (lastB s)) := cells_new w (segB s) _ _ (by omega)
  have hcells := fun i (hi : i < (segB s).length) => cells_new w (segB s) 9 i hi
  have hsz := segB_le s
  have hll := hsz _ (lastB_mem s)
  have hm1 := hm.alloc (.cells ((segB s).map Value.string).toArray 9)
  have hbl : Below w.heap.size w (w.alloc (.cells ((segB s).map Value.string).toArray 9)) := (Below.refl _ w).alloc (Nat.le_refl _) _
  have HP : Hid (pathOk s = (decide (s.size ≤ 64) && (decide (2 ≤ (segB s).length) && (verOk (lastB s) && (segB s).all segOk)))) := Lib.hid rfl
  have HN : Hid (majN s = if pathOk s then verN (lastB s) else 0) := Lib.hid rfl
  have HE : Hid (majE s = if pathOk s then 0 else 4) := Lib.hid rfl
  have HS := Lib.hid (Split_any s w (by omega) hm)
  generalize (w.alloc (.cells ((segB s).map Value.string).toArray 9)) = w1 at *
  generalize lastB s = lb at *
  generalize segB s = sg at *
  have hnum : sg.length ≤ 1000001 := by omega
  have H1 := Lib.hid hcells
  have H2 := Lib.hid hsz
  clear hcells hsz
  simp only [Nat.zero_add] at hcell
  have hlb : lb.size ≤ 140737488351232 := by omega
  cases h1 : verOk lb
  case false =>
    have HT : Hid (pathOk s = false) := Lib.hid (by rw [HP.out, h1]; simp)
    go_enter Tryz.func197, Tryz.ntmps197
    go_wp2_with fail
    refine HS.out.mono ?_
    rintro e w' ⟨rfl, rfl⟩
    go_wp2_with (go_at_call 207; refine (version_any _ _ hlb).mono ?_; rintro e w' ⟨rfl, rfl⟩)
    go_ret2
    exact ⟨ret_ii (by rw [HN.out, HT.out]; rfl) (by rw [HE.out, HT.out]; rfl), hbl⟩
  by_cases h2 : s.size ≤ 64
  case neg =>
    have HT : Hid (pathOk s = false) := Lib.hid (by rw [HP.out, decide_eq_false h2]; rfl)
    go_enter Tryz.func197, Tryz.ntmps197
    go_wp2_with fail
    refine HS.out.mono ?_
    rintro e w' ⟨rfl, rfl⟩
    go_wp2_with (go_at_call 207; refine (version_any _ _ hlb).mono ?_; rintro e w' ⟨rfl, rfl⟩)
    go_ret2
    exact ⟨ret_ii (by rw [HN.out, HT.out]; rfl) (by rw [HE.out, HT.out]; rfl), hbl⟩
  by_cases h3 : 2 ≤ sg.length
  case neg =>
    have HT : Hid (pathOk s = false) := Lib.hid (by rw [HP.out, decide_eq_false h3]; simp)
    go_enter Tryz.func197, Tryz.ntmps197
    go_wp2_with fail
    refine HS.out.mono ?_
    rintro e w' ⟨rfl, rfl⟩
    go_wp2_with (go_at_call 207; refine (version_any _ _ hlb).mono ?_; rintro e w' ⟨rfl, rfl⟩)
    go_ret2
    exact ⟨ret_ii (by rw [HN.out, HT.out]; rfl) (by rw [HE.out, HT.out]; rfl), hbl⟩
  have HT : Hid (pathOk s = sg.all segOk) := Lib.hid (by rw [HP.out, decide_eq_true h2, decide_eq_true h3, h1]; rfl)
  go_enter Tryz.func197, Tryz.ntmps197
  go_wp2_with fail
  refine HS.out.mono ?_
  rintro e w' ⟨rfl, rfl⟩
  go_wp2_with (go_at_call 207; refine (version_any _ _ hlb).mono ?_; rintro e w' ⟨rfl, rfl⟩)
  go_loop [35] (fun i => ∃ k : Nat, k ≤ sg.length ∧ i = .int .i64 k ∧ Hid ((sg.take k).all segOk = true)) (fun i => sg.length - (intOf i).toNat)
  case atStart => exact ⟨0, Nat.zero_le _, rfl, Lib.hid rfl⟩
  case round =>
    obtain ⟨k, hk, rfl, HA⟩ := hrel
    by_cases hlt : k < sg.length
    · obtain ⟨x, hx⟩ : ∃ x, x = sg.getD k ByteArray.empty := ⟨_, rfl⟩
      have hg : sg.getD k ByteArray.empty = sg[k] := by simp [hlt]
      have hck : w1.cell? ⟨w.heap.size, k, none⟩ = some (.string x) := by rw [hx]; simpa using H1.out k hlt
      have hxs : x.size ≤ s.size := by rw [hx, hg]; exact H2.out _ (List.getElem_mem hlt)
      have hxm : x.size ≤ maxLen := by unfold maxLen; omega
      have HX : Hid (x = sg[k]) := Lib.hid (by rw [hx, hg])
      clear hx hg
      cases h4 : nameS x
      · have HF : Hid (pathOk s = false) := Lib.hid (by
          rw [HT.out, List.all_eq_false]
          exact ⟨sg[k], List.getElem_mem hlt, by rw [← HX.out, segOk, h4]; exact Bool.false_ne_true⟩)
        go_wp2_with (first | (go_at_call 208; refine (IsName_any _ _ hxm hm1).mono ?_; rintro e w' ⟨rfl, rfl⟩) | (go_at_call 209; refine (all_pathZ _ _ hxm).mono ?_; rintro e w' ⟨rfl, rfl⟩))
        go_ret2
        exact ⟨ret_ii (by rw [HN.out, HF.out]; rfl) (by rw [HE.out, HF.out]; rfl), hbl⟩
      · cases h5 : allZ pathZ x
        · have HF : Hid (pathOk s = false) := Lib.hid (by
            rw [HT.out, List.all_eq_false]
            exact ⟨sg[k], List.getElem_mem hlt, by rw [← HX.out, segOk, h4, h5]; exact Bool.false_ne_true⟩)
          go_wp2_with (first | (go_at_call 208; refine (IsName_any _ _ hxm hm1).mono ?_; rintro e w' ⟨rfl, rfl⟩) | (go_at_call 209; refine (all_pathZ _ _ hxm).mono ?_; rintro e w' ⟨rfl, rfl⟩))
          go_ret2
          exact ⟨ret_ii (by rw [HN.out, HF.out]; rfl) (by rw [HE.out, HF.out]; rfl), hbl⟩
        · have HO : Hid ((sg.take (k + 1)).all segOk = true) := Lib.hid (by
            rw [List.take_succ_eq_append_getElem hlt, List.all_append, HA.out, ← HX.out]
            simp [segOk, h4, h5])
          go_wp2_with (first | (go_at_call 208; refine (IsName_any _ _ hxm hm1).mono ?_; rintro e w' ⟨rfl, rfl⟩) | (go_at_call 209; refine (all_pathZ _ _ hxm).mono ?_; rintro e w' ⟨rfl, rfl⟩))
          go_round
          case rel => exact ⟨k + 1, by omega, by go_num, HO⟩
          case measure => simp [intOf]; omega
    · obtain rfl : k = sg.length := by omega
      have HO : Hid (pathOk s = true) := Lib.hid (by rw [HT.out]; have := HA.out; rwa [List.take_length] at this)
      go_wp2
      go_ret2
      exact ⟨ret_ii (by rw [HN.out, HO.out]; simp only [verN, h1, if_true]) (by rw [HE.out, HO.out]; rfl), hbl⟩

set_option maxHeartbeats 400000 in
theorem IsPath_any (s : ByteArray) (w : World) (hs : s.size ≤ 1000000) (hm : MaxOk w) :
    Calls Tryz.prog 198 #[.string s] w fun e w' => e = .returned (.bool (pathOk s)) ∧ Below w.heap.size w w' := by
  have HE : Hid (majE s = if pathOk s then 0 else 4) := Lib.hid rfl
  cases h : pathOk s
  all_goals
    rw [h] at HE
    simp only [Bool.false_eq_true, if_false, if_true] at HE
    go_enter Tryz.func198, Tryz.ntmps198
    go_wp2_with fail
    refine (Major_any s w hs hm).mono ?_
    rintro e w' ⟨rfl, hb⟩
    rw [HE.out]
    go_wp2
    go_ret
    exact ⟨rfl, hb⟩
end Go.Proofs.YtnjiibiafhnmgaaGreatDoor

namespace Go.Proofs.YtnjiibiafhnmgaaGreatDoor
open Go Go.RowKit

def slashI (s : ByteArray) : Int := Lib.lastIndexByte s 47
theorem segsL_many (l : List UInt8) (h : ∀ b ∈ l, b ≠ 47) : (segsL l).length = 1 := by rw [segsL_one l h]; rfl
theorem slash_path (s : ByteArray) (h : pathOk s = true) : ∃ i : Nat, slashI s = i ∧ i < s.size ∧ s.data.toList[i]? = some 47 ∧ ∀ j, i < j → s.data.toList[j]? ≠ some 47 := by
  have ebang : ∀ j, j < s.size → s.data.toList[j]? = some (s.data[j]!) := fun j hj => by
    have h1 : j < s.data.toList.length := by rw [← Lib.size_eq]; exact hj
    have h2 : j < s.data.size := hj
    rw [List.getElem?_eq_getElem h1, getElem!_pos s.data j h2, Array.getElem_toList]
  have h47 : ∀ j, j < s.size → (((s.data[j]!).toNat : Int) = 47 ↔ s.data.toList[j]? = some 47) := fun j hj => by
    rw [ebang j hj]
    constructor
    · intro e
      have : s.data[j]! = 47 := UInt8.toNat_inj.1 (by have : (47 : UInt8).toNat = 47 := rfl; omega)
      rw [this]
    · intro e
      rw [Option.some.inj e]; rfl
  rcases Lib.lastIndexByte_spec s 47 with ⟨_, hn⟩ | ⟨i, hi, e, hc, hn⟩
  · exfalso
    unfold pathOk at h
    simp only [Bool.and_eq_true, decide_eq_true_eq] at h
    have h2 := h.2.1
    unfold segB at h2
    rw [List.length_map, segsL_many] at h2
    · omega
    · intro b hb e
      subst e
      obtain ⟨j, hj, he⟩ := List.getElem_of_mem hb
      have hj2 : j < s.size := by rw [Lib.size_eq]; exact hj
      exact hn j hj2 ((h47 j hj2).2 (by rw [List.getElem?_eq_getElem hj, he]))
  · refine ⟨i, e, hi, (h47 i hi).1 hc, fun j hj he => ?_⟩
    have hj2 : j < s.size := by
      have := (List.getElem?_eq_some_iff.1 he).1
      rw [Lib.size_eq]; exact this
    exact hn j hj hj2 ((h47 j hj2).2 he)
def lineV (s : ByteArray) : ByteArray × Int × Int := if pathOk s then (s.extract 0 (slashI s).toNat, majN s, 0) else (⟨#[]⟩, 0, 4)
theorem LastSlash_any (s : ByteArray) (w : World) (hs : s.size ≤ 1000000) : Calls Tryz.prog 199 #[.string s, .string ⟨#[47]⟩] w fun e w' => e = .returned (.int .i64 (slashI s)) ∧ w = w' :=
  flip (Tryz.strings_LastIndex_one s ⟨#[47]⟩ rfl (by omega) w)

set_option maxRecDepth 100000 in
set_option maxHeartbeats 4000000 in
theorem Line_any (s : ByteArray) (w : World) (hs : s.size ≤ 1000000) (hm : MaxOk w) : Calls Tryz.prog 182 #[.string s] w fun e w' =>
    e = .returned (.tuple #[.string (lineV s).1, .int .i64 (lineV s).2.1, .int .i64 (lineV s).2.2]) ∧ Below w.heap.size w w' := by
  cases hp : pathOk s with
  | false =>
    have HE := Lib.hid (show lineV s = (⟨#[]⟩, 0, 4) by unfold lineV; rw [hp]; rfl)
    have HM := Lib.hid (show majE s = 4 by unfold majE; rw [hp]; rfl)
    rw [HE.out]
    have HP := Lib.hid hp
    clear hp
    go_enter Tryz.func182, Tryz.ntmps182
    go_wp2_with fail
    refine (Major_any s w hs hm).mono ?_
    rintro e w1 ⟨rfl, hb1⟩
    have hm1 := hm.below hb1 hm.pos
    have HB1 := Lib.hid hb1
    clear hb1
    go_wp2_with fail
    refine (IsPath_any s w1 hs hm1).mono ?_
    rintro e w2 ⟨rfl, hb2⟩
    have HB2 : Hid (Below w.heap.size w w2) := Lib.hid (HB1.out.trans (hb2.mono HB1.out.size))
    rw [HP.out]
    clear hb2
    go_wp2_with fail
    go_ret3
    exact ⟨rfl, HB2.out⟩
  | true =>
    obtain ⟨i, hi1, hi2, hi3, hi4⟩ := slash_path s hp
    obtain ⟨hd, hhd⟩ : ∃ hd, s.extract 0 i = hd := ⟨_, rfl⟩
    have HE := Lib.hid (show lineV s = (hd, majN s, 0) by unfold lineV; rw [hp, hi1, ← hhd]; rfl)
    have HM := Lib.hid (show majE s = 0 by unfold majE; rw [hp]; rfl)
    have HL := Lib.hid (fun W => LastSlash_any s W hs)
    rw [hi1] at HL
    rw [HE.out]
    have HP := Lib.hid hp
    have HH := Lib.hid hhd
    have g1 : (0 : Int) ≤ (i : Int) := by omega
    have g2 : (i : Int) ≤ s.size := by omega
    have g3 : i ≤ s.size := by omega
    clear hp hi1 hi3 hi4 hhd
    go_enter Tryz.func182, Tryz.ntmps182
    go_wp2_with fail
    refine (Major_any s w hs hm).mono ?_
    rintro e w1 ⟨rfl, hb1⟩
    rw [HM.out]
    have hm1 := hm.below hb1 hm.pos
    have HB1 := Lib.hid hb1
    clear hb1
    go_wp2_with fail
    refine (IsPath_any s w1 hs hm1).mono ?_
    rintro e w2 ⟨rfl, hb2⟩
    have HB2 : Hid (Below w.heap.size w w2) := Lib.hid (HB1.out.trans (hb2.mono HB1.out.size))
    rw [HP.out]
    clear hb2
    go_wp2_with fail
    (with_reducible refine (HL.out _).mono ?_)
    rintro e w3 ⟨rfl, rfl⟩
    go_wp2_with fail
    go_ret3
    exact ⟨by rw [← HH.out]; rfl, HB2.out⟩
def pathB (s : ByteArray) (m : Int) : ByteArray := s ++ ⟨#[47, 118]⟩ ++ ⟨(decL m).toArray⟩
def pathV (s : ByteArray) (m : Int) : ByteArray × Int := if partB m = true then if pathOk (pathB s m) = true then (pathB s m, 0) else (⟨#[]⟩, 4) else (⟨#[]⟩, 2)
end Go.Proofs.YtnjiibiafhnmgaaGreatDoor

namespace Go.Proofs.YtnjiibiafhnmgaaGreatDoor
set_option linter.unusedVariables false
set_option linter.unusedSimpArgs false
open Go

abbrev ReqL := ByteArray × List (Int × Int)
abbrev SelL := ByteArray × (Int × Int × Int)
structure RelL where
  path : ByteArray
  ver : Int × Int × Int
  reqs : List ReqL
  ar : ByteArray
  ifc : ByteArray
  cert : ByteArray
  yk : Bool
instance : Inhabited RelL := ⟨⟨⟨#[]⟩, (0, 0, 0), [], ⟨#[]⟩, ⟨#[]⟩, ⟨#[]⟩, false⟩⟩
def ltB (a b : ByteArray) : Bool := Op.bytesLess a.toList b.toList
def firstE (n : Nat) (f : Nat → Int) : Int := (((List.range n).map f).find? fun e => decide (e ≠ 0)).getD 0
theorem firstE_at {n : Nat} {f : Nat → Int} {k : Nat} (hk : k < n) (h : ∀ j, j < k → f j = 0) (h2 : f k ≠ 0) : firstE n f = f k := by
  unfold firstE
  have e : (List.range n).map f = (List.range k).map f ++ (f k :: ((List.range n).drop (k + 1)).map f) := by
    have e1 : List.range n = List.range k ++ (k :: (List.range n).drop (k + 1)) := by
      have h1 : (List.range n).take k = List.range k := by rw [List.take_range, Nat.min_eq_left (Nat.le_of_lt hk)]
      conv => lhs; rw [← List.take_append_drop k (List.range n), h1, List.drop_eq_getElem_cons (by simpa using hk)]
      simp
    conv => lhs; rw [e1]
    rw [List.map_append, List.map_cons]
  have : ((List.range n).map f).find? (fun e => decide (e ≠ 0)) = some (f k) := by
    rw [List.find?_eq_some_iff_append]
    refine ⟨by simpa using h2, (List.range k).map f, _, e, fun a ha => ?_⟩
    obtain ⟨j, hj, rfl⟩ := List.mem_map.1 ha
    simp [h j (List.mem_range.1 hj)]
  rw [this]
  rfl
theorem firstE_none {n : Nat} {f : Nat → Int} (h : ∀ j, j < n → f j = 0) : firstE n f = 0 := by
  unfold firstE
  have : ((List.range n).map f).find? (fun e => decide (e ≠ 0)) = none := List.find?_eq_none.2 fun a ha => by
    obtain ⟨j, hj, rfl⟩ := List.mem_map.1 ha
    simp [h j (List.mem_range.1 hj)]
  rw [this]
  rfl
theorem firstE_zero {n : Nat} {f : Nat → Int} (h : firstE n f = 0) : ∀ j, j < n → f j = 0 := by
  intro j
  induction j using Nat.strongRecOn with
  | _ j ih =>
    intro hj
    by_cases h2 : f j = 0
    · exact h2
    · rw [firstE_at hj (fun i hi => ih i hi (by omega)) h2] at h
      exact absurd h h2
def reqE (q : ReqL) (before : Option ByteArray) : Int :=
  if (lineV q.1).2.2 ≠ 0 then 4 else if q.2 = [] ∨ q.2 ≠ canon q.2 then 1 else match before with
    | none => 0
    | some b => if ltB b q.1 = true then 0 else 1
def beforeQ (l : List ReqL) (k : Nat) : Option ByteArray := if k = 0 then none else some (l.getD (k - 1) default).1
def checkReqs (l : List ReqL) : Int := if 16 < l.length then 7 else firstE l.length fun k => reqE (l.getD k default) (beforeQ l k)
def digB (s : ByteArray) : Bool := decide (s.size = 0) || decide (s.size = 32)
def relE (r : RelL) : Int :=
  if (lineV r.path).2.2 ≠ 0 then 4
  else if (validB r.ver.1 r.ver.2.1 r.ver.2.2 && decide (r.ver.1 = (lineV r.path).2.1)) = false then 2
  else if checkReqs r.reqs ≠ 0 then checkReqs r.reqs
  else if (digB r.ar && (digB r.ifc && digB r.cert)) = true then 0 else 1
def cmpS (a b : ByteArray) : Int := if ltB a b = true then -1 else if ltB b a = true then 1 else 0
def cmpR (a b : RelL) : Int := if cmpS a.path b.path ≠ 0 then cmpS a.path b.path else cmpV a.ver.1 a.ver.2.1 a.ver.2.2 b.ver.1 b.ver.2.1 b.ver.2.2
def keyL (r : RelL) : SelL := (r.path, r.ver)
def relE2 (b r : RelL) : Int := if keyL b = keyL r then 5 else if 0 < cmpR b r then 1 else 0
def idxErr (X : List RelL) (k : Nat) : Int := if relE (X.getD k default) ≠ 0 then relE (X.getD k default) else if k = 0 then 0 else relE2 (X.getD (k - 1) default) (X.getD k default)
def checkX (X : List RelL) : Int := if 256 < X.length then 7 else firstE X.length (idxErr X)
def findR (X : List RelL) (y : SelL) : Option RelL := X.find? fun r => decide (keyL r = y)
def incrS (s : List SelL) : Prop := s.Pairwise fun a b => ltB a.1 b.1 = true
end Go.Proofs.YtnjiibiafhnmgaaGreatDoor

namespace Go.Proofs.YtnjiibiafhnmgaaGreatDoor
theorem zl1 : (∀ {α : Type} {xs : List α} {i : Nat} (h : i < xs.toArray.size), xs.toArray[i] = xs[i]'(by simpa using h)) ∧ (∀ {α : Type} {a : α} {l : List α} (h : 0 < (a :: l).length), (a :: l)[0] = a) ∧ (∀ {α : Type} {a : α} {l : List α} {i : Nat} (h : i + 1 < (a :: l).length), (a :: l)[i + 1] = l[i]'(Nat.lt_of_succ_lt_succ h)) ∧
    (∀ {α : Type} (l : List α) (i : Nat) (a : α), l.toArray.setIfInBounds i a = (l.set i a).toArray) ∧ (∀ {α : Type} {x a : α} {xs : List α}, (x :: xs).set 0 a = a :: xs) ∧ (∀ {α : Type} {x a : α} {xs : List α} {i : Nat}, (x :: xs).set (i + 1) a = x :: xs.set i a) ∧
    (∀ (a : Act) (d : Tmp) (v : Value), a.put (some d) v = { a with tmps := a.tmps.setIfInBounds d v }) ∧ (∀ (a : Act) (v : Value), a.put none v = a) :=
  ⟨fun _ => rfl, fun _ => rfl, fun _ => rfl, fun _ _ _ => List.setIfInBounds_toArray _ _ _, rfl, rfl, fun _ _ _ => rfl, fun _ _ => rfl⟩
theorem zl2 {P : Program} {md : Region.Mode} {ops : Array Oper} {Q : Exit → Act → World → Prop} {S : World → Prop} {i : Nat} {oi : Oper} {v : Value} {fuel : Nat} {listed : Array Bool} {a : Act} {w : World} (hi : ops[i]? = some oi) (hy : YieldsIf P ops S oi v a) (hS : S w)
    (h : wpAnyH P md ops Q S fuel (listed.setIfInBounds i true) (a.put oi.dst v) w) (hs : Region.noSelect ops = true := by kernel_rfl) (hf : Region.free md ops listed i = true := by kernel_rfl) (hr : (Region.ready md ops listed).contains i = true := by kernel_rfl)
    (hQ : ∀ c a w, Q (.panic c) (a.put oi.dst v) w → Q (.panic c) a w := by exact fun _ _ _ h => h) : wpAnyH P md ops Q S (fuel + 1) listed a w := wpAnyH_take hi hs hf hr hQ hy hS h
theorem zl3 (i : Nat) (v : Value) {P : Program} {md : Region.Mode} {ops : Array Oper} {Q : Exit → Act → World → Prop} {S : World → Prop} {oi : Oper} {fuel : Nat} {listed : Array Bool} {a : Act} {w : World} (hi : ops[i]? = some oi) (hv : ∀ w, S w → (execOp a.eval oi).run P w = .ok (.value v) w)
    (h : wpAnyH P md ops Q S fuel (listed.setIfInBounds i true) (a.put oi.dst v) w) (hw : Region.wanted oi (yielded ops a.tmps) = true := by rfl) (hS : S w := by assumption) (hs : Region.noSelect ops = true := by kernel_rfl) (hf : Region.free md ops listed i = true := by kernel_rfl)
    (hr : (Region.ready md ops listed).contains i = true := by kernel_rfl) (hQ : ∀ c a w, Q (.panic c) (a.put oi.dst v) w → Q (.panic c) a w := by exact fun _ _ _ h => h) : wpAnyH P md ops Q S (fuel + 1) listed a w := wpAnyH_take hi hs hf hr hQ (.inl ⟨hw, hv⟩) hS h
set_option linter.unusedVariables false
set_option linter.unusedSimpArgs false
open Go Go.RowKit

def calmOps (ops : Array Oper) : Bool := ops.all fun o => match o.op with | .defer _ => false | _ => true

theorem calmOps_spec {ops : Array Oper} (h : calmOps ops = true) {j : Nat} {o : Oper} (ho : ops[j]? = some o) (c : _) : o.op ≠ .defer c := fun e => by
  unfold calmOps at h
  rw [Array.all_eq_true'] at h
  have := h o (Array.mem_of_getElem? ho)
  rw [e] at this
  cases this

theorem oper_round {P : Program} {l n : Nat} {o : Oper} {a : Act} {w : World} {K K' : Act → World → Prop} {Q : Exit → Act → World → Prop} (hd : ∀ c, o.op ≠ .defer c)
    (hK : ∀ a w, K a w → K' a w) (h : o.wp P a w K Q) : o.wpIn (Fence.wide.inRound l) n P a w K' Q := by
  refine ⟨fun _ _ => trivial, ?_⟩
  rw [Oper.semAt_eq _ _ _ hd]
  unfold Oper.wp at h
  generalize (execOp a.eval o).run P w = r at *
  cases r with
  | ok x w' =>
    cases x <;> simp only [Oper.upon, Oper.uponIn] at h ⊢
    case value v => exact hK _ _ h
    case skip => exact hK _ _ h
    case defer d => exact hK _ _ h
    case enter f args =>
      refine ⟨fun h => (by cases h), ?_⟩
      refine CallsIn.inRound l (callsIn_wide.2 (h.mono ?_))
      intro e w'' he
      cases e with
      | returned v => exact hK _ _ he
      | panicked c => exact he
      | outgrown => exact he
    case row r args =>
      refine ⟨fun h => (by cases h), ?_⟩
      intro c cs _
      obtain ⟨v, w'', hv, hs⟩ := h c cs
      exact ⟨v, w'', hK _ _ hv, stepsIn_wide.2 hs⟩
  | halt x w' =>
    cases x <;> simp only [Oper.upon, Oper.uponIn] at h ⊢ <;> exact h

theorem op_round {P : Program} {l n : Nat} {ops : Array Oper} {Q : Exit → Act → World → Prop} {i : Nat} {a : Act} {w : World} {K K' : Act → World → Prop} (hd : calmOps ops = true) (hQ : ∀ a w, ¬ Q .outgrown a w)
    (hK : ∀ a w, K a w → K' a w) (h : wpOp P ops Q i K a w) : wpOpIn (Fence.wide.inRound l) n P ops Q i K' a w := by
  unfold wpOp at h
  unfold wpOpIn
  cases ho : ops[i]? with
  | none => simp only [ho] at h ⊢; exact hK _ _ h
  | some o =>
    simp only [ho] at h ⊢
    by_cases hw : Region.wanted o (yielded ops a.tmps) = true
    · rw [if_pos hw] at h ⊢
      rcases h with h | ⟨_, a0, w0, h⟩
      · exact oper_round (calmOps_spec hd ho) hK h
      · exact absurd h (hQ _ _)
    · rw [if_neg hw] at h ⊢
      exact ⟨fun _ _ => trivial, hK _ _ h⟩

theorem any_round {P : Program} {l n : Nat} {md : Region.Mode} {ops : Array Oper} {Q : Exit → Act → World → Prop} (hd : calmOps ops = true) (hQ : ∀ a w, ¬ Q .outgrown a w) :
    ∀ (fuel : Nat) (listed : Array Bool) (a : Act) (w : World), wpAny P md ops Q fuel listed a w → wpAnyIn (Fence.wide.inRound l) n P md ops Q fuel listed a w
  | 0, _, _, _, h => h
  | fuel + 1, listed, a, w, h => ⟨h.1, fun i hi => op_round hd hQ (fun a w h => any_round hd hQ fuel _ a w h) (h.2 i hi)⟩

theorem wpStill_yes {P : Program} {ops : Array Oper} {w : World} {Q : Act → Prop} {a : Act} {o : Oper} {rest : List Oper} (hw : Region.wanted o (yielded ops a.tmps) = true) (h : ∀ K : Act → Prop, (∀ a, wpStill P ops w Q rest a → K a) → o.still P a w K) : wpStill P ops w Q (o :: rest) a := by
  refine wpStill_step fun K hK => ?_
  rw [hw]
  exact h K hK

theorem region_round {P : Program} {l n id : Nat} {ops : Array Oper} {Q : Exit → Act → World → Prop} {a : Act} {w : World} (hm : P.follows .mixedOrders = true) (hd : calmOps ops = true) (hQ : ∀ a w, ¬ Q .outgrown a w)
    (h : wpAny P .any ops Q ops.size (Array.replicate ops.size false) a w.drew) : (Code.region id ops true).wpIn (Fence.wide.inRound l) n P Q a w :=
  wpIn_region_any hm (any_round hd hQ _ _ _ _ h)

theorem region_round_tail {P : Program} {l n id : Nat} {Q : Exit → Act → World → Prop} {a : Act} {w : World} {lo : List Oper} (k : Nat) (hm : P.follows .mixedOrders = true) (hd : calmOps lo.toArray = true) (hQ : ∀ a w, ¬ Q .outgrown a w)
    (hB : Region.lexTailB .any lo.toArray k = true)
    (h : wpStill P lo.toArray w.drew (fun a' => wpList P lo.toArray Q (lo.drop k) a' w.drew) (lo.take k) a) : (Code.region id lo.toArray true).wpIn (Fence.wide.inRound l) n P Q a w := by
  refine region_round hm hd hQ ?_
  simp only [Region.lexTailB, Bool.and_eq_true, decide_eq_true_eq] at hB
  obtain ⟨⟨⟨⟨hsel, hn⟩, hs⟩, hc⟩, hlex⟩ := hB
  have hn' : k < lo.length := by simpa using hn
  have htl : (lo.take k).length = k := by simp; omega
  have hdl : (lo.drop k).length = lo.toArray.size - k := by simp
  have inv0 : HeadInv .any lo.toArray k (Array.replicate lo.toArray.size false) :=
    ⟨by simp, fun j oj _ hl => (by rw [getD_replicate_false] at hl; cases hl), fun t _ ht => getD_in (by simpa using ht) (getD_replicate_false _ _)⟩
  have H := wpAnyL_lex (md := .any) (g := lo.toArray.size - k) hsel hs hc hn (lo.take k) 0 _ a (fun j hj => by
    have hj' : j < k := by rw [htl] at hj; exact hj
    simp [hj']) (by simpa using htl) inv0 (by rw [htl]; exact hlex) h
  have := wpAny_of_head (Q' := Q) (g := lo.toArray.size - k) (fun listed a' hL => by
    have := wpAny_of_seq (md := .any) (Q' := Q) (lo.drop k) k listed a' w.drew (fun j => by simp [List.getElem?_drop]) (by rw [hdl]; exact hL.1) hL.2
    rwa [hdl] at this) _ _ _ H
  rw [htl, show k + (lo.toArray.size - k) = lo.toArray.size by omega] at this
  exact this

structure Sealed (P : Program) (ops : Array Oper) (w : World) (Q : Act → Prop) (l : List Oper) (a : Act) : Prop where
  out : wpStill P ops w Q l a
theorem seal_nil {P : Program} {ops : Array Oper} {w : World} {Q : Act → Prop} {a : Act} (h : Q a) : Sealed P ops w Q [] a := ⟨wpStill_nil h⟩
theorem seal_yes {P : Program} {ops : Array Oper} {w : World} {Q : Act → Prop} {a : Act} {o : Oper} {rest : List Oper} (hw : Region.wanted o (yielded ops a.tmps) = true) (h : ∀ K : Act → Prop, (∀ a, Sealed P ops w Q rest a → K a) → o.still P a w K) : Sealed P ops w Q (o :: rest) a :=
  ⟨wpStill_yes hw fun K hK => h K fun a ha => hK a ha.out⟩

def HeldC (a b : Addr) (x y : Value) (W : World) : Prop := W.cell? a = some x ∧ W.cell? b = some y
def HeldR (a b c : Addr) (x y z : Value) (W : World) : Prop := W.cell? a = some x ∧ W.cell? b = some y ∧ W.cell? c = some z
def HeldS (a b c d e f : Addr) (x y z u v q : Value) (W : World) : Prop := W.cell? a = some x ∧ W.cell? b = some y ∧ W.cell? c = some z ∧ W.cell? d = some u ∧ W.cell? e = some v ∧ W.cell? f = some q
end Go.Proofs.YtnjiibiafhnmgaaGreatDoor

namespace Go.Proofs.YtnjiibiafhnmgaaGreatDoor
set_option linter.unusedVariables false
set_option linter.unusedSimpArgs false
open Go Go.RowKit

theorem cellA {W : World} {a : Addr} {v : Value} (o : Obj) (h : W.cell? a = some v) : (W.alloc o).cell? a = some v := cell_kept h (World.grownBy_alloc W o none) (fun r e => by cases e)
theorem frozA {W : World} {a : Addr} {v : Value} (o : Obj) (h : W.cell? a = some v) (hf : W.frozen? a = false) : (W.alloc o).frozen? a = false := (frozen_kept h (World.grownBy_alloc W o none) (fun r e => by cases e)).trans hf
theorem grownD {w w' : World} {row : Option Nat} (h : w.grownBy w' row) : w.grownBy w'.drew row := ⟨h.os, h.tape, h.output, h.size, h.block⟩
theorem blk_turn {W W' : World} {row : Option Nat} {b t : Nat} {cs : Array Value} {f : Nat × Nat} (h : W.heap[b]? = some (.cells cs t f)) (hg : W.grownBy W' row) (hr : ∀ r, row = some r → ∃ o : Obj, W.heap[r]? = some o ∧ o.isCells = false) : W'.heap[b]? = some (.cells cs t f) :=
  (hg.block b (Array.getElem?_eq_some_iff.1 h).1 (fun e => by obtain ⟨o, ho, hc⟩ := hr b e.symm; rw [h] at ho; cases ho; cases hc)).trans h
abbrev natC (k : Nat) : Value := .int .i64 (k : Int)
def RowOf {α : Type} (enc : α → Value) (B : Nat) (v : Value) (l : List α) (W : World) : Prop :=
  (l = [] ∧ ∃ a c, v = .slice a 0 c) ∨ ∃ b off cap, v = .slice (some ⟨b, off, none⟩) l.length cap ∧ b < B ∧ ∀ i x, l[i]? = some x → W.cell? ⟨b, off + i, none⟩ = some (enc x)
def RowsOf (B : Nat) (v : Value) (S : List (List Nat)) (W : World) : Prop :=
  (S = [] ∧ ∃ a c, v = .slice a 0 c) ∨ ∃ b off cap, v = .slice (some ⟨b, off, none⟩) S.length cap ∧ b < B ∧ ∀ i l, S[i]? = some l → ∃ r, W.cell? ⟨b, off + i, none⟩ = some r ∧ RowOf natC B r l W

theorem RowOf.below {α : Type} {enc : α → Value} {B B' : Nat} {v : Value} {l : List α} {W W' : World} (h : RowOf enc B v l W) (hb : Below B' W W') (hB : B ≤ B') : RowOf enc B v l W' := by
  rcases h with h | ⟨b, off, cap, h1, h2, h3⟩
  · exact .inl h
  · exact .inr ⟨b, off, cap, h1, h2, fun i x hx => (hb.cell (p := ⟨b, off + i, none⟩) (by simp; omega)).trans (h3 i x hx)⟩
theorem RowOf.mono {α : Type} {enc : α → Value} {B B' : Nat} {v : Value} {l : List α} {W : World} (h : RowOf enc B v l W) (hB : B ≤ B') : RowOf enc B' v l W := by
  rcases h with h | ⟨b, off, cap, h1, h2, h3⟩
  · exact .inl h
  · exact .inr ⟨b, off, cap, h1, by omega, h3⟩
theorem RowsOf.below {B B' : Nat} {v : Value} {S : List (List Nat)} {W W' : World} (h : RowsOf B v S W) (hb : Below B' W W') (hB : B ≤ B') : RowsOf B v S W' := by
  rcases h with h | ⟨b, off, cap, h1, h2, h3⟩
  · exact .inl h
  · refine .inr ⟨b, off, cap, h1, h2, fun i x hx => ?_⟩
    obtain ⟨r, hr, hl⟩ := h3 i x hx
    exact ⟨r, (hb.cell (p := ⟨b, off + i, none⟩) (by simp; omega)).trans hr, hl.below hb hB⟩
theorem RowsOf.mono {B B' : Nat} {v : Value} {S : List (List Nat)} {W : World} (h : RowsOf B v S W) (hB : B ≤ B') : RowsOf B' v S W := by
  rcases h with h | ⟨b, off, cap, h1, h2, h3⟩
  · exact .inl h
  · refine .inr ⟨b, off, cap, h1, by omega, fun i x hx => ?_⟩
    obtain ⟨r, hr, hl⟩ := h3 i x hx
    exact ⟨r, hr, hl.mono hB⟩

def ofL (S : List (List Nat)) (node least : Nat) : List Nat := (S.getD node []).filter (fun k => decide (least ≤ k))
def KpB (Bn B0 : Nat) (W W' : World) : Prop := W'.heap[Bn]? = W.heap[Bn]? ∧ Below B0 W W'
theorem kpB_t {Bn B0 : Nat} {A B C : World} (h : KpB Bn B0 A B) (k : KpB Bn B0 B C) : KpB Bn B0 A C := ⟨k.1.trans h.1, h.2.trans k.2⟩
theorem kpB_b {Bn B0 : Nat} {w : World} (hn : B0 ≤ w.heap.size) (hBn : Bn < w.heap.size) (W : World) (l : Nat) (o o' : Obj) (hl : w.heap.size ≤ l) (h : W.heap[l]? = some o) (h1 : o.isCells = false) (h2 : o.isWalk = false) : KpB Bn B0 W (W.putObj l o') :=
  ⟨World.putObj_heap_other (by omega), belowK_b hn W l o o' hl h h1 h2⟩

attribute [local go_sem] Oper.semAt_some

set_option maxHeartbeats 1000000 in
theorem of_in (n : Nat) (v : Value) (node least : Int) (w : World) (hv : v.oneCell' = true) :
    CallsIn Fence.wide n Tryz.prog 109 #[v, .int .i64 node, .int .i64 least] w fun e w' =>
      e = .returned (.func (.func 141) #[] #[.pointer (some ⟨w.heap.size, 0, none⟩), .pointer (some ⟨w.heap.size + 1, 0, none⟩), .pointer (some ⟨w.heap.size + 1 + 1, 0, none⟩)]) ∧
      w' = ((w.alloc (.cells #[v] 122)).alloc (.cells #[.int .i64 node] 3)).alloc (.cells #[.int .i64 least] 3) := by
  refine callsIn_of_wp Tryz.func109 rfl trivial ?_ rfl
  simp only [Tryz.ntmps109, List.size_toArray, List.length_cons, List.length_nil, Nat.reduceAdd, Nat.reduceSub, Array.replicate_succ, Array.replicate_zero, List.push_toArray, List.append_toArray, List.nil_append, List.cons_append]
  cases v <;> first | (simp [Value.oneCell'] at hv; done) | skip
  all_goals
    gi_wp2
    go_ret
    exact ⟨rfl, rfl⟩
end Go.Proofs.YtnjiibiafhnmgaaGreatDoor
