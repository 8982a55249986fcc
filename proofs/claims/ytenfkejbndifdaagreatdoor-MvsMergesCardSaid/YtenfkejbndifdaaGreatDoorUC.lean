/- Contracts of the lexer's Major and IsPath. Contracts of package version's Line and Path. -/
import Derived.Test.YtenfkejbndifdaaGreatDoorUB
import Derived.Test.YtenfkejbndifdaaGreatDoorUA
import Derived.OrdersIn
import Derived.OrdersHeld
import Derived.StillTailTactics
import Derived.RangeFuncNested
import Derived.RangeFuncCalls
import Derived.WalkKit
import Derived.Deep.RegionHeld3
import Derived.Test.YtenfkejbndifdaaGreatDoorProg
import Derived.RangeFuncBound
import Derived.RangeFuncLeaves
import Derived.Shelf.Abstract
import Derived.Shelf.RegionOpen
import Derived.OwnWalkIn
import Derived.TacticsInMore
import Derived.LoopNIn
import Derived.LoopIn
import Derived.WalkSpells
import Derived.WalkLawsBesides
import Derived.BigQuiet
import Derived.Deep.QuietTactic
import Derived.Deep.AppendLies
import Derived.Maps.AppendAt
import Derived.Lib.Hide
import Derived.Laws.EntriesVeiled
import Derived.Laws.OwnMore
import Derived.Sort.OwnSortedInts
import Derived.Deep.OwnRows
import Derived.Outline
import Derived.Shelf.GgClosure.Gives
import Derived.Maps.Own
import Derived.Maps.OwnOps
import Derived.Maps.OwnSet
import Derived.Maps.Views
import Derived.Maps.RangeWalk
import Derived.Sort.KeysCollected
namespace Go.Proofs.YtenfkejbndifdaaGreatDoor
open Go Go.RowKit

theorem Split_any (s : ByteArray) (w : World) (hs : s.size < 4294967281) (hm : MaxOk w) :
    Calls Tryz.prog 203 #[.string s, .string ⟨#[47]⟩] w fun e w' => e = .returned (.slice (some ⟨w.heap.size, 0, none⟩) (segB s).length (segB s).length) ∧ w.alloc (.cells ((segB s).map Value.string).toArray 9) = w' := by
  obtain ⟨m, hm⟩ := hm
  refine (Tryz.strings_Split s ⟨#[47]⟩ m w hs hm (by decide)).mono ?_
  rintro e w' ⟨rfl, rfl⟩
  rw [count_segB, split_segB]
  exact ⟨rfl, rfl⟩

set_option maxHeartbeats 600000 in
theorem Major_any (s : ByteArray) (w : World) (hs : s.size ≤ 1000000) (hm : MaxOk w) :
    Calls Tryz.prog 176 #[.string s] w fun e w' => e = .returned (.tuple #[.int .i64 (majN s), .int .i64 (majE s)]) ∧ Below w.heap.size w w' := by
  have hne := segB_ne s
  have hln := segB_length s
  have hcell : (w.alloc (.cells ((segB s).map Value.string).toArray 9)).cell? ⟨w.heap.size, 0 + ((segB s).length - 1), none⟩ = some (.string (lastB s)) := cells_new w (segB s) _ _ (by omega)
  have hcells := fun i (hi : i < (segB s).length) => cells_new w (segB s) 9 i hi
  have hsz := segB_le s
  have hll := hsz _ (lastB_mem s)
  have hm1 := hm.alloc (.cells ((segB s).map Value.string).toArray 9)
  have hbl : Below w.heap.size w (w.alloc (.cells ((segB s).map Value.string).toArray 9)) := (Below.refl _ w).alloc (Nat.le_refl _) _
  have HP : Hid (pathOk s = (decide (s.size ≤ 64) && (decide (2 ≤ (segB s).length) && (verOk (lastB s) && (segB s).all segOk)))) := Lib.hid rfl
  have HN : Hid (majN s = if pathOk s then verN (lastB s) else 0) := Lib.hid rfl
  have HE : Hid (majE s = if pathOk s then 0 else 4) := Lib.hid rfl
  have HS := Lib.hid (Split_any s w (by omega) hm)
  generalize (w.alloc (.cells ((segB s).map Value.string).toArray 9)) = w1 at *
  generalize lastB s = lb at *
  generalize segB s = sg at *
  have hnum : sg.length ≤ 1000001 := by omega
  have H1 := Lib.hid hcells
  have H2 := Lib.hid hsz
  clear hcells hsz
  simp only [Nat.zero_add] at hcell
  have hlb : lb.size ≤ 140737488351232 := by omega
  cases h1 : verOk lb
  case false =>
    have HT : Hid (pathOk s = false) := Lib.hid (by rw [HP.out, h1]; simp)
    go_enter Tryz.func176, Tryz.ntmps176
    go_wp2_with fail
    refine HS.out.mono ?_
    rintro e w' ⟨rfl, rfl⟩
    go_wp2_with (go_at_call 204; refine (version_any _ _ hlb).mono ?_; rintro e w' ⟨rfl, rfl⟩)
    go_ret2
    exact ⟨ret_ii (by rw [HN.out, HT.out]; rfl) (by rw [HE.out, HT.out]; rfl), hbl⟩
  by_cases h2 : s.size ≤ 64
  case neg =>
    have HT : Hid (pathOk s = false) := Lib.hid (by rw [HP.out, decide_eq_false h2]; rfl)
    go_enter Tryz.func176, Tryz.ntmps176
    go_wp2_with fail
    refine HS.out.mono ?_
    rintro e w' ⟨rfl, rfl⟩
    go_wp2_with (go_at_call 204; refine (version_any _ _ hlb).mono ?_; rintro e w' ⟨rfl, rfl⟩)
    go_ret2
    exact ⟨ret_ii (by rw [HN.out, HT.out]; rfl) (by rw [HE.out, HT.out]; rfl), hbl⟩
  by_cases h3 : 2 ≤ sg.length
  case neg =>
    have HT : Hid (pathOk s = false) := Lib.hid (by rw [HP.out, decide_eq_false h3]; simp)
    go_enter Tryz.func176, Tryz.ntmps176
    go_wp2_with fail
    refine HS.out.mono ?_
    rintro e w' ⟨rfl, rfl⟩
    go_wp2_with (go_at_call 204; refine (version_any _ _ hlb).mono ?_; rintro e w' ⟨rfl, rfl⟩)
    go_ret2
    exact ⟨ret_ii (by rw [HN.out, HT.out]; rfl) (by rw [HE.out, HT.out]; rfl), hbl⟩
  have HT : Hid (pathOk s = sg.all segOk) := Lib.hid (by rw [HP.out, decide_eq_true h2, decide_eq_true h3, h1]; rfl)
  go_enter Tryz.func176, Tryz.ntmps176
  go_wp2_with fail
  refine HS.out.mono ?_
  rintro e w' ⟨rfl, rfl⟩
  go_wp2_with (go_at_call 204; refine (version_any _ _ hlb).mono ?_; rintro e w' ⟨rfl, rfl⟩)
  go_loop [35] (fun i => ∃ k : Nat, k ≤ sg.length ∧ i = .int .i64 k ∧ Hid ((sg.take k).all segOk = true)) (fun i => sg.length - (intOf i).toNat)
  case atStart => exact ⟨0, Nat.zero_le _, rfl, Lib.hid rfl⟩
  case round =>
    obtain ⟨k, hk, rfl, HA⟩ := hrel
    by_cases hlt : k < sg.length
    · obtain ⟨x, hx⟩ : ∃ x, x = sg.getD k ByteArray.empty := ⟨_, rfl⟩
      have hg : sg.getD k ByteArray.empty = sg[k] := by simp [hlt]
      have hck : w1.cell? ⟨w.heap.size, k, none⟩ = some (.string x) := by rw [hx]; simpa using H1.out k hlt
      have hxs : x.size ≤ s.size := by rw [hx, hg]; exact H2.out _ (List.getElem_mem hlt)
      have hxm : x.size ≤ maxLen := by unfold maxLen; omega
      have HX : Hid (x = sg[k]) := Lib.hid (by rw [hx, hg])
      clear hx hg
      cases h4 : nameS x
      · have HF : Hid (pathOk s = false) := Lib.hid (by
          rw [HT.out, List.all_eq_false]
          exact ⟨sg[k], List.getElem_mem hlt, by rw [← HX.out, segOk, h4]; exact Bool.false_ne_true⟩)
        go_wp2_with (first | (go_at_call 205; refine (IsName_any _ _ hxm hm1).mono ?_; rintro e w' ⟨rfl, rfl⟩) | (go_at_call 206; refine (all_pathZ _ _ hxm).mono ?_; rintro e w' ⟨rfl, rfl⟩))
        go_ret2
        exact ⟨ret_ii (by rw [HN.out, HF.out]; rfl) (by rw [HE.out, HF.out]; rfl), hbl⟩
      · cases h5 : allZ pathZ x
        · have HF : Hid (pathOk s = false) := Lib.hid (by
            rw [HT.out, List.all_eq_false]
            exact ⟨sg[k], List.getElem_mem hlt, by rw [← HX.out, segOk, h4, h5]; exact Bool.false_ne_true⟩)
          go_wp2_with (first | (go_at_call 205; refine (IsName_any _ _ hxm hm1).mono ?_; rintro e w' ⟨rfl, rfl⟩) | (go_at_call 206; refine (all_pathZ _ _ hxm).mono ?_; rintro e w' ⟨rfl, rfl⟩))
          go_ret2
          exact ⟨ret_ii (by rw [HN.out, HF.out]; rfl) (by rw [HE.out, HF.out]; rfl), hbl⟩
        · have HO : Hid ((sg.take (k + 1)).all segOk = true) := Lib.hid (by
            rw [List.take_succ_eq_append_getElem hlt, List.all_append, HA.out, ← HX.out]
            simp [segOk, h4, h5])
          go_wp2_with (first | (go_at_call 205; refine (IsName_any _ _ hxm hm1).mono ?_; rintro e w' ⟨rfl, rfl⟩) | (go_at_call 206; refine (all_pathZ _ _ hxm).mono ?_; rintro e w' ⟨rfl, rfl⟩))
          go_round
          case rel => exact ⟨k + 1, by omega, by go_num, HO⟩
          case measure => simp [intOf]; omega
    · obtain rfl : k = sg.length := by omega
      have HO : Hid (pathOk s = true) := Lib.hid (by rw [HT.out]; have := HA.out; rwa [List.take_length] at this)
      go_wp2
      go_ret2
      exact ⟨ret_ii (by rw [HN.out, HO.out]; simp only [verN, h1, if_true]) (by rw [HE.out, HO.out]; rfl), hbl⟩

set_option maxHeartbeats 400000 in
theorem IsPath_any (s : ByteArray) (w : World) (hs : s.size ≤ 1000000) (hm : MaxOk w) :
    Calls Tryz.prog 177 #[.string s] w fun e w' => e = .returned (.bool (pathOk s)) ∧ Below w.heap.size w w' := by
  have HE : Hid (majE s = if pathOk s then 0 else 4) := Lib.hid rfl
  cases h : pathOk s
  all_goals
    rw [h] at HE
    simp only [Bool.false_eq_true, if_false, if_true] at HE
    go_enter Tryz.func177, Tryz.ntmps177
    go_wp2_with fail
    refine (Major_any s w hs hm).mono ?_
    rintro e w' ⟨rfl, hb⟩
    rw [HE.out]
    go_wp2
    go_ret
    exact ⟨rfl, hb⟩
end Go.Proofs.YtenfkejbndifdaaGreatDoor

namespace Go.Proofs.YtenfkejbndifdaaGreatDoor
open Go Go.RowKit

def slashI (s : ByteArray) : Int := Lib.lastIndexByte s 47
theorem segsL_many (l : List UInt8) (h : ∀ b ∈ l, b ≠ 47) : (segsL l).length = 1 := by rw [segsL_one l h]; rfl
theorem slash_path (s : ByteArray) (h : pathOk s = true) : ∃ i : Nat, slashI s = i ∧ i < s.size ∧ s.data.toList[i]? = some 47 ∧ ∀ j, i < j → s.data.toList[j]? ≠ some 47 := by
  have ebang : ∀ j, j < s.size → s.data.toList[j]? = some (s.data[j]!) := fun j hj => by
    have h1 : j < s.data.toList.length := by rw [← Lib.size_eq]; exact hj
    have h2 : j < s.data.size := hj
    rw [List.getElem?_eq_getElem h1, getElem!_pos s.data j h2, Array.getElem_toList]
  have h47 : ∀ j, j < s.size → (((s.data[j]!).toNat : Int) = 47 ↔ s.data.toList[j]? = some 47) := fun j hj => by
    rw [ebang j hj]
    constructor
    · intro e
      have : s.data[j]! = 47 := UInt8.toNat_inj.1 (by have : (47 : UInt8).toNat = 47 := rfl; omega)
      rw [this]
    · intro e
      rw [Option.some.inj e]; rfl
  rcases Lib.lastIndexByte_spec s 47 with ⟨_, hn⟩ | ⟨i, hi, e, hc, hn⟩
  · exfalso
    unfold pathOk at h
    simp only [Bool.and_eq_true, decide_eq_true_eq] at h
    have h2 := h.2.1
    unfold segB at h2
    rw [List.length_map, segsL_many] at h2
    · omega
    · intro b hb e
      subst e
      obtain ⟨j, hj, he⟩ := List.getElem_of_mem hb
      have hj2 : j < s.size := by rw [Lib.size_eq]; exact hj
      exact hn j hj2 ((h47 j hj2).2 (by rw [List.getElem?_eq_getElem hj, he]))
  · refine ⟨i, e, hi, (h47 i hi).1 hc, fun j hj he => ?_⟩
    have hj2 : j < s.size := by
      have := (List.getElem?_eq_some_iff.1 he).1
      rw [Lib.size_eq]; exact this
    exact hn j hj hj2 ((h47 j hj2).2 he)
def lineV (s : ByteArray) : ByteArray × Int × Int := if pathOk s then (s.extract 0 (slashI s).toNat, majN s, 0) else (⟨#[]⟩, 0, 4)
theorem LastSlash_any (s : ByteArray) (w : World) (hs : s.size ≤ 1000000) : Calls Tryz.prog 178 #[.string s, .string ⟨#[47]⟩] w fun e w' => e = .returned (.int .i64 (slashI s)) ∧ w = w' :=
  flip (Tryz.strings_LastIndex_one s ⟨#[47]⟩ rfl (by omega) w)

set_option maxRecDepth 100000 in
set_option maxHeartbeats 4000000 in
theorem Line_any (s : ByteArray) (w : World) (hs : s.size ≤ 1000000) (hm : MaxOk w) : Calls Tryz.prog 144 #[.string s] w fun e w' =>
    e = .returned (.tuple #[.string (lineV s).1, .int .i64 (lineV s).2.1, .int .i64 (lineV s).2.2]) ∧ Below w.heap.size w w' := by
  cases hp : pathOk s with
  | false =>
    have HE := Lib.hid (show lineV s = (⟨#[]⟩, 0, 4) by unfold lineV; rw [hp]; rfl)
    have HM := Lib.hid (show majE s = 4 by unfold majE; rw [hp]; rfl)
    rw [HE.out]
    have HP := Lib.hid hp
    clear hp
    go_enter Tryz.func144, Tryz.ntmps144
    go_wp2_with fail
    refine (Major_any s w hs hm).mono ?_
    rintro e w1 ⟨rfl, hb1⟩
    have hm1 := hm.below hb1 hm.pos
    have HB1 := Lib.hid hb1
    clear hb1
    go_wp2_with fail
    refine (IsPath_any s w1 hs hm1).mono ?_
    rintro e w2 ⟨rfl, hb2⟩
    have HB2 : Hid (Below w.heap.size w w2) := Lib.hid (HB1.out.trans (hb2.mono HB1.out.size))
    rw [HP.out]
    clear hb2
    go_wp2_with fail
    go_ret3
    exact ⟨rfl, HB2.out⟩
  | true =>
    obtain ⟨i, hi1, hi2, hi3, hi4⟩ := slash_path s hp
    obtain ⟨hd, hhd⟩ : ∃ hd, s.extract 0 i = hd := ⟨_, rfl⟩
    have HE := Lib.hid (show lineV s = (hd, majN s, 0) by unfold lineV; rw [hp, hi1, ← hhd]; rfl)
    have HM := Lib.hid (show majE s = 0 by unfold majE; rw [hp]; rfl)
    have HL := Lib.hid (fun W => LastSlash_any s W hs)
    rw [hi1] at HL
    rw [HE.out]
    have HP := Lib.hid hp
    have HH := Lib.hid hhd
    have g1 : (0 : Int) ≤ (i : Int) := by omega
    have g2 : (i : Int) ≤ s.size := by omega
    have g3 : i ≤ s.size := by omega
    clear hp hi1 hi3 hi4 hhd
    go_enter Tryz.func144, Tryz.ntmps144
    go_wp2_with fail
    refine (Major_any s w hs hm).mono ?_
    rintro e w1 ⟨rfl, hb1⟩
    rw [HM.out]
    have hm1 := hm.below hb1 hm.pos
    have HB1 := Lib.hid hb1
    clear hb1
    go_wp2_with fail
    refine (IsPath_any s w1 hs hm1).mono ?_
    rintro e w2 ⟨rfl, hb2⟩
    have HB2 : Hid (Below w.heap.size w w2) := Lib.hid (HB1.out.trans (hb2.mono HB1.out.size))
    rw [HP.out]
    clear hb2
    go_wp2_with fail
    (with_reducible refine (HL.out _).mono ?_)
    rintro e w3 ⟨rfl, rfl⟩
    go_wp2_with fail
    go_ret3
    exact ⟨by rw [← HH.out]; rfl, HB2.out⟩
def pathB (s : ByteArray) (m : Int) : ByteArray := s ++ ⟨#[47, 118]⟩ ++ ⟨(decL m).toArray⟩
def pathV (s : ByteArray) (m : Int) : ByteArray × Int := if partB m = true then if pathOk (pathB s m) = true then (pathB s m, 0) else (⟨#[]⟩, 4) else (⟨#[]⟩, 2)
end Go.Proofs.YtenfkejbndifdaaGreatDoor

namespace Go.Proofs.YtenfkejbndifdaaGreatDoor
set_option linter.unusedVariables false
set_option linter.unusedSimpArgs false
open Go

abbrev ReqL := ByteArray × List (Int × Int)
abbrev SelL := ByteArray × (Int × Int × Int)
structure RelL where
  path : ByteArray
  ver : Int × Int × Int
  reqs : List ReqL
  ar : ByteArray
  ifc : ByteArray
  cert : ByteArray
  yk : Bool
instance : Inhabited RelL := ⟨⟨⟨#[]⟩, (0, 0, 0), [], ⟨#[]⟩, ⟨#[]⟩, ⟨#[]⟩, false⟩⟩
def ltB (a b : ByteArray) : Bool := Op.bytesLess a.toList b.toList
def firstE (n : Nat) (f : Nat → Int) : Int := (((List.range n).map f).find? fun e => decide (e ≠ 0)).getD 0
theorem firstE_at {n : Nat} {f : Nat → Int} {k : Nat} (hk : k < n) (h : ∀ j, j < k → f j = 0) (h2 : f k ≠ 0) : firstE n f = f k := by
  unfold firstE
  have e : (List.range n).map f = (List.range k).map f ++ (f k :: ((List.range n).drop (k + 1)).map f) := by
    have e1 : List.range n = List.range k ++ (k :: (List.range n).drop (k + 1)) := by
      have h1 : (List.range n).take k = List.range k := by rw [List.take_range, Nat.min_eq_left (Nat.le_of_lt hk)]
      conv => lhs; rw [← List.take_append_drop k (List.range n), h1, List.drop_eq_getElem_cons (by simpa using hk)]
      simp
    conv => lhs; rw [e1]
    rw [List.map_append, List.map_cons]
  have : ((List.range n).map f).find? (fun e => decide (e ≠ 0)) = some (f k) := by
    rw [List.find?_eq_some_iff_append]
    refine ⟨by simpa using h2, (List.range k).map f, _, e, fun a ha => ?_⟩
    obtain ⟨j, hj, rfl⟩ := List.mem_map.1 ha
    simp [h j (List.mem_range.1 hj)]
  rw [this]
  rfl
theorem firstE_none {n : Nat} {f : Nat → Int} (h : ∀ j, j < n → f j = 0) : firstE n f = 0 := by
  unfold firstE
  have : ((List.range n).map f).find? (fun e => decide (e ≠ 0)) = none := List.find?_eq_none.2 fun a ha => by
    obtain ⟨j, hj, rfl⟩ := List.mem_map.1 ha
    simp [h j (List.mem_range.1 hj)]
  rw [this]
  rfl
theorem firstE_zero {n : Nat} {f : Nat → Int} (h : firstE n f = 0) : ∀ j, j < n → f j = 0 := by
  intro j
  induction j using Nat.strongRecOn with
  | _ j ih =>
    intro hj
    by_cases h2 : f j = 0
    · exact h2
    · rw [firstE_at hj (fun i hi => ih i hi (by omega)) h2] at h
      exact absurd h h2
def reqE (q : ReqL) (before : Option ByteArray) : Int :=
  if (lineV q.1).2.2 ≠ 0 then 4 else if q.2 = [] ∨ q.2 ≠ canon q.2 then 1 else match before with
    | none => 0
    | some b => if ltB b q.1 = true then 0 else 1
def beforeQ (l : List ReqL) (k : Nat) : Option ByteArray := if k = 0 then none else some (l.getD (k - 1) default).1
def checkReqs (l : List ReqL) : Int := if 16 < l.length then 7 else firstE l.length fun k => reqE (l.getD k default) (beforeQ l k)
def digB (s : ByteArray) : Bool := decide (s.size = 0) || decide (s.size = 32)
def relE (r : RelL) : Int :=
  if (lineV r.path).2.2 ≠ 0 then 4
  else if (validB r.ver.1 r.ver.2.1 r.ver.2.2 && decide (r.ver.1 = (lineV r.path).2.1)) = false then 2
  else if checkReqs r.reqs ≠ 0 then checkReqs r.reqs
  else if (digB r.ar && (digB r.ifc && digB r.cert)) = true then 0 else 1
def cmpS (a b : ByteArray) : Int := if ltB a b = true then -1 else if ltB b a = true then 1 else 0
def cmpR (a b : RelL) : Int := if cmpS a.path b.path ≠ 0 then cmpS a.path b.path else cmpV a.ver.1 a.ver.2.1 a.ver.2.2 b.ver.1 b.ver.2.1 b.ver.2.2
def keyL (r : RelL) : SelL := (r.path, r.ver)
def relE2 (b r : RelL) : Int := if keyL b = keyL r then 5 else if 0 < cmpR b r then 1 else 0
def idxErr (X : List RelL) (k : Nat) : Int := if relE (X.getD k default) ≠ 0 then relE (X.getD k default) else if k = 0 then 0 else relE2 (X.getD (k - 1) default) (X.getD k default)
def checkX (X : List RelL) : Int := if 256 < X.length then 7 else firstE X.length (idxErr X)
def findR (X : List RelL) (y : SelL) : Option RelL := X.find? fun r => decide (keyL r = y)
def incrS (s : List SelL) : Prop := s.Pairwise fun a b => ltB a.1 b.1 = true
end Go.Proofs.YtenfkejbndifdaaGreatDoor

namespace Go.Proofs.YtenfkejbndifdaaGreatDoor
theorem zl1 : (∀ {α : Type} {xs : List α} {i : Nat} (h : i < xs.toArray.size), xs.toArray[i] = xs[i]'(by simpa using h)) ∧ (∀ {α : Type} {a : α} {l : List α} (h : 0 < (a :: l).length), (a :: l)[0] = a) ∧ (∀ {α : Type} {a : α} {l : List α} {i : Nat} (h : i + 1 < (a :: l).length), (a :: l)[i + 1] = l[i]'(Nat.lt_of_succ_lt_succ h)) ∧
    (∀ {α : Type} (l : List α) (i : Nat) (a : α), l.toArray.setIfInBounds i a = (l.set i a).toArray) ∧ (∀ {α : Type} {x a : α} {xs : List α}, (x :: xs).set 0 a = a :: xs) ∧ (∀ {α : Type} {x a : α} {xs : List α} {i : Nat}, (x :: xs).set (i + 1) a = x :: xs.set i a) ∧
    (∀ (a : Act) (d : Tmp) (v : Value), a.put (some d) v = { a with tmps := a.tmps.setIfInBounds d v }) ∧ (∀ (a : Act) (v : Value), a.put none v = a) :=
  ⟨fun _ => rfl, fun _ => rfl, fun _ => rfl, fun _ _ _ => List.setIfInBounds_toArray _ _ _, rfl, rfl, fun _ _ _ => rfl, fun _ _ => rfl⟩
theorem zl2 {P : Program} {md : Region.Mode} {ops : Array Oper} {Q : Exit → Act → World → Prop} {S : World → Prop} {i : Nat} {oi : Oper} {v : Value} {fuel : Nat} {listed : Array Bool} {a : Act} {w : World} (hi : ops[i]? = some oi) (hy : YieldsIf P ops S oi v a) (hS : S w)
    (h : wpAnyH P md ops Q S fuel (listed.setIfInBounds i true) (a.put oi.dst v) w) (hs : Region.noSelect ops = true := by kernel_rfl) (hf : Region.free md ops listed i = true := by kernel_rfl) (hr : (Region.ready md ops listed).contains i = true := by kernel_rfl)
    (hQ : ∀ c a w, Q (.panic c) (a.put oi.dst v) w → Q (.panic c) a w := by exact fun _ _ _ h => h) : wpAnyH P md ops Q S (fuel + 1) listed a w := wpAnyH_take hi hs hf hr hQ hy hS h
theorem zl3 (i : Nat) (v : Value) {P : Program} {md : Region.Mode} {ops : Array Oper} {Q : Exit → Act → World → Prop} {S : World → Prop} {oi : Oper} {fuel : Nat} {listed : Array Bool} {a : Act} {w : World} (hi : ops[i]? = some oi) (hv : ∀ w, S w → (execOp a.eval oi).run P w = .ok (.value v) w)
    (h : wpAnyH P md ops Q S fuel (listed.setIfInBounds i true) (a.put oi.dst v) w) (hw : Region.wanted oi (yielded ops a.tmps) = true := by rfl) (hS : S w := by assumption) (hs : Region.noSelect ops = true := by kernel_rfl) (hf : Region.free md ops listed i = true := by kernel_rfl)
    (hr : (Region.ready md ops listed).contains i = true := by kernel_rfl) (hQ : ∀ c a w, Q (.panic c) (a.put oi.dst v) w → Q (.panic c) a w := by exact fun _ _ _ h => h) : wpAnyH P md ops Q S (fuel + 1) listed a w := wpAnyH_take hi hs hf hr hQ (.inl ⟨hw, hv⟩) hS h
set_option linter.unusedVariables false
set_option linter.unusedSimpArgs false
open Go Go.RowKit

def calmOps (ops : Array Oper) : Bool := ops.all fun o => match o.op with | .defer _ => false | _ => true

structure Sealed (P : Program) (ops : Array Oper) (w : World) (Q : Act → Prop) (l : List Oper) (a : Act) : Prop where
  out : wpStill P ops w Q l a
def HeldC (a b : Addr) (x y : Value) (W : World) : Prop := W.cell? a = some x ∧ W.cell? b = some y
def HeldR (a b c : Addr) (x y z : Value) (W : World) : Prop := W.cell? a = some x ∧ W.cell? b = some y ∧ W.cell? c = some z
def HeldS (a b c d e f : Addr) (x y z u v q : Value) (W : World) : Prop := W.cell? a = some x ∧ W.cell? b = some y ∧ W.cell? c = some z ∧ W.cell? d = some u ∧ W.cell? e = some v ∧ W.cell? f = some q
end Go.Proofs.YtenfkejbndifdaaGreatDoor

namespace Go.Proofs.YtenfkejbndifdaaGreatDoor
set_option linter.unusedVariables false
set_option linter.unusedSimpArgs false
open Go Go.RowKit

theorem cellA {W : World} {a : Addr} {v : Value} (o : Obj) (h : W.cell? a = some v) : (W.alloc o).cell? a = some v := cell_kept h (World.grownBy_alloc W o none) (fun r e => by cases e)
abbrev natC (k : Nat) : Value := .int .i64 (k : Int)
def RowOf {α : Type} (enc : α → Value) (B : Nat) (v : Value) (l : List α) (W : World) : Prop :=
  (l = [] ∧ ∃ a c, v = .slice a 0 c) ∨ ∃ b off cap, v = .slice (some ⟨b, off, none⟩) l.length cap ∧ b < B ∧ ∀ i x, l[i]? = some x → W.cell? ⟨b, off + i, none⟩ = some (enc x)
def RowsOf (B : Nat) (v : Value) (S : List (List Nat)) (W : World) : Prop :=
  (S = [] ∧ ∃ a c, v = .slice a 0 c) ∨ ∃ b off cap, v = .slice (some ⟨b, off, none⟩) S.length cap ∧ b < B ∧ ∀ i l, S[i]? = some l → ∃ r, W.cell? ⟨b, off + i, none⟩ = some r ∧ RowOf natC B r l W

theorem RowOf.below {α : Type} {enc : α → Value} {B B' : Nat} {v : Value} {l : List α} {W W' : World} (h : RowOf enc B v l W) (hb : Below B' W W') (hB : B ≤ B') : RowOf enc B v l W' := by
  rcases h with h | ⟨b, off, cap, h1, h2, h3⟩
  · exact .inl h
  · exact .inr ⟨b, off, cap, h1, h2, fun i x hx => (hb.cell (p := ⟨b, off + i, none⟩) (by simp; omega)).trans (h3 i x hx)⟩
theorem RowOf.mono {α : Type} {enc : α → Value} {B B' : Nat} {v : Value} {l : List α} {W : World} (h : RowOf enc B v l W) (hB : B ≤ B') : RowOf enc B' v l W := by
  rcases h with h | ⟨b, off, cap, h1, h2, h3⟩
  · exact .inl h
  · exact .inr ⟨b, off, cap, h1, by omega, h3⟩
def ofL (S : List (List Nat)) (node least : Nat) : List Nat := (S.getD node []).filter (fun k => decide (least ≤ k))
def KpB (Bn B0 : Nat) (W W' : World) : Prop := W'.heap[Bn]? = W.heap[Bn]? ∧ Below B0 W W'
end Go.Proofs.YtenfkejbndifdaaGreatDoor

namespace Go.Proofs.YtenfkejbndifdaaGreatDoor
set_option linter.unusedVariables false
set_option linter.unusedSimpArgs false
open Go Go.RowKit

abbrev intC (x : Int) : Value := .int .i64 x

theorem own_ne {W : World} {B B' e e' n n' s s' : Nat} {v v' : Value} {xs xs' : List Value} (h : W.ownsRow B e s v n xs) (h' : W.ownsRow B' e' s' v' n' xs') (he : e ≠ e') : v.ownBlock = none ∨ v.ownBlock ≠ v'.ownBlock := by
  rcases h.2 with ⟨rfl, _⟩ | ⟨g, cap, cur, rfl, _, hg, _⟩
  · exact .inl rfl
  · right
    rcases h'.2 with ⟨rfl, _⟩ | ⟨g', cap', cur', rfl, _, hg', _⟩
    · simp [Value.ownBlock]
    · intro h3
      simp [Value.ownBlock] at h3
      subst h3
      rw [hg] at hg'
      simp at hg'
      exact he hg'.2
theorem own_far {W W' : World} {B e n s : Nat} {v : Value} {xs : List Value} (h : W.ownsRow B e s v n xs) (hk : ∀ k, v.ownBlock = some k → W'.heap[k]? = W.heap[k]?) : W'.ownsRow B e s v n xs := by
  refine ⟨h.1, ?_⟩
  rcases h.2 with h2 | ⟨g, cap, cur, rfl, hb, hg, r⟩
  · exact .inl h2
  · exact .inr ⟨g, cap, cur, rfl, hb, (hk g rfl).trans hg, r⟩
theorem own_cell {W : World} {B e n g cap : Nat} {xs : List Value} (h : W.ownsRow B e 1 (.slice (some ⟨g, 0, none⟩) n cap) n xs) (i : Nat) (x : Value) (hx : xs[i]? = some x) : W.cell? ⟨g, i, none⟩ = some x := by
  have hl := h.1
  have hi : i < xs.length := (List.getElem?_eq_some_iff.1 hx).1
  rw [h.cellAt i (by omega), hx]
theorem own_shape {W : World} {B e n : Nat} {v : Value} {xs : List Value} (h : W.ownsRow B e 1 v n xs) (hn : 0 < n) : ∃ g cap, v = .slice (some ⟨g, 0, none⟩) n cap ∧ B ≤ g ∧ g < W.heap.size ∧ n ≤ cap := by
  rcases h.2 with ⟨_, h0⟩ | ⟨g, cap, cur, hv, hb, hg, hc, _⟩
  · omega
  · exact ⟨g, cap, hv, hb, (Array.getElem?_eq_some_iff.1 hg).1, hc⟩
theorem own_row {α : Type} {enc : α → Value} {W : World} {B e n : Nat} {v : Value} {l : List α} (h : W.ownsRow B e 1 v n (l.map enc)) : n = l.length ∧ RowOf enc W.heap.size v l W := by
  have hl : n = l.length := by have := h.1; simp at this; omega
  subst hl
  refine ⟨rfl, ?_⟩
  rcases h.2 with ⟨rfl, h0⟩ | ⟨g, cap, cur, rfl, hb, hg, hc, _⟩
  · exact .inl ⟨List.length_eq_zero_iff.1 h0, _, _, rfl⟩
  · refine .inr ⟨g, 0, cap, rfl, (Array.getElem?_eq_some_iff.1 hg).1, fun i x hx => ?_⟩
    rw [Nat.zero_add]
    exact own_cell h i _ (by rw [List.getElem?_map, hx]; rfl)

structure Grid (B : Nat) (v : Value) (vs : List Value) (L : List (List Value)) (W : World) : Prop where
  top : W.ownsRow B 79 1 v L.length vs
  row : ∀ (i : Nat) (u : Value) (l : List Value), vs[i]? = some u → L[i]? = some l → W.ownsRow B 3 1 u l.length l
  apart : ∀ (i j : Nat) (u u' : Value) (b : Nat), vs[i]? = some u → vs[j]? = some u' → u.ownBlock = some b → u'.ownBlock = some b → i = j
  base : B ≤ W.heap.size

-- grid_shape
end Go.Proofs.YtenfkejbndifdaaGreatDoor

namespace Go.Proofs.YtenfkejbndifdaaGreatDoor
set_option linter.unusedVariables false
set_option linter.unusedSimpArgs false
open Go Go.RowKit Go.Sort

def SpansOf (B : Nat) (v : Value) (es : List (Int × Int)) (W : World) : Prop :=
  ∃ ao cap, v = .slice ao es.length cap ∧ ∀ i x, es[i]? = some x → ∃ b off, ao = some ⟨b, off, none⟩ ∧ b < B ∧ W.cell? ⟨b, off + i * 2, none⟩ = some (intC x.1) ∧ W.cell? ⟨b, off + i * 2 + 1, none⟩ = some (intC x.2)
theorem SpansOf.below {B B' : Nat} {v : Value} {es : List (Int × Int)} {W W' : World} (h : SpansOf B v es W) (hb : Below B' W W') (hB : B ≤ B') : SpansOf B v es W' := by
  obtain ⟨ao, cap, rfl, h⟩ := h
  refine ⟨ao, cap, rfl, fun i x hx => ?_⟩
  obtain ⟨b, off, rfl, hlt, h1, h2⟩ := h i x hx
  exact ⟨b, off, rfl, hlt, (hb.cell (p := ⟨b, off + i * 2, none⟩) (by simp; omega)).trans h1, (hb.cell (p := ⟨b, off + i * 2 + 1, none⟩) (by simp; omega)).trans h2⟩
theorem SpansOf.mono {B B' : Nat} {v : Value} {es : List (Int × Int)} {W : World} (h : SpansOf B v es W) (hB : B ≤ B') : SpansOf B' v es W := by
  obtain ⟨ao, cap, rfl, h⟩ := h
  refine ⟨ao, cap, rfl, fun i x hx => ?_⟩
  obtain ⟨b, off, rfl, hlt, h1, h2⟩ := h i x hx
  exact ⟨b, off, rfl, by omega, h1, h2⟩
def spanCells (es : List (Int × Int)) : List Value := es.flatMap fun x => [intC x.1, intC x.2]
theorem spanCells_snoc (es : List (Int × Int)) (x : Int × Int) : spanCells (es ++ [x]) = spanCells es ++ [intC x.1, intC x.2] := by unfold spanCells; rw [List.flatMap_append]; rfl
theorem spanCells_length (es : List (Int × Int)) : (spanCells es).length = es.length * 2 := by
  induction es with
  | nil => rfl
  | cons x es ih => show (intC x.1 :: intC x.2 :: spanCells es).length = _; simp [ih]; omega
theorem spanCells_get (es : List (Int × Int)) (i : Nat) (x : Int × Int) (h : es[i]? = some x) : (spanCells es)[i * 2]? = some (intC x.1) ∧ (spanCells es)[i * 2 + 1]? = some (intC x.2) := by
  induction es generalizing i with
  | nil => simp at h
  | cons y es ih =>
    cases i with
    | zero => simp at h; subst h; exact ⟨rfl, rfl⟩
    | succ i =>
      have := ih i (by simpa using h)
      have e : ∀ j, (spanCells (y :: es))[j + 2]? = (spanCells es)[j]? := fun j => rfl
      rw [show (i + 1) * 2 = i * 2 + 2 by omega, show i * 2 + 2 + 1 = (i * 2 + 1) + 2 by omega, e, e]
      exact this
theorem own_spans {W : World} {B n : Nat} {v : Value} {es : List (Int × Int)} (h : W.ownsRow B 133 2 v n (spanCells es)) : SpansOf W.heap.size v es W := by
  have hl : n = es.length := by have := h.1; rw [spanCells_length] at this; omega
  subst hl
  rcases h.2 with ⟨rfl, h0⟩ | ⟨g, cap, cur, rfl, hb, hg, hc, _⟩
  · obtain rfl := List.length_eq_zero_iff.1 h0
    exact ⟨none, 0, rfl, fun i x hx => by simp at hx⟩
  · refine ⟨_, cap, rfl, fun i x hx => ⟨g, 0, rfl, (Array.getElem?_eq_some_iff.1 hg).1, ?_, ?_⟩⟩
    · have hi := (List.getElem?_eq_some_iff.1 hx).1
      rw [Nat.zero_add, h.cellAt (i * 2) (by omega)]
      exact (spanCells_get es i x hx).1
    · have hi := (List.getElem?_eq_some_iff.1 hx).1
      rw [Nat.zero_add, h.cellAt (i * 2 + 1) (by omega)]
      exact (spanCells_get es i x hx).2
theorem info_spans : (Tryz.prog.info? 133).map (fun i => (i.zero, i.size, i.bytes)) = some (some (.agg #[.int .i64 0, .int .i64 0]), 2, 16) := by kernel_rfl
abbrev spanV (x : Int × Int) : Value := .agg #[intC x.1, intC x.2]
def PredS (g : Nat) (lb : Array Value) (es : List (Int × Int)) (p : Int × Int → Bool) (w : World) : Prop :=
  ∀ (W : World) (x : Int × Int), x ∈ es → Below w.heap.size w W → Calls Tryz.prog g (#[spanV x] ++ lb) W fun e w' => e = .returned (.bool (p x)) ∧ Below w.heap.size w w'
end Go.Proofs.YtenfkejbndifdaaGreatDoor

namespace Go.Proofs.YtenfkejbndifdaaGreatDoor
set_option linter.unusedVariables false
set_option linter.unusedSimpArgs false
open Go Go.RowKit Go.Maps

theorem lawI : Keyed Tryz.prog 3 := int_keyed Tryz.underlying3
theorem wfI {a : Int} (h1 : -9223372036854775808 ≤ a) (h2 : a ≤ 9223372036854775807) : (Lit.int .i64 a).wf = true := by
  simp [Lit.wf, IntKind.min, IntKind.max, IntKind.signed, IntKind.bits]
  omega
theorem keyI {a : Int} (h1 : -9223372036854775808 ≤ a) (h2 : a ≤ 9223372036854775807) : keyOf Tryz.prog 3 (.int .i64 a) = some (.int .i64 a) := keyOf_int_mk Tryz.underlying3 (wfI h1 h2)
theorem elI_mk {a : Int} (h1 : -9223372036854775808 ≤ a) (h2 : a ≤ 9223372036854775807) : plainElem (H := Unit) Tryz.prog 3 (.int .i64 a) = some (.lit (.int .i64 a), []) := plainElem_int Tryz.underlying3 (wfI h1 h2)
def ReadsI (D : DataW Unit) (f : Int → Int) (K : Int → Prop) : Prop :=
  IsMap D ∧ (∀ q, D.atKey (.int .i64 q) (.lit (.int .i64 0)) = .lit (.int .i64 (f q))) ∧ ∀ q, Maps.has D (.int .i64 q) = true ↔ K q
theorem readsI_nil : ReadsI (.map []) (fun _ => 0) (fun _ => False) := ⟨isMap_empty, fun q => rfl, fun q => ⟨(fun h => by cases h), False.elim⟩⟩
theorem ReadsI.put {D : DataW Unit} {f : Int → Int} {K : Int → Prop} (h : ReadsI D f K) (q c : Int) :
    ReadsI (D.put (.int .i64 q) (.lit (.int .i64 c))) (fun x => if x = q then c else f x) (fun x => x = q ∨ K x) := by
  obtain ⟨h1, h2, h3⟩ := h
  refine ⟨h1.put _ _, fun x => ?_, fun x => ?_⟩
  · show _ = DataW.lit (Lit.int .i64 (if x = q then c else f x))
    by_cases hx : x = q
    · subst hx; rw [if_pos rfl]; exact atKey_put_same h1 (by trivial) _ _
    · rw [if_neg hx, atKey_put_other (fun e => hx (by injection e)), h2]
  · by_cases hx : x = q
    · subst hx; exact ⟨fun _ => .inl rfl, fun _ => has_put_same h1 (by trivial) _⟩
    · rw [has_put_other (fun e => hx (by injection e)), h3]
      exact ⟨.inr, fun h => h.resolve_left hx⟩
theorem ReadsI.ext {D : DataW Unit} {f f' : Int → Int} {K K' : Int → Prop} (h : ReadsI D f K) (hf : ∀ x, f x = f' x) (hK : ∀ x, K x ↔ K' x) : ReadsI D f' K' :=
  ⟨h.1, fun q => by rw [h.2.1, hf], fun q => by rw [h.2.2, hK]⟩
theorem ReadsI.at_ {D : DataW Unit} {f : Int → Int} {K : Int → Prop} (h : ReadsI D f K) {q c : Int} (hc : D.atKey (.int .i64 q) (.lit (.int .i64 0)) = .lit (.int .i64 c)) : c = f q := by
  rw [h.2.1] at hc
  injection hc with hc
  injection hc with _ hc
  exact hc.symm
theorem own_below {W W' : World} {B k b n : Nat} {R : Value → Option (DataW Unit × List MemPlace)} {D : DataW Unit} (h : W.ownsMap Tryz.prog k R b n D) (hb : RowKit.Below B W W') (hB : b < B) : W'.ownsMap Tryz.prog k R b n D := by
  obtain ⟨es, clock, h1, h2⟩ := h
  exact ⟨es, clock, (hb.block b hB).trans h1, h2⟩

theorem chgE_snoc (E : List (Int × Int)) (x : Int × Int) (q : Int) : chgE (E ++ [x]) q = chgE E q + ((if x.1 = q then 1 else 0) - (if x.2 = q then 1 else 0)) := by
  unfold chgE
  rw [List.countP_append, List.countP_append]
  by_cases h1 : x.1 = q <;> by_cases h2 : x.2 = q <;> simp [h1, h2] <;> omega
theorem chgE_bd (E : List (Int × Int)) (q : Int) : -(E.length : Int) ≤ chgE E q ∧ chgE E q ≤ E.length := by
  unfold chgE
  have := List.countP_le_length (p := fun x : Int × Int => decide (x.1 = q)) (l := E)
  have := List.countP_le_length (p := fun x : Int × Int => decide (x.2 = q)) (l := E)
  omega
def keyE (E : List (Int × Int)) (q : Int) : Prop := q = 0 ∨ q = 1000000 ∨ ∃ x ∈ E, q = x.1 ∨ q = x.2
theorem keyE_snoc (E : List (Int × Int)) (x : Int × Int) (q : Int) : keyE (E ++ [x]) q ↔ q = x.2 ∨ q = x.1 ∨ keyE E q := by
  unfold keyE
  constructor
  · rintro (h | h | ⟨y, hy, h⟩)
    · exact .inr (.inr (.inl h))
    · exact .inr (.inr (.inr (.inl h)))
    · rcases List.mem_append.1 hy with hy | hy
      · exact .inr (.inr (.inr (.inr ⟨y, hy, h⟩)))
      · rcases List.mem_singleton.1 hy with rfl
        exact h.elim (fun h => .inr (.inl h)) .inl
  · rintro (h | h | h | h | ⟨y, hy, h⟩)
    · exact .inr (.inr ⟨x, by simp, .inr h⟩)
    · exact .inr (.inr ⟨x, by simp, .inl h⟩)
    · exact .inl h
    · exact .inr (.inl h)
    · exact .inr (.inr ⟨y, by simp [hy], h⟩)
theorem ReadsI.span {D : DataW Unit} {E : List (Int × Int)} {x : Int × Int} {c1 c2 : Int} (h : ReadsI D (chgE E) (keyE E)) (hx : x.1 ≠ x.2)
    (h1 : D.atKey (.int .i64 x.1) (.lit (.int .i64 0)) = .lit (.int .i64 c1))
    (h2 : (D.put (.int .i64 x.1) (.lit (.int .i64 (c1 + 1)))).atKey (.int .i64 x.2) (.lit (.int .i64 0)) = .lit (.int .i64 c2)) :
    ReadsI ((D.put (.int .i64 x.1) (.lit (.int .i64 (c1 + 1)))).put (.int .i64 x.2) (.lit (.int .i64 (c2 - 1)))) (chgE (E ++ [x])) (keyE (E ++ [x])) := by
  have e1 := h.at_ h1
  have e2 := (h.put x.1 (c1 + 1)).at_ h2
  simp only [if_neg (Ne.symm hx)] at e2
  refine ((h.put x.1 (c1 + 1)).put x.2 (c2 - 1)).ext (fun q => ?_) (fun q => (keyE_snoc E x q).symm)
  rw [chgE_snoc]
  by_cases hq2 : q = x.2
  · subst hq2
    rw [if_pos rfl, if_neg hx, if_pos rfl, e2]
    omega
  · rw [if_neg hq2, if_neg (Ne.symm hq2)]
    by_cases hq1 : q = x.1
    · subst hq1
      rw [if_pos rfl, if_pos rfl, e1]
      omega
    · rw [if_neg hq1, if_neg (Ne.symm hq1)]
      omega
theorem spansOf_snoc (l : List (List (Int × Int))) (s : List (Int × Int)) : spansOf (l ++ [s]) = spansOf l ++ canon s := by
  unfold spansOf
  rw [List.flatMap_append]
  simp

def SetsOf (B : Nat) (v : Value) (l : List (List (Int × Int))) (W : World) : Prop :=
  ∃ ao cap, v = .slice ao l.length cap ∧ ∀ i s, l[i]? = some s → ∃ b off r, ao = some ⟨b, off, none⟩ ∧ b < B ∧ W.cell? ⟨b, off + i, none⟩ = some r ∧ SpansOf B r s W
theorem SetsOf.below {B B' : Nat} {v : Value} {l : List (List (Int × Int))} {W W' : World} (h : SetsOf B v l W) (hb : RowKit.Below B' W W') (hB : B ≤ B') : SetsOf B v l W' := by
  obtain ⟨ao, cap, rfl, h⟩ := h
  refine ⟨ao, cap, rfl, fun i s hs => ?_⟩
  obtain ⟨b, off, r, rfl, hlt, h1, h2⟩ := h i s hs
  exact ⟨b, off, r, rfl, hlt, (hb.cell (p := ⟨b, off + i, none⟩) (by simp; omega)).trans h1, h2.below hb hB⟩
theorem SetsOf.mono {B B' : Nat} {v : Value} {l : List (List (Int × Int))} {W : World} (h : SetsOf B v l W) (hB : B ≤ B') : SetsOf B' v l W := by
  obtain ⟨ao, cap, rfl, h⟩ := h
  refine ⟨ao, cap, rfl, fun i s hs => ?_⟩
  obtain ⟨b, off, r, rfl, hlt, h1, h2⟩ := h i s hs
  exact ⟨b, off, r, rfl, by omega, h1, h2.mono hB⟩

def CollI (D : DataW Unit) (left : Lit → Bool) (ks : List Int) : Prop := ks.Nodup ∧ ∀ x, x ∈ ks ↔ (Maps.has D (.int .i64 x) = true ∧ left (.int .i64 x) = false)
theorem CollI.start (D : DataW Unit) : CollI D (Maps.has D) [] := ⟨List.nodup_nil, fun x => by cases Maps.has D (.int .i64 x) <;> simp⟩
theorem CollI.step {D : DataW Unit} {left : Lit → Bool} {ks : List Int} (h : CollI D left ks) {x : Int} {y : DataW Unit} (hlk : left (.int .i64 x) = true) (hat : ∀ zd, D.atKey (.int .i64 x) zd = y) :
    CollI D (fun z => left z && !z.sameKey (.int .i64 x)) (ks ++ [x]) := by
  have hhas : Maps.has D (.int .i64 x) = true := has_true_of_atKey hat
  have hnew : x ∉ ks := fun hx => by have := ((h.2 x).1 hx).2; rw [hlk] at this; cases this
  refine ⟨List.nodup_append.2 ⟨h.1, by simp, fun a ha b hb => by simp at hb; subst hb; exact fun e => hnew (e ▸ ha)⟩, fun y => ?_⟩
  by_cases hy : y = x
  · subst hy; simp [hhas, Lit.sameKey]
  · simp [h.2 y, hy, Lit.sameKey]
theorem own_form {W : World} {B e s n : Nat} {v : Value} {xs : List Value} (h : W.ownsRow B e s v n xs) : ∃ a c, v = .slice a n c := by
  rcases h.2 with ⟨rfl, rfl⟩ | ⟨g, cap, cur, rfl, _⟩
  · exact ⟨_, _, rfl⟩
  · exact ⟨_, _, rfl⟩
end Go.Proofs.YtenfkejbndifdaaGreatDoor
