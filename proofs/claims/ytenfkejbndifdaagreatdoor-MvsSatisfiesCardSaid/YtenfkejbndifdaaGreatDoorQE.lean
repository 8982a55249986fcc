/- Contracts of package version's Line and Path. Requirements, releases, indices, plain: the first error of an index. A region that draws its order inside a round of a range over a function: whatever walks it outside serves there. Rows in memory that read as lists; the graph's successors; the iterator over a row. -/
import Derived.Test.YtenfkejbndifdaaGreatDoorQC
import Derived.Test.YtenfkejbndifdaaGreatDoorQD
import Derived.Test.YtenfkejbndifdaaGreatDoorQB
import Derived.OrdersIn
import Derived.OrdersHeld
import Derived.StillTailTactics
import Derived.RangeFuncNested
import Derived.RangeFuncCalls
import Derived.WalkKit
import Derived.Deep.RegionHeld3
import Derived.Test.YtenfkejbndifdaaGreatDoorProg
import Derived.RangeFuncBound
import Derived.RangeFuncLeaves
import Derived.Shelf.Abstract
import Derived.Shelf.RegionOpen
import Derived.OwnWalkIn
import Derived.TacticsInMore
import Derived.LoopNIn
import Derived.LoopIn
import Derived.WalkSpells
import Derived.WalkLawsBesides
import Derived.BigQuiet
import Derived.Deep.QuietTactic
import Derived.Deep.AppendLies
import Derived.Maps.AppendAt
import Derived.Lib.Hide
import Derived.Laws.EntriesVeiled
namespace Go.Proofs.YtenfkejbndifdaaGreatDoor
open Go Go.RowKit

/-- the place of the last slash. -/
def slashI (s : ByteArray) : Int := Lib.lastIndexByte s 47
theorem segsL_many (l : List UInt8) (h : ∀ b ∈ l, b ≠ 47) : (segsL l).length = 1 := by rw [segsL_one l h]; rfl
theorem slash_path (s : ByteArray) (h : pathOk s = true) : ∃ i : Nat, slashI s = i ∧ i < s.size ∧ s.data.toList[i]? = some 47 ∧ ∀ j, i < j → s.data.toList[j]? ≠ some 47 := by
  have ebang : ∀ j, j < s.size → s.data.toList[j]? = some (s.data[j]!) := fun j hj => by
    have h1 : j < s.data.toList.length := by rw [← Lib.size_eq]; exact hj
    have h2 : j < s.data.size := hj
    rw [List.getElem?_eq_getElem h1, getElem!_pos s.data j h2, Array.getElem_toList]
  have h47 : ∀ j, j < s.size → (((s.data[j]!).toNat : Int) = 47 ↔ s.data.toList[j]? = some 47) := fun j hj => by
    rw [ebang j hj]
    constructor
    · intro e
      have : s.data[j]! = 47 := UInt8.toNat_inj.1 (by have : (47 : UInt8).toNat = 47 := rfl; omega)
      rw [this]
    · intro e
      rw [Option.some.inj e]; rfl
  rcases Lib.lastIndexByte_spec s 47 with ⟨_, hn⟩ | ⟨i, hi, e, hc, hn⟩
  · exfalso
    unfold pathOk at h
    simp only [Bool.and_eq_true, decide_eq_true_eq] at h
    have h2 := h.2.1
    unfold segB at h2
    rw [List.length_map, segsL_many] at h2
    · omega
    · intro b hb e
      subst e
      obtain ⟨j, hj, he⟩ := List.getElem_of_mem hb
      have hj2 : j < s.size := by rw [Lib.size_eq]; exact hj
      exact hn j hj2 ((h47 j hj2).2 (by rw [List.getElem?_eq_getElem hj, he]))
  · refine ⟨i, e, hi, (h47 i hi).1 hc, fun j hj he => ?_⟩
    have hj2 : j < s.size := by
      have := (List.getElem?_eq_some_iff.1 he).1
      rw [Lib.size_eq]; exact this
    exact hn j hj hj2 ((h47 j hj2).2 he)
/-- the name and the major number of a path, and the error. -/
def lineV (s : ByteArray) : ByteArray × Int × Int := if pathOk s then (s.extract 0 (slashI s).toNat, majN s, 0) else (⟨#[]⟩, 0, 4)
theorem LastSlash_any (s : ByteArray) (w : World) (hs : s.size ≤ 1000000) : Calls Tryz.prog 178 #[.string s, .string ⟨#[47]⟩] w fun e w' => e = .returned (.int .i64 (slashI s)) ∧ w = w' :=
  flip (Tryz.strings_LastIndex_one s ⟨#[47]⟩ rfl (by omega) w)

set_option maxRecDepth 100000 in
set_option maxHeartbeats 4000000 in
theorem Line_any (s : ByteArray) (w : World) (hs : s.size ≤ 1000000) (hm : MaxOk w) : Calls Tryz.prog 144 #[.string s] w fun e w' =>
    e = .returned (.tuple #[.string (lineV s).1, .int .i64 (lineV s).2.1, .int .i64 (lineV s).2.2]) ∧ Below w.heap.size w w' := by
  cases hp : pathOk s with
  | false =>
    have HE := Lib.hid (show lineV s = (⟨#[]⟩, 0, 4) by unfold lineV; rw [hp]; rfl)
    have HM := Lib.hid (show majE s = 4 by unfold majE; rw [hp]; rfl)
    rw [HE.out]
    have HP := Lib.hid hp
    clear hp
    go_enter Tryz.func144, Tryz.ntmps144
    go_wp2_with fail
    refine (Major_any s w hs hm).mono ?_
    rintro e w1 ⟨rfl, hb1⟩
    have hm1 := hm.below hb1 hm.pos
    have HB1 := Lib.hid hb1
    clear hb1
    go_wp2_with fail
    refine (IsPath_any s w1 hs hm1).mono ?_
    rintro e w2 ⟨rfl, hb2⟩
    have HB2 : Hid (Below w.heap.size w w2) := Lib.hid (HB1.out.trans (hb2.mono HB1.out.size))
    rw [HP.out]
    clear hb2
    go_wp2_with fail
    go_ret3
    exact ⟨rfl, HB2.out⟩
  | true =>
    obtain ⟨i, hi1, hi2, hi3, hi4⟩ := slash_path s hp
    obtain ⟨hd, hhd⟩ : ∃ hd, s.extract 0 i = hd := ⟨_, rfl⟩
    have HE := Lib.hid (show lineV s = (hd, majN s, 0) by unfold lineV; rw [hp, hi1, ← hhd]; rfl)
    have HM := Lib.hid (show majE s = 0 by unfold majE; rw [hp]; rfl)
    have HL := Lib.hid (fun W => LastSlash_any s W hs)
    rw [hi1] at HL
    rw [HE.out]
    have HP := Lib.hid hp
    have HH := Lib.hid hhd
    have g1 : (0 : Int) ≤ (i : Int) := by omega
    have g2 : (i : Int) ≤ s.size := by omega
    have g3 : i ≤ s.size := by omega
    clear hp hi1 hi3 hi4 hhd
    go_enter Tryz.func144, Tryz.ntmps144
    go_wp2_with fail
    refine (Major_any s w hs hm).mono ?_
    rintro e w1 ⟨rfl, hb1⟩
    rw [HM.out]
    have hm1 := hm.below hb1 hm.pos
    have HB1 := Lib.hid hb1
    clear hb1
    go_wp2_with fail
    refine (IsPath_any s w1 hs hm1).mono ?_
    rintro e w2 ⟨rfl, hb2⟩
    have HB2 : Hid (Below w.heap.size w w2) := Lib.hid (HB1.out.trans (hb2.mono HB1.out.size))
    rw [HP.out]
    clear hb2
    go_wp2_with fail
    (with_reducible refine (HL.out _).mono ?_)
    rintro e w3 ⟨rfl, rfl⟩
    go_wp2_with fail
    go_ret3
    exact ⟨by rw [← HH.out]; rfl, HB2.out⟩
/-- the path of a line, and the error. -/
def pathB (s : ByteArray) (m : Int) : ByteArray := s ++ ⟨#[47, 118]⟩ ++ ⟨(decL m).toArray⟩
def pathV (s : ByteArray) (m : Int) : ByteArray × Int := if partB m = true then if pathOk (pathB s m) = true then (pathB s m, 0) else (⟨#[]⟩, 4) else (⟨#[]⟩, 2)
theorem size_app (x y : ByteArray) : (x ++ y).size = x.size + y.size := by
  rw [Lib.size_eq, ByteArray.data_append, Array.toList_append, List.length_append, ← Lib.size_eq, ← Lib.size_eq]
theorem pathB_size (s : ByteArray) (m : Int) (h : m ≤ 999) : (pathB s m).size ≤ s.size + 5 := by
  unfold pathB
  rw [size_app, size_app]
  have h1 : (⟨#[47, 118]⟩ : ByteArray).size = 2 := rfl
  have h2 : (⟨(decL m).toArray⟩ : ByteArray).size = (decL m).length := by rw [Lib.size_eq]
  have := decL_len m h
  omega

end Go.Proofs.YtenfkejbndifdaaGreatDoor

namespace Go.Proofs.YtenfkejbndifdaaGreatDoor
set_option linter.unusedVariables false
set_option linter.unusedSimpArgs false
open Go

/-- a requirement: a path and a set; what names a release. -/
abbrev ReqL := ByteArray × List (Int × Int)
abbrev SelL := ByteArray × (Int × Int × Int)
/-- a release. -/
structure RelL where
  path : ByteArray
  ver : Int × Int × Int
  reqs : List ReqL
  ar : ByteArray
  ifc : ByteArray
  cert : ByteArray
  yk : Bool
instance : Inhabited RelL := ⟨⟨⟨#[]⟩, (0, 0, 0), [], ⟨#[]⟩, ⟨#[]⟩, ⟨#[]⟩, false⟩⟩
/-- one string is less than another one. -/
def ltB (a b : ByteArray) : Bool := Op.bytesLess a.toList b.toList
/-- the first error of some. -/
def firstE (n : Nat) (f : Nat → Int) : Int := (((List.range n).map f).find? fun e => decide (e ≠ 0)).getD 0
theorem firstE_at {n : Nat} {f : Nat → Int} {k : Nat} (hk : k < n) (h : ∀ j, j < k → f j = 0) (h2 : f k ≠ 0) : firstE n f = f k := by
  unfold firstE
  have e : (List.range n).map f = (List.range k).map f ++ (f k :: ((List.range n).drop (k + 1)).map f) := by
    have e1 : List.range n = List.range k ++ (k :: (List.range n).drop (k + 1)) := by
      have h1 : (List.range n).take k = List.range k := by rw [List.take_range, Nat.min_eq_left (Nat.le_of_lt hk)]
      conv => lhs; rw [← List.take_append_drop k (List.range n), h1, List.drop_eq_getElem_cons (by simpa using hk)]
      simp
    conv => lhs; rw [e1]
    rw [List.map_append, List.map_cons]
  have : ((List.range n).map f).find? (fun e => decide (e ≠ 0)) = some (f k) := by
    rw [List.find?_eq_some_iff_append]
    refine ⟨by simpa using h2, (List.range k).map f, _, e, fun a ha => ?_⟩
    obtain ⟨j, hj, rfl⟩ := List.mem_map.1 ha
    simp [h j (List.mem_range.1 hj)]
  rw [this]
  rfl
theorem firstE_none {n : Nat} {f : Nat → Int} (h : ∀ j, j < n → f j = 0) : firstE n f = 0 := by
  unfold firstE
  have : ((List.range n).map f).find? (fun e => decide (e ≠ 0)) = none := List.find?_eq_none.2 fun a ha => by
    obtain ⟨j, hj, rfl⟩ := List.mem_map.1 ha
    simp [h j (List.mem_range.1 hj)]
  rw [this]
  rfl
theorem firstE_zero {n : Nat} {f : Nat → Int} (h : firstE n f = 0) : ∀ j, j < n → f j = 0 := by
  intro j
  induction j using Nat.strongRecOn with
  | _ j ih =>
    intro hj
    by_cases h2 : f j = 0
    · exact h2
    · rw [firstE_at hj (fun i hi => ih i hi (by omega)) h2] at h
      exact absurd h h2
/-- the error of a requirement behind another one; the first error of requirements. -/
def reqE (q : ReqL) (before : Option ByteArray) : Int :=
  if (lineV q.1).2.2 ≠ 0 then 4 else if q.2 = [] ∨ q.2 ≠ canon q.2 then 1 else match before with
    | none => 0
    | some b => if ltB b q.1 = true then 0 else 1
def beforeQ (l : List ReqL) (k : Nat) : Option ByteArray := if k = 0 then none else some (l.getD (k - 1) default).1
def checkReqs (l : List ReqL) : Int := if 16 < l.length then 7 else firstE l.length fun k => reqE (l.getD k default) (beforeQ l k)
def digB (s : ByteArray) : Bool := decide (s.size = 0) || decide (s.size = 32)
/-- the error of a release; of a release behind another one; the first error of an index. -/
def relE (r : RelL) : Int :=
  if (lineV r.path).2.2 ≠ 0 then 4
  else if (validB r.ver.1 r.ver.2.1 r.ver.2.2 && decide (r.ver.1 = (lineV r.path).2.1)) = false then 2
  else if checkReqs r.reqs ≠ 0 then checkReqs r.reqs
  else if (digB r.ar && (digB r.ifc && digB r.cert)) = true then 0 else 1
def cmpS (a b : ByteArray) : Int := if ltB a b = true then -1 else if ltB b a = true then 1 else 0
def cmpR (a b : RelL) : Int := if cmpS a.path b.path ≠ 0 then cmpS a.path b.path else cmpV a.ver.1 a.ver.2.1 a.ver.2.2 b.ver.1 b.ver.2.1 b.ver.2.2
def keyL (r : RelL) : SelL := (r.path, r.ver)
def relE2 (b r : RelL) : Int := if keyL b = keyL r then 5 else if 0 < cmpR b r then 1 else 0
def idxErr (X : List RelL) (k : Nat) : Int := if relE (X.getD k default) ≠ 0 then relE (X.getD k default) else if k = 0 then 0 else relE2 (X.getD (k - 1) default) (X.getD k default)
def checkX (X : List RelL) : Int := if 256 < X.length then 7 else firstE X.length (idxErr X)
/-- a release by what names it. -/
def findR (X : List RelL) (y : SelL) : Option RelL := X.find? fun r => decide (keyL r = y)
/-- paths that increase. -/
def incrS (s : List SelL) : Prop := s.Pairwise fun a b => ltB a.1 b.1 = true
end Go.Proofs.YtenfkejbndifdaaGreatDoor

namespace Go.Proofs.YtenfkejbndifdaaGreatDoor
set_option linter.unusedVariables false
set_option linter.unusedSimpArgs false
open Go Go.RowKit

/-- no operation defers, and none is a range over a map. -/
def calmOps (ops : Array Oper) : Bool := ops.all fun o => match o.op with | .defer _ => false | _ => true

theorem calmOps_spec {ops : Array Oper} (h : calmOps ops = true) {j : Nat} {o : Oper} (ho : ops[j]? = some o) (c : _) : o.op ≠ .defer c := fun e => by
  unfold calmOps at h
  rw [Array.all_eq_true'] at h
  have := h o (Array.mem_of_getElem? ho)
  rw [e] at this
  cases this

theorem oper_round {P : Program} {l n : Nat} {o : Oper} {a : Act} {w : World} {K K' : Act → World → Prop} {Q : Exit → Act → World → Prop} (hd : ∀ c, o.op ≠ .defer c)
    (hK : ∀ a w, K a w → K' a w) (h : o.wp P a w K Q) : o.wpIn (Fence.wide.inRound l) n P a w K' Q := by
  refine ⟨fun _ _ => trivial, ?_⟩
  rw [Oper.semAt_eq _ _ _ hd]
  unfold Oper.wp at h
  generalize (execOp a.eval o).run P w = r at *
  cases r with
  | ok x w' =>
    cases x <;> simp only [Oper.upon, Oper.uponIn] at h ⊢
    case value v => exact hK _ _ h
    case skip => exact hK _ _ h
    case defer d => exact hK _ _ h
    case enter f args =>
      refine ⟨fun h => (by cases h), ?_⟩
      refine CallsIn.inRound l (callsIn_wide.2 (h.mono ?_))
      intro e w'' he
      cases e with
      | returned v => exact hK _ _ he
      | panicked c => exact he
      | outgrown => exact he
    case row r args =>
      refine ⟨fun h => (by cases h), ?_⟩
      intro c cs _
      obtain ⟨v, w'', hv, hs⟩ := h c cs
      exact ⟨v, w'', hK _ _ hv, stepsIn_wide.2 hs⟩
  | halt x w' =>
    cases x <;> simp only [Oper.upon, Oper.uponIn] at h ⊢ <;> exact h

theorem op_round {P : Program} {l n : Nat} {ops : Array Oper} {Q : Exit → Act → World → Prop} {i : Nat} {a : Act} {w : World} {K K' : Act → World → Prop} (hd : calmOps ops = true) (hQ : ∀ a w, ¬ Q .outgrown a w)
    (hK : ∀ a w, K a w → K' a w) (h : wpOp P ops Q i K a w) : wpOpIn (Fence.wide.inRound l) n P ops Q i K' a w := by
  unfold wpOp at h
  unfold wpOpIn
  cases ho : ops[i]? with
  | none => simp only [ho] at h ⊢; exact hK _ _ h
  | some o =>
    simp only [ho] at h ⊢
    by_cases hw : Region.wanted o (yielded ops a.tmps) = true
    · rw [if_pos hw] at h ⊢
      rcases h with h | ⟨_, a0, w0, h⟩
      · exact oper_round (calmOps_spec hd ho) hK h
      · exact absurd h (hQ _ _)
    · rw [if_neg hw] at h ⊢
      exact ⟨fun _ _ => trivial, hK _ _ h⟩

theorem any_round {P : Program} {l n : Nat} {md : Region.Mode} {ops : Array Oper} {Q : Exit → Act → World → Prop} (hd : calmOps ops = true) (hQ : ∀ a w, ¬ Q .outgrown a w) :
    ∀ (fuel : Nat) (listed : Array Bool) (a : Act) (w : World), wpAny P md ops Q fuel listed a w → wpAnyIn (Fence.wide.inRound l) n P md ops Q fuel listed a w
  | 0, _, _, _, h => h
  | fuel + 1, listed, a, w, h => ⟨h.1, fun i hi => op_round hd hQ (fun a w h => any_round hd hQ fuel _ a w h) (h.2 i hi)⟩

/-- an operation that its guard passes over. -/
theorem wpStill_no {P : Program} {ops : Array Oper} {w : World} {Q : Act → Prop} {a : Act} {o : Oper} {rest : List Oper} (hw : Region.wanted o (yielded ops a.tmps) = false) (h : wpStill P ops w Q rest (a.put o.dst undef)) : wpStill P ops w Q (o :: rest) a := by
  refine wpStill_step fun K hK => ?_
  rw [hw]
  exact hK _ h
theorem wpStill_yes {P : Program} {ops : Array Oper} {w : World} {Q : Act → Prop} {a : Act} {o : Oper} {rest : List Oper} (hw : Region.wanted o (yielded ops a.tmps) = true) (h : ∀ K : Act → Prop, (∀ a, wpStill P ops w Q rest a → K a) → o.still P a w K) : wpStill P ops w Q (o :: rest) a := by
  refine wpStill_step fun K hK => ?_
  rw [hw]
  exact h K hK

/-- a region in a round, whatever order is drawn. -/
theorem region_round {P : Program} {l n id : Nat} {ops : Array Oper} {Q : Exit → Act → World → Prop} {a : Act} {w : World} (hm : P.follows .mixedOrders = true) (hd : calmOps ops = true) (hQ : ∀ a w, ¬ Q .outgrown a w)
    (h : wpAny P .any ops Q ops.size (Array.replicate ops.size false) a w.drew) : (Code.region id ops true).wpIn (Fence.wide.inRound l) n P Q a w :=
  wpIn_region_any hm (any_round hd hQ _ _ _ _ h)

/-- operations that only read, then a chain: in a round. -/
theorem region_round_tail {P : Program} {l n id : Nat} {Q : Exit → Act → World → Prop} {a : Act} {w : World} {lo : List Oper} (k : Nat) (hm : P.follows .mixedOrders = true) (hd : calmOps lo.toArray = true) (hQ : ∀ a w, ¬ Q .outgrown a w)
    (hB : Region.lexTailB .any lo.toArray k = true)
    (h : wpStill P lo.toArray w.drew (fun a' => wpList P lo.toArray Q (lo.drop k) a' w.drew) (lo.take k) a) : (Code.region id lo.toArray true).wpIn (Fence.wide.inRound l) n P Q a w := by
  refine region_round hm hd hQ ?_
  simp only [Region.lexTailB, Bool.and_eq_true, decide_eq_true_eq] at hB
  obtain ⟨⟨⟨⟨hsel, hn⟩, hs⟩, hc⟩, hlex⟩ := hB
  have hn' : k < lo.length := by simpa using hn
  have htl : (lo.take k).length = k := by simp; omega
  have hdl : (lo.drop k).length = lo.toArray.size - k := by simp
  have inv0 : HeadInv .any lo.toArray k (Array.replicate lo.toArray.size false) :=
    ⟨by simp, fun j oj _ hl => (by rw [getD_replicate_false] at hl; cases hl), fun t _ ht => getD_in (by simpa using ht) (getD_replicate_false _ _)⟩
  have H := wpAnyL_lex (md := .any) (g := lo.toArray.size - k) hsel hs hc hn (lo.take k) 0 _ a (fun j hj => by
    have hj' : j < k := by rw [htl] at hj; exact hj
    simp [hj']) (by simpa using htl) inv0 (by rw [htl]; exact hlex) h
  have := wpAny_of_head (Q' := Q) (g := lo.toArray.size - k) (fun listed a' hL => by
    have := wpAny_of_seq (md := .any) (Q' := Q) (lo.drop k) k listed a' w.drew (fun j => by simp [List.getElem?_drop]) (by rw [hdl]; exact hL.1) hL.2
    rwa [hdl] at this) _ _ _ H
  rw [htl, show k + (lo.toArray.size - k) = lo.toArray.size by omega] at this
  exact this

/-- a still chain behind a structure: whnf stops there. -/
structure Sealed (P : Program) (ops : Array Oper) (w : World) (Q : Act → Prop) (l : List Oper) (a : Act) : Prop where
  out : wpStill P ops w Q l a
theorem seal_nil {P : Program} {ops : Array Oper} {w : World} {Q : Act → Prop} {a : Act} (h : Q a) : Sealed P ops w Q [] a := ⟨wpStill_nil h⟩
theorem seal_no {P : Program} {ops : Array Oper} {w : World} {Q : Act → Prop} {a : Act} {o : Oper} {rest : List Oper} (hw : Region.wanted o (yielded ops a.tmps) = false) (h : Sealed P ops w Q rest (a.put o.dst undef)) : Sealed P ops w Q (o :: rest) a :=
  ⟨wpStill_no hw h.out⟩
theorem seal_yes {P : Program} {ops : Array Oper} {w : World} {Q : Act → Prop} {a : Act} {o : Oper} {rest : List Oper} (hw : Region.wanted o (yielded ops a.tmps) = true) (h : ∀ K : Act → Prop, (∀ a, Sealed P ops w Q rest a → K a) → o.still P a w K) : Sealed P ops w Q (o :: rest) a :=
  ⟨wpStill_yes hw fun K hK => h K fun a ha => hK a ha.out⟩

/-- a region in a round, by a walk that keeps S; it does not panic. -/
theorem region_roundP {P : Program} {l n id : Nat} {ops : Array Oper} {Q : Exit → Act → World → Prop} {a : Act} {w : World} {S : World → Prop} (hm : P.follows .mixedOrders = true) (hd : calmOps ops = true) (hQ : ∀ a w, ¬ Q .outgrown a w)
    (h : wpAnyH P .any ops (NoPanic Q) S ops.size (Array.replicate ops.size false) a w.drew) : (Code.region id ops true).wpIn (Fence.wide.inRound l) n P Q a w :=
  Code.wpIn_mono (fun e a w q => NoPanic.imp e a w q) (region_round hm hd (fun a w q => hQ a w q) (wpAny_of_held _ _ _ _ h))
/-- what two cells hold. -/
def HeldC (a b : Addr) (x y : Value) (W : World) : Prop := W.cell? a = some x ∧ W.cell? b = some y
/-- what three cells hold. -/
def HeldR (a b c : Addr) (x y z : Value) (W : World) : Prop := W.cell? a = some x ∧ W.cell? b = some y ∧ W.cell? c = some z
/-- what six cells hold. -/
def HeldS (a b c d e f : Addr) (x y z u v q : Value) (W : World) : Prop := W.cell? a = some x ∧ W.cell? b = some y ∧ W.cell? c = some z ∧ W.cell? d = some u ∧ W.cell? e = some v ∧ W.cell? f = some q
end Go.Proofs.YtenfkejbndifdaaGreatDoor

namespace Go.Proofs.YtenfkejbndifdaaGreatDoor
set_option linter.unusedVariables false
set_option linter.unusedSimpArgs false
open Go Go.RowKit

theorem cellA {W : World} {a : Addr} {v : Value} (o : Obj) (h : W.cell? a = some v) : (W.alloc o).cell? a = some v := cell_kept h (World.grownBy_alloc W o none) (fun r e => by cases e)
theorem frozA {W : World} {a : Addr} {v : Value} (o : Obj) (h : W.cell? a = some v) (hf : W.frozen? a = false) : (W.alloc o).frozen? a = false := (frozen_kept h (World.grownBy_alloc W o none) (fun r e => by cases e)).trans hf
theorem grownD {w w' : World} {row : Option Nat} (h : w.grownBy w' row) : w.grownBy w'.drew row := ⟨h.os, h.tape, h.output, h.size, h.block⟩
theorem ownFrom_grown {β : Type} {w : World} {row : Option Nat} {B : Nat} (hB : w.heap.size ≤ B) : OwnFrom B (fun (_ : β) W => w.grownBy W row) := fun _ W W' r h hg hr =>
  h.andThen hg (fun j e => .inl (Nat.le_trans hB (hr j e).1))
/-- what holds of blocks of cells alone is kept where no such block is turned. -/
theorem blk_turn {W W' : World} {row : Option Nat} {b t : Nat} {cs : Array Value} {f : Nat × Nat} (h : W.heap[b]? = some (.cells cs t f)) (hg : W.grownBy W' row) (hr : ∀ r, row = some r → ∃ o : Obj, W.heap[r]? = some o ∧ o.isCells = false) : W'.heap[b]? = some (.cells cs t f) :=
  (hg.block b (Array.getElem?_eq_some_iff.1 h).1 (fun e => by obtain ⟨o, ho, hc⟩ := hr b e.symm; rw [h] at ho; cases ho; cases hc)).trans h
/-- a number that is no less than 0. -/
abbrev natC (k : Nat) : Value := .int .i64 (k : Int)
/-- a slice that reads as a list, in a block below B. -/
def RowOf {α : Type} (enc : α → Value) (B : Nat) (v : Value) (l : List α) (W : World) : Prop :=
  (l = [] ∧ ∃ a c, v = .slice a 0 c) ∨ ∃ b off cap, v = .slice (some ⟨b, off, none⟩) l.length cap ∧ b < B ∧ ∀ i x, l[i]? = some x → W.cell? ⟨b, off + i, none⟩ = some (enc x)
/-- a slice of slices that reads as a list of lists. -/
def RowsOf (B : Nat) (v : Value) (S : List (List Nat)) (W : World) : Prop :=
  (S = [] ∧ ∃ a c, v = .slice a 0 c) ∨ ∃ b off cap, v = .slice (some ⟨b, off, none⟩) S.length cap ∧ b < B ∧ ∀ i l, S[i]? = some l → ∃ r, W.cell? ⟨b, off + i, none⟩ = some r ∧ RowOf natC B r l W

theorem RowOf.below {α : Type} {enc : α → Value} {B B' : Nat} {v : Value} {l : List α} {W W' : World} (h : RowOf enc B v l W) (hb : Below B' W W') (hB : B ≤ B') : RowOf enc B v l W' := by
  rcases h with h | ⟨b, off, cap, h1, h2, h3⟩
  · exact .inl h
  · exact .inr ⟨b, off, cap, h1, h2, fun i x hx => (hb.cell (p := ⟨b, off + i, none⟩) (by simp; omega)).trans (h3 i x hx)⟩
theorem RowOf.mono {α : Type} {enc : α → Value} {B B' : Nat} {v : Value} {l : List α} {W : World} (h : RowOf enc B v l W) (hB : B ≤ B') : RowOf enc B' v l W := by
  rcases h with h | ⟨b, off, cap, h1, h2, h3⟩
  · exact .inl h
  · exact .inr ⟨b, off, cap, h1, by omega, h3⟩
theorem RowsOf.below {B B' : Nat} {v : Value} {S : List (List Nat)} {W W' : World} (h : RowsOf B v S W) (hb : Below B' W W') (hB : B ≤ B') : RowsOf B v S W' := by
  rcases h with h | ⟨b, off, cap, h1, h2, h3⟩
  · exact .inl h
  · refine .inr ⟨b, off, cap, h1, h2, fun i x hx => ?_⟩
    obtain ⟨r, hr, hl⟩ := h3 i x hx
    exact ⟨r, (hb.cell (p := ⟨b, off + i, none⟩) (by simp; omega)).trans hr, hl.below hb hB⟩
theorem RowsOf.mono {B B' : Nat} {v : Value} {S : List (List Nat)} {W : World} (h : RowsOf B v S W) (hB : B ≤ B') : RowsOf B' v S W := by
  rcases h with h | ⟨b, off, cap, h1, h2, h3⟩
  · exact .inl h
  · refine .inr ⟨b, off, cap, h1, by omega, fun i x hx => ?_⟩
    obtain ⟨r, hr, hl⟩ := h3 i x hx
    exact ⟨r, hr, hl.mono hB⟩

/-- what a range over of yields. -/
def ofL (S : List (List Nat)) (node least : Nat) : List Nat := (S.getD node []).filter (fun k => decide (least ≤ k))
/-- what a round must keep: one box, and what was there before. -/
def KpB (Bn B0 : Nat) (W W' : World) : Prop := W'.heap[Bn]? = W.heap[Bn]? ∧ Below B0 W W'
theorem kpB_t {Bn B0 : Nat} {A B C : World} (h : KpB Bn B0 A B) (k : KpB Bn B0 B C) : KpB Bn B0 A C := ⟨k.1.trans h.1, h.2.trans k.2⟩
theorem kpB_b {Bn B0 : Nat} {w : World} (hn : B0 ≤ w.heap.size) (hBn : Bn < w.heap.size) (W : World) (l : Nat) (o o' : Obj) (hl : w.heap.size ≤ l) (h : W.heap[l]? = some o) (h1 : o.isCells = false) (h2 : o.isWalk = false) : KpB Bn B0 W (W.putObj l o') :=
  ⟨World.putObj_heap_other (by omega), belowK_b hn W l o o' hl h h1 h2⟩

end Go.Proofs.YtenfkejbndifdaaGreatDoor
