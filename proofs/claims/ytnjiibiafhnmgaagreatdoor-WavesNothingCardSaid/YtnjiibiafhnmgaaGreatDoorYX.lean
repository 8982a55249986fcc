/- Contract of slices.Repeat at one number; the graph's exist. Contract of the graph's distances. -/
import Derived.Test.YtnjiibiafhnmgaaGreatDoorYP
import Derived.Laws.CopyOwn
import Derived.Deep.RegionLaw
import Derived.IntWalk
import Derived.Test.YtnjiibiafhnmgaaGreatDoorYW
import Derived.Test.YtnjiibiafhnmgaaGreatDoorYF
namespace Go.Proofs.YtnjiibiafhnmgaaGreatDoor
set_option linter.unusedVariables false
set_option linter.unusedSimpArgs false
open Go Go.RowKit

theorem splice_rep (c N m : Nat) (x z : Value) (h : c + m ≤ N) : splice (List.replicate c x ++ List.replicate (N - c) z) c (List.replicate m x) = List.replicate (c + m) x ++ List.replicate (N - (c + m)) z := by
  unfold splice
  rw [List.take_append_of_le_length (by simp), List.take_of_length_le (by simp), List.length_replicate, List.drop_append, List.drop_eq_nil_of_le (by simp), List.nil_append, List.drop_replicate, List.length_replicate, ← List.append_assoc, List.replicate_append_replicate]
  congr 2
  omega

set_option maxRecDepth 100000 in
set_option maxHeartbeats 4000000 in
theorem Repeat_any (b c N : Nat) (x : Int) (w : World) (hN : N ≤ 1000000) (hx : w.cell? ⟨b, 0, none⟩ = some (intC x)) (hb : b < w.heap.size) :
    Calls Tryz.prog 108 #[.slice (some ⟨b, 0, none⟩) 1 c, .int .i64 (N : Int)] w fun e w' => ∃ g, e = .returned (.slice (some ⟨g, 0, none⟩) N N) ∧ w.heap.size ≤ g ∧ w'.heap[g]? = some (.cells (List.replicate N (intC x)).toArray 3 (0, 0)) ∧ Below w.heap.size w w' := by
  have hmk := make_ints N (by omega)
  have hmul := Tryz.bits_Mul 1 N (by omega) (by omega) w
  have e1 : 1 * N / 18446744073709551616 = 0 := by omega
  have e2 : 1 * N % 18446744073709551616 = N := by omega
  rw [e1, e2] at hmul
  have HM := Lib.hid hmul
  clear hmul e1 e2
  have h0 : (0 : Int) ≤ (N : Int) := by omega
  have h1 : (N : Int) ≤ 1000000 := by omega
  go_enter Tryz.func108, Tryz.ntmps108
  go_wp2_with fail
  refine HM.out.mono ?_
  rintro e w' ⟨rfl, rfl⟩
  have hcells : ∀ j v, (List.replicate (Nat.min 1 N) (intC x))[j]? = some v → (w'.alloc (.cells (Array.replicate N (.int .i64 0)) 3)).cell? ((⟨b, 0, none⟩ : Addr).add j) = some v := fun j v hv => by
    have hj : j < Nat.min 1 N := by have := (List.getElem?_eq_some_iff.1 hv).1; simpa using this
    have hv2 : intC x = v := by have := List.getElem?_eq_some_iff.1 hv; obtain ⟨_, h⟩ := this; simpa using h
    have hj0 : j = 0 := by have : Nat.min 1 N ≤ 1 := Nat.min_le_left 1 N; omega
    subst hj0
    rw [← hv2]
    exact cellA _ hx
  have HC := Lib.hid hcells
  clear hcells
  have hbw : Below w'.heap.size w' (w'.alloc (.cells (Array.replicate N (.int .i64 0)) 3)) := (Below.refl _ _).alloc (Nat.le_refl _) _
  have HBW := Lib.hid hbw
  clear hbw
  go_wp2_with (with_reducible refine wpList_copy_splice rfl (.tmp 31) (.tmp 32) 120 120 rfl 3 Tryz.underlying120 (by kernel_rfl) (some ⟨w'.heap.size, 0, none⟩) (some ⟨b, 0, none⟩) N N 1 c rfl rfl w'.heap.size 0 (List.replicate N (.int .i64 0)) 3 (by have := World.alloc_heap_new w' (.cells (Array.replicate N (.int .i64 0)) 3); simpa using this) (List.replicate (Nat.min 1 N) (intC x)) (by simp) (fun _ => ⟨rfl, _, rfl, HC.out⟩) (by simp; exact Nat.min_le_right 1 N) (by simp [Value.oneCell']) w'.heap.size w' HBW.out (Nat.le_refl _) ?_; intro w2 HG2 hb2)
  have HG3 : Hid (w2.heap[w'.heap.size]? = some (.cells (List.replicate (Nat.min 1 N) (intC x) ++ List.replicate (N - Nat.min 1 N) (intC 0)).toArray 3 (0, 0))) := Lib.hid (by
    have := HG2.out
    have e := splice_rep 0 N (Nat.min 1 N) (intC x) (intC 0) (by have : Nat.min 1 N ≤ N := Nat.min_le_right 1 N; omega)
    simp only [List.replicate_zero, List.nil_append, Nat.zero_add, Nat.sub_zero] at e
    rw [e] at this
    exact this)
  have HB2 := Lib.hid hb2
  clear HG2 hb2 hmk HM HC HBW
  have hm1 : Nat.min 1 N ≤ N := Nat.min_le_right 1 N
  have hm2 : 0 < N → 0 < Nat.min 1 N := fun h => by rw [show Nat.min 1 N = 1 from Nat.min_eq_left h]; omega
  generalize Nat.min 1 N = c1 at *
  have HM2 := Lib.hid hm2
  clear hm2
  go_loopw [8] (fun s wr => ∃ k : Nat, k ≤ N ∧ s = .int .i64 k ∧ Hid (0 < N → 0 < k) ∧ Hid (wr.heap[w'.heap.size]? = some (.cells (List.replicate k (intC x) ++ List.replicate (N - k) (intC 0)).toArray 3 (0, 0))) ∧ Hid (Below w'.heap.size w' wr)) (fun s _ => N - (intOf s).toNat)
  case atStart => exact ⟨c1, hm1, rfl, HM2, HG3, HB2⟩
  case round =>
    clear HM2 HG3 HB2 hm1
    obtain ⟨k, hk, rfl, HP, HG, HB⟩ := hrel
    by_cases hlt : k < N
    · have hlt2 : (k : Int) < (N : Int) := by omega
      have hle2 : (k : Int) ≤ (N : Int) := by omega
      have hk0 : (0 : Int) ≤ (k : Int) := by omega
      have hkne : ¬ N = k := by omega
      have hpos : 0 < k := HP.out (by omega)
      have HC : Hid (∀ j v, (List.replicate (Nat.min k (N - k)) (intC x))[j]? = some v → wr.drew.cell? ((⟨w'.heap.size, 0, none⟩ : Addr).add j) = some v) := Lib.hid (fun j v hv => by
        have hj : j < Nat.min k (N - k) := by have := (List.getElem?_eq_some_iff.1 hv).1; simpa using this
        have hj2 : j < k := by have : Nat.min k (N - k) ≤ k := Nat.min_le_left _ _; omega
        have hv2 : intC x = v := by have := List.getElem?_eq_some_iff.1 hv; obtain ⟨_, h⟩ := this; simpa using h
        rw [← hv2]
        have e : ((⟨w'.heap.size, 0, none⟩ : Addr).add j) = ⟨w'.heap.size, j, none⟩ := by unfold Addr.add; split <;> simp_all
        rw [e]
        refine (cell_of_row wr _ j _ _ _ HG.out).trans ?_
        rw [List.getElem?_toArray, List.getElem?_append_left (by simpa using hj2), List.getElem?_replicate, if_pos hj2])
      have hmn : Nat.min k (N - k) ≤ N - k := Nat.min_le_right _ _
      have hmp : 0 < Nat.min k (N - k) := by
        rcases Nat.le_total k (N - k) with h | h
        · rw [show Nat.min k (N - k) = k from Nat.min_eq_left h]; omega
        · rw [show Nat.min k (N - k) = N - k from Nat.min_eq_right h]; omega
      have HMN : Hid (Nat.min k (N - k) = Nat.min k (N - k)) := Lib.hid rfl
      go_wp2_with fail
      go_region_held3 (fun _ => True) (trivial) ((refine step_copy_splice rfl (.tmp 41) (.tmp 44) 120 120 rfl 3 Tryz.underlying120 (by kernel_rfl) (some ⟨w'.heap.size, k, none⟩) (some ⟨w'.heap.size, 0, none⟩) (N - k) (N - k) k N (by rfl) (by rfl) w'.heap.size k (List.replicate k (intC x) ++ List.replicate (N - k) (intC 0)) 3 HG.out (List.replicate (Nat.min k (N - k)) (intC x)) (by simp) (fun _ => ⟨rfl, _, rfl, HC.out⟩) (by simp; omega) (fun v hv => by rw [List.eq_of_mem_replicate hv]; rfl) w'.heap.size w' HB.out.drew (Nat.le_refl _) ?_; intro w2 HG2 hb2))
      all_goals
        have hl2 : (List.replicate (Nat.min k (N - k)) (intC x)).length = Nat.min k (N - k) := by simp
        have HGN : Hid (w2.heap[w'.heap.size]? = some (.cells (List.replicate (k + Nat.min k (N - k)) (intC x) ++ List.replicate (N - (k + Nat.min k (N - k))) (intC 0)).toArray 3 (0, 0))) := Lib.hid (by
          have := HG2.out
          rw [splice_rep k N (Nat.min k (N - k)) (intC x) (intC 0) (by omega)] at this
          exact this)
        have HB2 := Lib.hid hb2
        clear HG2 hb2
        generalize Nat.min k (N - k) = m at *
        clear hl2
        have hw : IntKind.i64.wrap ((k : Int) + (m : Int)) = ((k + m : Nat) : Int) := by rw [Int.natCast_add]; exact IntWalk.i64_in _ (by omega)
        go_wp2_with fail
        go_roundw
        case rel => exact ⟨k + m, by omega, by go_num, Lib.hid (fun h => by omega), HGN, HB2⟩
        case measure => simp [intOf]; omega
    · have hkk : k = N := by omega
      subst hkk
      go_wp2_with fail
      go_ret
      refine ⟨_, rfl, Nat.le_refl _, ?_, HB.out⟩
      have := HG.out
      simpa using this
end Go.Proofs.YtnjiibiafhnmgaaGreatDoor

namespace Go.Proofs.YtnjiibiafhnmgaaGreatDoor
set_option linter.unusedVariables false
set_option linter.unusedSimpArgs false
open Go Go.RowKit

def Ints (W : World) (g : Nat) (l : List Int) : Prop := W.heap[g]? = some (.cells (l.map intC).toArray 3 (0, 0))
theorem Ints.cell {W : World} {g : Nat} {l : List Int} (h : Ints W g l) (i : Nat) (x : Int) (hb : l[i]? = some x) : W.cell? ⟨g, i, none⟩ = some (intC x) := by
  rw [cell_of_row _ _ _ _ _ _ h]
  simp [hb]
theorem Ints.set {W : World} {g : Nat} {l : List Int} (h : Ints W g l) (i : Nat) (x : Int) : Ints (W.setCell ⟨g, i, none⟩ (intC x)) g (l.set i x) := by
  have := heap_setCell_same W g i _ _ (intC x) h
  unfold Ints
  rw [this]
  simp [List.map_set]
theorem gD_get {d : List Int} {a : Nat} (h : a < d.length) : d[a]? = some (gD d a) := by
  unfold gD
  rw [List.getD_eq_getElem?_getD, List.getElem?_eq_getElem h]
  rfl
structure BfsW (B : Nat) (w W : World) (N go bo bq : Nat) (d : List Int) (q : List Nat) (qv : Value) : Prop where
  o : Boxed W bo 120 (.slice (some ⟨go, 0, none⟩) N N)
  qb : Boxed W bq 120 qv
  qs : Seg W B 3 qv (q.map natC)
  i : Ints W go d
  ne : qv.ownBlock ≠ some go
  b : Below B w W
  go : B ≤ go ∧ B ≤ bo ∧ B ≤ bq ∧ bo ≠ bq
def DistI (B : Nat) (S : List (List Nat)) (least tgt n : Nat) (w : World) (go bo bq bn u0 hs : Nat) (ds : List Deferred) (pre : List Nat) (W' : World) : Prop :=
  ∃ (d' : List Int) (q' : List Nat) (qv' : Value), BfsJ S least tgt n pre d' q' ∧ unass d' + q'.length = u0 ∧ BfsW B w W' S.length go bo bq d' q' qv' ∧ Boxed W' bn 3 (natC n) ∧ Marks B ds W' ∧ hs ≤ W'.heap.size ∧ ∀ k, qv'.ownBlock = some k → k < bn ∨ hs ≤ k

end Go.Proofs.YtnjiibiafhnmgaaGreatDoor

namespace Go.Proofs.YtnjiibiafhnmgaaGreatDoor
set_option linter.unusedVariables false
set_option linter.unusedSimpArgs false

def cstep (far : List Int) (st : Int × Int) (k : Nat) : Int × Int := if 0 ≤ gD far k ∧ (st.1 < 0 ∨ gD far k < st.2) then ((k : Int), gD far k) else st
def cfar (N : Nat) (es : List (Int × Int)) (first : Nat) : List Int := bfsD (sucs N (es.map swapE)) first first
def cycStep (N : Nat) (es : List (Int × Int)) (best : List Nat) (first : Nat) : List Nat :=
  let st := (ofP (sucs N es) first first).foldl (cstep (cfar N es first)) (-1, 0)
  if st.1 < 0 ∨ (best ≠ [] ∧ (best.length : Int) ≤ st.2 + 1) then best
  else if st.1 = (first : Int) then [first] else first :: (descP (sucs N es) (cfar N es first) (gD (cfar N es first) st.1.toNat).toNat st.1.toNat).dropLast
def cycF (N : Nat) (es : List (Int × Int)) (k : Nat) : List Nat := (List.range k).foldl (cycStep N es) []
end Go.Proofs.YtnjiibiafhnmgaaGreatDoor

namespace Go.Proofs.YtnjiibiafhnmgaaGreatDoor
set_option linter.unusedVariables false
set_option linter.unusedSimpArgs false
open Go Go.RowKit

structure DescW (B : Nat) (w W : World) (N gf bf bo bn : Nat) (acc : List Nat) (n : Nat) (ov : Value) : Prop where
  o : Boxed W bo 120 ov
  os : W.ownsRow B 3 1 ov acc.length (acc.map natC)
  n : Boxed W bn 3 (natC n)
  f : Boxed W bf 120 (.slice (some ⟨gf, 0, none⟩) N N)
  ne : ov.ownBlock ≠ some bn
  b : Below B w W
  le : B ≤ bf ∧ B ≤ bo ∧ B ≤ bn ∧ bf ≠ bo ∧ bn ≠ bo ∧ bn ≠ bf
theorem appIn_int {F : Fence} {n : Nat} (w : World) {ops : Array Oper} {rest : List Oper} {o : Oper} {ac : Act} {Q : Exit → Act → World → Prop}
    (hg : o.guard = none) (s x : Operand) (hop : o.op = Op.call { callee := Callee.builtin Builtin.append, args := #[s, x], argTypes := #[120, 120] })
    (B : Nat) (v : Value) (k : Nat) (xs : List Value) (hs : ac.eval s = v) (h : w.ownsRow B 3 1 v k xs) (hB : B ≤ w.heap.size) (u : Value) (a : Addr) (c : Nat) (hx : ac.eval x = .slice (some a) 1 c) (hu : w.cell? a = some u) (h1 : u.oneCell' = true) (hl : k + 1 ≤ 1000000000)
    (hK : ∀ g cap w', w'.ownsRow B 3 1 (.slice (some ⟨g, 0, none⟩) (k + 1) cap) (k + 1) (xs ++ [u]) → w.grownBy w' v.ownBlock → (v.ownBlock = some g ∨ g = w.heap.size) → wpListIn F n Tryz.prog ops Q rest (ac.put o.dst (.slice (some ⟨g, 0, none⟩) (k + 1) cap)) w') :
    wpListIn F n Tryz.prog ops Q (o :: rest) ac w := by
  refine wpListIn_plain hg fun K hK' => ?_
  obtain ⟨i0, hi, hz0, hz1, hz2⟩ := info_parts info_ints
  obtain ⟨g, cap, w', hrun, r1, r2, r3, _⟩ := run_append_lies (P := Tryz.prog) w 120 o.type B 3 i0 (.int .i64 0) 1 8 Tryz.underlying120 hi hz0 hz1 hz2 rfl (by decide) v k xs h a 1 c [u] rfl (fun j y hy => by
    cases j with
    | zero =>
      simp at hy
      subst hy
      have : a.add 0 = a := by unfold Addr.add; split <;> simp_all
      rw [this]; exact hu
    | succ j => simp at hy) (by simpa using h1) (by decide) (by unfold maxLen; omega) (by omega) hB w.heap.size rfl
  unfold Oper.wpIn
  refine ⟨?_, ?_⟩
  · simp [Oper.about, hop, resolve, Target.leads, Sem.run_pure]
  · rw [Oper.semAt_plain F _ _ (by rw [hop]; intro c hc'; cases hc')]
    simp [execOp, hop, resolve, invoke, builtin, hs, hx, hrun, Result.andThen]
    exact hK' _ _ (hK g cap w' r1 r2 r3)
def DescI (B : Nat) (far : List Int) (w : World) (N gf bf bo bn n hs : Nat) (acc : List Nat) (ds : List Deferred) (pre : List Nat) (W' : World) : Prop :=
  ∃ ov : Value, (∀ k ∈ pre, gD far k ≠ gD far n - 1) ∧ DescW B w W' N gf bf bo bn acc n ov ∧ Marks B ds W' ∧ hs ≤ W'.heap.size ∧ ∀ k, ov.ownBlock = some k → k < hs - 3 ∨ hs ≤ k
def DescX (B : Nat) (far : List Int) (w : World) (N gf bf bo bn n hs : Nat) (acc : List Nat) (ds : List Deferred) (id : Nat) (c : Code) (pre : List Nat) (W' : World) : Prop :=
  c = .exit id ∧ ∃ (ov : Value) (zs : List Nat) (x : Nat), pre = zs ++ [x] ∧ (∀ k ∈ zs, gD far k ≠ gD far n - 1) ∧ gD far x = gD far n - 1 ∧ DescW B w W' N gf bf bo bn (acc ++ [x]) x ov ∧ Marks B ds W' ∧ hs ≤ W'.heap.size

end Go.Proofs.YtnjiibiafhnmgaaGreatDoor

namespace Go.Proofs.YtnjiibiafhnmgaaGreatDoor
set_option linter.unusedVariables false
set_option linter.unusedSimpArgs false
open Go Go.RowKit

theorem ints_row {W : World} {g : Nat} {l : List Int} (h : Ints W g l) : g < W.heap.size := (Array.getElem?_eq_some_iff.1 h).1

end Go.Proofs.YtnjiibiafhnmgaaGreatDoor

namespace Go.Proofs.YtnjiibiafhnmgaaGreatDoor
set_option linter.unusedVariables false
set_option linter.unusedSimpArgs false
open Go Go.RowKit

theorem op_wide {P : Program} {n : Nat} {ops : Array Oper} {Q : Exit → Act → World → Prop} {i : Nat} {a : Act} {w : World} {K K' : Act → World → Prop} (hQ : ∀ a w, ¬ Q .outgrown a w)
    (hK : ∀ a w, K a w → K' a w) (h : wpOp P ops Q i K a w) : wpOpIn Fence.wide n P ops Q i K' a w := by
  unfold wpOp at h
  unfold wpOpIn
  cases ho : ops[i]? with
  | none => simp only [ho] at h ⊢; exact hK _ _ h
  | some o =>
    simp only [ho] at h ⊢
    by_cases hw : Region.wanted o (yielded ops a.tmps) = true
    · rw [if_pos hw] at h ⊢
      rcases h with h | ⟨_, a0, w0, h⟩
      · refine ⟨fun _ _ => trivial, ?_⟩
        show Oper.uponIn _ _ _ _ _ _ _ ((execOp a.eval o).run P w)
        unfold Oper.wp at h
        generalize (execOp a.eval o).run P w = r at *
        cases r with
        | ok x w' =>
          cases x <;> simp only [Oper.upon, Oper.uponIn] at h ⊢
          case value v => exact hK _ _ h
          case skip => exact hK _ _ h
          case defer d => exact hK _ _ h
          case enter f args =>
            refine ⟨fun h => (by cases h), ?_⟩
            refine callsIn_wide.2 (h.mono ?_)
            intro e w'' he
            cases e with
            | returned v => exact hK _ _ he
            | panicked c => exact he
            | outgrown => exact he
          case row r args =>
            refine ⟨fun h => (by cases h), ?_⟩
            intro c cs _
            obtain ⟨v, w'', hv, hs⟩ := h c cs
            exact ⟨v, w'', hK _ _ hv, stepsIn_wide.2 hs⟩
        | halt x w' =>
          cases x <;> simp only [Oper.upon, Oper.uponIn] at h ⊢ <;> exact h
      · exact absurd h (hQ _ _)
    · rw [if_neg hw] at h ⊢
      exact ⟨fun _ _ => trivial, hK _ _ h⟩
theorem any_wide {P : Program} {n : Nat} {md : Region.Mode} {ops : Array Oper} {Q : Exit → Act → World → Prop} (hQ : ∀ a w, ¬ Q .outgrown a w) :
    ∀ (fuel : Nat) (listed : Array Bool) (a : Act) (w : World), wpAny P md ops Q fuel listed a w → wpAnyIn Fence.wide n P md ops Q fuel listed a w
  | 0, _, _, _, h => h
  | fuel + 1, listed, a, w, h => ⟨h.1, fun i hi => op_wide hQ (fun a w h => any_wide hQ fuel _ a w h) (h.2 i hi)⟩
theorem region_wide {P : Program} {n id : Nat} {ops : Array Oper} {Q : Exit → Act → World → Prop} {a : Act} {w : World} (hm : P.follows .mixedOrders = true) (hQ : ∀ a w, ¬ Q .outgrown a w)
    (h : wpAny P .any ops Q ops.size (Array.replicate ops.size false) a w.drew) : (Code.region id ops true).wpIn Fence.wide n P Q a w :=
  wpIn_region_any hm (any_wide hQ _ _ _ _ h)

theorem region_wideP {P : Program} {n id : Nat} {ops : Array Oper} {Q : Exit → Act → World → Prop} {a : Act} {w : World} {S : World → Prop} (hm : P.follows .mixedOrders = true) (hQ : ∀ a w, ¬ Q .outgrown a w)
    (h : wpAnyH P .any ops (NoPanic Q) S ops.size (Array.replicate ops.size false) a w.drew) : (Code.region id ops true).wpIn Fence.wide n P Q a w :=
  Code.wpIn_mono (fun e a w q => NoPanic.imp e a w q) (region_wide hm (fun a w q => hQ a w q) (wpAny_of_held _ _ _ _ h))
def HeldG (b : Nat) (x y : Value) (W : World) : Prop := W.cell? ⟨b, 0, none⟩ = some x ∧ W.cell? ⟨b, 1, none⟩ = some y

structure CycW (B : Nat) (w W : World) (N gf bf bx bl : Nat) (far : List Int) (st : Int × Int) (bv : Value) (best : List Nat) : Prop where
  f : Boxed W bf 120 (.slice (some ⟨gf, 0, none⟩) N N)
  i : Ints W gf far
  x : Boxed W bx 3 (intC st.1)
  l : Boxed W bl 3 (intC st.2)
  o : W.ownsRow B 3 1 bv best.length (best.map natC)
  b : Below B w W
theorem Marks.drew {B : Nat} {ds : List Deferred} {W : World} (h : Marks B ds W) : Marks B ds W.drew := h.keep (fun _ _ _ => rfl)
def CycI (B : Nat) (w : World) (N gf bf bx bl hs : Nat) (far : List Int) (bv : Value) (best : List Nat) (ds : List Deferred) (pre : List Nat) (W' : World) : Prop :=
  CycW B w W' N gf bf bx bl far (pre.foldl (cstep far) (-1, 0)) bv best ∧ Marks B ds W' ∧ hs ≤ W'.heap.size

end Go.Proofs.YtnjiibiafhnmgaaGreatDoor
