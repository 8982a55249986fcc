/- Requirements, releases, selections in memory. The library's Equal at spans. The graph of a selection, plain; what solving says. -/
import Derived.Test.YtenfkejbndifdaaGreatDoorUC
import Derived.Test.YtenfkejbndifdaaGreatDoorQShelf
import Derived.Shelf.SlicesQ.Equal
import Derived.Laws.StructEq
import Derived.Lib.SlicesCompact
namespace Go.Proofs.YtenfkejbndifdaaGreatDoor
set_option linter.unusedVariables false
set_option linter.unusedSimpArgs false
open Go Go.RowKit

def ReqsOf (B : Nat) (v : Value) (l : List ReqL) (W : World) : Prop :=
  ∃ ao cap, v = .slice ao l.length cap ∧ ∀ i q, l[i]? = some q → ∃ b off r, ao = some ⟨b, off, none⟩ ∧ b < B ∧ W.cell? ⟨b, off + i * 2, none⟩ = some (.string q.1) ∧ W.cell? ⟨b, off + i * 2 + 1, none⟩ = some r ∧ SpansOf B r q.2 W
theorem ReqsOf.below {B B' : Nat} {v : Value} {l : List ReqL} {W W' : World} (h : ReqsOf B v l W) (hb : Below B' W W') (hB : B ≤ B') : ReqsOf B v l W' := by
  obtain ⟨ao, cap, rfl, h⟩ := h
  refine ⟨ao, cap, rfl, fun i q hq => ?_⟩
  obtain ⟨b, off, r, rfl, hlt, h1, h2, h3⟩ := h i q hq
  exact ⟨b, off, r, rfl, hlt, (hb.cell (p := ⟨b, off + i * 2, none⟩) (by simp; omega)).trans h1, (hb.cell (p := ⟨b, off + i * 2 + 1, none⟩) (by simp; omega)).trans h2, h3.below hb hB⟩
theorem ReqsOf.mono {B B' : Nat} {v : Value} {l : List ReqL} {W : World} (h : ReqsOf B v l W) (hB : B ≤ B') : ReqsOf B' v l W := by
  obtain ⟨ao, cap, rfl, h⟩ := h
  refine ⟨ao, cap, rfl, fun i q hq => ?_⟩
  obtain ⟨b, off, r, rfl, hlt, h1, h2, h3⟩ := h i q hq
  exact ⟨b, off, r, rfl, by omega, h1, h2, h3.mono hB⟩
theorem ReqsOf.on {w w' : World} {v : Value} {l : List ReqL} (h : ReqsOf w.heap.size v l w) (hb : Below w.heap.size w w') : ReqsOf w'.heap.size v l w' := (h.below hb (Nat.le_refl _)).mono hb.size
def SelsOf (B : Nat) (v : Value) (l : List SelL) (W : World) : Prop :=
  ∃ ao cap, v = .slice ao l.length cap ∧ ∀ i y, l[i]? = some y → ∃ b off, ao = some ⟨b, off, none⟩ ∧ b < B ∧ W.cell? ⟨b, off + i * 4, none⟩ = some (.string y.1) ∧ W.cell? ⟨b, off + i * 4 + 1, none⟩ = some (intC y.2.1) ∧ W.cell? ⟨b, off + i * 4 + 2, none⟩ = some (intC y.2.2.1) ∧ W.cell? ⟨b, off + i * 4 + 3, none⟩ = some (intC y.2.2.2)
theorem SelsOf.below {B B' : Nat} {v : Value} {l : List SelL} {W W' : World} (h : SelsOf B v l W) (hb : Below B' W W') (hB : B ≤ B') : SelsOf B v l W' := by
  obtain ⟨ao, cap, rfl, h⟩ := h
  refine ⟨ao, cap, rfl, fun i q hq => ?_⟩
  obtain ⟨b, off, rfl, hlt, h1, h2, h3, h4⟩ := h i q hq
  have key : ∀ j, W'.cell? ⟨b, j, none⟩ = W.cell? ⟨b, j, none⟩ := fun j => hb.cell (p := ⟨b, j, none⟩) (by simp; omega)
  exact ⟨b, off, rfl, hlt, (key _).trans h1, (key _).trans h2, (key _).trans h3, (key _).trans h4⟩
theorem SelsOf.mono {B B' : Nat} {v : Value} {l : List SelL} {W : World} (h : SelsOf B v l W) (hB : B ≤ B') : SelsOf B' v l W := by
  obtain ⟨ao, cap, rfl, h⟩ := h
  refine ⟨ao, cap, rfl, fun i q hq => ?_⟩
  obtain ⟨b, off, rfl, hlt, h1⟩ := h i q hq
  exact ⟨b, off, rfl, by omega, h1⟩
theorem SelsOf.on {w w' : World} {v : Value} {l : List SelL} (h : SelsOf w.heap.size v l w) (hb : Below w.heap.size w w') : SelsOf w'.heap.size v l w' := (h.below hb (Nat.le_refl _)).mono hb.size
def RelAt (B : Nat) (b o : Nat) (x : RelL) (W : World) : Prop :=
  ∃ r, W.cell? ⟨b, o, none⟩ = some (.string x.path) ∧ W.cell? ⟨b, o + 1, none⟩ = some (intC x.ver.1) ∧ W.cell? ⟨b, o + 2, none⟩ = some (intC x.ver.2.1) ∧ W.cell? ⟨b, o + 3, none⟩ = some (intC x.ver.2.2) ∧ W.cell? ⟨b, o + 4, none⟩ = some r ∧
    W.cell? ⟨b, o + 5, none⟩ = some (.string x.ar) ∧ W.cell? ⟨b, o + 6, none⟩ = some (.string x.ifc) ∧ W.cell? ⟨b, o + 7, none⟩ = some (.string x.cert) ∧ W.cell? ⟨b, o + 8, none⟩ = some (.bool x.yk) ∧ ReqsOf B r x.reqs W
theorem RelAt.below {B B' b o : Nat} {x : RelL} {W W' : World} (h : RelAt B b o x W) (hb : Below B' W W') (hB : B ≤ B') (hlt : b < B') : RelAt B b o x W' := by
  obtain ⟨r, h0, h1, h2, h3, h4, h5, h6, h7, h8, h9⟩ := h
  have key : ∀ j, W'.cell? ⟨b, j, none⟩ = W.cell? ⟨b, j, none⟩ := fun j => hb.cell (p := ⟨b, j, none⟩) hlt
  exact ⟨r, (key _).trans h0, (key _).trans h1, (key _).trans h2, (key _).trans h3, (key _).trans h4, (key _).trans h5, (key _).trans h6, (key _).trans h7, (key _).trans h8, h9.below hb hB⟩
theorem RelAt.mono {B B' b o : Nat} {x : RelL} {W : World} (h : RelAt B b o x W) (hB : B ≤ B') : RelAt B' b o x W := by
  obtain ⟨r, h0, h1, h2, h3, h4, h5, h6, h7, h8, h9⟩ := h
  exact ⟨r, h0, h1, h2, h3, h4, h5, h6, h7, h8, h9.mono hB⟩
def RelsOf (B : Nat) (v : Value) (l : List RelL) (W : World) : Prop :=
  ∃ ao cap, v = .slice ao l.length cap ∧ ∀ i x, l[i]? = some x → ∃ b off, ao = some ⟨b, off, none⟩ ∧ b < B ∧ RelAt B b (off + i * 9) x W
theorem RelsOf.below {B B' : Nat} {v : Value} {l : List RelL} {W W' : World} (h : RelsOf B v l W) (hb : Below B' W W') (hB : B ≤ B') : RelsOf B v l W' := by
  obtain ⟨ao, cap, rfl, h⟩ := h
  refine ⟨ao, cap, rfl, fun i q hq => ?_⟩
  obtain ⟨b, off, rfl, hlt, h1⟩ := h i q hq
  exact ⟨b, off, rfl, hlt, h1.below hb hB (by omega)⟩
theorem RelsOf.mono {B B' : Nat} {v : Value} {l : List RelL} {W : World} (h : RelsOf B v l W) (hB : B ≤ B') : RelsOf B' v l W := by
  obtain ⟨ao, cap, rfl, h⟩ := h
  refine ⟨ao, cap, rfl, fun i q hq => ?_⟩
  obtain ⟨b, off, rfl, hlt, h1⟩ := h i q hq
  exact ⟨b, off, rfl, by omega, h1.mono hB⟩
theorem RelsOf.on {w w' : World} {v : Value} {l : List RelL} (h : RelsOf w.heap.size v l w) (hb : Below w.heap.size w w') : RelsOf w'.heap.size v l w' := (h.below hb (Nat.le_refl _)).mono hb.size
end Go.Proofs.YtenfkejbndifdaaGreatDoor

namespace Go.Proofs.YtenfkejbndifdaaGreatDoor
set_option linter.unusedVariables false
set_option linter.unusedSimpArgs false
open Go Go.RowKit Go.Shelf Go.Lib

def spanRen : Ren := ⟨fun _ => 148, fun x => if x = 0 then 0 else if x = 3 then 3 else if x = 4 then 4 else if x = 22 then 56 else 133, fun x => x⟩
theorem spanLays8 : SlLaysQ.n8 Tryz.prog spanRen := {
  mixed := by kernel_rfl
  f8 := ⟨Tryz.f148.name, by decide, Tryz.func148.trans (congrArg some (by kernel_rfl))⟩
  t0 := Tryz.underlying0
  a0 := Tryz.isAgg0
  z0 := Tryz.sizeOf0
  v0 := Tryz.zeroValue0
  t3 := Tryz.underlying3
  a3 := Tryz.isAgg3
  z3 := Tryz.sizeOf3
  v3 := Tryz.zeroValue3
  t4 := Tryz.underlying4
  a4 := Tryz.isAgg4
  z4 := Tryz.sizeOf4
  v4 := Tryz.zeroValue4
  t22 := Tryz.underlying56
  a22 := Tryz.isAgg56
  z22 := Tryz.sizeOf56
  v22 := Tryz.zeroValue56 }
def spanC (x : Int × Int) : List Value := [.int .i64 x.1, .int .i64 x.2]
theorem span_neq : NeqAt Tryz.prog 133 (fun x => .agg (spanC x).toArray) (fun x y => x.1 == y.1 && x.2 == y.2) := by
  refine ⟨fun x y w => ?_, GuardAt.agg _ (by kernel_rfl)⟩
  have u3 := Tryz.underlying3
  have a3 := Tryz.isAgg3
  have z3 := Tryz.sizeOf3
  have hS : Tryz.prog.underlying 133 = some (.struct (Tryz.prog.fieldsOf 133)) := by kernel_rfl
  have hp : Tryz.prog.stoodInHeld 133 = false := by kernel_rfl
  simp only [spanC]
  rw [run_neq_struct, show (10000 : Nat) = 9999 + 1 from rfl, run_equalIn_agg w 9999 133 _ _ hS hp]
  simp only [Program.fieldsOf, Tryz.underlying133]
  go_simp
  by_cases h1 : x.fst = y.fst <;> by_cases h2 : x.snd = y.snd <;> simp [h1, h2]
theorem spanEq_eq : ∀ (xs ys : List (Int × Int)), Lib.allEq (fun x y : Int × Int => x.1 == y.1 && x.2 == y.2) xs ys = decide (xs = ys)
  | [], [] => rfl
  | [], _ :: _ => rfl
  | _ :: _, [] => rfl
  | (a, b) :: xs, (c, d) :: ys => by
    simp only [Lib.allEq, spanEq_eq xs ys]
    by_cases h1 : a = c <;> by_cases h2 : b = d <;> by_cases h3 : xs = ys <;> simp [h1, h2, h3]
theorem spans_cells {B b off cap : Nat} {es : List (Int × Int)} {w : World} (h : SpansOf B (.slice (some ⟨b, off, none⟩) es.length cap) es w) : ∀ j, j < es.length → ∀ i v, (spanC es[j]!)[i]? = some v → w.cell? ⟨b, off + j * 2 + i, none⟩ = some v := by
  obtain ⟨ao, c, e, h⟩ := h
  cases e
  intro j hj i v hv
  rw [getElem!_pos es j hj] at hv
  obtain ⟨b', off', e, _, h1, h2⟩ := h j es[j] (by simp [hj])
  cases e
  match i, hv with
  | 0, hv => cases hv; exact h1
  | 1, hv => cases hv; exact h2
  | i + 2, hv => simp [spanC] at hv
set_option maxRecDepth 100000 in
theorem Equal_spans (v u : Value) (B : Nat) (xs ys : List (Int × Int)) (w : World) (hxl : xs.length ≤ 1000000000) (hyl : ys.length ≤ 1000000000) (h1 : SpansOf B v xs w) (h2 : SpansOf B u ys w) :
    Calls Tryz.prog 148 #[v, u] w fun e w' => e = .returned (.bool (decide (xs = ys))) ∧ ∃ q, w' = w.drewN q := by
  have g1 := h1
  have g2 := h2
  obtain ⟨a1, c1, rfl, k1⟩ := h1
  obtain ⟨a2, c2, rfl, k2⟩ := h2
  by_cases hl : xs.length = ys.length
  · by_cases hp : 0 < xs.length
    · obtain ⟨b1, o1, rfl, _⟩ := k1 0 xs[0] (by simp [hp])
      obtain ⟨b2, o2, rfl, _⟩ := k2 0 (ys[0]'(by omega)) (by simp)
      refine (AnyQ.slices_Equal spanLays8 2 Tryz.isAgg133 Tryz.sizeOf133 spanC (fun _ => rfl) _ span_neq b1 o1 xs.length c1 b2 o2 ys.length c2 xs ys w (Nat.le_refl _) (Nat.le_refl _) (by omega) (by omega) (spans_cells g1) (spans_cells g2)).mono ?_
      rintro e w' ⟨rfl, q, rfl⟩
      exact ⟨by rw [List.take_length, List.take_length, spanEq_eq], q, rfl⟩
    · have e1 : xs = [] := List.length_eq_zero_iff.1 (by omega)
      subst e1
      have e2 : ys = [] := List.length_eq_zero_iff.1 (by simpa using hl.symm)
      subst e2
      clear g1 g2 k1 k2 hxl hyl hp hl
      go_enter Tryz.func148, Tryz.ntmps148
      go_wp2_with fail
      go_loopw [13] (fun q wr => q = .int .i64 0 ∧ wr = w) (fun _ _ => 0)
      case atStart => exact ⟨rfl, rfl⟩
      case round =>
        obtain ⟨rfl, rfl⟩ := hrel
        go_wp2_with fail
        go_ret
        exact ⟨rfl, 0, rfl⟩
  · have hne : decide (xs = ys) = false := decide_eq_false fun e => hl (by rw [e])
    rw [hne]
    clear g1 g2 k1 k2 hne
    have hl2 : ¬ ((xs.length : Int) = (ys.length : Int)) := by omega
    have hl3 : decide ((xs.length : Int) = (ys.length : Int)) = false := decide_eq_false hl2
    go_enter Tryz.func148, Tryz.ntmps148
    go_wp2_with fail
    go_ret
    exact ⟨rfl, 0, rfl⟩
end Go.Proofs.YtenfkejbndifdaaGreatDoor

namespace Go.Proofs.YtenfkejbndifdaaGreatDoor
set_option linter.unusedVariables false
set_option linter.unusedSimpArgs false
open Go

theorem ltB_irrefl (a : ByteArray) : ltB a a = false := by
  unfold ltB
  generalize a.toList = l
  induction l with
  | nil => rfl
  | cons c l ih => simp [Op.bytesLess, ih]
def pathIx (s : List SelL) (p : ByteArray) : Option Nat := s.findIdx? fun z => decide (z.1 = p)
def nodeE (s : List SelL) (i : Nat) (l : List ReqL) : List (Int × Int) := l.filterMap fun q => (pathIx s q.1).map fun k => ((i : Int), (k : Int))
def reqsOf (X : List RelL) (y : SelL) : List ReqL := match findR X y with
  | some r => r.reqs
  | none => []
def edgesK (X : List RelL) (s : List SelL) (k : Nat) : List (Int × Int) := (List.range k).flatMap fun i => nodeE s i (reqsOf X (s.getD i default))
noncomputable def ofV (X : List RelL) (s : List SelL) : (List ByteArray × List (Int × Int)) × Int := open Classical in
  if checkX X ≠ 0 ∨ ¬ incrS s then (([], []), 1)
  else if (s.all fun y => (findR X y).isSome) = true then ((s.map (·.1), edgesK X s s.length), 0)
  else (([], []), 6)
inductive Need (X : List RelL) (roots : List ReqL) (s : List SelL) : ByteArray → Prop
  | root {q : ReqL} (h : q ∈ roots) : Need X roots s q.1
  | step {y : SelL} {q : ReqL} (hy : y ∈ s) (h : Need X roots s y.1) (hq : q ∈ reqsOf X y) : Need X roots s q.1
def metB (s : List SelL) (q : ReqL) : Bool := s.any fun y => decide (y.1 = q.1) && hasB q.2 (1000 * y.2.2.1 + y.2.2.2)
end Go.Proofs.YtenfkejbndifdaaGreatDoor

namespace Go.Proofs.YtenfkejbndifdaaGreatDoor
set_option linter.unusedVariables false
set_option linter.unusedSimpArgs false
open Go.Lib

def sucL (n : Nat) (es : List (Int × Int)) (i : Nat) : List Nat := (List.range n).filter fun k => es.contains ((i : Int), (k : Int))
def sucs (n : Nat) (es : List (Int × Int)) : List (List Nat) := (List.range n).map (sucL n es)
def rawL (es : List (Int × Int)) (i : Nat) : List Int := (es.filter fun e => e.1 == (i : Int)).map (·.2)
def validG (n : Nat) (es : List (Int × Int)) : Bool := decide (n ≤ 1024) && decide (es.length ≤ 4096) && es.all fun e => decide (0 ≤ e.1 ∧ e.1 < n ∧ 0 ≤ e.2 ∧ e.2 < n)

theorem sucs_length (n : Nat) (es : List (Int × Int)) : (sucs n es).length = n := by simp [sucs]
theorem sucs_get (n : Nat) (es : List (Int × Int)) (i : Nat) (h : i < n) : (sucs n es)[i]? = some (sucL n es i) := by simp [sucs, h]
theorem sucs_getD (n : Nat) (es : List (Int × Int)) (i : Nat) (h : i < n) : (sucs n es).getD i [] = sucL n es i := by rw [List.getD_eq_getElem?_getD, sucs_get n es i h]; rfl
theorem mem_sucL {n : Nat} {es : List (Int × Int)} {i k : Nat} : k ∈ sucL n es i ↔ k < n ∧ ((i : Int), (k : Int)) ∈ es := by simp [sucL]
theorem sucL_sorted (n : Nat) (es : List (Int × Int)) (i : Nat) : (sucL n es i).Pairwise (· < ·) := List.Pairwise.filter _ List.pairwise_lt_range

end Go.Proofs.YtenfkejbndifdaaGreatDoor

namespace Go.Proofs.YtenfkejbndifdaaGreatDoor
set_option linter.unusedVariables false
set_option linter.unusedSimpArgs false

inductive Rch (S : List (List Nat)) : Nat → Nat → Prop
  | refl (a : Nat) : Rch S a a
  | step {a b c : Nat} : b ∈ S.getD a [] → Rch S b c → Rch S a c
theorem Rch.trans {S : List (List Nat)} {a b c : Nat} (h : Rch S a b) (k : Rch S b c) : Rch S a c := by
  induction h with
  | refl => exact k
  | step hb _ ih => exact .step hb (ih k)

def Mono (a b : List Bool) : Prop := a.length = b.length ∧ ∀ i : Nat, a[i]? = some true → b[i]? = some true
def VisR (S : List (List Nat)) (seen : List Bool) (n : Nat) (seen' : List Bool) : Prop :=
  Mono seen seen' ∧ seen'[n]? = some true ∧ ∀ a : Nat, seen'[a]? = some true → seen[a]? ≠ some true → Rch S n a ∧ ∀ k ∈ S.getD a [], seen'[k]? = some true
def VisL (S : List (List Nat)) (s0 : List Bool) (pre : List Nat) (sn : List Bool) : Prop :=
  Mono s0 sn ∧ (∀ k ∈ pre, sn[k]? = some true) ∧ ∀ a : Nat, sn[a]? = some true → s0[a]? ≠ some true → (∃ k ∈ pre, Rch S k a) ∧ ∀ k ∈ S.getD a [], sn[k]? = some true

def unseen (l : List Bool) : Nat := l.count false
end Go.Proofs.YtenfkejbndifdaaGreatDoor

namespace Go.Proofs.YtenfkejbndifdaaGreatDoor
set_option linter.unusedVariables false
set_option linter.unusedSimpArgs false

def ofP (S : List (List Nat)) (node least : Nat) : List Nat := (S.getD node []).filter (fun k => decide (least ≤ k))
abbrev gD (d : List Int) (a : Nat) : Int := d.getD a (-1)
structure DistR (S : List (List Nat)) (least tgt : Nat) (d : List Int) : Prop where
  len : d.length = S.length
  lo : ∀ a, -1 ≤ gD d a
  t0 : gD d tgt = 0
  zero : ∀ a, gD d a = 0 → a = tgt
  pred : ∀ (a m : Nat), gD d a = (m : Int) + 1 → ∃ b, a ∈ ofP S b least ∧ gD d b = m
  near : ∀ b, 0 ≤ gD d b → ∀ a ∈ ofP S b least, 0 ≤ gD d a ∧ gD d a ≤ gD d b + 1

theorem DistR.le {S : List (List Nat)} {least tgt : Nat} {d e : List Int} (hd : DistR S least tgt d) (he : DistR S least tgt e) : ∀ (m a : Nat), gD d a = (m : Int) → 0 ≤ gD e a ∧ gD e a ≤ m
  | 0, a, h => by
    have : a = tgt := hd.zero a (by simpa using h)
    subst this
    rw [he.t0]; simp
  | m + 1, a, h => by
    obtain ⟨b, hb, hm⟩ := hd.pred a m (by rw [h]; simp)
    obtain ⟨h1, h2⟩ := DistR.le hd he m b hm
    obtain ⟨h3, h4⟩ := he.near b h1 a hb
    refine ⟨h3, ?_⟩
    have : ((m + 1 : Nat) : Int) = (m : Int) + 1 := by simp
    omega
theorem DistR.unique {S : List (List Nat)} {least tgt : Nat} {d e : List Int} (hd : DistR S least tgt d) (he : DistR S least tgt e) : d = e := by
  have hl : d.length = e.length := hd.len.trans he.len.symm
  refine List.ext_getElem hl fun i h1 h2 => ?_
  have e1 : gD d i = d[i] := by unfold gD; rw [List.getD_eq_getElem?_getD, List.getElem?_eq_getElem h1]; rfl
  have e2 : gD e i = e[i] := by unfold gD; rw [List.getD_eq_getElem?_getD, List.getElem?_eq_getElem h2]; rfl
  rw [← e1, ← e2]
  have a1 := hd.lo i
  have a2 := he.lo i
  by_cases h : 0 ≤ gD d i
  · have b1 := hd.le he (gD d i).toNat i (by omega)
    have b2 := he.le hd (gD e i).toNat i (by omega)
    omega
  · by_cases h' : 0 ≤ gD e i
    · have b2 := he.le hd (gD e i).toNat i (by omega)
      omega
    · omega

def bstep (n : Nat) (st : List Int × List Nat) (k : Nat) : List Int × List Nat := if gD st.1 k < 0 then (st.1.set k (gD st.1 n + 1), st.2 ++ [k]) else st
def unass (d : List Int) : Nat := d.countP (fun x => decide (x < 0))
theorem unass_set : ∀ (d : List Int) (k : Nat) (x : Int), k < d.length → gD d k < 0 → 0 ≤ x → unass (d.set k x) + 1 = unass d
  | [], k, x, h, _, _ => by simp at h
  | y :: d, 0, x, _, h, hx => by
    have hy : y < 0 := h
    unfold unass
    rw [List.set_cons_zero, List.countP_cons, List.countP_cons]
    simp [hy, show ¬ x < 0 by omega]
  | y :: d, k + 1, x, hk, h, hx => by
    have := unass_set d k x (by simpa using hk) h hx
    unfold unass at *
    rw [List.set_cons_succ, List.countP_cons, List.countP_cons]
    omega
theorem gD_set (d : List Int) (k : Nat) (x : Int) (a : Nat) (hk : k < d.length) : gD (d.set k x) a = if a = k then x else gD d a := by
  unfold gD
  rw [List.getD_eq_getElem?_getD, List.getD_eq_getElem?_getD]
  by_cases h : a = k
  · subst h; rw [if_pos rfl, List.getElem?_set_self hk]; rfl
  · rw [if_neg h, List.getElem?_set_ne (Ne.symm h)]
structure BfsI (S : List (List Nat)) (least tgt : Nat) (d : List Int) (q : List Nat) : Prop where
  len : d.length = S.length
  lo : ∀ a, -1 ≤ gD d a
  t0 : gD d tgt = 0
  zero : ∀ a, gD d a = 0 → a = tgt
  pred : ∀ (a m : Nat), gD d a = (m : Int) + 1 → ∃ b, a ∈ ofP S b least ∧ gD d b = m
  bound : ∀ a, gD d a + unass d < S.length
  qok : ∀ k ∈ q, 0 ≤ gD d k
  mono : q.Pairwise fun x y => gD d x ≤ gD d y
  near : ∀ a h, q.head? = some h → gD d a ≤ gD d h + 1
  done : ∀ b, 0 ≤ gD d b → b ∉ q → ∀ a ∈ ofP S b least, 0 ≤ gD d a ∧ gD d a ≤ gD d b + 1
structure BfsJ (S : List (List Nat)) (least tgt n : Nat) (pre : List Nat) (d : List Int) (q : List Nat) : Prop where
  len : d.length = S.length
  lo : ∀ a, -1 ≤ gD d a
  t0 : gD d tgt = 0
  zero : ∀ a, gD d a = 0 → a = tgt
  pred : ∀ (a m : Nat), gD d a = (m : Int) + 1 → ∃ b, a ∈ ofP S b least ∧ gD d b = m
  bound : ∀ a, gD d a + unass d < S.length
  n0 : 0 ≤ gD d n
  qok : ∀ k ∈ q, gD d n ≤ gD d k
  mono : q.Pairwise fun x y => gD d x ≤ gD d y
  near : ∀ a, gD d a ≤ gD d n + 1
  done : ∀ b, 0 ≤ gD d b → b ∉ q → b ≠ n → ∀ a ∈ ofP S b least, 0 ≤ gD d a ∧ gD d a ≤ gD d b + 1
  row : ∀ a ∈ pre, 0 ≤ gD d a ∧ gD d a ≤ gD d n + 1

theorem BfsJ.start {S : List (List Nat)} {least tgt n : Nat} {d : List Int} {q : List Nat} (h : BfsI S least tgt d (n :: q)) : BfsJ S least tgt n [] d q := by
  have hm := List.pairwise_cons.1 h.mono
  exact ⟨h.len, h.lo, h.t0, h.zero, h.pred, h.bound, h.qok n (by simp), hm.1, hm.2, fun a => h.near a n rfl, fun b hb hq hn => h.done b hb (by simp [hn, hq]), by simp⟩
theorem BfsJ.step {S : List (List Nat)} {least tgt n : Nat} {pre : List Nat} {st : List Int × List Nat} (h : BfsJ S least tgt n pre st.1 st.2) (k : Nat) (hk : k ∈ ofP S n least) (hkl : k < S.length) :
    BfsJ S least tgt n (pre ++ [k]) (bstep n st k).1 (bstep n st k).2 ∧ unass (bstep n st k).1 + (bstep n st k).2.length = unass st.1 + st.2.length := by
  obtain ⟨d, q⟩ := st
  simp only at h
  unfold bstep
  by_cases hneg : gD d k < 0
  · simp only [hneg, if_true]
    have hkd : k < d.length := by rw [h.len]; exact hkl
    have hn0 := h.n0
    have hu := unass_set d k (gD d n + 1) hkd hneg (by omega)
    have hkn : n ≠ k := fun e => by subst e; omega
    have hnn : gD (d.set k (gD d n + 1)) n = gD d n := by rw [gD_set _ _ _ _ hkd, if_neg hkn]
    have hg : ∀ a, gD (d.set k (gD d n + 1)) a = if a = k then gD d n + 1 else gD d a := fun a => gD_set _ _ _ _ hkd
    refine ⟨⟨by rw [List.length_set]; exact h.len, fun a => ?_, ?_, fun a ha => ?_, fun a m ha => ?_, fun a => ?_, by rw [hnn]; exact hn0, fun j hj => ?_, ?_, fun a => ?_, fun b hb hq hbn a ha => ?_, fun a ha => ?_⟩, ?_⟩
    · rw [hg]; split
      · omega
      · exact h.lo a
    · rw [hg]; split
      · rename_i e; subst e; have := h.t0; omega
      · exact h.t0
    · rw [hg] at ha; split at ha
      · omega
      · exact h.zero a ha
    · rw [hg] at ha; split at ha
      · rename_i e
        subst e
        exact ⟨n, hk, by rw [hnn]; omega⟩
      · obtain ⟨b, hb, hm⟩ := h.pred a m ha
        refine ⟨b, hb, ?_⟩
        rw [hg, if_neg (fun e => by subst e; omega)]
        exact hm
    · rw [hg]
      have b1 := h.bound n
      have b2 := h.bound a
      split <;> omega
    · rw [hnn, hg]
      split
      · omega
      · rename_i e
        rcases List.mem_append.1 hj with hj | hj
        · exact h.qok j hj
        · rw [List.mem_singleton] at hj; exact absurd hj e
    · rw [List.pairwise_append]
      refine ⟨h.mono.imp_of_mem fun {x y} hx hy hxy => ?_, by simp, fun x hx y hy => ?_⟩
      · have e1 : x ≠ k := fun e => by subst e; have := h.qok x hx; omega
        have e2 : y ≠ k := fun e => by subst e; have := h.qok y hy; omega
        rw [hg, hg, if_neg e1, if_neg e2]
        exact hxy
      · rw [List.mem_singleton] at hy
        subst hy
        have e1 : x ≠ y := fun e => by subst e; have := h.qok x hx; omega
        rw [hg, hg, if_neg e1, if_pos rfl]
        exact h.near x
    · rw [hnn, hg]
      split
      · omega
      · exact h.near a
    · have hbk : b ≠ k := fun e => hq (by simp [e])
      rw [hg, if_neg hbk] at hb
      obtain ⟨h1, h2⟩ := h.done b hb (fun e => hq (by simp [e])) hbn a ha
      have hak : a ≠ k := fun e => by subst e; omega
      rw [hg, hg, if_neg hak, if_neg hbk]
      exact ⟨h1, h2⟩
    · rw [hnn, hg]
      split
      · omega
      · rename_i e
        rcases List.mem_append.1 ha with ha | ha
        · exact h.row a ha
        · rw [List.mem_singleton] at ha; exact absurd ha e
    · rw [List.length_append, List.length_singleton]; omega
  · simp only [hneg, if_false]
    refine ⟨⟨h.len, h.lo, h.t0, h.zero, h.pred, h.bound, h.n0, h.qok, h.mono, h.near, h.done, fun a ha => ?_⟩, trivial⟩
    rcases List.mem_append.1 ha with ha | ha
    · exact h.row a ha
    · rw [List.mem_singleton] at ha
      subst ha
      exact ⟨by omega, h.near a⟩
theorem BfsJ.fin {S : List (List Nat)} {least tgt n : Nat} {d : List Int} {q : List Nat} (h : BfsJ S least tgt n (ofP S n least) d q) : BfsI S least tgt d q := by
  refine ⟨h.len, h.lo, h.t0, h.zero, h.pred, h.bound, fun k hk => by have := h.qok k hk; have := h.n0; omega, h.mono, fun a x hx => ?_, fun b hb hq a ha => ?_⟩
  · have h1 := h.near a
    have h2 := h.qok x (List.mem_of_mem_head? hx)
    omega
  · by_cases e : b = n
    · subst e; exact h.row a ha
    · exact h.done b hb hq e a ha
theorem BfsI.dist {S : List (List Nat)} {least tgt : Nat} {d : List Int} (h : BfsI S least tgt d []) : DistR S least tgt d :=
  ⟨h.len, h.lo, h.t0, h.zero, h.pred, fun b hb => h.done b hb (by simp)⟩
theorem gD_rep (N a : Nat) : gD (List.replicate N (-1)) a = -1 := by
  unfold gD
  rw [List.getD_eq_getElem?_getD, List.getElem?_replicate]
  split <;> rfl
theorem BfsI.start {S : List (List Nat)} {least tgt : Nat} (hto : tgt < S.length) : BfsI S least tgt ((List.replicate S.length (-1)).set tgt 0) [tgt] := by
  have hl : tgt < (List.replicate S.length (-1 : Int)).length := by simpa using hto
  have hg : ∀ a, gD ((List.replicate S.length (-1)).set tgt 0) a = if a = tgt then 0 else -1 := fun a => by rw [gD_set _ _ _ _ hl, gD_rep]
  have hu : unass ((List.replicate S.length (-1)).set tgt 0) + 1 = S.length := by
    rw [unass_set _ _ _ hl (by rw [gD_rep]; omega) (by omega)]
    unfold unass
    rw [List.countP_replicate]
    simp
  refine ⟨by simp, fun a => ?_, ?_, fun a ha => ?_, fun a m ha => ?_, fun a => ?_, fun k hk => ?_, by simp, fun a h hh => ?_, fun b hb hq a ha => ?_⟩
  · rw [hg]; split <;> omega
  · rw [hg, if_pos rfl]
  · rw [hg] at ha; split at ha
    · assumption
    · omega
  · rw [hg] at ha; split at ha <;> omega
  · rw [hg]; split <;> omega
  · rw [List.mem_singleton] at hk; subst hk; rw [hg, if_pos rfl]; omega
  · simp at hh; subst hh; rw [hg, hg, if_pos rfl]; split <;> omega
  · rw [hg] at hb; split at hb
    · rename_i e; exact absurd (by simp [e]) hq
    · omega
end Go.Proofs.YtenfkejbndifdaaGreatDoor

namespace Go.Proofs.YtenfkejbndifdaaGreatDoor
set_option linter.unusedVariables false
set_option linter.unusedSimpArgs false

def bfsRun (S : List (List Nat)) (least : Nat) : Nat → List Int → List Nat → List Int
  | 0, d, _ => d
  | _ + 1, d, [] => d
  | m + 1, d, n :: q => let st := (ofP S n least).foldl (bstep n) (d, q); bfsRun S least m st.1 st.2
def bfsD (S : List (List Nat)) (least tgt : Nat) : List Int := bfsRun S least (S.length + 1) ((List.replicate S.length (-1)).set tgt 0) [tgt]

theorem BfsJ.fold {S : List (List Nat)} {least tgt n : Nat} (hS : ∀ a, ∀ k ∈ S.getD a [], k < S.length) : ∀ (l : List Nat) (pre : List Nat) (st : List Int × List Nat), pre ++ l = ofP S n least → BfsJ S least tgt n pre st.1 st.2 →
    BfsJ S least tgt n (ofP S n least) (l.foldl (bstep n) st).1 (l.foldl (bstep n) st).2 ∧ unass (l.foldl (bstep n) st).1 + (l.foldl (bstep n) st).2.length = unass st.1 + st.2.length
  | [], pre, st, hp, h => by rw [List.append_nil] at hp; subst hp; exact ⟨h, rfl⟩
  | k :: l, pre, st, hp, h => by
    have hk : k ∈ ofP S n least := by rw [← hp]; simp
    have hkl : k < S.length := by unfold ofP at hk; exact hS n k (List.mem_filter.1 hk).1
    obtain ⟨h1, h2⟩ := h.step k hk hkl
    obtain ⟨h3, h4⟩ := BfsJ.fold hS l (pre ++ [k]) (bstep n st k) (by rw [← hp]; simp) h1
    exact ⟨h3, h4.trans h2⟩
theorem bfsRun_dist {S : List (List Nat)} {least tgt : Nat} (hS : ∀ a, ∀ k ∈ S.getD a [], k < S.length) : ∀ (m : Nat) (d : List Int) (q : List Nat), BfsI S least tgt d q → unass d + q.length < m → DistR S least tgt (bfsRun S least m d q)
  | 0, _, _, _, h => by omega
  | m + 1, d, [], hI, _ => hI.dist
  | m + 1, d, n :: q, hI, h => by
    obtain ⟨h1, h2⟩ := BfsJ.fold hS (ofP S n least) [] (d, q) rfl (BfsJ.start hI)
    refine bfsRun_dist hS m _ _ h1.fin ?_
    rw [h2]
    simp at h ⊢
    omega
theorem bfsD_dist {S : List (List Nat)} {least tgt : Nat} (hS : ∀ a, ∀ k ∈ S.getD a [], k < S.length) (hto : tgt < S.length) : DistR S least tgt (bfsD S least tgt) := by
  have hu : unass ((List.replicate S.length (-1)).set tgt 0) + 1 = S.length := by
    rw [unass_set _ _ _ (by simpa using hto) (by rw [gD_rep]; omega) (by omega)]
    unfold unass
    rw [List.countP_replicate]
    simp
  exact bfsRun_dist hS _ _ _ (BfsI.start hto) (by simp; omega)
theorem DistR.eq {S : List (List Nat)} {least tgt : Nat} {d : List Int} (h : DistR S least tgt d) (hS : ∀ a, ∀ k ∈ S.getD a [], k < S.length) (hto : tgt < S.length) : d = bfsD S least tgt := h.unique (bfsD_dist hS hto)

def swapE (x : Int × Int) : Int × Int := (x.2, x.1)
theorem sucs_lt {N : Nat} {es : List (Int × Int)} : ∀ a, ∀ k ∈ (sucs N es).getD a [], k < (sucs N es).length := fun a k hk => by
  rw [sucs_length]
  by_cases ha : a < N
  · rw [sucs_getD _ _ _ ha] at hk; exact (mem_sucL.1 hk).1
  · rw [List.getD_eq_getElem?_getD, List.getElem?_eq_none (by rw [sucs_length]; omega)] at hk; simp at hk
theorem mem_sucs {N : Nat} {es : List (Int × Int)} {a k : Nat} : k ∈ (sucs N es).getD a [] ↔ a < N ∧ k < N ∧ ((a : Int), (k : Int)) ∈ es := by
  constructor
  · intro h
    by_cases ha : a < N
    · rw [sucs_getD _ _ _ ha] at h; exact ⟨ha, mem_sucL.1 h⟩
    · rw [List.getD_eq_getElem?_getD, List.getElem?_eq_none (by rw [sucs_length]; omega)] at h; simp at h
  · rintro ⟨ha, h⟩
    rw [sucs_getD _ _ _ ha]
    exact mem_sucL.2 h
theorem mem_swap {es : List (Int × Int)} {a b : Int} : (a, b) ∈ es.map swapE ↔ (b, a) ∈ es := by
  rw [List.mem_map]
  constructor
  · rintro ⟨⟨x, y⟩, h, e⟩
    unfold swapE at e
    simp at e
    obtain ⟨rfl, rfl⟩ := e
    exact h
  · intro h; exact ⟨(b, a), h, rfl⟩
theorem DistR.desc {N : Nat} {es : List (Int × Int)} {least tgt : Nat} {d : List Int} (h : DistR (sucs N (es.map swapE)) least tgt d) : ∀ a (m : Nat), gD d a = (m : Int) + 1 → ∃ k ∈ (sucs N es).getD a [], gD d k = (m : Int) := fun a m ha => by
  obtain ⟨b, hb, hm⟩ := h.pred a m ha
  unfold ofP at hb
  have := (List.mem_filter.1 hb).1
  obtain ⟨h1, h2, h3⟩ := mem_sucs.1 this
  exact ⟨b, mem_sucs.2 ⟨h2, h1, mem_swap.1 h3⟩, hm⟩
theorem DistR.bound {S : List (List Nat)} {least tgt : Nat} {d : List Int} (h : DistR S least tgt d) (hS : ∀ a, ∀ k ∈ S.getD a [], k < S.length) (hto : tgt < S.length) : ∀ a, gD d a ≤ S.length := by
  have key : ∀ (m : Nat) (d : List Int) (q : List Nat), BfsI S least tgt d q → unass d + q.length < m → ∀ a, gD (bfsRun S least m d q) a ≤ S.length := by
    intro m
    induction m with
    | zero => intro _ _ _ h; omega
    | succ m ih =>
      intro d q hI hm
      cases q with
      | nil => intro a; have := hI.bound a; show gD d a ≤ S.length; omega
      | cons n q =>
        obtain ⟨h1, h2⟩ := BfsJ.fold hS (ofP S n least) [] (d, q) rfl (BfsJ.start hI)
        exact ih _ _ h1.fin (by rw [h2]; simp at hm ⊢; omega)
  rw [h.eq hS hto]
  have hu : unass ((List.replicate S.length (-1)).set tgt 0) + 1 = S.length := by
    rw [unass_set _ _ _ (by simpa using hto) (by rw [gD_rep]; omega) (by omega)]
    unfold unass
    rw [List.countP_replicate]
    simp
  exact key _ _ _ (BfsI.start hto) (by simp; omega)

def descP (S : List (List Nat)) (far : List Int) : Nat → Nat → List Nat
  | 0, n => [n]
  | m + 1, n => n :: (match (S.getD n []).find? (fun k => gD far k == (m : Int)) with | some k => descP S far m k | none => [])
def pathF (N : Nat) (es : List (Int × Int)) (a b : Nat) : List Nat := let far := bfsD (sucs N (es.map swapE)) 0 b; if gD far a < 0 then [] else descP (sucs N es) far (gD far a).toNat a
end Go.Proofs.YtenfkejbndifdaaGreatDoor

namespace Go.Proofs.YtenfkejbndifdaaGreatDoor
set_option linter.unusedVariables false
set_option linter.unusedSimpArgs false
open Go

end Go.Proofs.YtenfkejbndifdaaGreatDoor

namespace Go.Proofs.YtenfkejbndifdaaGreatDoor
set_option linter.unusedVariables false
set_option linter.unusedSimpArgs false
open Go

theorem sub_length {α : Type} [DecidableEq α] : ∀ {l m : List α}, l.Nodup → (∀ a ∈ l, a ∈ m) → l.length ≤ m.length
  | [], m, _, _ => Nat.zero_le _
  | a :: l, m, hn, hs => by
    rw [List.nodup_cons] at hn
    have h1 := hs a (by simp)
    have h2 : l.length ≤ (m.erase a).length := sub_length hn.2 fun b hb => (List.mem_erase_of_ne (fun e => by subst e; exact hn.1 hb)).2 (hs b (by simp [hb]))
    have h3 := List.length_erase_of_mem h1
    have h4 := List.length_pos_of_mem h1
    rw [List.length_cons]
    omega
structure SatP (X : List RelL) (roots : List ReqL) (s : List SelL) : Prop where
  ok : checkX X = 0
  incr : incrS s
  found : ∀ y ∈ s, (findR X y).isSome = true
  own : ∀ y ∈ s, ∀ q ∈ reqsOf X y, metB s q = true
  root : ∀ q ∈ roots, metB s q = true
structure NeedI (X : List RelL) (roots : List ReqL) (s : List SelL) (seen : List ByteArray) (todo : List ReqL) : Prop where
  nodup : seen.Nodup
  seen : ∀ p ∈ seen, Need X roots s p ∧ p ∈ s.map (·.1)
  todo : ∀ q ∈ todo, Need X roots s q.1 ∧ q.1 ∈ s.map (·.1)
end Go.Proofs.YtenfkejbndifdaaGreatDoor
