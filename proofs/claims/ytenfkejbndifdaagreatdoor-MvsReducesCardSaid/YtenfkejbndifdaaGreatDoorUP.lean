/- The graph's exist; slices.ContainsFunc at numbers. Contract of the graph's Reverse. The graph of a selection: graph.Of. The index's table.selected. Contracts of the reference's part, Valid and Compare. Contracts of the constraint's Place and At, and of the reference's. Contract of the constraint's Has. -/
import Derived.Test.YtenfkejbndifdaaGreatDoorUO
import Derived.Test.YtenfkejbndifdaaGreatDoorUE
import Derived.Test.YtenfkejbndifdaaGreatDoorUL
import Derived.Test.YtenfkejbndifdaaGreatDoorUB
import Derived.Test.YtenfkejbndifdaaGreatDoorUG
import Derived.Test.YtenfkejbndifdaaGreatDoorUD
import Derived.Test.YtenfkejbndifdaaGreatDoorUA
namespace Go.Proofs.YtenfkejbndifdaaGreatDoor
set_option linter.unusedVariables false
set_option linter.unusedSimpArgs false
open Go Go.RowKit

theorem rowOf_open {α : Type} {enc : α → Value} {B : Nat} {v : Value} {l : List α} {W : World} (h : RowOf enc B v l W) :
    ∃ ao cap, v = .slice ao l.length cap ∧ ∀ i x, l[i]? = some x → ∃ b off, ao = some ⟨b, off, none⟩ ∧ b < B ∧ W.cell? ⟨b, off + i, none⟩ = some (enc x) := by
  rcases h with ⟨rfl, a, c, rfl⟩ | ⟨b, off, cap, rfl, hb, h⟩
  · exact ⟨a, c, rfl, fun i x hx => by simp at hx⟩
  · exact ⟨_, cap, rfl, fun i x hx => ⟨b, off, rfl, hb, h i x hx⟩⟩
def PredI (g : Nat) (lb : Array Value) (es : List (Int)) (p : Int → Bool) (w : World) : Prop :=
  ∀ (W : World) (x : Int), x ∈ es → Below w.heap.size w W → Calls Tryz.prog g (#[intC x] ++ lb) W fun e w' => e = .returned (.bool (p x)) ∧ Below w.heap.size w w'

end Go.Proofs.YtenfkejbndifdaaGreatDoor

namespace Go.Proofs.YtenfkejbndifdaaGreatDoor
set_option linter.unusedVariables false
set_option linter.unusedSimpArgs false
open Go Go.RowKit

def revE (n : Nat) (es : List (Int × Int)) : List (Int × Int) := if validG n es = true then es.map swapE else []
def revN {α : Type} (ns : List α) (es : List (Int × Int)) : List α := if validG ns.length es = true then ns else []
def edgeCells (es : List (Int × Int)) : List Value := es.flatMap fun x => [intC x.1, intC x.2]
end Go.Proofs.YtenfkejbndifdaaGreatDoor

namespace Go.Proofs.YtenfkejbndifdaaGreatDoor
set_option linter.unusedVariables false
set_option linter.unusedSimpArgs false
open Go Go.RowKit

def incrK (s : List SelL) (k : Nat) : Prop := ∀ j, j + 1 < k → ltB (s.getD j default).1 (s.getD (j + 1) default).1 = true
theorem incrK_all {s : List SelL} : incrK s s.length ↔ incrS s := by
  have hg : ∀ i (hi : i < s.length), s.getD i default = s[i] := fun i hi => by rw [List.getD_eq_getElem?_getD, List.getElem?_eq_getElem hi]; rfl
  constructor
  · intro h
    unfold incrS
    rw [List.pairwise_iff_getElem]
    intro i j hi hj hij
    obtain ⟨d, rfl⟩ : ∃ d, j = i + d + 1 := ⟨j - i - 1, by omega⟩
    clear hij
    induction d with
    | zero => have := h i (by omega); rwa [hg i hi, hg (i + 1) (by omega)] at this
    | succ d ih =>
      have := h (i + d + 1) (by omega)
      rw [hg (i + d + 1) (by omega), hg (i + d + 1 + 1) (by omega)] at this
      exact ltB_trans (ih (by omega)) this
  · intro h j hj
    rw [hg j (by omega), hg (j + 1) hj]
    exact List.pairwise_iff_getElem.1 h j (j + 1) (by omega) hj (by omega)
theorem incrK_step {s : List SelL} {k : Nat} (h : incrK s k) (h2 : 0 < k → ltB (s.getD (k - 1) default).1 (s.getD k default).1 = true) : incrK s (k + 1) := fun j hj => by
  by_cases e : j + 1 = k
  · subst e
    exact h2 (by omega)
  · exact h j (by omega)
theorem SelsOf.at {B : Nat} {ao : Option Addr} {n cap : Nat} {s : List SelL} {W : World} (h : SelsOf B (.slice ao n cap) s W) {i : Nat} (hi : i < s.length) :
    ∃ b off, ao = some ⟨b, off, none⟩ ∧ b < B ∧ W.cell? ⟨b, off + i * 4, none⟩ = some (.string (s.getD i default).1) ∧ W.cell? ⟨b, off + i * 4 + 1, none⟩ = some (intC (s.getD i default).2.1) ∧ W.cell? ⟨b, off + i * 4 + 2, none⟩ = some (intC (s.getD i default).2.2.1) ∧ W.cell? ⟨b, off + i * 4 + 3, none⟩ = some (intC (s.getD i default).2.2.2) := by
  obtain ⟨ao', cap', e, h⟩ := h
  cases e
  obtain ⟨b, off, e, h0, h1⟩ := h i s[i] (by simp [hi])
  have hg : s.getD i default = s[i] := by rw [List.getD_eq_getElem?_getD, List.getElem?_eq_getElem hi]; rfl
  rw [hg]
  exact ⟨b, off, e, h0, h1⟩
def GraphR (w : World) (g : (List ByteArray × List (Int × Int)) × Int) (e : Ending) (w' : World) : Prop :=
  ∃ nv ev, e = .returned (.tuple #[.agg #[nv, ev], .int .i64 g.2]) ∧ RowOf Value.string w'.heap.size nv g.1.1 w' ∧ EdgesOf w'.heap.size ev g.1.2 w' ∧ Below w.heap.size w w'
theorem eqs_dec (a b : ByteArray) : (a.toList == b.toList) = decide (a = b) := by
  by_cases h : a = b
  · subst h; simp
  · have : ¬ a.toList = b.toList := fun e => h (bytes_inj e)
    simp [h, this]
structure OfJ (w1 : World) (g : Nat) (s : List SelL) (k : Nat) (es : List (Int × Int)) (nv ev : Value) (W : World) : Prop where
  bel : Below w1.heap.size w1 W
  lo : w1.heap.size ≤ g
  out : W.heap[g]? = some (.cells #[nv, ev] 100 (0, 0))
  nodes : W.ownsRow (g + 1) 9 1 nv k ((s.take k).map (fun y => .string y.1))
  edges : W.ownsRow (g + 1) 149 2 ev es.length (edgeCells es)
variable {w1 : World} {g : Nat} {s : List SelL} {k : Nat} {es : List (Int × Int)} {nv ev : Value} {W : World}
end Go.Proofs.YtenfkejbndifdaaGreatDoor

namespace Go.Proofs.YtenfkejbndifdaaGreatDoor
set_option linter.unusedVariables false
set_option linter.unusedSimpArgs false
open Go Go.RowKit Go.Maps

def relXs (l : List RelL) (rs : List Value) : List Value := (l.zip rs).flatMap fun p => (relC p.1 p.2).toList
theorem relXs_snoc {l : List RelL} {rs : List Value} (h : rs.length = l.length) (x : RelL) (r : Value) : relXs (l ++ [x]) (rs ++ [r]) = relXs l rs ++ (relC x r).toList := by
  unfold relXs
  rw [List.zip_append h.symm, List.flatMap_append]
  simp
theorem relXs_length : ∀ {l : List RelL} {rs : List Value}, rs.length = l.length → (relXs l rs).length = l.length * 9
  | [], [], _ => rfl
  | x :: l, r :: rs, h => by
    have := relXs_length (l := l) (rs := rs) (by simpa using h)
    unfold relXs at this ⊢
    rw [List.zip_cons_cons, List.flatMap_cons, List.length_append, this, List.length_cons]
    simp only [relC, List.length_cons, List.length_nil]
    omega
def pickK (X : List RelL) (s : List SelL) (k : Nat) : List RelL := (s.take k).map fun y => (findX X y).getD default
theorem pickK_succ {X : List RelL} {s : List SelL} {k : Nat} (h : k < s.length) : pickK X s (k + 1) = pickK X s k ++ [(findX X (s.getD k default)).getD default] := by
  unfold pickK
  rw [List.take_succ_eq_append_getElem h, List.map_append, List.getD_eq_getElem?_getD, List.getElem?_eq_getElem h]
  rfl
theorem pickK_length {X : List RelL} {s : List SelL} {k : Nat} (h : k ≤ s.length) : (pickK X s k).length = k := by
  unfold pickK
  rw [List.length_map, List.length_take]
  omega
def SelectR (w : World) (B : Nat) (X : List RelL) (s : List SelL) (e : Ending) (w' : World) : Prop :=
  Below w.heap.size w w' ∧ ((¬ incrS s ∧ e = .returned (.tuple #[.slice none 0 0, .int .i64 1])) ∨
    (incrS s ∧ (∃ y ∈ s, findX X y = none) ∧ e = .returned (.tuple #[.slice none 0 0, .int .i64 6])) ∨
    (incrS s ∧ (∀ y ∈ s, (findX X y).isSome = true) ∧ ∃ v rs, e = .returned (.tuple #[v, .int .i64 0]) ∧ rs.length = s.length ∧ w'.ownsRow w.heap.size 71 9 v s.length (relXs (pickK X s s.length) rs) ∧
      ∀ i, i < s.length → ReqsOf B (rs.getD i undef) ((pickK X s s.length).getD i default).reqs w'))
set_option maxRecDepth 100000 in
set_option maxHeartbeats 8000000 in
theorem selected_any (m1 m2 : Nat) (sv : Value) (X : List RelL) (B : Nat) (s : List SelL) (w : World) (hB : B ≤ w.heap.size) (hT : TabOf w B m1 (tabX X)) (hs : s.length ≤ 1000000) (hy : ∀ y ∈ s, SelBd y) (hS : SelsOf w.heap.size sv s w) :
    Calls Tryz.prog 132 #[.agg #[.map (some m1), .map (some m2)], sv] w (SelectR w B X s) := by
  obtain ⟨so, sc, rfl⟩ : ∃ so sc, sv = .slice so s.length sc := by obtain ⟨a, c, e, _⟩ := hS; exact ⟨a, c, e⟩
  have HSB := Lib.hid hy
  have HS := Lib.hid hS
  have HT := Lib.hid hT
  have hml : m1 < w.heap.size := by obtain ⟨f, rv, n, h1, _⟩ := hT; exact h1.lt
  clear hy hS hT
  have HB0 : Hid (Below w.heap.size w (w.alloc (.cells #[.map (some m1), .map (some m2)] 138))) := Lib.hid (belQ _ _)
  have HT0 : Hid ((w.alloc (.cells #[.map (some m1), .map (some m2)] 138)).heap[w.heap.size]? = some (.cells #[.map (some m1), .map (some m2)] 138 (0, 0))) := Lib.hid (World.alloc_heap_new w _)
  have hw0 : w.heap.size < (w.alloc (.cells #[.map (some m1), .map (some m2)] 138)).heap.size := by simp
  obtain ⟨i0, hi0, hz0, hz1, hz2⟩ := info_parts info_rels
  go_enter Tryz.func132, Tryz.ntmps132
  go_upto_region 1 with fail
  generalize w.alloc (.cells #[.map (some m1), .map (some m2)] 138) = w1 at *
  go_wp2_with fail
  go_loopw [6] (fun p wr => Hid (∃ k : Nat, 1 ≤ k ∧ p = .int .i64 k ∧ Hid ((k ≤ s.length ∨ k = 1) ∧ incrK s k) ∧ Hid (Below w1.heap.size w1 wr))) (fun p _ => s.length + 1 - (intOf p).toNat)
  case atStart => exact Lib.hid ⟨1, by omega, rfl, Lib.hid ⟨.inr rfl, fun j hj => by omega⟩, Lib.hid (Below.refl _ _)⟩
  case round =>
    obtain ⟨k, hk1, rfl, HK, HB⟩ := hrel.out
    clear hrel
    have hsl := HB.out.size
    by_cases hlt : k < s.length
    case neg =>
      have HIN := Lib.hid (show incrS s from incrK_all.1 (fun j hj => HK.out.2 j (by rcases HK.out.1 with h | h <;> omega)))
      clear HK
      have HBZ := Lib.hid (HB0.out.trans (HB.out.mono HB0.out.size))
      have hsl1 := HB.out.size
      have HBB := Lib.hid HB.out
      clear HB
      go_wp2_with fail
      go_loopw [7, 32] (fun ov p wr2 => Hid (∃ k rs, k ≤ s.length ∧ p = .int .i64 ((k : Nat) : Int) ∧ rs.length = k ∧ wr2.ownsRow w1.heap.size 71 9 ov k (relXs (pickK X s k) rs) ∧ (∀ i, i < k → ReqsOf B (rs.getD i undef) ((pickK X s k).getD i default).reqs wr2) ∧ (∀ j, j < k → (findX X (s.getD j default)).isSome = true) ∧ Below w1.heap.size w1 wr2)) (fun _ p _ => s.length - (intOf p).toNat)
      case atStart => exact Lib.hid ⟨0, [], Nat.zero_le _, rfl, rfl, World.ownsRow_nil _ _ _ _, fun i hi => absurd hi (Nat.not_lt_zero _), fun i hi => absurd hi (Nat.not_lt_zero _), HBB.out⟩
      case round =>
        obtain ⟨k, rs, hk, rfl, hrs, hrow, hrq, hfo, hbb⟩ := hrel.out
        have HROW := Lib.hid hrow
        have HRQ := Lib.hid hrq
        have HFO := Lib.hid hfo
        have HBB2 := Lib.hid hbb
        have HRS := Lib.hid hrs
        clear hrel hrow hrq hfo hbb hrs
        have HBW := Lib.hid (HB0.out.trans (HBB2.out.mono HB0.out.size))
        have hsz := HBB2.out.size
        by_cases hlt2 : k < s.length
        case neg =>
          have hk2 : k = s.length := by omega
          subst hk2
          have HALL := Lib.hid (show ∀ y ∈ s, (findX X y).isSome = true from fun y hy => by
            obtain ⟨j, hj, rfl⟩ := List.mem_iff_getElem.1 hy
            have := HFO.out j hj
            rwa [List.getD_eq_getElem?_getD, List.getElem?_eq_getElem hj] at this)
          go_wp2_with fail
          go_ret2
          exact ⟨HBW.out, .inr (.inr ⟨HIN.out, HALL.out, _, rs, rfl, HRS.out, own_mono HROW.out (by omega), HRQ.out⟩)⟩
        case pos =>
          obtain ⟨b, off, rfl, hbl, d0, d1, d2, d3⟩ := HS.out.at hlt2
          have d0 := (HBW.out.cell (p := ⟨b, off + k * 4, none⟩) hbl).trans d0
          have d1 := (HBW.out.cell (p := ⟨b, off + k * 4 + 1, none⟩) hbl).trans d1
          have d2 := (HBW.out.cell (p := ⟨b, off + k * 4 + 2, none⟩) hbl).trans d2
          have d3 := (HBW.out.cell (p := ⟨b, off + k * 4 + 3, none⟩) hbl).trans d3
          have hym : s.getD k default ∈ s := by rw [List.getD_eq_getElem?_getD, List.getElem?_eq_getElem hlt2]; exact List.getElem_mem hlt2
          have HYB := Lib.hid (HSB.out _ hym)
          have HYM := Lib.hid hym
          obtain ⟨y, hyk⟩ : ∃ y, s.getD k default = y := ⟨_, rfl⟩
          rw [hyk] at d0 d1 d2 d3 HYB HYM
          have HYK := Lib.hid hyk
          clear hyk hym
          have hbw : b < wr.heap.size := Nat.lt_of_lt_of_le hbl HBW.out.size
          have HB9 := Lib.hid (HBW.out.trans ((belQ wr (.cells #[.string y.1, intC y.2.1, intC y.2.2.1, intC y.2.2.2] 43)).mono HBW.out.size))
          have HN9 := Lib.hid (World.alloc_heap_new wr (.cells #[.string y.1, intC y.2.1, intC y.2.2.1, intC y.2.2.2] 43))
          have htl : w.heap.size < wr.heap.size := by omega
          have ht9 := (HBB2.out.block w.heap.size hw0).trans HT0.out
          have t0 : wr.cell? ⟨w.heap.size, 0, none⟩ = some (.map (some m1)) := cell_of_row _ _ 0 _ _ _ ht9
          have HROW9 := Lib.hid (own_on HROW.out (belQ wr (.cells #[.string y.1, intC y.2.1, intC y.2.2.1, intC y.2.2.2] 43)))
          obtain ⟨f, n, hmf, hlk⟩ := (HT.out.below HB9.out hB).look
          have HMF := Lib.hid hmf
          have hlk := hlk y HYB.out
          have HKY := Lib.hid (keyS_of HYB.out)
          have HZR := Lib.hid (show ∀ W, (zeroValue 71).run Tryz.prog W = .ok zeroR W from Tryz.zeroValue71)
          obtain ⟨o, ho⟩ : ∃ o, findX X y = o := ⟨_, rfl⟩
          have HO := Lib.hid ho
          obtain ⟨x, r, e1, e2, e3, e4⟩ : ∃ x r, (f (keyS y)).getD zeroR = .agg (relC x r) ∧ (f (keyS y)).isSome = o.isSome ∧ o.getD default = x ∧ ReqsOf B r x.reqs (wr.alloc (.cells #[.string y.1, intC y.2.1, intC y.2.2.1, intC y.2.2.2] 43)) := by
            rcases hlk with ⟨l1, l2⟩ | ⟨x, r, l1, l2, l3, l4⟩
            · rw [ho] at l1
              subst l1
              exact ⟨default, .slice none 0 0, by rw [l2]; rfl, by rw [l2]; rfl, rfl, ⟨none, 0, rfl, fun i q hq => by cases hq⟩⟩
            · rw [ho] at l2
              subst l2
              exact ⟨x, r, by rw [l3]; rfl, by rw [l3]; rfl, rfl, l4⟩
          have HE3 := Lib.hid e3
          have HE4 := Lib.hid e4
          obtain ⟨ob, hob⟩ : ∃ ob, o.isSome = ob := ⟨_, rfl⟩
          have HOB := Lib.hid hob
          rw [hob] at e2
          obtain ⟨ra, rc, rfl, _⟩ := e4
          simp only [relC_at] at e1
          clear hlk hmf ho e3 hob ht9
          have HB10 := Lib.hid ((belQ (wr.alloc (.cells #[.string y.1, intC y.2.1, intC y.2.2.1, intC y.2.2.2] 43)) (.cells #[.string x.path, intC x.ver.1, intC x.ver.2.1, intC x.ver.2.2, .slice ra x.reqs.length rc, .string x.ar, .string x.ifc, .string x.cert, .bool x.yk] 71)))
          have hws10 : wr.heap.size + 1 < ((wr.alloc (.cells #[.string y.1, intC y.2.1, intC y.2.2.1, intC y.2.2.2] 43)).alloc (.cells #[.string x.path, intC x.ver.1, intC x.ver.2.1, intC x.ver.2.2, .slice ra x.reqs.length rc, .string x.ar, .string x.ifc, .string x.cert, .bool x.yk] 71)).heap.size := by simp
          have HG10 : Hid (BoxR ((wr.alloc (.cells #[.string y.1, intC y.2.1, intC y.2.2.1, intC y.2.2.2] 43)).alloc (.cells #[.string x.path, intC x.ver.1, intC x.ver.2.1, intC x.ver.2.2, .slice ra x.reqs.length rc, .string x.ar, .string x.ifc, .string x.cert, .bool x.yk] 71)) (wr.heap.size + 1) x (.slice ra x.reqs.length rc)) := Lib.hid (by
            have := BoxR.made (wr.alloc (.cells #[.string y.1, intC y.2.1, intC y.2.2.1, intC y.2.2.2] 43)) x (.slice ra x.reqs.length rc)
            rwa [World.size_alloc] at this)
          have HBX := Lib.hid (HB9.out.trans (HB10.out.mono HB9.out.size))
          have HB1X := Lib.hid ((HBB2.out.trans ((belQ wr (.cells #[.string y.1, intC y.2.1, intC y.2.2.1, intC y.2.2.2] 43)).mono hsz)).trans (HB10.out.mono (by simp; omega)))
          have HROW10 := Lib.hid (own_on HROW9.out HB10.out)
          have HRQ10 : Hid (∀ i, i < k → ReqsOf B (rs.getD i undef) ((pickK X s k).getD i default).reqs ((wr.alloc (.cells #[.string y.1, intC y.2.1, intC y.2.2.1, intC y.2.2.2] 43)).alloc (.cells #[.string x.path, intC x.ver.1, intC x.ver.2.1, intC x.ver.2.2, .slice ra x.reqs.length rc, .string x.ar, .string x.ifc, .string x.cert, .bool x.yk] 71))) := Lib.hid (fun i hi => (HRQ.out i hi).below (B' := w.heap.size) ((Below.refl _ _ |>.alloc (Nat.le_trans (Nat.le_of_lt hw0) hsz) _).alloc (by simp; omega) _) hB)
          have HR10 := Lib.hid (HE4.out.below (HB10.out.mono (show w.heap.size ≤ (wr.alloc (.cells #[.string y.1, intC y.2.1, intC y.2.2.1, intC y.2.2.2] 43)).heap.size by simp; omega)) hB)

          go_upto_region 11 with (at_lookup; refine wpList_look_ok_F rfl _ _ 135 rfl 43 71 lawSel Tryz.underlying135 (HZR.out _) m1 n f (by rfl) HMF.out _ (keyS y) rfl HKY.out ?_; rw [e1, e2])
          generalize (wr.alloc (.cells #[.string y.1, intC y.2.1, intC y.2.2.1, intC y.2.2.2] 43)).alloc (.cells #[.string x.path, intC x.ver.1, intC x.ver.2.1, intC x.ver.2.2, .slice ra x.reqs.length rc, .string x.ar, .string x.ifc, .string x.cert, .bool x.yk] 71) = W4 at *
          cases ob with
          | false =>
            have HNO := Lib.hid (show ∃ y ∈ s, findX X y = none from ⟨y, HYM.out, by rw [HO.out]; cases ho : o with | none => rfl | some z => have := HOB.out; rw [ho] at this; cases this⟩)
            go_wp2_with fail
            go_ret2
            exact ⟨HBX.out, .inr (.inl ⟨HIN.out, HNO.out, rfl⟩)⟩
          | true =>
            obtain ⟨a0, a1, a2, a3, a4, a5, a6, a7, a8⟩ := HG10.out.cells
            have HROW5 := Lib.hid (own_on HROW10.out (belQ W4 (.cells #[.string x.path, intC x.ver.1, intC x.ver.2.1, intC x.ver.2.2, .slice ra x.reqs.length rc, .string x.ar, .string x.ifc, .string x.cert, .bool x.yk] 71)))
            have HN5 := Lib.hid (World.alloc_heap_new W4 (.cells #[.string x.path, intC x.ver.1, intC x.ver.2.1, intC x.ver.2.2, .slice ra x.reqs.length rc, .string x.ar, .string x.ifc, .string x.cert, .bool x.yk] 71))
            have HB5 := Lib.hid (HB1X.out.trans ((belQ W4 (.cells #[.string x.path, intC x.ver.1, intC x.ver.2.1, intC x.ver.2.2, .slice ra x.reqs.length rc, .string x.ar, .string x.ifc, .string x.cert, .bool x.yk] 71)).mono HB1X.out.size))
            have hz5 : w1.heap.size ≤ (W4.alloc (.cells #[.string x.path, intC x.ver.1, intC x.ver.2.1, intC x.ver.2.2, .slice ra x.reqs.length rc, .string x.ar, .string x.ifc, .string x.cert, .bool x.yk] 71)).heap.size := HB5.out.size
            have HRQ5 : Hid (∀ i, i < k → ReqsOf B (rs.getD i undef) ((pickK X s k).getD i default).reqs (W4.alloc (.cells #[.string x.path, intC x.ver.1, intC x.ver.2.1, intC x.ver.2.2, .slice ra x.reqs.length rc, .string x.ar, .string x.ifc, .string x.cert, .bool x.yk] 71))) := Lib.hid (fun i hi => (HRQ10.out i hi).below (belQ W4 (.cells #[.string x.path, intC x.ver.1, intC x.ver.2.1, intC x.ver.2.2, .slice ra x.reqs.length rc, .string x.ar, .string x.ifc, .string x.cert, .bool x.yk] 71)) (Nat.le_trans hB HBX.out.size))
            have HR5 := Lib.hid (HR10.out.below (belQ W4 (.cells #[.string x.path, intC x.ver.1, intC x.ver.2.1, intC x.ver.2.2, .slice ra x.reqs.length rc, .string x.ar, .string x.ifc, .string x.cert, .bool x.yk] 71)) (Nat.le_trans hB HBX.out.size))
            have HRL : Hid (rs.length = (pickK X s k).length) := Lib.hid (by rw [HRS.out, pickK_length (by omega)])
            obtain ⟨pl, hpl⟩ : ∃ pl, relXs (pickK X s k) rs = pl := ⟨_, rfl⟩
            have HPL := Lib.hid hpl
            have HROW6 := HROW5.out
            rw [hpl] at HROW6
            have HROW7 := Lib.hid HROW6
            clear HROW6 hpl
            go_wp2_with (at_builtin; refine wpList_append_own _ rfl _ _ 22 rfl w1.heap.size 71 i0 _ 9 120 Tryz.underlying22 hi0 hz0 hz1 hz2 rfl (by decide) u7 k pl (by rfl) HROW7.out ⟨W4.heap.size, 0, none⟩ 1 1 [.string x.path, intC x.ver.1, intC x.ver.2.1, intC x.ver.2.2, .slice ra x.reqs.length rc, .string x.ar, .string x.ifc, .string x.cert, .bool x.yk] (by rfl) (by rfl) (World.news_of_block HN5.out) (by simp [Value.oneCell']) (by unfold maxLen; omega) (by omega) hz5 ?_; intro v' wA hown' hgrow _; have HOW2 := Lib.hid hown'; have HGR2 := Lib.hid hgrow; clear hown' hgrow; obtain ⟨g3, gc3, rfl⟩ := ownsRow_succ HOW2.out)
            all_goals
              have HBA : Hid (Below w1.heap.size w1 wA) := Lib.hid (HB5.out.grown HGR2.out hz5 (fun b hb => (own_lo HROW7.out b hb).1))
              have hbw : Below w.heap.size (W4.alloc (.cells #[.string x.path, intC x.ver.1, intC x.ver.2.1, intC x.ver.2.2, .slice ra x.reqs.length rc, .string x.ar, .string x.ifc, .string x.cert, .bool x.yk] 71)) wA := (Below.refl _ _).grown HGR2.out (by omega) (fun b hb => by have := (own_lo HROW7.out b hb).1; omega)
              have HRA : Hid (∀ i, i < k + 1 → ReqsOf B ((rs ++ [Value.slice ra x.reqs.length rc]).getD i undef) ((pickK X s (k + 1)).getD i default).reqs wA) := Lib.hid (fun i hi => by
                rw [pickK_succ hlt2, HYK.out, HO.out, HE3.out]
                by_cases e : i = k
                · subst e
                  rw [List.getD_eq_getElem?_getD, List.getElem?_append_right (by rw [HRS.out]; exact Nat.le_refl _), HRS.out, Nat.sub_self, List.getD_eq_getElem?_getD, List.getElem?_append_right (by rw [pickK_length (by omega)]; exact Nat.le_refl _), pickK_length (by omega), Nat.sub_self]
                  exact HR5.out.below hbw hB
                · rw [List.getD_eq_getElem?_getD, List.getElem?_append_left (by rw [HRS.out]; omega), List.getD_eq_getElem?_getD (l := pickK X s k ++ [x]), List.getElem?_append_left (by rw [pickK_length (by omega)]; omega), ← List.getD_eq_getElem?_getD, ← List.getD_eq_getElem?_getD]
                  exact (HRQ5.out i (by omega)).below hbw hB)
              have HFO2 := Lib.hid (show ∀ j, j < k + 1 → (findX X (s.getD j default)).isSome = true from fun j hj => by
                by_cases e : j = k
                · rw [e, HYK.out, HO.out]; exact HOB.out
                · exact HFO.out j (by omega))
              have HOW3 : Hid (wA.ownsRow w1.heap.size 71 9 (.slice (some ⟨g3, 0, none⟩) (k + 1) gc3) (k + 1) (relXs (pickK X s (k + 1)) (rs ++ [Value.slice ra x.reqs.length rc]))) := Lib.hid (by
                rw [pickK_succ hlt2, HYK.out, HO.out, HE3.out, relXs_snoc HRL.out, HPL.out]
                exact HOW2.out)
              refine ⟨Lib.hid ⟨k + 1, rs ++ [Value.slice ra x.reqs.length rc], by omega, by go_num, by rw [List.length_append, HRS.out]; rfl, HOW3.out, HRA.out, HFO2.out, HBA.out⟩, ?_⟩
              simp [intOf]; omega
    case pos =>
      obtain ⟨b, off, rfl, hbl, d0, _⟩ := HS.out.at hlt
      obtain ⟨b2, off2, e2, _, f0, _⟩ := HS.out.at (i := k - 1) (by omega)
      cases e2
      have d0 := ((HB0.out.trans (HB.out.mono HB0.out.size)).cell (p := ⟨b, off + k * 4, none⟩) hbl).trans d0
      have f0 := ((HB0.out.trans (HB.out.mono HB0.out.size)).cell (p := ⟨b, off + (k - 1) * 4, none⟩) hbl).trans f0
      have hsub : wrap64 ((k : Int) - 1) = ((k - 1 : Nat) : Int) := by rw [show ((k : Int) - 1) = ((k - 1 : Nat) : Int) by omega]; unfold wrap64; omega
      have hl0 : (0 : Int) ≤ ((k - 1 : Nat) : Int) := by omega
      have hl1 : ((k - 1 : Nat) : Int) < (s.length : Int) := by omega
      generalize hpa : (s.getD (k - 1) default).1 = pa at *
      generalize hpb : (s.getD k default).1 = pb at *
      have HPA := Lib.hid hpa
      have HPB := Lib.hid hpb
      clear hpa hpb
      go_wp2_with fail
      go_quiet (fail)
      have HBQ : Hid (Below w1.heap.size w1 (wr.drewN nq)) := Lib.hid (below_drewNV HB.out _)
      generalize wr.drewN nq = wx at *
      clear d0 f0
      cases hc : ltB pa pb with
      | false =>
        have hc2 : Op.bytesLess pa.toList pb.toList = false := hc
        have HN := Lib.hid (show ¬ incrS s from fun h => by
          have := incrK_all.2 h (k - 1) (by omega)
          rw [show k - 1 + 1 = k by omega, HPA.out, HPB.out, hc] at this
          cases this)
        clear hc
        rw [hc2]
        simp only [Bool.not_false]
        clear hc2
        go_wp2_with fail
        go_ret2
        exact ⟨HB0.out.trans (HBQ.out.mono HB0.out.size), .inl ⟨HN.out, rfl⟩⟩
      | true =>
        have hc2 : Op.bytesLess pa.toList pb.toList = true := hc
        have HK2 := Lib.hid (show (k + 1 ≤ s.length ∨ k + 1 = 1) ∧ incrK s (k + 1) from ⟨.inl (by omega), incrK_step HK.out.2 (fun _ => by rw [HPA.out, HPB.out]; exact hc)⟩)
        clear hc
        rw [hc2]
        simp only [Bool.not_true]
        clear hc2
        go_wp2_with fail
        all_goals
          refine ⟨Lib.hid ⟨k + 1, by omega, by go_num, HK2, HBQ⟩, ?_⟩
          simp [intOf]; omega
end Go.Proofs.YtenfkejbndifdaaGreatDoor

namespace Go.Proofs.YtenfkejbndifdaaGreatDoor
open Go Go.RowKit

end Go.Proofs.YtenfkejbndifdaaGreatDoor

namespace Go.Proofs.YtenfkejbndifdaaGreatDoor
set_option linter.unusedVariables false
set_option linter.unusedSimpArgs false
open Go Go.RowKit

def placeV (a b c : Int) : Int × Int := if validB a b c = true then (1000 * b + c, 0) else (0, 2)
def atV (m p : Int) : (Int × Int × Int) × Int := if partB m = true ∧ 0 ≤ p ∧ p < 1000000 then ((m, p / 1000, p % 1000), 0) else ((0, 0, 0), 2)
set_option maxRecDepth 100000 in
theorem Place_any (a b c : Int) (w : World) : Calls Tryz.prog 40 #[.agg #[.int .i64 a, .int .i64 b, .int .i64 c]] w fun e w' => e = .returned (.tuple #[.int .i64 (placeV a b c).1, .int .i64 (placeV a b c).2]) ∧ Below w.heap.size w w' := by
  by_cases hv : validB a b c = true
  · have HE := Lib.hid (show placeV a b c = (1000 * b + c, 0) by unfold placeV; rw [if_pos hv])
    rw [HE.out]
    obtain ⟨⟨a0, a1⟩, ⟨b0, b1⟩, c0, c1⟩ := valid_le hv
    go_enter Tryz.func40, Tryz.ntmps40
    go_wp2_with (go_at_call 95; refine (Valid_any _ _ _ _).mono ?_; rintro e w' ⟨rfl, rfl⟩)
    go_ret2
    exact ⟨rfl, (by repeat (first | exact Below.refl _ _ | refine Below.drew ?_ | refine Below.alloc ?_ (by simp <;> omega) _ | refine Below.setCell ?_ (by simp <;> omega) _))⟩
  · have hv : validB a b c = false := by simpa using hv
    have HE := Lib.hid (show placeV a b c = (0, 2) by unfold placeV; rw [hv]; rfl)
    rw [HE.out]
    go_enter Tryz.func40, Tryz.ntmps40
    go_wp2_with (go_at_call 95; refine (Valid_any _ _ _ _).mono ?_; rintro e w' ⟨rfl, rfl⟩)
    go_ret2
    exact ⟨rfl, (by repeat (first | exact Below.refl _ _ | refine Below.drew ?_ | refine Below.alloc ?_ (by simp <;> omega) _ | refine Below.setCell ?_ (by simp <;> omega) _))⟩
end Go.Proofs.YtenfkejbndifdaaGreatDoor

namespace Go.Proofs.YtenfkejbndifdaaGreatDoor
set_option linter.unusedVariables false
set_option linter.unusedSimpArgs false
open Go Go.RowKit

def inB (p : Int) (x : Int × Int) : Bool := decide (x.1 ≤ p) && decide (p < x.2)
theorem hasB_eq (s : List (Int × Int)) (p : Int) : hasB s p = ((decide (0 ≤ p) && decide (p < 1000000)) && s.any (inB p)) := rfl
set_option maxRecDepth 100000 in
theorem inCl_any (pb : Nat) (p a b : Int) (W : World) (hc : W.cell? ⟨pb, 0, none⟩ = some (intC p)) :
    Calls Tryz.prog 164 #[.agg #[intC a, intC b], .pointer (some ⟨pb, 0, none⟩)] W fun e w' => e = .returned (.bool (inB p (a, b))) ∧ Below W.heap.size W w' := by
  have hlt : pb < W.heap.size := World.block_lt_of_cell? _ _ hc
  have hne : pb ≠ W.heap.size := by omega
  by_cases h1 : a ≤ p
  · by_cases h2 : p < b
    · have HE : Hid (inB p (a, b) = true) := Lib.hid (by simp [inB, h1, h2])
      rw [HE.out]
      go_enter Tryz.func164, Tryz.ntmps164
      go_wp2
      go_ret
      exact ⟨rfl, (by repeat (first | exact Below.refl _ _ | refine Below.drew ?_ | refine Below.alloc ?_ (by simp <;> omega) _ | refine Below.setCell ?_ (by simp <;> omega) _))⟩
    · have HE : Hid (inB p (a, b) = false) := Lib.hid (by simp [inB, h1, h2])
      rw [HE.out]
      go_enter Tryz.func164, Tryz.ntmps164
      go_wp2
      go_ret
      exact ⟨rfl, (by repeat (first | exact Below.refl _ _ | refine Below.drew ?_ | refine Below.alloc ?_ (by simp <;> omega) _ | refine Below.setCell ?_ (by simp <;> omega) _))⟩
  · have HE : Hid (inB p (a, b) = false) := Lib.hid (by simp [inB, h1])
    rw [HE.out]
    go_enter Tryz.func164, Tryz.ntmps164
    go_wp2
    go_ret
    exact ⟨rfl, (by repeat (first | exact Below.refl _ _ | refine Below.drew ?_ | refine Below.alloc ?_ (by simp <;> omega) _ | refine Below.setCell ?_ (by simp <;> omega) _))⟩
set_option maxRecDepth 100000 in
theorem Has_any (v : Value) (s : List (Int × Int)) (p : Int) (w : World) (hs : s.length ≤ 1000000000) (hE : SpansOf w.heap.size v s w) :
    Calls Tryz.prog 134 #[v, .int .i64 p] w fun e w' => e = .returned (.bool (hasB s p)) ∧ Below w.heap.size w w' := by
  have hb0 : Below w.heap.size w (w.alloc (.cells #[intC p] 3)) := (Below.refl _ _).alloc (Nat.le_refl _) _
  have hcall := has_spanE 164 #[.pointer (some ⟨w.heap.size, 0, none⟩)] (enters_of Tryz.func164 (by kernel_rfl) rfl) (inB p) v s (w.alloc (.cells #[intC p] 3)) hs
    ((hE.below hb0 (Nat.le_refl _)).mono (by simp)) (fun W x _ hW => (inCl_any w.heap.size p x.1 x.2 W (by
      rw [hW.cell (p := ⟨w.heap.size, 0, none⟩) (by simp)]
      simp [go_sem])).mono fun e w' h => ⟨h.1, hW.trans (h.2.mono hW.size)⟩)
  by_cases h0 : 0 ≤ p
  · by_cases h1 : p < 1000000
    · have he : hasB s p = s.any (inB p) := by rw [hasB_eq]; simp [h0, h1]
      rw [he]
      generalize s.any (inB p) = q at *
      have HC := Lib.hid hcall
      clear hcall he
      obtain ⟨ao, ec, rfl, _⟩ := hE
      go_enter Tryz.func134, Tryz.ntmps134
      go_wp2_with ((with_reducible refine HC.out.mono ?_); rintro e w' ⟨rfl, hb⟩)
      go_ret
      exact ⟨rfl, hb0.trans (hb.mono (by simp))⟩
    · have he : hasB s p = false := by rw [hasB_eq]; simp [h1]
      rw [he]
      clear hcall he
      go_enter Tryz.func134, Tryz.ntmps134
      go_wp2
      go_ret
      exact ⟨rfl, hb0⟩
  · have he : hasB s p = false := by rw [hasB_eq]; simp [h0]
    rw [he]
    clear hcall he
    go_enter Tryz.func134, Tryz.ntmps134
    go_wp2
    go_ret
    exact ⟨rfl, hb0⟩
end Go.Proofs.YtenfkejbndifdaaGreatDoor
