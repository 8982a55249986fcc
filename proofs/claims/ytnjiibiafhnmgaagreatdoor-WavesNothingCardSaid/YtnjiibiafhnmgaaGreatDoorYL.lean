/- Contracts of the reference's FewRequirements and FewReleases. What the cards of indexes share: arguments opened and read again. -/
import Derived.Test.YtnjiibiafhnmgaaGreatDoorYK
import Derived.Test.YtnjiibiafhnmgaaGreatDoorRows
import Derived.ProofKit
import Derived.OpenShut
import Derived.Deep.DeepHandedRow
import Derived.Deep.Slices
import Derived.Deep.SlicePairs
import Derived.Shelf.Vars
import Derived.Lay
import Derived.Carry
import Derived.Lib.SmallJoins
namespace Go.Proofs.YtnjiibiafhnmgaaGreatDoor
set_option linter.unusedVariables false
set_option linter.unusedSimpArgs false
open Go Go.RowKit

def BoolR (w : World) (P : Prop) (e : Ending) (w' : World) : Prop := ∃ b : Bool, e = .returned (.bool b) ∧ (b = true → P) ∧ w' = w
structure FewQ (l : List ReqL) : Prop where
  len : l.length ≤ 20
  all : ∀ q ∈ l, q.1.size ≤ 100 ∧ q.2.length ≤ 8
structure FewR (X : List RelL) (most : Nat) : Prop where
  len : X.length ≤ most
  all : ∀ x ∈ X, x.path.size ≤ 100 ∧ x.ar.size ≤ 100 ∧ x.ifc.size ≤ 100 ∧ x.cert.size ≤ 100 ∧ FewQ x.reqs
set_option maxRecDepth 100000 in
set_option maxHeartbeats 4000000 in
theorem FewQ_any (v : Value) (l : List ReqL) (w : World) (hl : l.length ≤ 9223372036854775807) (hR : ReqsOf w.heap.size v l w) :
    Calls Tryz.prog 70 #[v] w (BoolR w (FewQ l)) := by
  obtain ⟨ao, cap, rfl, hR⟩ := hR
  have HR := Lib.hid hR
  clear hR
  go_enter Tryz.func70, Tryz.ntmps70
  go_wp2_with fail
  go_loopw [3] (fun p wr => Hid (∃ k : Nat, k ≤ l.length ∧ p = .int .i64 k ∧ ∀ q ∈ l.take k, q.1.size ≤ 100 ∧ q.2.length ≤ 8) ∧ wr = w) (fun p _ => l.length - (intOf p).toNat)
  case atStart => exact ⟨Lib.hid ⟨0, Nat.zero_le _, rfl, by simp⟩, rfl⟩
  case round =>
    obtain ⟨hr, rfl⟩ := hrel
    obtain ⟨k, hk, rfl, ha⟩ := hr.out
    have HA := Lib.hid ha
    clear hr ha
    by_cases hlt : k < l.length
    case neg =>
      have hk2 : k = l.length := by omega
      subst hk2
      rw [List.take_length] at HA
      by_cases h20 : l.length ≤ 20
      · have h20a : (l.length : Int) ≤ 20 := by omega
        have h20b : decide ((l.length : Int) ≤ 20) = true := decide_eq_true h20a
        go_wp2_with fail
        go_ret
        exact ⟨_, rfl, fun _ => ⟨h20, HA.out⟩, rfl⟩
      · have h20a : ¬ (l.length : Int) ≤ 20 := by omega
        have h20b : decide ((l.length : Int) ≤ 20) = false := decide_eq_false h20a
        go_wp2_with fail
        go_ret
        exact ⟨_, rfl, fun h => (by simp at h), rfl⟩
    case pos =>
      obtain ⟨b, off, r, rfl, hbl, d0, d1, hsp⟩ := HR.out k l[k] (by simp [hlt])
      have HT : Hid (l.take (k + 1) = l.take k ++ [l[k]]) := Lib.hid (List.take_succ_eq_append_getElem hlt)
      generalize l[k] = q at *
      obtain ⟨sa, sc, rfl, _⟩ := hsp
      by_cases h1 : q.1.size ≤ 100
      case neg =>
        have h1a : (100 : Int) < (q.1.size : Int) := by omega
        have h1b : decide ((100 : Int) < (q.1.size : Int)) = true := decide_eq_true h1a
        go_wp2_with fail
        go_ret
        exact ⟨false, rfl, fun h => (by cases h), rfl⟩
      have h1a : ¬ (100 : Int) < (q.1.size : Int) := by omega
      have h1b : decide ((100 : Int) < (q.1.size : Int)) = false := decide_eq_false h1a
      by_cases h2 : q.2.length ≤ 8
      case neg =>
        have h2a : (8 : Int) < (q.2.length : Int) := by omega
        have h2b : decide ((8 : Int) < (q.2.length : Int)) = true := decide_eq_true h2a
        go_wp2_with fail
        go_ret
        exact ⟨false, rfl, fun h => (by cases h), rfl⟩
      have h2a : ¬ (8 : Int) < (q.2.length : Int) := by omega
      have h2b : decide ((8 : Int) < (q.2.length : Int)) = false := decide_eq_false h2a
      have HA2 := Lib.hid (show ∀ x ∈ l.take (k + 1), x.1.size ≤ 100 ∧ x.2.length ≤ 8 from fun x hx => by
        rw [HT.out] at hx
        rcases List.mem_append.1 hx with hx | hx
        · exact HA.out x hx
        · rw [List.mem_singleton.1 hx]; exact ⟨h1, h2⟩)
      go_wp2_with fail
      all_goals
        refine ⟨⟨Lib.hid ⟨k + 1, by omega, by go_num, HA2.out⟩, by trivial⟩, ?_⟩
        simp [intOf]; omega
set_option maxRecDepth 100000 in
set_option maxHeartbeats 8000000 in
theorem FewR_any (v : Value) (X : List RelL) (most : Nat) (w : World) (hm : most ≤ 1000) (hl : X.length ≤ 9223372036854775807) (hq : ∀ x ∈ X, x.reqs.length ≤ 9223372036854775807) (hR : RelsOf w.heap.size v X w) :
    Calls Tryz.prog 69 #[v, .int .i64 (most : Int)] w (BoolR w (FewR X most)) := by
  obtain ⟨ao, cap, rfl, hR⟩ := hR
  have HR := Lib.hid hR
  have HQ := Lib.hid hq
  clear hR hq
  go_enter Tryz.func69, Tryz.ntmps69
  go_wp2_with fail
  go_loopw [5] (fun p wr => Hid (∃ k : Nat, k ≤ X.length ∧ p = .int .i64 k ∧ ∀ x ∈ X.take k, x.path.size ≤ 100 ∧ x.ar.size ≤ 100 ∧ x.ifc.size ≤ 100 ∧ x.cert.size ≤ 100 ∧ FewQ x.reqs) ∧ wr = w) (fun p _ => X.length - (intOf p).toNat)
  case atStart => exact ⟨Lib.hid ⟨0, Nat.zero_le _, rfl, by simp⟩, rfl⟩
  case round =>
    obtain ⟨hr, rfl⟩ := hrel
    obtain ⟨k, hk, rfl, ha⟩ := hr.out
    have HA := Lib.hid ha
    clear hr ha
    by_cases hlt : k < X.length
    case neg =>
      have hk2 : k = X.length := by omega
      subst hk2
      rw [List.take_length] at HA
      by_cases h20 : X.length ≤ most
      · have h20a : (X.length : Int) ≤ (most : Int) := by omega
        have h20b : decide ((X.length : Int) ≤ (most : Int)) = true := decide_eq_true h20a
        go_wp2_with fail
        go_ret
        exact ⟨_, rfl, fun _ => ⟨h20, HA.out⟩, rfl⟩
      · have h20a : ¬ (X.length : Int) ≤ (most : Int) := by omega
        have h20b : decide ((X.length : Int) ≤ (most : Int)) = false := decide_eq_false h20a
        go_wp2_with fail
        go_ret
        exact ⟨_, rfl, fun h => (by simp at h), rfl⟩
    case pos =>
      obtain ⟨b, off, rfl, hbl, hra⟩ := HR.out k X[k] (by simp [hlt])
      obtain ⟨r, hr, d0, d1, d2, d3, d4, d5, d6, d7, d8⟩ := hra.box
      have hql := HQ.out X[k] (List.getElem_mem hlt)
      have HT : Hid (X.take (k + 1) = X.take k ++ [X[k]]) := Lib.hid (List.take_succ_eq_append_getElem hlt)
      generalize X[k] = x at *
      have HF := Lib.hid (FewQ_any r x.reqs wr hql hr)
      obtain ⟨ra, rc, rfl, _⟩ := hr
      clear hra
      by_cases h1 : x.path.size ≤ 100
      case neg =>
        have h1a : (100 : Int) < (x.path.size : Int) := by omega
        have h1b : decide ((100 : Int) < (x.path.size : Int)) = true := decide_eq_true h1a
        go_wp2_with fail
        go_ret
        exact ⟨false, rfl, fun h => (by cases h), rfl⟩
      have h1a : ¬ (100 : Int) < (x.path.size : Int) := by omega
      have h1b : decide ((100 : Int) < (x.path.size : Int)) = false := decide_eq_false h1a
      by_cases h2 : x.ar.size ≤ 100
      case neg =>
        have h2a : (100 : Int) < (x.ar.size : Int) := by omega
        have h2b : decide ((100 : Int) < (x.ar.size : Int)) = true := decide_eq_true h2a
        go_wp2_with fail
        go_ret
        exact ⟨false, rfl, fun h => (by cases h), rfl⟩
      have h2a : ¬ (100 : Int) < (x.ar.size : Int) := by omega
      have h2b : decide ((100 : Int) < (x.ar.size : Int)) = false := decide_eq_false h2a
      by_cases h3 : x.ifc.size ≤ 100
      case neg =>
        have h3a : (100 : Int) < (x.ifc.size : Int) := by omega
        have h3b : decide ((100 : Int) < (x.ifc.size : Int)) = true := decide_eq_true h3a
        go_wp2_with fail
        go_ret
        exact ⟨false, rfl, fun h => (by cases h), rfl⟩
      have h3a : ¬ (100 : Int) < (x.ifc.size : Int) := by omega
      have h3b : decide ((100 : Int) < (x.ifc.size : Int)) = false := decide_eq_false h3a
      by_cases h4 : x.cert.size ≤ 100
      case neg =>
        have h4a : (100 : Int) < (x.cert.size : Int) := by omega
        have h4b : decide ((100 : Int) < (x.cert.size : Int)) = true := decide_eq_true h4a
        go_wp2_with fail
        go_ret
        exact ⟨false, rfl, fun h => (by cases h), rfl⟩
      have h4a : ¬ (100 : Int) < (x.cert.size : Int) := by omega
      have h4b : decide ((100 : Int) < (x.cert.size : Int)) = false := decide_eq_false h4a
      go_wp2_with fail
      refine HF.out.mono ?_
      rintro e w1 ⟨fb, rfl, hfb, rfl⟩
      have HFB := Lib.hid hfb
      clear hfb
      cases fb with
      | false =>
        go_wp2_with fail
        go_ret
        exact ⟨false, rfl, fun h => (by cases h), rfl⟩
      | true =>
        have HA2 := Lib.hid (show ∀ y ∈ X.take (k + 1), y.path.size ≤ 100 ∧ y.ar.size ≤ 100 ∧ y.ifc.size ≤ 100 ∧ y.cert.size ≤ 100 ∧ FewQ y.reqs from fun y hy => by
          rw [HT.out] at hy
          rcases List.mem_append.1 hy with hy | hy
          · exact HA.out y hy
          · rw [List.mem_singleton.1 hy]; exact ⟨h1, h2, h3, h4, HFB.out rfl⟩)
        go_wp2_with fail
        all_goals
          refine ⟨⟨Lib.hid ⟨k + 1, by omega, by go_num, HA2.out⟩, by trivial⟩, ?_⟩
          simp [intOf]; omega
end Go.Proofs.YtnjiibiafhnmgaaGreatDoor

namespace Go.Proofs.YtnjiibiafhnmgaaGreatDoor
set_option linter.unusedVariables false
set_option linter.unusedSimpArgs false
open Go.ChangeShapes Go.WideShapes Go.ChangeAt Go.RowKit
open Go.ChangeMaps (open_string shut_string)

theorem own : ownKnob Tryz.prog.godebug = none := by kernel_rfl
theorem laidOut : laidOutB Tryz.prog = true := by kernel_rfl
theorem maxOk {W : World} (h : W.ShapedOpen Tryz.prog) : MaxOk W :=
  cell_of_shapedOpen_int (g := 0) (t := 3) (zero := #[.int .i64 0]) h (of_decide_eq_true (by kernel_rfl)) (by kernel_rfl) rfl (by kernel_rfl) (by kernel_rfl) Tryz.underlying3
theorem trodAll_belowP {P : Program} (laidOut : laidOutB P = true) {H : Type} {enc : TypeId × Value → H} {W W' : World} (hb : Below W.heap.size W W') : ∀ {ts : List TypeId} {vs : List Value} {ds : List (DataW H)} {ps : List MemPlace},
    (ts.all fun t => P.readableRec t && decide (t < P.types.size)) = true → DataW.TrodAll enc P W 0 (fun _ => true) true ts vs ds ps → (∀ x ∈ ps, x.block < W.heap.size) →
    DataW.TrodAll enc P W' 0 (fun b => decide (b < W.heap.size)) true ts vs ds ps
  | [], vs, ds, ps, _, h, _ => by
    obtain ⟨rfl, rfl, rfl⟩ := trodAll_nil h
    exact trodAll_mk0
  | t :: ts, vs, ds, ps, hr, h, hlt => by
    obtain ⟨v, vs', d, ds', p, q, rfl, rfl, rfl, hd, hrest⟩ := trodAll_cons h
    simp only [List.all_cons, Bool.and_eq_true, decide_eq_true_eq] at hr
    exact ⟨p, q, Below.trod laidOut hr.1.1 hr.1.2 hd hb (fun x hx => hlt x (by simp [hx])), trodAll_belowP laidOut hb hr.2 hrest (fun x hx => hlt x (by simp [hx])), rfl⟩
theorem spot_none {W : World} {a : Addr} {v : Value} (h : W.cell? a = some v) : a.spot = none := by
  unfold World.cell? at h
  cases e : a.spot with
  | none => rfl
  | some j =>
    exfalso
    rw [e] at h
    revert h
    split <;> simp
theorem add_none (b o i : Nat) : Addr.add ⟨b, o, none⟩ i = ⟨b, o + i, none⟩ := by unfold Addr.add; split <;> simp_all
theorem open_rows {α : Type} [Inhabited α] (Q : α → List Value → Prop) {H : Type} {enc : TypeId × Value → H} {W : World} {fuel : Nat} {v : Value} {x : DataW H × List MemPlace} {t e : TypeId} {c : Nat} (ht : Tryz.prog.underlying t = some (.slice e)) (hc : Tryz.prog.cellsOf e = c) (hc0 : 0 < c)
    (hel : ∀ (n : Nat) (cs : List Value) (y : DataW H × List MemPlace), DataW.trod enc Tryz.prog W 0 (fun _ => true) true n e cs = some y → (∀ p ∈ y.2, p.block < W.heap.size) → ∃ z : α, Q z cs)
    (h : DataW.trod enc Tryz.prog W 0 (fun _ => true) true fuel t [v] = some x) (hlt : ∀ y ∈ x.2, y.block < W.heap.size) :
    ∃ (ao : Option Addr) (cap : Nat) (l : List α), v = .slice ao l.length cap ∧ l.length ≤ maxLen ∧ ∀ i z, l[i]? = some z → ∃ b off cs, ao = some ⟨b, off, none⟩ ∧ b < W.heap.size ∧ Q z cs ∧ ∀ j, j < c → W.cell? ⟨b, off + i * c + j, none⟩ = cs[j]? := by
  rcases Go.Deep.open_slice ht h with ⟨h2, _⟩ | ⟨a, len, cap, m, n2, D, Pl, h2, _, h3, h4, h5, h6, h7⟩
  · cases h2
    exact ⟨none, 0, [], rfl, Nat.zero_le _, fun i s hs => by simp at hs⟩
  · cases h2
    rw [if_pos rfl] at h5
    subst h5
    rw [hc] at h6 h7
    have hp : ∀ i, i < m → ∀ y ∈ Pl i, y.block < W.heap.size := fun i hi y hy => hlt y (by
      rw [h6]
      exact List.mem_append.2 (.inr (List.mem_flatMap.2 ⟨i, List.mem_range.2 hi, hy⟩)))
    have key : ∀ i, i < m → ∃ z : α × List Value, Q z.1 z.2 ∧ z.2.length = c ∧ ∀ j, j < c → W.cell? ((a.add (i * c)).add j) = z.2[j]? := fun i hi => by
      obtain ⟨cs, g1, g2⟩ := h7 i hi
      obtain ⟨_, hcl, g3⟩ := World.cells?_some g1
      obtain ⟨z, hz⟩ := hel n2 cs (D i, Pl i) g2 (hp i hi)
      exact ⟨(z, cs), hz, hcl, g3⟩
    haveI : Inhabited (α × List Value) := ⟨(default, [])⟩
    obtain ⟨F, hF⟩ := Go.Deep.choose_lt key
    have hlen : ((List.range len).map fun i => (F i).1).length = len := by simp
    refine ⟨some a, m, (List.range len).map fun i => (F i).1, by rw [hlen], by rw [hlen]; omega, fun i s hs => ?_⟩
    have hi : i < len := by have := (List.getElem?_eq_some_iff.1 hs).1; rw [hlen] at this; exact this
    rw [List.getElem?_map, List.getElem?_range hi] at hs
    cases hs
    obtain ⟨hQ, hcl, c0⟩ := hF i (by omega)
    obtain ⟨ab, ao, aq⟩ := a
    have hq : aq = none := by
      obtain ⟨_, g2, g3⟩ := hF 0 (by omega)
      have g4 := g3 0 hc0
      rw [List.getElem?_eq_getElem (by omega)] at g4
      have := spot_none g4
      simpa [Addr.add] using this
    subst hq
    refine ⟨ab, ao, (F i).2, rfl, ?_, hQ, fun j hj => ?_⟩
    · exact hlt (.cell ab ao) (by
        rw [h6]
        exact List.mem_append.2 (.inl (MemPlace.mem_row.2 ⟨0, Nat.mul_pos (by omega) hc0, by simp⟩)))
    · have := c0 j hj
      rwa [add_none, add_none] at this
set_option maxRecDepth 100000 in
theorem open_set {H : Type} {enc : TypeId × Value → H} {W : World} {fuel : Nat} {v : Value} {x : DataW H × List MemPlace} (h : DataW.trod enc Tryz.prog W 0 (fun _ => true) true fuel 98 [v] = some x)
    (hlt : ∀ y ∈ x.2, y.block < W.heap.size) : ∃ es : List (Int × Int), SpansOf W.heap.size v es W := by
  obtain ⟨ao, cap, l, rfl, _, hl⟩ := open_rows (fun (z : Int × Int) cs => cs = [intC z.1, intC z.2]) Tryz.underlying98 (c := 2) (by as_aux_lemma => kernel_rfl) (by omega) (fun n cs y hy _ => by
    obtain ⟨y0, y1, m, _, hl, h0, h1⟩ := trod_struct2 Tryz.underlying111 hy
    have hl : cs.length = 2 := hl.trans (by as_aux_lemma => kernel_rfl)
    have hc : Tryz.prog.cellsOf 3 = 1 := by as_aux_lemma => kernel_rfl
    match cs, hl with
    | [c0, c1], _ =>
      simp only [hc] at h0 h1
      obtain ⟨z0, e0, _⟩ := DataW.trod_int Tryz.underlying3 h0
      obtain ⟨z1, e1, _⟩ := DataW.trod_int Tryz.underlying3 h1
      have e0 : c0 = .int .i64 z0 := (List.cons.inj (show [c0] = [.int .i64 z0] from e0)).1
      have e1 : c1 = .int .i64 z1 := (List.cons.inj (show [c1] = [.int .i64 z1] from e1)).1
      exact ⟨(z0, z1), by rw [e0, e1]⟩) h hlt
  refine ⟨l, ao, cap, rfl, fun i x hx => ?_⟩
  obtain ⟨b, off, cs, rfl, hb, rfl, hj⟩ := hl i x hx
  exact ⟨b, off, rfl, hb, hj 0 (by omega), hj 1 (by omega)⟩
set_option maxRecDepth 100000 in
theorem open_reqs {H : Type} {enc : TypeId × Value → H} {W : World} {fuel : Nat} {v : Value} {x : DataW H × List MemPlace} (h : DataW.trod enc Tryz.prog W 0 (fun _ => true) true fuel 67 [v] = some x)
    (hlt : ∀ y ∈ x.2, y.block < W.heap.size) : ∃ l : List ReqL, ReqsOf W.heap.size v l W ∧ l.length ≤ maxLen := by
  obtain ⟨ao, cap, l, rfl, hm, hl⟩ := open_rows (fun (q : ReqL) cs => ∃ r, cs = [.string q.1, r] ∧ SpansOf W.heap.size r q.2 W) Tryz.underlying67 (c := 2) (by as_aux_lemma => kernel_rfl) (by omega) (fun n cs y hy hp => by
    obtain ⟨y0, y1, m, rfl, hl, h0, h1⟩ := trod_struct2 Tryz.underlying100 hy
    have hl : cs.length = 2 := hl.trans (by as_aux_lemma => kernel_rfl)
    have hc : Tryz.prog.cellsOf 9 = 1 := by as_aux_lemma => kernel_rfl
    have hc2 : Tryz.prog.cellsOf 98 = 1 := by as_aux_lemma => kernel_rfl
    match cs, hl with
    | [c0, c1], _ =>
      simp only [hc, hc2] at h0 h1
      obtain ⟨z0, e0, _⟩ := DataW.trod_string Tryz.underlying9 h0
      obtain ⟨es, hs⟩ := open_set (show DataW.trod enc Tryz.prog W 0 (fun _ => true) true m 98 [c1] = some y1 from h1) (fun y hy => hp y (List.mem_append.2 (.inr hy)))
      have e0 : c0 = .string z0 := (List.cons.inj (show [c0] = [.string z0] from e0)).1
      exact ⟨(z0, es), c1, by rw [e0], hs⟩) h hlt
  refine ⟨l, ⟨ao, cap, rfl, fun i x hx => ?_⟩, hm⟩
  obtain ⟨b, off, cs, rfl, hb, ⟨r, rfl, hs⟩, hj⟩ := hl i x hx
  exact ⟨b, off, r, rfl, hb, hj 0 (by omega), hj 1 (by omega), hs⟩
theorem intOk_of {z : Int} (h : (Lit.int .i64 z).wf = true) : IntOk z := by
  unfold IntOk
  simp [Lit.wf, IntKind.min, IntKind.max, IntKind.signed, IntKind.bits] at h
  omega
set_option maxRecDepth 100000 in
theorem ver_cells {H : Type} {enc : TypeId × Value → H} {W : World} {sp : Nat → Bool} {n : Nat} {cs : List Value} {x : DataW H × List MemPlace} (h : DataW.trod enc Tryz.prog W 0 sp true n 51 cs = some x) :
    ∃ a b c : Int, cs = [.int .i64 a, .int .i64 b, .int .i64 c] ∧ IntOk a ∧ IntOk b ∧ IntOk c := by
  obtain ⟨y0, y1, y2, m, _, hl, h0, h1, h2⟩ := Go.Deep.trod_struct3 Tryz.underlying51 h
  have hl : cs.length = 3 := hl.trans (by as_aux_lemma => kernel_rfl)
  have hc : Tryz.prog.cellsOf 3 = 1 := by as_aux_lemma => kernel_rfl
  match cs, hl with
  | [c0, c1, c2], _ =>
    simp only [hc] at h0 h1 h2
    obtain ⟨z0, e0, _, w0⟩ := DataW.trod_int Tryz.underlying3 h0
    obtain ⟨z1, e1, _, w1⟩ := DataW.trod_int Tryz.underlying3 h1
    obtain ⟨z2, e2, _, w2⟩ := DataW.trod_int Tryz.underlying3 h2
    have e0 : c0 = .int .i64 z0 := (List.cons.inj (show [c0] = [.int .i64 z0] from e0)).1
    have e1 : c1 = .int .i64 z1 := (List.cons.inj (show [c1] = [.int .i64 z1] from e1)).1
    have e2 : c2 = .int .i64 z2 := (List.cons.inj (show [c2] = [.int .i64 z2] from e2)).1
    exact ⟨z0, z1, z2, by rw [e0, e1, e2], intOk_of w0, intOk_of w1, intOk_of w2⟩
set_option maxRecDepth 100000 in
theorem sel_cells {H : Type} {enc : TypeId × Value → H} {W : World} {sp : Nat → Bool} {n : Nat} {cs : List Value} {x : DataW H × List MemPlace} (h : DataW.trod enc Tryz.prog W 0 sp true n 53 cs = some x) :
    ∃ y : SelL, cs = selC y ∧ SelBd y := by
  obtain ⟨y0, y1, m, _, hl, h0, h1⟩ := trod_struct2 Tryz.underlying53 h
  have hl : cs.length = 4 := hl.trans (by as_aux_lemma => kernel_rfl)
  have hc : Tryz.prog.cellsOf 9 = 1 := by as_aux_lemma => kernel_rfl
  have hc2 : Tryz.prog.cellsOf 51 = 3 := by as_aux_lemma => kernel_rfl
  match cs, hl with
  | [c0, c1, c2, c3], _ =>
    simp only [hc, hc2] at h0 h1
    obtain ⟨z0, e0, _, w0⟩ := DataW.trod_string Tryz.underlying9 h0
    obtain ⟨a, b, c, e1, w1, w2, w3⟩ := ver_cells (show DataW.trod enc Tryz.prog W 0 sp true m 51 [c1, c2, c3] = some y1 from h1)
    have e0 : c0 = .string z0 := (List.cons.inj (show [c0] = [.string z0] from e0)).1
    injection e1 with e1 e2
    injection e2 with e2 e3
    injection e3 with e3 _
    exact ⟨(z0, (a, b, c)), by rw [e0, e1, e2, e3]; rfl, ⟨w0, w1, w2, w3⟩⟩
set_option maxRecDepth 100000 in
theorem open_sels {H : Type} {enc : TypeId × Value → H} {W : World} {fuel : Nat} {v : Value} {x : DataW H × List MemPlace} (h : DataW.trod enc Tryz.prog W 0 (fun _ => true) true fuel 26 [v] = some x)
    (hlt : ∀ y ∈ x.2, y.block < W.heap.size) : ∃ l : List SelL, SelsOf W.heap.size v l W ∧ l.length ≤ maxLen ∧ ∀ y ∈ l, SelBd y := by
  obtain ⟨ao, cap, l, rfl, hm, hl⟩ := open_rows (fun (q : SelL) cs => cs = selC q ∧ SelBd q) Tryz.underlying26 (c := 4) (by as_aux_lemma => kernel_rfl) (by omega) (fun n cs y hy hp => sel_cells hy) h hlt
  refine ⟨l, ⟨ao, cap, rfl, fun i x hx => ?_⟩, hm, fun y hy => ?_⟩
  · obtain ⟨b, off, cs, rfl, hb, ⟨rfl, hs⟩, hj⟩ := hl i x hx
    exact ⟨b, off, rfl, hb, hj 0 (by omega), hj 1 (by omega), hj 2 (by omega), hj 3 (by omega)⟩
  · obtain ⟨i, hi, rfl⟩ := List.mem_iff_getElem.1 hy
    obtain ⟨b, off, cs, _, _, ⟨_, hs⟩, _⟩ := hl i l[i] (List.getElem?_eq_getElem hi)
    exact hs
theorem trod_struct7 {P : Program} {H : Type} {enc : TypeId × Value → H} {w : World} {base : Nat} {spare : Nat → Bool} {held : Bool} {t : TypeId} {f0 f1 f2 f3 f4 f5 f6 : Field} {fuel : Nat} {cs : List Value} {x : DataW H × List MemPlace} (ht : P.underlying t = some (.struct #[f0, f1, f2, f3, f4, f5, f6])) (h : DataW.trod enc P w base spare held fuel t cs = some x) :
    ∃ y0 y1 y2 y3 y4 y5 y6 n, x = (.agg [y0.1, y1.1, y2.1, y3.1, y4.1, y5.1, y6.1], y0.2 ++ (y1.2 ++ (y2.2 ++ (y3.2 ++ (y4.2 ++ (y5.2 ++ y6.2)))))) ∧ cs.length = P.cellsOf t ∧ DataW.trod enc P w base spare held n f0.type ((cs.drop f0.offset).take (P.cellsOf f0.type)) = some y0 ∧ DataW.trod enc P w base spare held n f1.type ((cs.drop f1.offset).take (P.cellsOf f1.type)) = some y1 ∧ DataW.trod enc P w base spare held n f2.type ((cs.drop f2.offset).take (P.cellsOf f2.type)) = some y2 ∧ DataW.trod enc P w base spare held n f3.type ((cs.drop f3.offset).take (P.cellsOf f3.type)) = some y3 ∧ DataW.trod enc P w base spare held n f4.type ((cs.drop f4.offset).take (P.cellsOf f4.type)) = some y4 ∧ DataW.trod enc P w base spare held n f5.type ((cs.drop f5.offset).take (P.cellsOf f5.type)) = some y5 ∧ DataW.trod enc P w base spare held n f6.type ((cs.drop f6.offset).take (P.cellsOf f6.type)) = some y6 := by
  obtain ⟨xs, n, _, rfl, hl, hlen, hf⟩ := DataW.trod_struct ht h
  match xs, hlen with
  | [y0, y1, y2, y3, y4, y5, y6], _ => exact ⟨y0, y1, y2, y3, y4, y5, y6, n, by simp, hl, by simpa using hf 0 f0 rfl, by simpa using hf 1 f1 rfl, by simpa using hf 2 f2 rfl, by simpa using hf 3 f3 rfl, by simpa using hf 4 f4 rfl, by simpa using hf 5 f5 rfl, by simpa using hf 6 f6 rfl⟩
set_option maxRecDepth 100000 in
theorem rel_cells {H : Type} {enc : TypeId × Value → H} {W : World} {n : Nat} {cs : List Value} {x : DataW H × List MemPlace} (h : DataW.trod enc Tryz.prog W 0 (fun _ => true) true n 69 cs = some x) (hp : ∀ y ∈ x.2, y.block < W.heap.size) :
    ∃ (z : RelL) (r : Value), cs = (relC z r).toList ∧ ReqsOf W.heap.size r z.reqs W ∧ z.reqs.length ≤ maxLen := by
  obtain ⟨y0, y1, y2, y3, y4, y5, y6, m, rfl, hl, h0, h1, h2, h3, h4, h5, h6⟩ := trod_struct7 Tryz.underlying69 h
  have hl : cs.length = 9 := hl.trans (by as_aux_lemma => kernel_rfl)
  have hc : Tryz.prog.cellsOf 9 = 1 := by as_aux_lemma => kernel_rfl
  have hc2 : Tryz.prog.cellsOf 51 = 3 := by as_aux_lemma => kernel_rfl
  have hc3 : Tryz.prog.cellsOf 67 = 1 := by as_aux_lemma => kernel_rfl
  have hc4 : Tryz.prog.cellsOf 4 = 1 := by as_aux_lemma => kernel_rfl
  match cs, hl with
  | [c0, c1, c2, c3, c4, c5, c6, c7, c8], _ =>
    simp only [hc, hc2, hc3, hc4] at h0 h1 h2 h3 h4 h5 h6
    obtain ⟨z0, e0, _⟩ := DataW.trod_string Tryz.underlying9 h0
    obtain ⟨a, b, c, e1, _⟩ := ver_cells (show DataW.trod enc Tryz.prog W 0 (fun _ => true) true m 51 [c1, c2, c3] = some y1 from h1)
    obtain ⟨l, hr, hll⟩ := open_reqs (show DataW.trod enc Tryz.prog W 0 (fun _ => true) true m 67 [c4] = some y2 from h2) (fun y hy => hp y (by simp [hy]))
    obtain ⟨z3, e3, _⟩ := DataW.trod_string Tryz.underlying9 h3
    obtain ⟨z4, e4, _⟩ := DataW.trod_string Tryz.underlying9 h4
    obtain ⟨z5, e5, _⟩ := DataW.trod_string Tryz.underlying9 h5
    obtain ⟨z6, e6, _⟩ := DataW.trod_bool Tryz.underlying4 h6
    have e0 : c0 = .string z0 := (List.cons.inj (show [c0] = [.string z0] from e0)).1
    have e3 : c5 = .string z3 := (List.cons.inj (show [c5] = [.string z3] from e3)).1
    have e4 : c6 = .string z4 := (List.cons.inj (show [c6] = [.string z4] from e4)).1
    have e5 : c7 = .string z5 := (List.cons.inj (show [c7] = [.string z5] from e5)).1
    have e6 : c8 = .bool z6 := (List.cons.inj (show [c8] = [.bool z6] from e6)).1
    injection e1 with e1 e2
    injection e2 with e2 e7
    injection e7 with e7 _
    exact ⟨⟨z0, (a, b, c), l, z3, z4, z5, z6⟩, c4, by rw [e0, e1, e2, e7, e3, e4, e5, e6]; rfl, hr, hll⟩
set_option maxRecDepth 100000 in
theorem open_rels {H : Type} {enc : TypeId × Value → H} {W : World} {fuel : Nat} {v : Value} {x : DataW H × List MemPlace} (h : DataW.trod enc Tryz.prog W 0 (fun _ => true) true fuel 22 [v] = some x)
    (hlt : ∀ y ∈ x.2, y.block < W.heap.size) : ∃ X : List RelL, RelsOf W.heap.size v X W ∧ X.length ≤ maxLen ∧ ∀ x ∈ X, x.reqs.length ≤ maxLen := by
  obtain ⟨ao, cap, l, rfl, hm, hl⟩ := open_rows (fun (z : RelL) cs => ∃ r, cs = (relC z r).toList ∧ ReqsOf W.heap.size r z.reqs W ∧ z.reqs.length ≤ maxLen) Tryz.underlying22 (c := 9) (by as_aux_lemma => kernel_rfl) (by omega) (fun n cs y hy hp => rel_cells hy hp) h hlt
  refine ⟨l, ⟨ao, cap, rfl, fun i x hx => ?_⟩, hm, fun y hy => ?_⟩
  · obtain ⟨b, off, cs, rfl, hb, ⟨r, rfl, hs, _⟩, hj⟩ := hl i x hx
    exact ⟨b, off, rfl, hb, r, hj 0 (by omega), hj 1 (by omega), hj 2 (by omega), hj 3 (by omega), hj 4 (by omega), hj 5 (by omega), hj 6 (by omega), hj 7 (by omega), hj 8 (by omega), hs⟩
  · obtain ⟨i, hi, rfl⟩ := List.mem_iff_getElem.1 hy
    obtain ⟨b, off, cs, _, _, ⟨_, _, _, hs⟩, _⟩ := hl i l[i] (List.getElem?_eq_getElem hi)
    exact hs
set_option maxRecDepth 100000 in
theorem open_index {H : Type} {enc : TypeId × Value → H} {W : World} {r : Reach} {b0 : Nat} {v : Value} {d : DataW H} {p : List MemPlace} (hv : Value.okWide Tryz.prog W r b0 25 v) (h : DataW.Trod enc Tryz.prog W 0 (fun _ => true) true 25 v d p)
    (hlt : ∀ y ∈ p, y.block < W.heap.size) : ∃ (a : Option Addr) (c : Nat) (iv : Value) (X : List RelL), v = .agg #[.slice a X.length c, iv] ∧ RelsOf W.heap.size (.slice a X.length c) X W ∧ X.length ≤ maxLen ∧ ∀ x ∈ X, x.reqs.length ≤ maxLen := by
  obtain ⟨v0, v1, y0, y1, n, rfl, _, rfl, h0, h1⟩ := Go.Joins.open_agg2 Tryz.underlying25 (by as_aux_lemma => kernel_rfl) (by as_aux_lemma => kernel_rfl) hv h
  obtain ⟨X, hR, h2, h3⟩ := open_rels h0 (fun y hy => hlt y (List.mem_append.2 (.inl hy)))
  obtain ⟨a, c, rfl, h4⟩ := hR
  exact ⟨a, c, v1, X, rfl, ⟨a, c, rfl, h4⟩, h2, h3⟩
end Go.Proofs.YtnjiibiafhnmgaaGreatDoor
