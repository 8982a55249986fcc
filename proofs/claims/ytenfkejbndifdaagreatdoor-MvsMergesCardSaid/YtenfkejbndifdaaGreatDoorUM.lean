/- The index's table.selected. Contracts of the reference's part, Valid and Compare. Contracts of the constraint's Place and At, and of the reference's. -/
import Derived.Test.YtenfkejbndifdaaGreatDoorUL
import Derived.Test.YtenfkejbndifdaaGreatDoorUA
import Derived.Test.YtenfkejbndifdaaGreatDoorUF
import Derived.Test.YtenfkejbndifdaaGreatDoorUC
import Derived.Test.YtenfkejbndifdaaGreatDoorUJ
import Derived.Test.YtenfkejbndifdaaGreatDoorUH
import Derived.Test.YtenfkejbndifdaaGreatDoorUE
import Derived.Test.YtenfkejbndifdaaGreatDoorUD
namespace Go.Proofs.YtenfkejbndifdaaGreatDoor
set_option linter.unusedVariables false
set_option linter.unusedSimpArgs false
open Go Go.RowKit Go.Maps

def relXs (l : List RelL) (rs : List Value) : List Value := (l.zip rs).flatMap fun p => (relC p.1 p.2).toList
def pickK (X : List RelL) (s : List SelL) (k : Nat) : List RelL := (s.take k).map fun y => (findX X y).getD default
def SelectR (w : World) (B : Nat) (X : List RelL) (s : List SelL) (e : Ending) (w' : World) : Prop :=
  Below w.heap.size w w' ∧ ((¬ incrS s ∧ e = .returned (.tuple #[.slice none 0 0, .int .i64 1])) ∨
    (incrS s ∧ (∃ y ∈ s, findX X y = none) ∧ e = .returned (.tuple #[.slice none 0 0, .int .i64 6])) ∨
    (incrS s ∧ (∀ y ∈ s, (findX X y).isSome = true) ∧ ∃ v rs, e = .returned (.tuple #[v, .int .i64 0]) ∧ rs.length = s.length ∧ w'.ownsRow w.heap.size 71 9 v s.length (relXs (pickK X s s.length) rs) ∧
      ∀ i, i < s.length → ReqsOf B (rs.getD i undef) ((pickK X s s.length).getD i default).reqs w'))
end Go.Proofs.YtenfkejbndifdaaGreatDoor

namespace Go.Proofs.YtenfkejbndifdaaGreatDoor
open Go Go.RowKit

theorem rpart_any (n : Int) (w : World) : Calls Tryz.prog 181 #[.int .i64 n] w fun e w' => e = .returned (.bool (partB n)) ∧ w = w' := by
  cases h : partB n with
  | true =>
    obtain ⟨h1, h2⟩ := part_yes h
    clear h
    go_enter Tryz.func181, Tryz.ntmps181
    go_wp2
    go_ret
    exact ⟨rfl, rfl⟩
  | false =>
    rcases (show n < 0 ∨ (0 ≤ n ∧ ¬ n ≤ 999) by have := part_no h; omega) with h1 | ⟨h1, h2⟩
    all_goals
      clear h
      go_enter Tryz.func181, Tryz.ntmps181
      go_wp2
      go_ret
      exact ⟨rfl, rfl⟩
theorem rValid_any (a b c : Int) (w : World) : Calls Tryz.prog 149 #[.agg #[.int .i64 a, .int .i64 b, .int .i64 c]] w fun e w' => e = .returned (.bool (validB a b c)) ∧ w' = w.alloc (.cells #[.int .i64 a, .int .i64 b, .int .i64 c] 41) := by
  have HE : Hid (validB a b c = (partB a && (partB b && partB c))) := Lib.hid rfl
  obtain ⟨v, hv⟩ : ∃ v, validB a b c = v := ⟨_, rfl⟩
  rw [hv] at HE ⊢
  clear hv
  cases h1 : partB a with
  | false =>
    have HV := Lib.hid (show v = false by rw [HE.out, h1]; rfl)
    go_enter Tryz.func149, Tryz.ntmps149
    go_wp2_with (go_at_call 181; refine (rpart_any _ _).mono ?_; rintro e w' ⟨rfl, rfl⟩)
    go_ret
    exact ⟨by rw [HV.out]; rfl, rfl⟩
  | true =>
    cases h2 : partB b with
    | false =>
      have HV := Lib.hid (show v = false by rw [HE.out, h1, h2]; rfl)
      go_enter Tryz.func149, Tryz.ntmps149
      go_wp2_with (go_at_call 181; refine (rpart_any _ _).mono ?_; rintro e w' ⟨rfl, rfl⟩)
      go_ret
      exact ⟨by rw [HV.out]; rfl, rfl⟩
    | true =>
      cases h3 : partB c with
      | false =>
        have HV := Lib.hid (show v = false by rw [HE.out, h1, h2, h3]; rfl)
        go_enter Tryz.func149, Tryz.ntmps149
        go_wp2_with (go_at_call 181; refine (rpart_any _ _).mono ?_; rintro e w' ⟨rfl, rfl⟩)
        go_ret
        exact ⟨by rw [HV.out]; rfl, rfl⟩
      | true =>
        have HV := Lib.hid (show v = true by rw [HE.out, h1, h2, h3]; rfl)
        go_enter Tryz.func149, Tryz.ntmps149
        go_wp2_with (go_at_call 181; refine (rpart_any _ _).mono ?_; rintro e w' ⟨rfl, rfl⟩)
        go_ret
        exact ⟨by rw [HV.out]; rfl, rfl⟩
end Go.Proofs.YtenfkejbndifdaaGreatDoor

namespace Go.Proofs.YtenfkejbndifdaaGreatDoor
set_option linter.unusedVariables false
set_option linter.unusedSimpArgs false
open Go Go.RowKit

def placeV (a b c : Int) : Int × Int := if validB a b c = true then (1000 * b + c, 0) else (0, 2)
def atV (m p : Int) : (Int × Int × Int) × Int := if partB m = true ∧ 0 ≤ p ∧ p < 1000000 then ((m, p / 1000, p % 1000), 0) else ((0, 0, 0), 2)
set_option maxRecDepth 100000 in
theorem Place_any (a b c : Int) (w : World) : Calls Tryz.prog 40 #[.agg #[.int .i64 a, .int .i64 b, .int .i64 c]] w fun e w' => e = .returned (.tuple #[.int .i64 (placeV a b c).1, .int .i64 (placeV a b c).2]) ∧ Below w.heap.size w w' := by
  by_cases hv : validB a b c = true
  · have HE := Lib.hid (show placeV a b c = (1000 * b + c, 0) by unfold placeV; rw [if_pos hv])
    rw [HE.out]
    obtain ⟨⟨a0, a1⟩, ⟨b0, b1⟩, c0, c1⟩ := valid_le hv
    go_enter Tryz.func40, Tryz.ntmps40
    go_wp2_with (go_at_call 95; refine (Valid_any _ _ _ _).mono ?_; rintro e w' ⟨rfl, rfl⟩)
    go_ret2
    exact ⟨rfl, (by repeat (first | exact Below.refl _ _ | refine Below.drew ?_ | refine Below.alloc ?_ (by simp <;> omega) _ | refine Below.setCell ?_ (by simp <;> omega) _))⟩
  · have hv : validB a b c = false := by simpa using hv
    have HE := Lib.hid (show placeV a b c = (0, 2) by unfold placeV; rw [hv]; rfl)
    rw [HE.out]
    go_enter Tryz.func40, Tryz.ntmps40
    go_wp2_with (go_at_call 95; refine (Valid_any _ _ _ _).mono ?_; rintro e w' ⟨rfl, rfl⟩)
    go_ret2
    exact ⟨rfl, (by repeat (first | exact Below.refl _ _ | refine Below.drew ?_ | refine Below.alloc ?_ (by simp <;> omega) _ | refine Below.setCell ?_ (by simp <;> omega) _))⟩
end Go.Proofs.YtenfkejbndifdaaGreatDoor

namespace Go.Proofs.YtenfkejbndifdaaGreatDoor
set_option linter.unusedVariables false
set_option linter.unusedSimpArgs false
open Go Go.RowKit

def inB (p : Int) (x : Int × Int) : Bool := decide (x.1 ≤ p) && decide (p < x.2)
end Go.Proofs.YtenfkejbndifdaaGreatDoor

namespace Go.Proofs.YtenfkejbndifdaaGreatDoor
set_option linter.unusedVariables false
set_option linter.unusedSimpArgs false
open Go Go.RowKit Go.Maps

def SelF (G : RelL → Value → Prop) (s : List SelL) (f : Lit → Option Value) : Prop :=
  ∀ p : ByteArray, (∃ x r, keyL x ∈ s ∧ x.path = p ∧ G x r ∧ f (.string p.data.toList) = some (.agg (relC x r))) ∨ (f (.string p.data.toList) = none ∧ ∀ y ∈ s, y.1 ≠ p)
end Go.Proofs.YtenfkejbndifdaaGreatDoor

namespace Go.Proofs.YtenfkejbndifdaaGreatDoor
set_option linter.unusedVariables false
set_option linter.unusedSimpArgs false
open Go Go.RowKit

def ReqsBd (l : List ReqL) : Prop := ∀ q ∈ l, q.1.size ≤ 1000000 ∧ q.2.length ≤ 1000000
def upAll (l : List ReqL) : Bool := l.all fun q => upB (canon q.2)
theorem upAll_iff {l : List ReqL} : upAll l = true ↔ ∀ q ∈ l, upB (canon q.2) = true := List.all_eq_true
theorem any_up (l : List ReqL) : (l.any fun q => !upB (canon q.2)) = !upAll l := by
  unfold upAll
  rw [List.all_eq_not_any_not, Bool.not_not]
set_option maxRecDepth 100000 in
theorem mupward1_any (q : ReqL) (r : Value) (W : World) (hl : q.2.length ≤ 1000000000) (hS : SpansOf W.heap.size r q.2 W) :
    Calls Tryz.prog 118 #[.agg #[.string q.1, r]] W fun e w' => e = .returned (.bool (!upB (canon q.2))) ∧ Below W.heap.size W w' := by
  have HU := Lib.hid (fun W' (hb : Below W.heap.size W W') => Upward_any r q.2 W' hl ((hS.below hb (Nat.le_refl _)).mono hb.size))
  obtain ⟨a, c, rfl, _⟩ := hS
  have HB1 : Hid (Below W.heap.size W (W.alloc (.cells #[.string q.1, .slice a q.2.length c] 58))) := Lib.hid (belQ _ _)
  go_enter Tryz.func118, Tryz.ntmps118
  go_wp2_with fail
  refine (HU.out _ HB1.out).mono ?_
  rintro e w1 ⟨rfl, hb1⟩
  have HB2 := Lib.hid (HB1.out.trans (hb1.mono HB1.out.size))
  clear hb1
  go_wp2_with fail
  go_ret
  exact ⟨rfl, HB2.out⟩
set_option maxRecDepth 100000 in
theorem mupward_any (v : Value) (l : List ReqL) (w : World) (hl : l.length ≤ 1000000000) (hq : ReqsBd l) (hR : ReqsOf w.heap.size v l w) :
    Calls Tryz.prog 73 #[v] w fun e w' => e = .returned (.bool (upAll l)) ∧ Below w.heap.size w w' := by
  have HP : Hid (PredQ 118 #[] l (fun q => !upB (canon q.2)) w) := Lib.hid (fun W x r hx hb hS => (mupward1_any x r W (by have := (hq x hx).2; omega) hS).mono fun e w' h => ⟨h.1, hb.trans (h.2.mono hb.size)⟩)
  have HC := Lib.hid (has_req 118 _ (enters_of Tryz.func118 (by kernel_rfl) rfl) _ v l w hl hR HP.out)
  rw [any_up] at HC
  obtain ⟨b, hb⟩ : ∃ b, upAll l = b := ⟨_, rfl⟩
  rw [hb] at HC ⊢
  clear hb hq hR
  go_enter Tryz.func73, Tryz.ntmps73
  go_wp2_with fail
  refine HC.out.mono ?_
  rintro e w1 ⟨rfl, hb1⟩
  have HB1 := Lib.hid hb1
  clear hb1 HC HP
  go_wp2_with fail
  go_ret
  exact ⟨rfl, HB1.out⟩
set_option maxRecDepth 100000 in
theorem mplain1_any (x : RelL) (r : Value) (W : World) (hb : RelBd x) (hR : ReqsOf W.heap.size r x.reqs W) :
    Calls Tryz.prog 75 #[.agg (relC x r)] W fun e w' => e = .returned (.bool (!upAll x.reqs)) ∧ Below W.heap.size W w' := by
  have HU := Lib.hid (fun W' (hb' : Below W.heap.size W W') => mupward_any r x.reqs W' (by have := hb.len; omega) hb.reqs ((hR.below hb' (Nat.le_refl _)).mono hb'.size))
  obtain ⟨a, c, rfl, _⟩ := hR
  have HB1 : Hid (Below W.heap.size W (W.alloc (.cells (relC x (.slice a x.reqs.length c)) 71))) := Lib.hid (belQ _ _)
  simp only [relC] at HB1 ⊢
  clear hb
  go_enter Tryz.func75, Tryz.ntmps75
  go_wp2_with fail
  refine (HU.out _ HB1.out).mono ?_
  rintro e w1 ⟨rfl, hb1⟩
  have HB2 := Lib.hid (HB1.out.trans (hb1.mono HB1.out.size))
  clear hb1
  go_wp2_with fail
  go_ret
  exact ⟨rfl, HB2.out⟩
theorem mplain1_pred (X : List RelL) (w : World) (hq : ∀ x ∈ X, RelBd x) : PredR 75 #[] X (fun x => !upAll x.reqs) w := by
  intro W2 x r hx hb2 hS
  have h := mplain1_any x r W2 (hq x hx) hS
  refine h.mono ?_
  rintro e w' ⟨h1, h2⟩
  exact ⟨h1, hb2.trans (h2.mono hb2.size)⟩
def PlainR (w : World) (X : List RelL) (roots : List ReqL) (e : Ending) (w' : World) : Prop := Below w.heap.size w w' ∧ ∃ b : Bool, e = .returned (.bool b) ∧ (b = true ↔ PlainP X roots)
theorem PlainR.mk {w w' : World} {X : List RelL} {roots : List ReqL} {b : Bool} (hb : Below w.heap.size w w') (h : b = true ↔ PlainP X roots) : PlainR w X roots (.returned (.bool b)) w' := ⟨hb, b, rfl, h⟩
theorem PlainR.no {w w' : World} {X : List RelL} {roots : List ReqL} (hb : Below w.heap.size w w') (h : ¬ PlainP X roots) : PlainR w X roots (.returned (.bool false)) w' := ⟨hb, false, rfl, (fun h => by cases h), fun h2 => absurd h2 h⟩
theorem own_up {X : List RelL} : (X.any fun x => !upAll x.reqs) = false ↔ ∀ i, i < X.length → ∀ q ∈ (X.getD i default).reqs, upB (canon q.2) = true := by
  rw [List.any_eq_false]
  constructor
  · intro h i hi q hq
    have h1 := h _ (List.getElem_mem hi)
    rw [List.getD_eq_getElem?_getD, List.getElem?_eq_getElem hi] at hq
    simp only [Bool.not_eq_true', Bool.not_eq_false] at h1
    exact upAll_iff.1 h1 q hq
  · intro h x hx
    obtain ⟨i, hi, rfl⟩ := List.mem_iff_getElem.1 hx
    have h1 := h i hi
    rw [List.getD_eq_getElem?_getD, List.getElem?_eq_getElem hi] at h1
    simp only [Bool.not_eq_true', Bool.not_eq_false]
    exact upAll_iff.2 h1
set_option maxRecDepth 100000 in
set_option maxHeartbeats 4000000 in
theorem MPlain_any (v iv rov : Value) (X : List RelL) (roots : List ReqL) (w : World) (hm : MaxOk w) (hX : X.length ≤ 1000000) (hq : ∀ x ∈ X, RelBd x) (hR : RelsOf w.heap.size v X w)
    (hro : roots.length ≤ 1000000) (hrq : ReqsBd roots) (hRo : ReqsOf w.heap.size rov roots w) :
    Calls Tryz.prog 22 #[.agg #[v, iv], rov] w (PlainR w X roots) := by
  have HC := Lib.hid (fun W (hb : Below w.heap.size w W) => IdxCheck_any v iv X W (hm.below hb hm.pos) hX hq ((hR.below hb (Nat.le_refl _)).mono hb.size))
  have HQ := Lib.hid (fun W (hb : Below w.heap.size w W) => CheckReqs_any rov roots W (hm.below hb hm.pos) (by omega) (fun q hq2 => ⟨(hrq q hq2).1, by have := (hrq q hq2).2; omega⟩) ((hRo.below hb (Nat.le_refl _)).mono hb.size))
  have HU := Lib.hid (fun W (hb : Below w.heap.size w W) => mupward_any rov roots W (by omega) hrq ((hRo.below hb (Nat.le_refl _)).mono hb.size))
  have HA := Lib.hid (fun W (hb : Below w.heap.size w W) => has_rel 75 #[] (enters_of Tryz.func75 (by kernel_rfl) rfl) (fun x => !upAll x.reqs) v X W (by omega) ((hR.below hb (Nat.le_refl _)).mono hb.size) (mplain1_pred X W hq))
  obtain ⟨va, vn, vc, rfl⟩ : ∃ a n c, v = .slice a n c := by obtain ⟨a, c, _, e, _⟩ := hR.rv; exact ⟨_, _, _, e⟩
  obtain ⟨ra, rc, rfl⟩ : ∃ ra rc, rov = .slice ra roots.length rc := by obtain ⟨a, c, e, _⟩ := hRo; exact ⟨a, c, e⟩
  clear hm hR hRo hrq hq
  obtain ⟨e1, he1⟩ : ∃ e1, checkX X = e1 := ⟨_, rfl⟩
  obtain ⟨e2, he2⟩ : ∃ e2, checkReqs roots = e2 := ⟨_, rfl⟩
  obtain ⟨b3, hb3⟩ : ∃ b3, upAll roots = b3 := ⟨_, rfl⟩
  obtain ⟨b4, hb4⟩ : ∃ b4, (X.any fun x => !upAll x.reqs) = b4 := ⟨_, rfl⟩
  rw [he1] at HC
  rw [he2] at HQ
  rw [hb3] at HU
  rw [hb4] at HA
  have HE1 := Lib.hid he1
  have HE2 := Lib.hid he2
  have HE3 := Lib.hid hb3
  have HE4 := Lib.hid hb4
  clear he1 he2 hb3 hb4
  have HB0 : Hid (Below w.heap.size w (w.alloc (.cells #[.slice va vn vc, iv] 25))) := Lib.hid (belQ _ _)
  have HI0 : Hid ((w.alloc (.cells #[.slice va vn vc, iv] 25)).heap[w.heap.size]? = some (.cells #[.slice va vn vc, iv] 25 (0, 0))) := Lib.hid (World.alloc_heap_new w _)
  have hw0 : w.heap.size < (w.alloc (.cells #[.slice va vn vc, iv] 25)).heap.size := by simp
  go_enter Tryz.func22, Tryz.ntmps22
  go_upto_region 1 with fail
  generalize w.alloc (.cells #[.slice va vn vc, iv] 25) = W at *
  have HT := Lib.hid (fun W' (h : Below W.heap.size W W') => HB0.out.trans (h.mono HB0.out.size))
  have HI := Lib.hid (fun W' (h : Below W.heap.size W W') => (h.block w.heap.size hw0).trans HI0.out)
  have c0 : W.cell? ⟨w.heap.size, 0, none⟩ = some (.slice va vn vc) := cell_of_row _ _ 0 _ _ _ HI0.out
  have c1 : W.cell? ⟨w.heap.size, 1, none⟩ = some iv := cell_of_row _ _ 1 _ _ _ HI0.out
  go_wp2_with fail
  refine (HC.out _ HB0.out).mono ?_
  rintro e w1 ⟨rfl, hb1⟩
  have HB1 := Lib.hid hb1
  clear hb1 c0 c1
  by_cases h1 : e1 = 0
  case neg =>
    have h1b : (e1 != 0) = true := by simpa using h1
    go_wp2_with fail
    go_ret
    exact PlainR.no (HT.out _ HB1.out) (fun h => h1 (HE1.out.symm.trans h.idx))
  subst h1
  go_wp2_with fail
  refine (HQ.out _ (HT.out _ HB1.out)).mono ?_
  rintro e w2 ⟨rfl, hb2⟩
  have HB2 := Lib.hid (HB1.out.trans (hb2.mono HB1.out.size))
  clear hb2
  by_cases h2 : e2 = 0
  case neg =>
    have h2b : (e2 != 0) = true := by simpa using h2
    go_wp2_with fail
    go_ret
    exact PlainR.no (HT.out _ HB2.out) (fun h => h2 (HE2.out.symm.trans h.roots.1))
  subst h2
  go_wp2_with fail
  refine (HU.out _ (HT.out _ HB2.out)).mono ?_
  rintro e w3 ⟨rfl, hb3⟩
  have HB3 := Lib.hid (HB2.out.trans (hb3.mono HB2.out.size))
  clear hb3
  cases b3 with
  | false =>
    go_wp2_with fail
    go_ret
    exact PlainR.no (HT.out _ HB3.out) (fun h => by have := upAll_iff.2 h.roots.2; rw [HE3.out] at this; cases this)
  | true =>
    have c0 : w3.cell? ⟨w.heap.size, 0, none⟩ = some (.slice va vn vc) := cell_of_row _ _ 0 _ _ _ (HI.out _ HB3.out)
    go_wp2_with fail
    refine (HA.out _ (HT.out _ HB3.out)).mono ?_
    rintro e w4 ⟨rfl, hb4⟩
    have HB4 := Lib.hid (HB3.out.trans (hb4.mono HB3.out.size))
    clear hb4
    go_wp2_with fail
    go_ret
    refine PlainR.mk (HT.out _ HB4.out) ?_
    have HE5 := HE4.out
    cases b4 with
    | false => exact ⟨fun _ => ⟨HE1.out, ⟨HE2.out, upAll_iff.1 HE3.out⟩, own_up.1 HE5⟩, fun _ => rfl⟩
    | true => exact ⟨(fun h => by cases h), fun h => by have := own_up.2 h.own; rw [HE5] at this; cases this⟩
set_option maxRecDepth 100000 in
theorem mplace_any (x : RelL) (r : Value) (w : World) (hr : ∃ a n c, r = .slice a n c) (hv : validB x.ver.1 x.ver.2.1 x.ver.2.2 = true) :
    Calls Tryz.prog 84 #[.agg (relC x r)] w fun e w' => e = .returned (.int .i64 (plc x.ver)) ∧ Below w.heap.size w w' := by
  obtain ⟨a, n, c, rfl⟩ := hr
  have HP := Lib.hid (fun W => Place_any x.ver.1 x.ver.2.1 x.ver.2.2 W)
  rw [show placeV x.ver.1 x.ver.2.1 x.ver.2.2 = (plc x.ver, 0) by unfold placeV plc; rw [if_pos hv]] at HP
  have HB1 : Hid (Below w.heap.size w (w.alloc (.cells (relC x (.slice a n c)) 71))) := Lib.hid (belQ _ _)
  obtain ⟨p, hp⟩ : ∃ p, plc x.ver = p := ⟨_, rfl⟩
  rw [hp] at HP ⊢
  simp only [relC] at HB1 ⊢
  clear hv hp
  go_enter Tryz.func84, Tryz.ntmps84
  go_wp2_with fail
  refine (HP.out _).mono ?_
  rintro e w1 ⟨rfl, hb1⟩
  have HB2 := Lib.hid (HB1.out.trans (hb1.mono HB1.out.size))
  clear hb1
  go_wp2_with fail
  go_ret
  exact ⟨rfl, HB2.out⟩
set_option maxRecDepth 100000 in
theorem mselected_any (x : RelL) (r : Value) (w : World) : Calls Tryz.prog 58 #[.agg (relC x r)] w fun e w' => e = .returned (.agg #[.string x.path, intC x.ver.1, intC x.ver.2.1, intC x.ver.2.2]) ∧ Below w.heap.size w w' := by
  unfold relC
  go_enter Tryz.func58, Tryz.ntmps58
  go_wp2_with fail
  refine bodyPost_ret (results_cell_row rfl _ _ (w.heap.size + 1) _ _ _ _ rfl (by have := World.alloc_heap_new (w.alloc (.cells #[.string x.path, intC x.ver.1, intC x.ver.2.1, intC x.ver.2.2, r, .string x.ar, .string x.ifc, .string x.cert, .bool x.yk] 71)) (.cells #[.string x.path, intC x.ver.1, intC x.ver.2.1, intC x.ver.2.2] 43); rw [World.size_alloc] at this; exact this) Tryz.underlying43 rfl (by kernel_rfl)) rfl ?_
  exact ⟨rfl, (by repeat (first | exact Below.refl _ _ | refine Below.drew ?_ | refine Below.alloc ?_ (by simp <;> omega) _ | refine Below.setCell ?_ (by simp <;> omega) _))⟩
end Go.Proofs.YtenfkejbndifdaaGreatDoor

namespace Go.Proofs.YtenfkejbndifdaaGreatDoor
set_option linter.unusedVariables false
set_option linter.unusedSimpArgs false
open Go Go.RowKit Go.Maps

end Go.Proofs.YtenfkejbndifdaaGreatDoor

namespace Go.Proofs.YtenfkejbndifdaaGreatDoor
set_option linter.unusedVariables false
set_option linter.unusedSimpArgs false
open Go Go.RowKit Go.Maps

end Go.Proofs.YtenfkejbndifdaaGreatDoor
