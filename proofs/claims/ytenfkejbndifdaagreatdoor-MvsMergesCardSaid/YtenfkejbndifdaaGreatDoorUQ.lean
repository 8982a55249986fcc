/- Plain facts: the text of a number is read as this number, and back; the path of a line. -/
import Derived.Test.YtenfkejbndifdaaGreatDoorUP
import Derived.Test.YtenfkejbndifdaaGreatDoorUB
import Derived.Test.YtenfkejbndifdaaGreatDoorUM
import Derived.Lib.Join
import Derived.Test.YtenfkejbndifdaaGreatDoorUA
import Derived.Test.YtenfkejbndifdaaGreatDoorUI
namespace Go.Proofs.YtenfkejbndifdaaGreatDoor
open Go

def joinD : List (List UInt8) → List UInt8
  | [] => []
  | [x] => x
  | x :: r => x ++ 46 :: joinD r
end Go.Proofs.YtenfkejbndifdaaGreatDoor

namespace Go.Proofs.YtenfkejbndifdaaGreatDoor
set_option linter.unusedVariables false
set_option linter.unusedSimpArgs false
open Go

def PieceOk (x : List UInt8) : Prop := (∀ b ∈ x, b ≠ 124) ∧ x.head? ≠ some 32 ∧ x.getLast? ≠ some 32
def shI (i : Int) (n : Nat) : Int := if i = -1 then -1 else i + n
end Go.Proofs.YtenfkejbndifdaaGreatDoor

namespace Go.Proofs.YtenfkejbndifdaaGreatDoor
set_option linter.unusedVariables false
set_option linter.unusedSimpArgs false
open Go

def textV (m p : Int) : List UInt8 := (formatV (atV m p).1.1 (atV m p).1.2.1 (atV m p).1.2.2).1
def textB (m p : Int) : ByteArray := ⟨(textV m p).toArray⟩
def spanB (m : Int) (x : Int × Int) : ByteArray :=
  if x = (0, 1000000) then ⟨#[42]⟩ else if x.2 = x.1 + 1 then textB m x.1 else if x.2 = 1000000 then textB m x.1 ++ ⟨#[46, 46]⟩
  else if x.1 = 0 then ⟨#[46, 46]⟩ ++ textB m x.2 else textB m x.1 ++ ⟨#[46, 46]⟩ ++ textB m x.2
def spanT (m : Int) (x : Int × Int) : List UInt8 := (spanB m x).data.toList
def formatC (m : Int) (s : List (Int × Int)) : List UInt8 × Int :=
  if ¬ (0 ≤ m ∧ m ≤ 999) then ([], 2) else if canon s = [] then ([110, 111, 110, 101], 0) else (Lib.join ((canon s).map (spanT m)) [32, 124, 32], 0)
theorem canon_one {x : Int × Int} (h0 : 0 ≤ x.1) (h1 : x.1 < x.2) (h2 : x.2 ≤ 1000000) : canon [x] = [x] := canon_of_can (can_cons.2 ⟨⟨h0, h1, h2⟩, fun y hy => (List.not_mem_nil hy).elim, can_nil⟩)
end Go.Proofs.YtenfkejbndifdaaGreatDoor

namespace Go.Proofs.YtenfkejbndifdaaGreatDoor
set_option linter.unusedVariables false
set_option linter.unusedSimpArgs false
open Go

def ownQ (y : SelL) : ReqL := (y.1, [(plc y.2, 1000000)])
def ownL (s : List SelL) : List ReqL := s.map ownQ
theorem canon_up {p : Int} (h0 : 0 ≤ p) (h1 : p < 1000000) : canon [(p, 1000000)] = [(p, 1000000)] := canon_one h0 h1 (Int.le_refl _)
theorem up_up {p : Int} (h0 : 0 ≤ p) (h1 : p < 1000000) : upB (canon [(p, 1000000)]) = true := by
  rw [canon_up h0 h1]
  rfl
variable {X : List RelL} {roots : List ReqL}
theorem own_sub (hp : PlainP X roots) (hl : (selL false X roots).length ≤ 16) {R : List ReqL} (hR : R.Sublist (ownL (selL false X roots))) : PlainP X R := by
  have hX := idx_ok hp.idx
  have hm : ∀ q ∈ R, ∃ i, i ∈ topM false X roots ∧ q = ownQ (keyL (X.getD i default)) := fun q hq => by
    obtain ⟨y, hy, rfl⟩ := List.mem_map.1 (hR.subset hq)
    obtain ⟨i, hi, rfl⟩ := selL_mem.1 hy
    exact ⟨i, hi, rfl⟩
  have hb : ∀ i, i ∈ topM false X roots → 0 ≤ plc (X.getD i default).ver ∧ plc (X.getD i default).ver < 1000000 := fun i hi => (hX.rel i (topM_mem.1 hi).1.lt.1).plc
  refine ⟨hp.idx, ⟨reqs_check ⟨?_, fun q hq => ?_, ?_⟩, fun q hq => ?_⟩, hp.own⟩
  · have := hR.length_le
    unfold ownL at this
    rw [List.length_map] at this
    omega
  · obtain ⟨i, hi, rfl⟩ := hm q hq
    exact ⟨(hX.rel i (topM_mem.1 hi).1.lt.1).line, by simp [ownQ], (canon_up (hb i hi).1 (hb i hi).2).symm⟩
  · refine List.Pairwise.sublist hR ?_
    unfold ownL
    rw [List.pairwise_map]
    exact selM_incr hX
  · obtain ⟨i, hi, rfl⟩ := hm q hq
    exact up_up (hb i hi).1 (hb i hi).2
theorem own_named (hp : PlainP X roots) {i : Nat} (hi : i ∈ topM false X roots) : namedI false X (ownQ (keyL (X.getD i default))) = some i := by
  have hX := idx_ok hp.idx
  have hlt := (topM_mem.1 hi).1.lt
  have hb := (hX.rel i hlt.1).plc
  have hc : i ∈ candI X (ownQ (keyL (X.getD i default))) := candI_mem.2 ⟨hlt.1, rfl, by rw [show (ownQ (keyL (X.getD i default))).2 = [(plc (X.getD i default).ver, 1000000)] from rfl, up_has hb.1 hb.2]; exact decide_eq_true (Int.le_refl _), hlt.2⟩
  obtain ⟨j, hj⟩ := named_some (nw := false) hc
  have h1 := named_least hj hc
  obtain ⟨g1, g2, g3, _⟩ := candI_mem.1 (named_mem hj)
  have hbj := (hX.rel j g1).plc
  rw [show (ownQ (keyL (X.getD i default))).2 = [(plc (X.getD i default).ver, 1000000)] from rfl, up_has hbj.1 hbj.2] at g3
  have g3 := of_decide_eq_true g3
  have hm := hX.mono h1 hlt.1 g2.symm
  rcases Nat.lt_or_eq_of_le h1 with h2 | h2
  · rcases hX.ord j i h2 hlt.1 with h3 | ⟨_, h3⟩
    · have : (X.getD j default).path = (X.getD i default).path := g2.symm
      rw [this, ltB_irrefl] at h3; cases h3
    · omega
  · rw [hj, h2]
theorem own_rch (hp : PlainP X roots) {R : List ReqL} (hR : ∀ q ∈ R, q ∈ ownL (selL false X roots)) {i : Nat} (h : RchM false X R i) : RchM false X roots i := by
  induction h with
  | root hq hn =>
    obtain ⟨y, hy, rfl⟩ := List.mem_map.1 (hR _ hq)
    obtain ⟨j, hj, rfl⟩ := selL_mem.1 hy
    rw [own_named hp hj] at hn
    cases hn
    exact (topM_mem.1 hj).1
  | step _ hq hn ih => exact .step ih hq hn
theorem own_all (hp : PlainP X roots) (ha : AllM false X roots) {R : List ReqL} (hR : ∀ q ∈ R, q ∈ ownL (selL false X roots)) : AllM false X R := by
  refine ⟨fun q hq => ?_, fun k hk q hq => ha.2 k (own_rch hp hR hk) q hq⟩
  obtain ⟨y, hy, rfl⟩ := List.mem_map.1 (hR _ hq)
  obtain ⟨j, hj, rfl⟩ := selL_mem.1 hy
  exact ⟨j, own_named hp hj⟩
theorem top_eq {nw : Bool} {r1 r2 : List ReqL} (h : ∀ i, i ∈ topM nw X r1 ↔ i ∈ topM nw X r2) : topM nw X r1 = topM nw X r2 := by
  unfold topM at h ⊢
  refine List.filter_congr fun i hi => ?_
  have := h i
  rw [List.mem_filter, List.mem_filter] at this
  rw [Bool.eq_iff_iff]
  exact ⟨fun g => (this.1 ⟨hi, g⟩).2, fun g => (this.2 ⟨hi, g⟩).2⟩
theorem sel_top (hX : IdxOk X) {nw : Bool} {r1 r2 : List ReqL} (h : selL nw X r1 = selL nw X r2) : topM nw X r1 = topM nw X r2 := by
  refine top_eq fun i => ?_
  have key : ∀ ra rb, selL nw X ra = selL nw X rb → i ∈ topM nw X ra → i ∈ topM nw X rb := fun ra rb e hi => by
    have : keyL (X.getD i default) ∈ selL nw X rb := by rw [← e]; exact selL_mem.2 ⟨i, hi, rfl⟩
    obtain ⟨j, hj, hk⟩ := selL_mem.1 this
    rwa [hX.inj (topM_mem.1 hj).1.lt.1 (topM_mem.1 hi).1.lt.1 hk] at hj
  exact ⟨key _ _ h, key _ _ h.symm⟩
theorem top_mid {nw : Bool} {r1 r2 r3 : List ReqL} (h12 : ∀ i, RchM nw X r1 i → RchM nw X r2 i) (h23 : ∀ i, RchM nw X r2 i → RchM nw X r3 i) (h : topM nw X r1 = topM nw X r3) : topM nw X r2 = topM nw X r3 := by
  refine top_eq fun i => ⟨fun hi => ?_, fun hi => ?_⟩
  · obtain ⟨h1, h2⟩ := topM_mem.1 hi
    obtain ⟨k, hk, hle, hpk⟩ := top_of (h23 i h1)
    have hk1 : RchM nw X r1 k := by rw [← h] at hk; exact (topM_mem.1 hk).1
    have := h2 k (h12 k hk1) hpk
    rwa [show i = k by omega]
  · have h1 : RchM nw X r1 i := by rw [← h] at hi; exact (topM_mem.1 hi).1
    exact topM_mem.2 ⟨h12 i h1, fun j hj e => (topM_mem.1 hi).2 j (h23 j hj) e⟩
theorem own_top (hp : PlainP X roots) : topM false X (ownL (selL false X roots)) = topM false X roots := by
  refine top_eq fun i => ⟨fun hi => ?_, fun hi => ?_⟩
  · obtain ⟨h1, h2⟩ := topM_mem.1 hi
    obtain ⟨k, hk, hle, hpk⟩ := top_of (own_rch hp (fun q hq => hq) h1)
    have hk1 : RchM false X (ownL (selL false X roots)) k := .root (List.mem_map.2 ⟨_, selL_mem.2 ⟨k, hk, rfl⟩, rfl⟩) (own_named hp hk)
    have := h2 k hk1 hpk
    rwa [show i = k by omega]
  · exact topM_mem.2 ⟨.root (List.mem_map.2 ⟨_, selL_mem.2 ⟨i, hi, rfl⟩, rfl⟩) (own_named hp hi), fun j hj e => (topM_mem.1 hi).2 j (own_rch hp (fun q hq => hq) hj) e⟩
theorem selM_ok {nw : Bool} (hp : PlainP X roots) (ha : AllM nw X roots) : selM nw X roots = (selL nw X roots, 0) := by
  unfold selM
  rw [if_neg (fun h => h hp), if_neg (fun h => h ha)]
  rfl
theorem selM_inv {nw : Bool} {s : List SelL} (h : selM nw X roots = (s, 0)) : PlainP X roots ∧ AllM nw X roots ∧ s = selL nw X roots := by
  unfold selM at h
  split at h
  · cases h
  · rename_i hp
    split at h
    · cases h
    · rename_i ha
      injection h with h
      exact ⟨Classical.not_not.1 hp, Classical.not_not.1 ha, h.symm⟩
def redStep (P : List ReqL → Bool) : Nat → List ReqL → List ReqL
  | 0, R => R
  | i + 1, R => if P (R.eraseIdx i) = true then redStep P i (R.eraseIdx i) else redStep P i R
theorem redStep_sub (P : List ReqL → Bool) : ∀ i R, (redStep P i R).Sublist R
  | 0, R => List.Sublist.refl R
  | i + 1, R => by
    unfold redStep
    split
    · exact (redStep_sub P i _).trans (List.eraseIdx_sublist R i)
    · exact redStep_sub P i R
noncomputable def givesB (X : List RelL) (s : List SelL) (R : List ReqL) : Bool := decide ((selM false X R).1 = s) && decide ((selM false X R).2 = 0)
theorem gives_iff {s : List SelL} {R : List ReqL} : givesB X s R = true ↔ selM false X R = (s, 0) := by
  unfold givesB
  rw [Bool.and_eq_true, decide_eq_true_iff, decide_eq_true_iff]
  exact ⟨fun ⟨a, b⟩ => Prod.ext a b, fun h => by rw [h]; exact ⟨rfl, rfl⟩⟩
theorem gives_own (hp : PlainP X roots) (ha : AllM false X roots) (hl : (selL false X roots).length ≤ 16) : givesB X (selL false X roots) (ownL (selL false X roots)) = true := by
  rw [gives_iff, selM_ok (own_sub hp hl (List.Sublist.refl _)) (own_all hp ha fun q hq => hq)]
  unfold selL
  rw [show topM false X (ownL ((topM false X roots).map fun i => keyL (X.getD i default))) = topM false X roots from own_top hp]
theorem gives_mono (hp : PlainP X roots) (ha : AllM false X roots) (hl : (selL false X roots).length ≤ 16) (R1 R2 : List ReqL) (h12 : R1.Sublist R2) (h2 : R2.Sublist (ownL (selL false X roots))) (h : givesB X (selL false X roots) R1 = true) : givesB X (selL false X roots) R2 = true := by
  rw [gives_iff] at h ⊢
  obtain ⟨hp1, ha1, hs1⟩ := selM_inv h
  have e : topM false X R1 = topM false X roots := sel_top (idx_ok hp.idx) hs1.symm
  rw [selM_ok (own_sub hp hl h2) (own_all hp ha fun q hq => h2.subset hq)]
  have : topM false X R2 = topM false X roots := top_mid (fun i hi => hi.more fun q hq => h12.subset hq) (fun i hi => own_rch hp (fun q hq => h2.subset hq) hi) e
  unfold selL
  rw [this]
end Go.Proofs.YtenfkejbndifdaaGreatDoor
