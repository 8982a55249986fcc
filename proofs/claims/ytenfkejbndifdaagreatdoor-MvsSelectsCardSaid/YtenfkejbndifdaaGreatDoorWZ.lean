/- The chapter's example of minimal version selection, plain. Minimal version selection, plain: the reduced roots of any selection. -/
import Derived.Test.YtenfkejbndifdaaGreatDoorWM
import Derived.Test.YtenfkejbndifdaaGreatDoorWK
import Derived.Test.YtenfkejbndifdaaGreatDoorWW
import Derived.Test.YtenfkejbndifdaaGreatDoorWL
namespace Go.Proofs.YtenfkejbndifdaaGreatDoor
set_option linter.unusedVariables false
set_option linter.unusedSimpArgs false
open Go

def bA : ByteArray := ⟨#[97, 47, 118, 49]⟩
def bB : ByteArray := ⟨#[98, 47, 118, 49]⟩
def bC : ByteArray := ⟨#[99, 47, 118, 49]⟩
def needQ (p : ByteArray) (m : Int) : ReqL := (p, [(m, 1000000)])
def exR (p : ByteArray) (m : Int) (l : List ReqL) : RelL := ⟨p, (1, m, 0), l, ⟨#[]⟩, ⟨#[]⟩, ⟨#[]⟩, false⟩
def exX : List RelL := [exR bA 0 [needQ bB 1000, needQ bC 0], exR bB 0 [], exR bB 1 [], exR bB 2 [], exR bB 3 [], exR bC 0 [needQ bB 2000]]
def exT : List ReqL := [needQ bA 0]
theorem ex_plain : PlainP exX exT := by
  refine ⟨by decide +kernel, ⟨by decide +kernel, ?_⟩, ?_⟩
  · have h : (exT.all fun q => upB (canon q.2)) = true := by decide +kernel
    exact List.all_eq_true.1 h
  · intro i hi
    have h : ((List.range exX.length).all fun i => (exX.getD i default).reqs.all fun q => upB (canon q.2)) = true := by decide +kernel
    exact List.all_eq_true.1 (List.all_eq_true.1 h i (List.mem_range.2 hi))
theorem ex_seen : RchI false exX exT [0, 2, 5, 3] [] := by
  have n0 : namedI false exX (needQ bA 0) = some 0 := by decide +kernel
  have n1 : namedI false exX (needQ bB 1000) = some 2 := by decide +kernel
  have n2 : namedI false exX (needQ bC 0) = some 5 := by decide +kernel
  have n3 : namedI false exX (needQ bB 2000) = some 3 := by decide +kernel
  have r0 : (exX.getD 0 default).reqs = [needQ bB 1000, needQ bC 0] := rfl
  have r2 : (exX.getD 2 default).reqs = [] := rfl
  have r3 : (exX.getD 3 default).reqs = [] := rfl
  have r5 : (exX.getD 5 default).reqs = [needQ bB 2000] := rfl
  have h0 : RchM false exX exT 0 := .root (q := needQ bA 0) (by simp [exT]) n0
  have h2 : RchM false exX exT 2 := .step h0 (q := needQ bB 1000) (by rw [r0]; simp) n1
  have h5 : RchM false exX exT 5 := .step h0 (q := needQ bC 0) (by rw [r0]; simp) n2
  have h3 : RchM false exX exT 3 := .step h5 (q := needQ bB 2000) (by rw [r5]; simp) n3
  refine ⟨by decide, fun i hi => ?_, (fun i hi => by cases hi), fun q hq => ?_, fun k hk q hq => ?_⟩
  · simp only [List.mem_cons, List.not_mem_nil, or_false] at hi
    rcases hi with rfl | rfl | rfl | rfl
    · exact h0
    · exact h2
    · exact h5
    · exact h3
  · rw [show exT = [needQ bA 0] from rfl, List.mem_singleton] at hq
    subst hq
    exact ⟨0, n0, .inl (by simp)⟩
  · simp only [List.mem_cons, List.not_mem_nil, or_false] at hk
    rcases hk with rfl | rfl | rfl | rfl
    · rw [r0] at hq
      simp only [List.mem_cons, List.not_mem_nil, or_false] at hq
      rcases hq with rfl | rfl
      · exact ⟨2, n1, .inl (by simp)⟩
      · exact ⟨5, n2, .inl (by simp)⟩
    · rw [r2] at hq; cases hq
    · rw [r5] at hq
      rw [List.mem_singleton] at hq
      subst hq
      exact ⟨3, n3, .inl (by simp)⟩
    · rw [r3] at hq; cases hq
theorem ex_all : AllM false exX exT := ex_seen.done.1
theorem ex_top : topM false exX exT = [0, 3, 5] := by
  refine (top_unique (by decide) fun i => ?_).symm
  rw [topM_mem]
  have hs := ex_seen.done.2
  have p0 : (exX.getD 0 default).path = bA := rfl
  have p2 : (exX.getD 2 default).path = bB := rfl
  have p3 : (exX.getD 3 default).path = bB := rfl
  have p5 : (exX.getD 5 default).path = bC := rfl
  have nab : bA ≠ bB := by decide
  have nac : bA ≠ bC := by decide
  have nbc : bB ≠ bC := by decide
  constructor
  · intro hi
    simp only [List.mem_cons, List.not_mem_nil, or_false] at hi
    refine ⟨(hs i).2 (by rcases hi with rfl | rfl | rfl <;> simp), fun j hj hp => ?_⟩
    have hj := (hs j).1 hj
    simp only [List.mem_cons, List.not_mem_nil, or_false] at hj
    rcases hi with rfl | rfl | rfl <;> rcases hj with rfl | rfl | rfl | rfl <;> first | omega | (rw [p0, p2] at hp; exact absurd hp (by decide)) | (rw [p0, p3] at hp; exact absurd hp (by decide)) | (rw [p0, p5] at hp; exact absurd hp (by decide)) | (rw [p5, p0] at hp; exact absurd hp (by decide)) | (rw [p2, p3] at hp; omega) | (rw [p5, p3] at hp; exact absurd hp (by decide)) | (rw [p5, p2] at hp; exact absurd hp (by decide)) | (rw [p3, p5] at hp; exact absurd hp (by decide))
  · rintro ⟨hi, hg⟩
    have hi := (hs i).1 hi
    simp only [List.mem_cons, List.not_mem_nil, or_false] at hi
    rcases hi with rfl | rfl | rfl | rfl
    · simp
    · have := hg 3 ((hs 3).2 (by simp)) rfl
      omega
    · simp
    · simp
def selA : SelL := (bA, (1, 0, 0))
def selB : SelL := (bB, (1, 2, 0))
def selCC : SelL := (bC, (1, 0, 0))
theorem ex_sel : selM false exX exT = ([selA, selB, selCC], 0) := by
  rw [selM_ok ex_plain ex_all]
  unfold selL
  rw [ex_top]
  rfl
theorem ex_why : whyV exX exT bB = ((bB, 0, [selA, selCC, selB]), 0) := by
  have h0 : (selM false exX exT).2 = 0 := by rw [ex_sel]
  have ht : tgtM exX exT bB = some 3 := by
    unfold tgtM
    rw [ex_top]
    decide +kernel
  unfold whyV
  rw [if_neg (by rw [h0]; simp), ht]
  have hb : bestK (rootD exX exT 3) exT.length = some 0 := by decide +kernel
  simp only
  rw [hb]
  simp only
  have hp : ((pathF exX.length (relEs exX) ((namedI false exX (exT.getD 0 default)).getD 0) 3).map fun i => keyL (exX.getD i default)) = [selA, selCC, selB] := by decide +kernel
  rw [hp]
  rfl
theorem ex_check : checkV exX exT (bB, 0, [selA, selCC, selB]) = true := by
  have h : chainB exX [needQ bA 0] [selA, selCC, selB] = true := by decide +kernel
  unfold checkV
  rw [ex_sel]
  show (_ && (_ && (_ && (_ && _)))) = true
  simp only [Bool.and_eq_true, decide_eq_true_eq]
  refine ⟨trivial, ⟨by decide, by decide⟩, ?_⟩
  refine ⟨rfl, ?_, h⟩
  simp
theorem ex_own : selL false exX exT = [selA, selB, selCC] := by
  have := ex_sel
  rw [selM_ok ex_plain ex_all] at this
  injection this
theorem ex_gives : redStep (givesB exX [selA, selB, selCC]) 3 (ownL [selA, selB, selCC]) = exT := by
  have hlen : (selL false exX exT).length ≤ 16 := by rw [ex_own]; simp
  have hO : ownL [selA, selB, selCC] = [ownQ selA, ownQ selB, ownQ selCC] := rfl
  have hT : ([ownQ selA] : List ReqL) = exT := by decide +kernel
  have h1 : givesB exX [selA, selB, selCC] [ownQ selA] = true := by rw [hT, gives_iff]; exact ex_sel
  have hm := gives_mono ex_plain ex_all hlen
  rw [ex_own] at hm
  have h2 : givesB exX [selA, selB, selCC] [ownQ selA, ownQ selB] = true := hm [ownQ selA] [ownQ selA, ownQ selB] (by simp) (by rw [hO]; simp) h1
  have h0 : givesB exX [selA, selB, selCC] [] = false := by
    cases hg : givesB exX [selA, selB, selCC] [] with
    | false => rfl
    | true =>
      have h := gives_iff.1 hg
      obtain ⟨_, _, hs⟩ := selM_inv h
      have hn : topM false exX [] = [] := by
        rw [List.eq_nil_iff_forall_not_mem]
        intro i hi
        have hr := (topM_mem.1 hi).1
        clear hi
        induction hr with
        | root hq _ => cases hq
        | step _ _ _ ih => exact ih
      unfold selL at hs
      rw [hn] at hs
      cases hs
  rw [hO]
  unfold redStep
  rw [show ([ownQ selA, ownQ selB, ownQ selCC] : List ReqL).eraseIdx 2 = [ownQ selA, ownQ selB] from rfl, if_pos h2]
  unfold redStep
  rw [show ([ownQ selA, ownQ selB] : List ReqL).eraseIdx 1 = [ownQ selA] from rfl, if_pos h1]
  unfold redStep
  rw [show ([ownQ selA] : List ReqL).eraseIdx 0 = [] from rfl, h0, if_neg (by decide)]
  unfold redStep
  exact hT
end Go.Proofs.YtenfkejbndifdaaGreatDoor

namespace Go.Proofs.YtenfkejbndifdaaGreatDoor
set_option linter.unusedVariables false
set_option linter.unusedSimpArgs false
open Go

open Classical in
noncomputable def reduceV (X : List RelL) (s : List SelL) : List ReqL × Int :=
  if ¬ PlainP X [] ∨ 16 < s.length ∨ ¬ incrS s then ([], 1)
  else if ∃ y ∈ s, findR X y = none then ([], 6)
  else if (selM false X (ownL s)).2 ≠ 0 then ([], (selM false X (ownL s)).2)
  else if (selM false X (ownL s)).1 ≠ s then ([], 8)
  else (redStep (givesB X s) s.length (ownL s), 0)
theorem PlainP.none {X : List RelL} {roots : List ReqL} (h : PlainP X roots) : PlainP X [] := ⟨h.idx, ⟨by decide +kernel, fun q hq => by cases hq⟩, h.own⟩
theorem reduceV_arg {X : List RelL} {s : List SelL} (h : ¬ PlainP X [] ∨ 16 < s.length ∨ ¬ incrS s) : reduceV X s = ([], 1) := by unfold reduceV; rw [if_pos h]
theorem reduceV_not {X : List RelL} {s : List SelL} (h1 : PlainP X []) (h2 : s.length ≤ 16) (h3 : incrS s) (h : ∃ y ∈ s, findR X y = none) : reduceV X s = ([], 6) := by
  unfold reduceV; rw [if_neg (fun a => a.elim (fun a => a h1) (fun a => a.elim (fun a => absurd h2 (by omega)) (fun a => a h3))), if_pos h]
theorem reduceV_found {X : List RelL} {s : List SelL} (h1 : PlainP X []) (h2 : s.length ≤ 16) (h3 : incrS s) (h : ∀ y ∈ s, (findR X y).isSome = true) : reduceV X s = if (selM false X (ownL s)).2 ≠ 0 then ([], (selM false X (ownL s)).2)
  else if (selM false X (ownL s)).1 ≠ s then ([], 8)
  else (redStep (givesB X s) s.length (ownL s), 0) := by
  unfold reduceV
  rw [if_neg (fun a => a.elim (fun a => a h1) (fun a => a.elim (fun a => absurd h2 (by omega)) (fun a => a h3))), if_neg (by rintro ⟨y, hy, e⟩; have := h y hy; rw [e] at this; cases this)]
theorem findR_none_iff {X : List RelL} {y : SelL} : findR X y = none ↔ ¬ (findR X y).isSome = true := by cases findR X y <;> simp
theorem reduceV_sel {X : List RelL} {roots : List ReqL} (hp : PlainP X roots) (ha : AllM false X roots) (hl : (selL false X roots).length ≤ 16) : reduceV X (selL false X roots) = (redStep (givesB X (selL false X roots)) (selL false X roots).length (ownL (selL false X roots)), 0) := by
  have hX := idx_ok hp.idx
  have hg := gives_iff.1 (gives_own hp ha hl)
  rw [reduceV_found hp.none hl (selL_incr hX) (fun y hy => by obtain ⟨i, hi, rfl⟩ := selL_mem.1 hy; rw [findR_at hX (topM_mem.1 hi).1.lt.1]; rfl), hg]
  simp
theorem ex_reduce : reduceV exX [selA, selB, selCC] = (exT, 0) := by
  have h := reduceV_sel ex_plain ex_all (by rw [ex_own]; simp)
  rw [ex_own] at h
  rw [h]
  exact congrArg (fun l => (l, (0 : Int))) ex_gives
end Go.Proofs.YtenfkejbndifdaaGreatDoor
