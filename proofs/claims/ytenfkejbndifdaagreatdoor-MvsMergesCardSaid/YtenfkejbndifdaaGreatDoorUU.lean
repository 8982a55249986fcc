/- Minimal version selection, plain: the reduced roots of any selection. -/
import Derived.Test.YtenfkejbndifdaaGreatDoorUT
namespace Go.Proofs.YtenfkejbndifdaaGreatDoor
set_option linter.unusedVariables false
set_option linter.unusedSimpArgs false
open Go

open Classical in
noncomputable def reduceV (X : List RelL) (s : List SelL) : List ReqL × Int :=
  if ¬ PlainP X [] ∨ 16 < s.length ∨ ¬ incrS s then ([], 1)
  else if ∃ y ∈ s, findR X y = none then ([], 6)
  else if (selM false X (ownL s)).2 ≠ 0 then ([], (selM false X (ownL s)).2)
  else if (selM false X (ownL s)).1 ≠ s then ([], 8)
  else (redStep (givesB X s) s.length (ownL s), 0)
theorem PlainP.none {X : List RelL} {roots : List ReqL} (h : PlainP X roots) : PlainP X [] := ⟨h.idx, ⟨by decide +kernel, fun q hq => by cases hq⟩, h.own⟩
theorem reduceV_arg {X : List RelL} {s : List SelL} (h : ¬ PlainP X [] ∨ 16 < s.length ∨ ¬ incrS s) : reduceV X s = ([], 1) := by unfold reduceV; rw [if_pos h]
theorem reduceV_not {X : List RelL} {s : List SelL} (h1 : PlainP X []) (h2 : s.length ≤ 16) (h3 : incrS s) (h : ∃ y ∈ s, findR X y = none) : reduceV X s = ([], 6) := by
  unfold reduceV; rw [if_neg (fun a => a.elim (fun a => a h1) (fun a => a.elim (fun a => absurd h2 (by omega)) (fun a => a h3))), if_pos h]
theorem reduceV_found {X : List RelL} {s : List SelL} (h1 : PlainP X []) (h2 : s.length ≤ 16) (h3 : incrS s) (h : ∀ y ∈ s, (findR X y).isSome = true) : reduceV X s = if (selM false X (ownL s)).2 ≠ 0 then ([], (selM false X (ownL s)).2)
  else if (selM false X (ownL s)).1 ≠ s then ([], 8)
  else (redStep (givesB X s) s.length (ownL s), 0) := by
  unfold reduceV
  rw [if_neg (fun a => a.elim (fun a => a h1) (fun a => a.elim (fun a => absurd h2 (by omega)) (fun a => a h3))), if_neg (by rintro ⟨y, hy, e⟩; have := h y hy; rw [e] at this; cases this)]
theorem findR_none_iff {X : List RelL} {y : SelL} : findR X y = none ↔ ¬ (findR X y).isSome = true := by cases findR X y <;> simp
theorem reduceV_sel {X : List RelL} {roots : List ReqL} (hp : PlainP X roots) (ha : AllM false X roots) (hl : (selL false X roots).length ≤ 16) : reduceV X (selL false X roots) = (redStep (givesB X (selL false X roots)) (selL false X roots).length (ownL (selL false X roots)), 0) := by
  have hX := idx_ok hp.idx
  have hg := gives_iff.1 (gives_own hp ha hl)
  rw [reduceV_found hp.none hl (selL_incr hX) (fun y hy => by obtain ⟨i, hi, rfl⟩ := selL_mem.1 hy; rw [findR_at hX (topM_mem.1 hi).1.lt.1]; rfl), hg]
  simp
theorem ex_reduce : reduceV exX [selA, selB, selCC] = (exT, 0) := by
  have h := reduceV_sel ex_plain ex_all (by rw [ex_own]; simp)
  rw [ex_own] at h
  rw [h]
  exact congrArg (fun l => (l, (0 : Int))) ex_gives
end Go.Proofs.YtenfkejbndifdaaGreatDoor
