/- Plain facts: a source made of tokens and gaps has these tokens. -/
import Derived.Test.YtmlfoffahfbalaaDoorPlainRet
namespace Go.Proofs.YtmlfoffahfbalaaDoor
open Go

/-- a gap is skipped as a whole wherever what follows it begins a token or is nothing. -/
def Skips (g : List UInt8) : Prop := ∀ x, skipF false x = 0 → skipF false (g ++ x) = g.length
theorem skips_nil : Skips [] := fun x h => h
theorem skips_blank (c : UInt8) (g : List UInt8) (hc : blankB c = true) (h : Skips g) : Skips (c :: g) := fun x hx => by
  rw [List.cons_append, skip_blank c _ hc, h x hx, List.length_cons]; omega
/-- tokens, each behind its gap, and what stands behind the last one. -/
def srcL : List (List UInt8 × Int × List UInt8) → List UInt8 → List UInt8
  | [], gf => gf
  | (g, k, t) :: r, gf => g ++ (writtenL k t ++ srcL r gf)
def gapL : List (List UInt8 × Int × List UInt8) → List UInt8 → List UInt8
  | [], gf => gf
  | (g, _, _) :: _, _ => g
/-- gaps and tokens that are read back. -/
def Fit : List (List UInt8 × Int × List UInt8) → List UInt8 → Prop
  | [], gf => Skips gf
  | (g, k, t) :: r, gf => Skips g ∧ Good k t ∧ BlankHead (srcL r gf) ∧ Fit r gf
theorem fit_skip : ∀ (l : List (List UInt8 × Int × List UInt8)) (gf : List UInt8), Fit l gf → skipF false (srcL l gf) = (gapL l gf).length
  | [], gf, h => by have := h [] rfl; rw [List.append_nil] at this; exact this
  | (g, k, t) :: r, gf, h => by
    obtain ⟨h1, h2, h3, h4⟩ := h
    exact h1 _ (h2 _ h3).2.1
theorem fit_runs (p : ByteArray) : ∀ (l : List (List UInt8 × Int × List UInt8)) (gf : List UInt8) (a : Nat), Fit l gf → a ≤ p.size → p.data.toList.drop a = srcL l gf →
    ∃ ys : List Yld, Runs p (a + (gapL l gf).length) ys p.size ∧ ys.map (fun y => (y.kind, y.text.data.toList)) = l.map (fun x => (x.2.1, x.2.2))
  | [], gf, a, h, ha, hp => by
    refine ⟨[], ?_, rfl⟩
    have : (p.data.toList.drop a).length = gf.length := by rw [hp]; rfl
    rw [List.length_drop, ← Lib.size_eq] at this
    show a + gf.length = p.size
    omega
  | (g, k, t) :: r, gf, a, h, ha, hp => by
    obtain ⟨h1, h2, h3, h4⟩ := h
    obtain ⟨g1, g2, g3⟩ := h2 _ h3
    have hlen : (p.data.toList.drop a).length = g.length + ((writtenL k t).length + (srcL r gf).length) := by rw [hp]; simp [srcL]
    rw [List.length_drop, ← Lib.size_eq] at hlen
    have d1 : p.data.toList.drop (a + g.length) = writtenL k t ++ srcL r gf := by rw [← List.drop_drop, hp]; simp [srcL]
    have d2 : p.data.toList.drop (a + g.length + (writtenL k t).length) = srcL r gf := by rw [← List.drop_drop, d1]; simp
    have e1 : tokS p (a + g.length) = ⟨k, t, (writtenL k t).length, 0⟩ := by unfold tokS; rw [d1]; exact g1
    obtain ⟨ys, q1, q2⟩ := fit_runs p r gf (a + g.length + (writtenL k t).length) h4 (by omega) d2
    have e2 : nextAt p (a + g.length) = a + g.length + (writtenL k t).length + (gapL r gf).length := by
      unfold nextAt
      rw [e1]
      simp only
      rw [d2, fit_skip r gf h4]
    refine ⟨⟨k, ⟨t.toArray⟩, a + g.length, 0⟩ :: ys, ?_, by rw [List.map_cons, List.map_cons, q2]⟩
    refine ⟨by simp only [gapL]; omega, rfl, rfl, ?_, ?_, ?_, ?_⟩
    · simp only [gapL]; rw [e1]
    · simp only [gapL]; rw [e1]
    · simp only [gapL]; rw [e1]
    · simp only [gapL]; rw [e2]; exact q1
/-- such a source has these tokens and the end. -/
theorem fit_lex (p : ByteArray) (l : List (List UInt8 × Int × List UInt8)) (gf : List UInt8) (h : Fit l gf) (hp : p.data.toList = srcL l gf) (hs : p.size ≤ 65536) :
    (lexS p).err = 0 ∧ (lexS p).toks.map (fun x => (x.1, x.2.1)) = l.map (fun x => (x.2.1, x.2.2)) ++ [(0, [])] := by
  obtain ⟨ys, h1, h2⟩ := fit_runs p l gf 0 h (Nat.zero_le _) (by rw [List.drop_zero]; exact hp)
  have e : startS p = 0 + (gapL l gf).length := by unfold startS; rw [hp, fit_skip l gf h, Nat.zero_add]
  rw [← e] at h1
  rw [lex_done p hs ys h1]
  refine ⟨rfl, ?_⟩
  rw [List.map_append, List.map_map, ← h2]
  rfl

/-- the five gaps of the statement. -/
def gap5 (k : Nat) : List UInt8 := match k with
  | 0 => [32]
  | 1 => [9]
  | 2 => [13, 10]
  | 3 => [32, 47, 47, 32, 34, 32, 47, 47, 32, 120, 10]
  | _ => [32, 47, 47, 10, 10]
theorem gap5_skips (k : Nat) : Skips (gap5 k) := by
  intro x hx
  unfold gap5
  split
  · rw [List.cons_append, skip_blank _ _ (by decide), List.nil_append, hx]; rfl
  · rw [List.cons_append, skip_blank _ _ (by decide), List.nil_append, hx]; rfl
  · rw [List.cons_append, skip_blank _ _ (by decide), List.cons_append, skip_blank _ _ (by decide), List.nil_append, hx]; rfl
  · show 1 + (1 + (1 + (1 + (1 + (1 + (1 + (1 + (1 + (1 + (1 + skipF false x)))))))))) = _
    rw [hx]; rfl
  · show 1 + (1 + (1 + (1 + skipF false (10 :: x)))) = _
    rw [skip_blank _ _ (by decide), hx]; rfl
theorem gap5_blank (k : Nat) (x : List UInt8) : BlankHead (gap5 k ++ x) := by
  unfold gap5
  split
  all_goals exact .inr ⟨_, _, rfl, by decide⟩
end Go.Proofs.YtmlfoffahfbalaaDoor
