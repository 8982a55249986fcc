/- Plain facts: the two sources that the statement on returns builds. -/
import Derived.Test.YtmlfoffahfbalaaDoorPlainGap
namespace Go.Proofs.YtmlfoffahfbalaaDoor
open Go

/-- tokens, each with a blank behind it; at last the end with its blank. -/
def plainL (ts : List (Int × List UInt8)) : List UInt8 := ts.flatMap (fun t => writtenL t.1 t.2 ++ [32])
/-- tokens, each behind a gap. -/
def otherL : List (Nat × Int × List UInt8) → List UInt8
  | [] => []
  | (k, t) :: r => gap5 k ++ writtenL t.1 t.2 ++ otherL r
theorem plainL_snoc (ts : List (Int × List UInt8)) (t : Int × List UInt8) : plainL (ts ++ [t]) = plainL ts ++ (writtenL t.1 t.2 ++ [32]) := by simp [plainL]
theorem otherL_snoc (ts : List (Nat × Int × List UInt8)) (x : Nat × Int × List UInt8) : otherL (ts ++ [x]) = otherL ts ++ (gap5 x.1 ++ writtenL x.2.1 x.2.2) := by
  induction ts with
  | nil => simp [otherL]
  | cons y r ih => obtain ⟨k, t⟩ := y; simp [otherL, ih]
theorem writtenL_end : writtenL 0 [] = [] := by unfold writtenL; rw [if_neg (by decide)]

def plainI : List UInt8 → List (Int × List UInt8) → List (List UInt8 × Int × List UInt8)
  | _, [] => []
  | g, t :: r => (g, t) :: plainI [32] r
def plainG : List UInt8 → List (Int × List UInt8) → List UInt8
  | g, [] => g ++ [32]
  | _, _ :: r => plainG [32] r
theorem plain_src : ∀ (ts : List (Int × List UInt8)) (g : List UInt8), srcL (plainI g ts) (plainG g ts) = g ++ (plainL ts ++ [32])
  | [], g => by simp [plainI, plainG, srcL, plainL]
  | t :: r, g => by
    obtain ⟨k, x⟩ := t
    simp only [plainI, plainG, srcL, plain_src r [32]]
    simp [plainL]
theorem plain_fit : ∀ (ts : List (Int × List UInt8)) (g : List UInt8), Skips g → Skips (g ++ [32]) → (∀ t ∈ ts, Good t.1 t.2) → Fit (plainI g ts) (plainG g ts)
  | [], g, _, h2, _ => h2
  | t :: r, g, h1, _, h3 => by
    obtain ⟨k, x⟩ := t
    have hs : Skips [32] := skips_blank 32 [] (by decide) skips_nil
    refine ⟨h1, h3 (k, x) (by simp), ?_, plain_fit r [32] hs (skips_blank 32 [32] (by decide) hs) (fun t ht => h3 t (by simp [ht]))⟩
    show BlankHead (srcL (plainI [32] r) (plainG [32] r))
    rw [plain_src]
    exact .inr ⟨32, _, rfl, by decide⟩
theorem plain_map : ∀ (ts : List (Int × List UInt8)) (g : List UInt8), (plainI g ts).map (fun x => (x.2.1, x.2.2)) = ts
  | [], _ => rfl
  | t :: r, g => by rw [plainI, List.map_cons, plain_map r]
/-- the first source has the same tokens. -/
theorem plain_lex (p : ByteArray) (ts : List (Int × List UInt8)) (h : ∀ t ∈ ts, Good t.1 t.2) (hp : p.data.toList = plainL (ts ++ [(0, [])])) (hs : p.size ≤ 65536) :
    (lexS p).err = 0 ∧ (lexS p).toks.map (fun x => (x.1, x.2.1)) = ts ++ [(0, [])] := by
  have hsrc : p.data.toList = srcL (plainI [] ts) (plainG [] ts) := by
    rw [hp, plain_src, plainL_snoc, writtenL_end]; rfl
  have := fit_lex p _ _ (plain_fit ts [] skips_nil (skips_blank 32 [] (by decide) skips_nil) h) hsrc hs
  rw [plain_map] at this
  exact this

def otherI (l : List (Nat × Int × List UInt8)) : List (List UInt8 × Int × List UInt8) := l.map fun x => (gap5 x.1, x.2)
theorem other_src (kf : Nat) : ∀ l : List (Nat × Int × List UInt8), srcL (otherI l) (gap5 kf) = otherL (l ++ [(kf, 0, [])])
  | [] => by simp [otherI, srcL, otherL, writtenL_end]
  | (k, t) :: r => by
    have := other_src kf r
    simp only [otherI, List.map_cons, srcL, List.cons_append, otherL] at this ⊢
    rw [this]; simp
theorem other_fit (kf : Nat) : ∀ l : List (Nat × Int × List UInt8), (∀ x ∈ l, Good x.2.1 x.2.2) → Fit (otherI l) (gap5 kf)
  | [], _ => gap5_skips kf
  | (k, t) :: r, h => by
    refine ⟨gap5_skips k, h (k, t) (by simp), ?_, other_fit kf r (fun x hx => h x (by simp [hx]))⟩
    cases r with
    | nil => have := gap5_blank kf []; rw [List.append_nil] at this; exact this
    | cons y q => exact gap5_blank y.1 _
theorem other_map (l : List (Nat × Int × List UInt8)) : (otherI l).map (fun x => (x.2.1, x.2.2)) = l.map (·.2) := by
  unfold otherI; rw [List.map_map]; rfl
/-- the second source has the same tokens. -/
theorem other_lex (p : ByteArray) (l : List (Nat × Int × List UInt8)) (kf : Nat) (h : ∀ x ∈ l, Good x.2.1 x.2.2) (hp : p.data.toList = otherL (l ++ [(kf, 0, [])])) (hs : p.size ≤ 65536) :
    (lexS p).err = 0 ∧ (lexS p).toks.map (fun x => (x.1, x.2.1)) = l.map (·.2) ++ [(0, [])] := by
  have := fit_lex p _ _ (other_fit kf l h) (hp.trans (other_src kf l).symm) hs
  rw [other_map] at this
  exact this
/-- every token of a run is read back. -/
theorem run_good (s : ByteArray) : ∀ (ys : List Yld) (a b : Nat), Runs s a ys b → ∀ y ∈ ys, Good y.kind y.text.data.toList
  | [], _, _, _, y, hy => by cases hy
  | x :: ys, a, b, h, y, hy => by
    obtain ⟨h1, h2, h3, h4, h5, h6, h7⟩ := h
    rcases List.mem_cons.1 hy with rfl | hy
    · rw [h5, h6]; exact tok_good _ h4
    · exact run_good s ys _ _ h7 y hy
end Go.Proofs.YtmlfoffahfbalaaDoor
