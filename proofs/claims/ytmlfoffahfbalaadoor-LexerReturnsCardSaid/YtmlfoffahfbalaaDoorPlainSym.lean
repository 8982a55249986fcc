/- Plain facts on symbols. -/
import Derived.Test.YtmlfoffahfbalaaDoorPlainLex2
import Derived.Lib.IndexAny
namespace Go.Proofs.YtmlfoffahfbalaaDoor
open Go

def noneOf (k : Nat) (l : List UInt8) : Prop := ∀ x ∈ symList.take k, x.data.toList.isPrefixOf l = false
theorem noneOf_succ {k : Nat} {l : List UInt8} (h : noneOf k l) (hk : k < symList.length) (hx : (symList[k]).data.toList.isPrefixOf l = false) : noneOf (k + 1) l := by
  intro x hx'
  rw [List.take_succ_eq_append_getElem hk, List.mem_append] at hx'
  rcases hx' with h1 | h1
  · exact h x h1
  · rw [List.mem_singleton] at h1; rw [h1]; exact hx
theorem sym_hit {k : Nat} {l : List UInt8} (h : noneOf k l) (hk : k < symList.length) (hx : (symList[k]).data.toList.isPrefixOf l = true) : symL l = (symList[k]).data.toList := by
  have e : symList.find? (fun x => x.data.toList.isPrefixOf l) = some symList[k] := by
    rw [List.find?_eq_some_iff_getElem]
    refine ⟨hx, k, hk, rfl, fun j hj => ?_⟩
    have := h (symList[j]) (List.mem_take_iff_getElem.2 ⟨j, by omega, rfl⟩)
    rw [this]; rfl
  rw [symL, e]
/-- the symbols of one byte, as the lexer lists them. -/
def singles : List UInt8 := [40, 41, 91, 93, 123, 125, 60, 62, 44, 58, 61, 46, 43, 45, 42, 124, 63, 47]
theorem singles_fin : ∀ n : Fin 256, (match (symList.drop 7).find? (fun x => x.data.toList.isPrefixOf [UInt8.ofNat n.val]) with | some x => x.data.toList | none => []) = if singles.contains (UInt8.ofNat n.val) then [UInt8.ofNat n.val] else [] := by decide +kernel
theorem singles_one : ∀ x ∈ symList.drop 7, x.data.toList.length = 1 := by decide
theorem sym_rest {l : List UInt8} (h : noneOf 7 l) : symL l = match (symList.drop 7).find? (fun x => x.data.toList.isPrefixOf l) with | some x => x.data.toList | none => [] := by
  have e : symList = symList.take 7 ++ symList.drop 7 := (List.take_append_drop 7 symList).symm
  have e2 : symList.find? (fun x => x.data.toList.isPrefixOf l) = (symList.drop 7).find? (fun x => x.data.toList.isPrefixOf l) := by
    conv => lhs; rw [e]
    rw [List.find?_append, List.find?_eq_none.2 (fun x hx => by rw [h x hx]; exact Bool.false_ne_true)]
    rfl
  rw [symL, e2]
  rfl
theorem sym_single {c : UInt8} {r : List UInt8} (h : noneOf 7 (c :: r)) : symL (c :: r) = if singles.contains c then [c] else [] := by
  rw [sym_rest h]
  have hp : ∀ x ∈ symList.drop 7, x.data.toList.isPrefixOf (c :: r) = x.data.toList.isPrefixOf [c] := by
    intro x hx
    have := singles_one x hx
    match e : x.data.toList, this with
    | [y], _ => simp [List.isPrefixOf]
  have e2 : (symList.drop 7).find? (fun x => x.data.toList.isPrefixOf (c :: r)) = (symList.drop 7).find? (fun x => x.data.toList.isPrefixOf [c]) := by
    have gen : ∀ l : List ByteArray, (∀ x ∈ l, x.data.toList.isPrefixOf (c :: r) = x.data.toList.isPrefixOf [c]) → l.find? (fun x => x.data.toList.isPrefixOf (c :: r)) = l.find? (fun x => x.data.toList.isPrefixOf [c]) := by
      intro l
      induction l with
      | nil => intro _; rfl
      | cons x l ih => intro hl; rw [List.find?_cons, List.find?_cons, hl x (by simp), ih (fun y hy => hl y (by simp [hy]))]
    exact gen _ hp
  rw [e2]
  have := singles_fin ⟨c.toNat, c.toNat_lt⟩
  simpa using this
theorem sym_nil : symL [] = [] := by decide
def symI (c : UInt8) : Int := Lib.indexByte singles c
theorem symI_yes (c : UInt8) (h : singles.contains c = true) : 0 ≤ symI c := by
  rw [Lib.contains_iff_indexByte] at h; exact of_decide_eq_true h
theorem symI_no (c : UInt8) (h : singles.contains c = false) : symI c < 0 := by
  rw [Lib.contains_iff_indexByte] at h; have := of_decide_eq_false h; unfold symI; omega
end Go.Proofs.YtmlfoffahfbalaaDoor
