/- The library's IsSorted at numbers, where they are sorted. -/
import Derived.Test.YtlcgbkeggmaljaaPK
import Derived.Shelf.SlSorted.IsSorted
namespace Go.Proofs.Ytlcgbkeggmaljaa
set_option linter.unusedVariables false
set_option linter.unusedSimpArgs false
open Go Go.RowKit Go.Shelf Go.Lib

def sortedRen : Ren := ⟨fun x => if x = 10 then 37 else if x = 18 then 60 else 70, fun x => if x = 0 then 0 else if x = 3 then 3 else if x = 4 then 4 else if x = 22 then 26 else 3, fun x => x⟩
theorem sortedLays : SlLaysO.n10 Try.prog sortedRen := {
  mixed := by kernel_rfl
  f10 := ⟨Try.f37.name, by decide, Try.func37.trans (congrArg some (by kernel_rfl))⟩
  f18 := ⟨Try.f60.name, by decide, Try.func60.trans (congrArg some (by kernel_rfl))⟩
  f24 := ⟨Try.f70.name, by decide, Try.func70.trans (congrArg some (by kernel_rfl))⟩
  t0 := Try.underlying0
  a0 := Try.isAgg0
  z0 := Try.sizeOf0
  v0 := Try.zeroValue0
  t3 := Try.underlying3
  a3 := Try.isAgg3
  z3 := Try.sizeOf3
  v3 := Try.zeroValue3
  t4 := Try.underlying4
  a4 := Try.isAgg4
  z4 := Try.sizeOf4
  v4 := Try.zeroValue4
  t22 := Try.underlying26
  a22 := Try.isAgg26
  z22 := Try.sizeOf26
  v22 := Try.zeroValue26
  t24 := Try.underlying3
  a24 := Try.isAgg3
  z24 := Try.sizeOf3
  v24 := Try.zeroValue3 }
theorem IsSorted_ints (v : Value) (l : List Nat) (B : Nat) (w : World) (hl : l.length ≤ 1000000000) (hp : 0 < l.length) (h : RowOf natC B v l w) (hs : l.Pairwise (· < ·)) :
    Calls Try.prog 37 #[v] w fun e w' => e = .returned (.bool true) ∧ ∃ q, w' = w.drewN q := by
  rcases h with ⟨rfl, _⟩ | ⟨b, off, cap, rfl, _, h⟩
  · simp at hp
  · have hsz : ((l.map fun n : Nat => (n : Int)).toArray).size = l.length := by simp
    have hg : ∀ i, i < l.length → ((l.map fun n : Nat => (n : Int)).toArray)[i]! = ((l.getD i 0 : Nat) : Int) := fun i hi => by
      rw [getElem!_pos _ i (by simpa using hi), List.getD_eq_getElem?_getD, List.getElem?_eq_getElem hi]
      simp
    have hc := AnyO.slices_IsSorted_int sortedLays b off cap (l.map fun n : Nat => (n : Int)).toArray w (fun i hi => by
      rw [hsz] at hi
      rw [hg i hi, List.getD_eq_getElem?_getD, List.getElem?_eq_getElem hi]
      exact h i l[i] (by simp [hi])) (by rw [hsz]; omega)
    rw [hsz] at hc
    refine hc.mono ?_
    rintro e w' ⟨rfl, q, rfl⟩
    refine ⟨?_, q, rfl⟩
    congr 2
    refine (Lib.downOK_iff _ _ _).2 fun i hi => ?_
    rw [hg i (by omega), hg (i + 1) (by omega)]
    have := List.pairwise_iff_getElem.1 hs i (i + 1) (by omega) (by omega) (by omega)
    rw [List.getD_eq_getElem?_getD, List.getD_eq_getElem?_getD, List.getElem?_eq_getElem (by omega), List.getElem?_eq_getElem (by omega)]
    exact decide_eq_false (by simp; omega)
end Go.Proofs.Ytlcgbkeggmaljaa
