/- The cards' openings: slices of strings and slices of them. -/
import Derived.Test.YtnjiibiafhnmgaaGreatDoorYL
import Derived.Test.YtnjiibiafhnmgaaGreatDoorZL
namespace Go.Proofs.YtnjiibiafhnmgaaGreatDoor
open Go Go.RowKit

set_option maxRecDepth 100000 in
theorem open_strs {H : Type} {enc : TypeId × Value → H} {W : World} {fuel : Nat} {v : Value} {x : DataW H × List MemPlace} (h : DataW.trod enc Tryz.prog W 0 (fun _ => true) true fuel 29 [v] = some x)
    (hlt : ∀ y ∈ x.2, y.block < W.heap.size) : ∃ l : List ByteArray, RowOf Value.string W.heap.size v l W ∧ l.length ≤ maxLen ∧ ∀ p ∈ l, p.size ≤ maxLen := by
  obtain ⟨ao, cap, l, rfl, hm, hl⟩ := open_rows (fun (q : ByteArray) cs => cs = [.string q] ∧ q.size ≤ maxLen) Tryz.underlying29 (c := 1) (by as_aux_lemma => kernel_rfl) (by omega) (fun n cs y hy _ => by
    have hcs : ∃ c0, cs = [c0] := by
      obtain ⟨s, e, _⟩ := DataW.trod_string Tryz.underlying9 hy
      exact ⟨_, e⟩
    obtain ⟨c0, rfl⟩ := hcs
    obtain ⟨s, e, _, hs⟩ := DataW.trod_string Tryz.underlying9 hy
    exact ⟨s, e, hs⟩) h hlt
  refine ⟨l, ?_, hm, fun p hp => ?_⟩
  · cases l with
    | nil => exact .inl ⟨rfl, ao, cap, rfl⟩
    | cons p l =>
      obtain ⟨b, off, cs, rfl, hb, _⟩ := hl 0 p rfl
      refine .inr ⟨b, off, cap, rfl, hb, fun i x hx => ?_⟩
      obtain ⟨b2, off2, cs, e, _, ⟨rfl, _⟩, hj⟩ := hl i x hx
      cases e
      have h0 := hj 0 (by omega)
      rw [Nat.mul_one, Nat.add_zero] at h0
      exact h0
  · obtain ⟨i, hi, rfl⟩ := List.mem_iff_getElem.1 hp
    obtain ⟨_, _, _, _, _, ⟨_, hs⟩, _⟩ := hl i l[i] (List.getElem?_eq_getElem hi)
    exact hs
set_option maxRecDepth 100000 in
theorem open_strss {H : Type} {enc : TypeId × Value → H} {W : World} {fuel : Nat} {v : Value} {x : DataW H × List MemPlace} (h : DataW.trod enc Tryz.prog W 0 (fun _ => true) true fuel 36 [v] = some x)
    (hlt : ∀ y ∈ x.2, y.block < W.heap.size) : ∃ ls : List (List ByteArray), NamesOf W.heap.size v ls W ∧ ls.length ≤ maxLen ∧ ∀ l ∈ ls, l.length ≤ maxLen := by
  obtain ⟨ao, cap, l, rfl, hm, hl⟩ := open_rows (fun (q : List ByteArray) cs => ∃ r, cs = [r] ∧ RowOf Value.string W.heap.size r q W ∧ q.length ≤ maxLen) Tryz.underlying36 (c := 1) (by as_aux_lemma => kernel_rfl) (by omega) (fun n cs y hy hp => by
    have hcs : ∃ c0, cs = [c0] := by
      rcases Go.Deep.open_slice Tryz.underlying29 hy with ⟨e, _⟩ | ⟨_, _, _, _, _, _, _, e, _⟩
      · exact ⟨_, e⟩
      · exact ⟨_, e⟩
    obtain ⟨c0, rfl⟩ := hcs
    obtain ⟨q, hq, hm, _⟩ := open_strs hy hp
    exact ⟨q, c0, rfl, hq, hm⟩) h hlt
  refine ⟨l, ⟨ao, cap, rfl, fun i x hx => ?_⟩, hm, fun y hy => ?_⟩
  · obtain ⟨b, off, cs, rfl, hb, ⟨r, rfl, hs, _⟩, hj⟩ := hl i x hx
    have h0 := hj 0 (by omega)
    rw [Nat.mul_one, Nat.add_zero] at h0
    exact ⟨b, off, r, rfl, hb, h0, hs⟩
  · obtain ⟨i, hi, rfl⟩ := List.mem_iff_getElem.1 hy
    obtain ⟨b, off, cs, _, _, ⟨_, _, _, hs⟩, _⟩ := hl i l[i] (List.getElem?_eq_getElem hi)
    exact hs
end Go.Proofs.YtnjiibiafhnmgaaGreatDoor
