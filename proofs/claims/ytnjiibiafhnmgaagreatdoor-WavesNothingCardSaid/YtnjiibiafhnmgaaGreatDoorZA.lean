/- A region that draws its order and makes several blocks: by what holds between any two of its operations. -/
import Derived.Test.YtnjiibiafhnmgaaGreatDoorYZ
namespace Go.Proofs.YtnjiibiafhnmgaaGreatDoor
set_option linter.unusedVariables false
set_option linter.unusedSimpArgs false
open Go Go.RowKit

def afterOk (md : Region.Mode) (ops : Array Oper) (listed : Array Bool) (i : Nat) : Bool := ((ops[i]?).map (·.after.all fun e => !Region.binds md e || listed.getD e.on false)).getD false
theorem ready_spec {md : Region.Mode} {ops : Array Oper} {listed : Array Bool} {i : Nat} (h : i ∈ Region.ready md ops listed) : i < ops.size ∧ listed.getD i true = false ∧ afterOk md ops listed i = true := by
  unfold Region.ready at h
  obtain ⟨h1, h2⟩ := List.mem_filter.1 h
  rw [Bool.and_eq_true] at h2
  exact ⟨List.mem_range.1 h1, by simpa using h2.1, h2.2⟩
theorem ready_nil {md : Region.Mode} {ops : Array Oper} {listed : Array Bool} (h : Region.ready md ops listed = []) (i : Nat) (ha : afterOk md ops listed i = true) : listed.getD i true = true := by
  cases hb : listed.getD i true with
  | true => rfl
  | false =>
    have : i ∈ Region.ready md ops listed := by
      unfold Region.ready
      refine List.mem_filter.2 ⟨List.mem_range.2 ?_, ?_⟩
      · unfold afterOk at ha
        cases e : ops[i]? with
        | none => rw [e] at ha; cases ha
        | some o => exact (Array.getElem?_eq_some_iff.1 e).1
      · rw [hb]; exact ha
    rw [h] at this
    cases this
theorem wpAnyH_inv {P : Program} {md : Region.Mode} {ops : Array Oper} {Q : Exit → Act → World → Prop} {S : World → Prop} (J : Array Bool → Act → World → Prop)
    (step : ∀ listed a w i, J listed a w → i ∈ Region.ready md ops listed → wpOp P ops Q i (fun a' w' => S w' ∧ J (listed.setIfInBounds i true) a' w') a w)
    (fin : ∀ listed a w, J listed a w → Region.ready md ops listed = [] → Q .normal a w) : ∀ fuel listed a w, unseen listed.toList ≤ fuel → J listed a w → wpAnyH P md ops Q S fuel listed a w
  | 0, listed, a, w, hu, hJ => by
    have hr : Region.ready md ops listed = [] := by
      rcases hl : Region.ready md ops listed with _ | ⟨i, r⟩
      · rfl
      · have hi : i ∈ Region.ready md ops listed := by rw [hl]; simp
        have h1 := (ready_spec hi).2.1
        have h2 : listed.toList[i]? = some false := by
          rw [Array.getElem?_toList]
          rw [Array.getD_eq_getD_getElem?] at h1
          cases e : listed[i]? with
          | none => rw [e] at h1; cases h1
          | some b => rw [e] at h1; simp at h1; rw [h1]
        have := unseen_set _ _ h2
        omega
    exact ⟨hr, fin _ _ _ hJ hr⟩
  | fuel + 1, listed, a, w, hu, hJ => by
    refine ⟨fin _ _ _ hJ, fun i hi => wpOp_mono (fun a' w' h => ⟨h.1, ?_⟩) (step _ _ _ _ hJ hi)⟩
    refine wpAnyH_inv J step fin fuel _ _ _ ?_ h.2
    have h1 := (ready_spec hi).2.1
    have h2 : listed.toList[i]? = some false := by
      rw [Array.getElem?_toList]
      rw [Array.getD_eq_getD_getElem?] at h1
      cases e : listed[i]? with
      | none => rw [e] at h1; cases h1
      | some b => rw [e] at h1; simp at h1; rw [h1]
    have := unseen_set _ _ h2
    rw [Array.toList_setIfInBounds]
    omega
theorem region_plainP {P : Program} {id : Nat} {ops : Array Oper} {Q : Exit → Act → World → Prop} {a : Act} {w : World} {S : World → Prop} (hm : P.follows .mixedOrders = true)
    (h : wpAnyH P .any ops (NoPanic Q) S ops.size (Array.replicate ops.size false) a w.drew) : (Code.region id ops true).wp P Q a w :=
  wp_region_noPanic (wp_region_held hm h)
theorem wpOp_hid {P : Program} {ops : Array Oper} {Q : Exit → Act → World → Prop} {i : Nat} {o : Oper} {K : Act → World → Prop} {a : Act} {w : World} (ho : ops[i]? = some o)
    (h : ∀ K' : Act → World → Prop, Hid (∀ a w, K a w → K' a w) → if Region.wanted o (yielded ops a.tmps) = true then Oper.wp P o a w K' Q else K' (a.put o.dst undef) w) : wpOp P ops Q i K a w :=
  wpOp_step ho fun K' hK => h K' (Lib.hid hK)

def Ent (B : Nat) (w : World) (l : Bool) (s : Value) (b : Nat) (val : Nat → Value) (o : Obj) : Prop := l = true → s = val b ∧ B ≤ b ∧ w.heap[b]? = some o
theorem Ent.keep {B : Nat} {w w' : World} {l : Bool} {s : Value} {b : Nat} {val : Nat → Value} {o : Obj} (h : Ent B w l s b val o) (hk : ∀ k, k < w.heap.size → w'.heap[k]? = w.heap[k]?) : Ent B w' l s b val o := fun hl => by
  obtain ⟨h1, h2, h3⟩ := h hl
  exact ⟨h1, h2, (hk b (Array.getElem?_eq_some_iff.1 h3).1).trans h3⟩
theorem Ent.other {B : Nat} {w : World} {l : Bool} {s : Value} {b : Nat} {val : Nat → Value} {o : Obj} (h : Ent B w l s b val o) (c : Nat) (x : Value) (hne : l = true → b ≠ c) : Ent B (w.setCell ⟨c, 0, none⟩ x) l s b val o := fun hl => by
  obtain ⟨h1, h2, h3⟩ := h hl
  exact ⟨h1, h2, (heap_setCell_other _ _ _ _ (hne hl)).trans h3⟩
theorem Ent.lt {B : Nat} {w : World} {l : Bool} {s : Value} {b : Nat} {val : Nat → Value} {o : Obj} (h : Ent B w l s b val o) (hl : l = true) : b < w.heap.size := (Array.getElem?_eq_some_iff.1 (h hl).2.2).1
def Dis (l l' : Bool) (b b' : Nat) : Prop := l = true → l' = true → b ≠ b'
abbrev slOf (N : Nat) (b : Nat) : Value := .slice (some ⟨b, 0, none⟩) N N
abbrev ptrOf (b : Nat) : Value := .pointer (some ⟨b, 0, none⟩)
abbrev boxO (t : Nat) (x : Value) : Obj := .cells #[x] t (0, 0)
end Go.Proofs.YtnjiibiafhnmgaaGreatDoor
