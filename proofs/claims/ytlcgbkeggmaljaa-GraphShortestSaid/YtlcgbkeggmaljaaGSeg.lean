/- A slice of the call's own that may begin behind its block's head: cut and appended to. -/
import Derived.Test.YtlcgbkeggmaljaaGReach
import Derived.ArgAppend
namespace Go.Proofs.Ytlcgbkeggmaljaa
set_option linter.unusedVariables false
set_option linter.unusedSimpArgs false
open Go Go.RowKit

/-- a slice of one-cell elements in a block from B on. -/
def Seg (W : World) (B : Nat) (e : TypeId) (v : Value) (xs : List Value) : Prop :=
  (v = .slice none 0 0 ∧ xs = []) ∨ ∃ g off cap cur, v = .slice (some ⟨g, off, none⟩) xs.length cap ∧ B ≤ g ∧ W.heap[g]? = some (.cells cur e (0, 0)) ∧ xs.length ≤ cap ∧ off + cap ≤ cur.size ∧ ∀ j x, xs[j]? = some x → cur[off + j]? = some x
theorem Seg.lt {W : World} {B : Nat} {e : TypeId} {v : Value} {xs : List Value} (h : Seg W B e v xs) : ∀ k, v.ownBlock = some k → B ≤ k ∧ k < W.heap.size := by
  intro k hk
  rcases h with ⟨rfl, _⟩ | ⟨g, off, cap, cur, rfl, hb, hg, _⟩
  · simp [Value.ownBlock] at hk
  · simp [Value.ownBlock] at hk
    subst hk
    exact ⟨hb, (Array.getElem?_eq_some_iff.1 hg).1⟩
theorem Seg.far {W W' : World} {B : Nat} {e : TypeId} {v : Value} {xs : List Value} (h : Seg W B e v xs) (hk : ∀ k, v.ownBlock = some k → W'.heap[k]? = W.heap[k]?) : Seg W' B e v xs := by
  rcases h with h | ⟨g, off, cap, cur, rfl, hb, hg, r⟩
  · exact .inl h
  · exact .inr ⟨g, off, cap, cur, rfl, hb, (hk g rfl).trans hg, r⟩
theorem Seg.shape {W : World} {B : Nat} {e : TypeId} {v : Value} {xs : List Value} (h : Seg W B e v xs) : ∃ a c, v = .slice a xs.length c := by
  rcases h with ⟨rfl, rfl⟩ | ⟨g, off, cap, cur, rfl, _⟩
  · exact ⟨none, 0, rfl⟩
  · exact ⟨_, _, rfl⟩
theorem seg_ne {W : World} {b B t e : Nat} {cs : Array Value} {f : Nat × Nat} {v : Value} {xs : List Value} (hb : W.heap[b]? = some (.cells cs t f)) (h : Seg W B e v xs) (ht : t ≠ e) : some b ≠ v.ownBlock := by
  rcases h with ⟨rfl, _⟩ | ⟨g, off, cap, cur, rfl, _, hg, _⟩
  · simp [Value.ownBlock]
  · intro h3
    simp [Value.ownBlock] at h3
    subst h3
    rw [hb] at hg
    simp at hg
    exact ht hg.2.1
theorem Seg.of_own {W : World} {B e n : Nat} {v : Value} {xs : List Value} (h : W.ownsRow B e 1 v n xs) : Seg W B e v xs := by
  have hl : xs.length = n := by have := h.1; omega
  subst hl
  rcases h.2 with ⟨rfl, h0⟩ | ⟨g, cap, cur, rfl, hb, hg, hc, _, hs, ht⟩
  · exact .inl ⟨rfl, List.length_eq_zero_iff.1 h0⟩
  · refine .inr ⟨g, 0, cap, cur, rfl, hb, hg, hc, by omega, fun j x hx => ?_⟩
    have hj := (List.getElem?_eq_some_iff.1 hx).1
    rw [Nat.zero_add, ← Array.getElem?_toList, ← hx]
    conv => rhs; rw [← ht]
    rw [List.getElem?_take_of_lt (by omega)]
/-- the first element and the rest. -/
theorem Seg.head {W : World} {B : Nat} {e : TypeId} {v : Value} {x : Value} {xs : List Value} (h : Seg W B e v (x :: xs)) :
    ∃ g off cap a, v = .slice (some ⟨g, off, none⟩) (xs.length + 1) (cap + 1) ∧ W.cell? ⟨g, off, none⟩ = some x ∧ Seg W B e (.slice a xs.length cap) xs ∧ (if cap = 0 then some ⟨g, off, none⟩ else some ⟨g, off + 1, none⟩) = a ∧ (Value.slice a xs.length cap).ownBlock = v.ownBlock := by
  rcases h with ⟨_, h⟩ | ⟨g, off, cap, cur, rfl, hb, hg, hc, hs, hr⟩
  · cases h
  · simp only [List.length_cons] at hc
    obtain ⟨cap, rfl⟩ : ∃ c, cap = c + 1 := ⟨cap - 1, by omega⟩
    have hcx : W.cell? ⟨g, off, none⟩ = some x := by rw [cell_of_row _ _ _ _ _ _ hg]; exact hr 0 x rfl
    by_cases h1 : cap + 1 = 1
    · have h0 : cap = 0 := by omega
      subst h0
      have : xs = [] := List.length_eq_zero_iff.1 (by omega)
      subst this
      exact ⟨g, off, 0, _, rfl, hcx, .inr ⟨g, off, 0, cur, rfl, hb, hg, by simp, by omega, fun j x hx => by simp at hx⟩, by simp, rfl⟩
    · refine ⟨g, off, cap, _, rfl, hcx, .inr ⟨g, off + 1, cap, cur, rfl, hb, hg, by omega, by omega, fun j y hy => ?_⟩, by rw [if_neg (by omega)], rfl⟩
      have := hr (j + 1) y (by simpa using hy)
      rwa [show off + 1 + j = off + (j + 1) by omega]

theorem run_append_seg {P : Program} (w : World) (t ty e : TypeId) (i : TypeInfo) (z : Value) (bytes : Nat) (ht : P.underlying t = some (.slice e)) (hi : P.info? e = some i) (hz : i.zero = some z) (hsize : i.size = 1) (hby : i.bytes = bytes) (hzs : z.cells.size = 1)
    (B : Nat) (v : Value) (xs : List Value) (h : Seg w B e v xs) (hB : B ≤ w.heap.size) (x : Value) (a : Addr) (c : Nat) (hx : w.cell? a = some x) (h1 : x.oneCell' = true) (hl : xs.length + 1 ≤ 1000000000) (hb : bytes ≤ 1000) :
    ∃ v' w', (Builtin.append_ #[t, t] ty #[v, .slice (some a) 1 c]).run P w = .ok v' w' ∧ Seg w' B e v' (xs ++ [x]) ∧ w.grownBy w' v.ownBlock ∧ (v'.ownBlock = v.ownBlock ∨ ∀ k, v'.ownBlock = some k → w.heap.size ≤ k) := by
  have hbytes : (xs.length + 1) * bytes ≤ 140737488355328 := Nat.le_trans (Nat.mul_le_mul hl hb) (by decide)
  have hnews : ∀ j u, [x][j]? = some u → w.cell? (a.add j) = some u := fun j u hu => by
    cases j with
    | zero =>
      simp at hu
      subst hu
      have : a.add 0 = a := by unfold Addr.add; split <;> simp_all
      rw [this]; exact hx
    | succ j => simp at hu
  rcases h with ⟨rfl, rfl⟩ | ⟨g, off, cap, cur, rfl, hbg, hg, hc, hs, hr⟩
  · obtain ⟨v', w', hrun, ho, hgr, _⟩ := run_append_own (P := P) w w.heap.size t ty e i z 1 bytes ht hi hz hsize hby hzs (by decide) (.slice none 0 0) 0 [] (World.ownsRow_nil _ _ _ _) a 1 c [x] rfl hnews (by simpa using h1) (by unfold maxLen; omega) (by simpa using hbytes) (Nat.le_refl _)
    exact ⟨v', w', hrun, Seg.of_own ⟨ho.1, ho.2.imp id fun ⟨g, cap, cur, h1, h2, h3⟩ => ⟨g, cap, cur, h1, Nat.le_trans hB h2, h3⟩⟩, hgr, .inr fun k hk => (ho.lt k hk).1⟩
  · by_cases hroom : xs.length + 1 ≤ cap
    · have hrun := run_append_room_cells (P := P) w t ty e i ht hi g off xs.length cap a 1 c [x] (by rw [hsize]; rfl) hnews (by simpa using h1) hroom
        (fun j hj => by
          have : j = 0 := by simpa using hj
          subst this
          rw [hsize, cell_of_row _ _ _ _ _ _ hg]
          simp
          omega)
        (fun j hj => frozen_of_row _ _ _ _ _ hg)
      rw [hsize, Nat.mul_one] at hrun
      refine ⟨_, _, hrun, .inr ⟨g, off, cap, _, by rw [List.length_append]; rfl, hbg, heap_setCell_same w g (off + xs.length) cur e x hg, by simpa using hroom, by simpa using hs, fun j y hy => ?_⟩, ?_⟩
      · by_cases hj : j < xs.length
        · rw [List.getElem?_append_left hj] at hy
          rw [Array.getElem?_setIfInBounds_ne (by omega)]
          exact hr j y hy
        · rw [List.getElem?_append_right (by omega)] at hy
          have : j = xs.length := by
            have := (List.getElem?_eq_some_iff.1 hy).1
            simp at this
            omega
          subst this
          simp at hy
          subst hy
          rw [Array.getElem?_setIfInBounds_self_of_lt (by omega)]
      · exact ⟨⟨rfl, rfl, rfl, by simp [World.setCells], fun k _ hk => heap_setCell_other w ⟨g, off + xs.length, none⟩ k x (fun e => hk (by simp [Value.ownBlock, e]))⟩, .inl rfl⟩
    · obtain ⟨v', w', hrun, ho, hgr⟩ := run_append_arg_grows (P := P) w t ty e i z 1 bytes ht hi hz hsize hby hzs (by decide) ⟨g, off, none⟩ xs.length cap xs (by simp)
        (fun j u hu => by
          have e : ((⟨g, off, none⟩ : Addr).add j) = ⟨g, off + j, none⟩ := by unfold Addr.add; split <;> simp_all
          rw [e, cell_of_row _ _ _ _ _ _ hg]
          exact hr j u hu) a 1 c [x] rfl hnews (by omega) (by unfold maxLen; omega) hbytes
      refine ⟨v', w', hrun, Seg.of_own ⟨ho.1, ho.2.imp id fun ⟨g, cap, cur, h1, h2, h3⟩ => ⟨g, cap, cur, h1, Nat.le_trans hB h2, h3⟩⟩, hgr.but _, .inr fun k hk => (ho.lt k hk).1⟩

/-- an append of one element, in a walk inside a fence. -/
theorem wpListIn_append_seg {F : Fence} {n : Nat} {P : Program} (w : World) {ops : Array Oper} {rest : List Oper} {o : Oper} {ac : Act} {Q : Exit → Act → World → Prop}
    (hg : o.guard = none) (s x : Operand) (t : TypeId) (hop : o.op = Op.call { callee := Callee.builtin Builtin.append, args := #[s, x], argTypes := #[t, t] })
    (e : TypeId) (i : TypeInfo) (z : Value) (bytes : Nat) (ht : P.underlying t = some (.slice e)) (hi : P.info? e = some i) (hz : i.zero = some z) (hsize : i.size = 1) (hby : i.bytes = bytes) (hzs : z.cells.size = 1)
    (B : Nat) (v : Value) (xs : List Value) (hs : ac.eval s = v) (h : Seg w B e v xs) (hB : B ≤ w.heap.size) (u : Value) (a : Addr) (c : Nat) (hx : ac.eval x = .slice (some a) 1 c) (hu : w.cell? a = some u) (h1 : u.oneCell' = true) (hl : xs.length + 1 ≤ 1000000000) (hb : bytes ≤ 1000)
    (hK : ∀ v' w', Seg w' B e v' (xs ++ [u]) → w.grownBy w' v.ownBlock → (v'.ownBlock = v.ownBlock ∨ ∀ k, v'.ownBlock = some k → w.heap.size ≤ k) → wpListIn F n P ops Q rest (ac.put o.dst v') w') :
    wpListIn F n P ops Q (o :: rest) ac w := by
  refine wpListIn_plain hg fun K hK' => ?_
  obtain ⟨v', w', hrun, r1, r2, r3⟩ := run_append_seg (P := P) w t o.type e i z bytes ht hi hz hsize hby hzs B v xs h hB u a c hu h1 hl hb
  unfold Oper.wpIn
  refine ⟨?_, ?_⟩
  · simp [Oper.about, hop, resolve, Target.leads, Sem.run_pure]
  · rw [Oper.semAt_plain F _ _ (by rw [hop]; intro c hc'; cases hc')]
    simp [execOp, hop, resolve, invoke, builtin, hs, hx, hrun, Result.andThen]
    exact hK' _ _ (hK v' w' r1 r2 r3)
end Go.Proofs.Ytlcgbkeggmaljaa
