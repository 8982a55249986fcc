/- Graphs, plain: the nodes of each level, as the program does it. Graphs, plain: two nodes have one number exactly if they reach each other. -/
import Derived.Test.YtnjiibiafhnmgaaGreatDoorZE
import Derived.Test.YtnjiibiafhnmgaaGreatDoorYY
import Derived.Test.YtnjiibiafhnmgaaGreatDoorYF
namespace Go.Proofs.YtnjiibiafhnmgaaGreatDoor
set_option linter.unusedVariables false
set_option linter.unusedSimpArgs false
open Go.RowKit

def lvstep (c : Nat) (lv : List Int) (d : Nat) : List Int := lv.set c (max (gD lv c) (gD lv d + 1))
def lvpad (out : List (List Nat)) (m : Nat) : List (List Nat) := out ++ List.replicate (m + 1 - out.length) []
def lvput (nd out : List (List Nat)) (m c : Nat) : List (List Nat) := (lvpad out m).set m ((lvpad out m).getD m [] ++ nd.getD c [])
def lvadd (S nd : List (List Nat)) (st : List Int × List (List Nat)) (c : Nat) : List Int × List (List Nat) :=
  ((S.getD c []).foldl (lvstep c) st.1, lvput nd st.2 (gD ((S.getD c []).foldl (lvstep c) st.1) c).toNat c)
def lvrun (S nd : List (List Nat)) (L : List Nat) : List Int × List (List Nat) := L.foldl (lvadd S nd) (List.replicate nd.length 0, [])
def sortN (r : List Nat) : List Nat := ((r.map fun n : Nat => (n : Int)).mergeSort fun x y => decide (x ≤ y)).map Int.toNat
def levelsG (N : Nat) (es : List (Int × Int)) : List (List Nat) := (lvrun (condG N es) (nodesG N es) (listF (condG N es))).2.map sortN
theorem sortN_cells (r : List Nat) : (sortN r).map natC = ((r.map fun n : Nat => (n : Int)).mergeSort fun x y => decide (x ≤ y)).map intC := by
  unfold sortN
  rw [List.map_map]
  apply List.map_congr_left
  intro x hx
  have h1 := (List.mergeSort_perm (r.map fun n : Nat => (n : Int)) fun x y => decide (x ≤ y)).subset hx
  obtain ⟨y, _, rfl⟩ := List.mem_map.1 h1
  rfl
theorem lvsteps_ok {c M B : Nat} (hc : c < M) : ∀ (l : List Nat) (lv : List Int) (m : Nat), lv.length = M → (∀ d ∈ l, d < M) → (∀ a, a < M → 0 ≤ gD lv a ∧ gD lv a ≤ (m : Int)) → l.length ≤ B →
    (l.foldl (lvstep c) lv).length = M ∧ ∀ a, a < M → 0 ≤ gD (l.foldl (lvstep c) lv) a ∧ gD (l.foldl (lvstep c) lv) a ≤ ((m + l.length : Nat) : Int)
  | [], lv, m, h1, _, h3, _ => ⟨h1, h3⟩
  | d :: l, lv, m, h1, h2, h3, hB => by
    have hd := h3 d (h2 d (by simp))
    have hcc := h3 c hc
    have := lvsteps_ok (B := B) hc l (lvstep c lv d) (m + 1) (by unfold lvstep; rw [List.length_set]; exact h1) (fun j hj => h2 j (by simp [hj])) (fun a ha => by
      unfold lvstep
      have := h3 a ha
      rw [gD_set']
      split <;> omega) (by simp at hB; omega)
    rw [List.foldl_cons, List.length_cons]
    refine ⟨this.1, fun a ha => ?_⟩
    have := this.2 a ha
    omega
theorem lvpad_len (out : List (List Nat)) (m : Nat) : (lvpad out m).length = max out.length (m + 1) := by
  unfold lvpad
  rw [List.length_append, List.length_replicate]
  omega
theorem lvpad_row (out : List (List Nat)) (m i : Nat) : (lvpad out m).getD i [] = out.getD i [] := by
  unfold lvpad
  rw [List.getD_eq_getElem?_getD, List.getD_eq_getElem?_getD, List.getElem?_append]
  split
  · rfl
  · rw [List.getElem?_replicate, List.getElem?_eq_none (by omega)]
    split <;> rfl
structure LInv (M R N k : Nat) (st : List Int × List (List Nat)) : Prop where
  len : st.1.length = M
  lv : ∀ a, a < M → 0 ≤ gD st.1 a ∧ gD st.1 a ≤ ((k * R : Nat) : Int)
  out : st.2.length ≤ k * R + 1
  row : ∀ i, (st.2.getD i []).length ≤ k * N
theorem LInv.add {M R N k : Nat} {st : List Int × List (List Nat)} {S nd : List (List Nat)} (h : LInv M R N k st) (c : Nat) (hc : c < M) (hS : ∀ a, ∀ j ∈ S.getD a [], j < M) (hR : ∀ a, (S.getD a []).length ≤ R) (hN : ∀ i, (nd.getD i []).length ≤ N) : LInv M R N (k + 1) (lvadd S nd st c) := by
  obtain ⟨h1, h2⟩ := lvsteps_ok (B := R) hc (S.getD c []) st.1 (k * R) h.len (hS c) h.lv (hR c)
  have hr := hR c
  have e1 : (k + 1) * R = k * R + R := Nat.succ_mul k R
  have e2 : (k + 1) * N = k * N + N := Nat.succ_mul k N
  unfold lvadd
  refine ⟨h1, fun a ha => ?_, ?_, fun i => ?_⟩
  · have t := h2 a ha
    refine ⟨t.1, ?_⟩
    rw [e1]
    exact Int.le_trans t.2 (by omega)
  · show (lvput _ _ _ _).length ≤ _
    unfold lvput
    rw [List.length_set, lvpad_len, e1]
    have := h2 c hc
    have := h.out
    omega
  · show ((lvput _ _ _ _).getD i []).length ≤ _
    unfold lvput
    rw [getD_set_row]
    split
    · rw [List.length_append, lvpad_row]
      have := h.row (gD ((S.getD c []).foldl (lvstep c) st.1) c).toNat
      have := hN c
      omega
    · rw [lvpad_row]
      have := h.row i
      omega
theorem lvrun_inv {M R N : Nat} {S nd : List (List Nat)} (hnd : nd.length = M) (hS : ∀ a, ∀ j ∈ S.getD a [], j < M) (hR : ∀ a, (S.getD a []).length ≤ R) (hN : ∀ i, (nd.getD i []).length ≤ N) (L : List Nat) (hL : ∀ c ∈ L, c < M) :
    ∀ k, k ≤ L.length → LInv M R N k (lvrun S nd (L.take k)) := by
  intro k
  induction k with
  | zero =>
    intro _
    have hg : ∀ a, a < M → gD (List.replicate nd.length (0 : Int)) a = 0 := fun a ha => by
      unfold gD
      rw [List.getD_eq_getElem?_getD, List.getElem?_replicate, if_pos (by omega)]
      rfl
    refine ⟨by simp [lvrun, hnd], fun a ha => ?_, by simp [lvrun], fun i => by simp [lvrun]⟩
    show 0 ≤ gD (List.replicate nd.length (0 : Int)) a ∧ gD (List.replicate nd.length (0 : Int)) a ≤ _
    rw [hg a ha]
    omega
  | succ k ih =>
    intro hk
    have e : lvrun S nd (L.take (k + 1)) = lvadd S nd (lvrun S nd (L.take k)) L[k] := by
      unfold lvrun
      rw [List.take_succ_eq_append_getElem (by omega), List.foldl_append]
      rfl
    rw [e]
    exact (ih (by omega)).add _ (hL _ (List.getElem_mem _)) hS hR hN
theorem crun_pos {co : List Int} {ct N : Nat} (hco : ∀ n, n < N → 0 ≤ gD co n ∧ gD co n < (ct : Int)) : ∀ k, k ≤ N → ∀ i, i < (crun co ct k).2.length → 0 < ((crun co ct k).2.getD i []).length
  | 0, _, i, hi => by simp [crun] at hi
  | k + 1, hk, i, hi => by
    have h := crun_inv hco k (by omega)
    have ih := crun_pos hco k (by omega)
    have hp := h.put (gD co k).toNat (by have := hco k (by omega); omega)
    rw [crun_succ] at hi ⊢
    unfold cstepN crow at hi ⊢
    simp only [List.length_set] at hi
    show 0 < ((List.set _ _ _).getD i []).length
    rw [getD_set_row]
    split
    · rw [List.length_append, List.length_singleton]; omega
    · rename_i hne
      have hni : i ≠ (gD (cput (crun co ct k) (gD co k).toNat).1 (gD co k).toNat).toNat := fun e => hne ⟨e, by omega⟩
      have hcl : (gD co k).toNat < ct := by have := hco k (by omega); omega
      generalize (gD co k).toNat = c at *
      unfold cput at hi hni ⊢
      split
      · rename_i hlt
        rw [if_pos hlt] at hi hni
        simp only at hi hni ⊢
        rw [gD_set', if_pos ⟨rfl, by have h9 := h.len; omega⟩] at hni
        have hi2 : i < (crun co ct k).2.length := by simp at hi; omega
        have := ih i hi2
        rw [List.getD_eq_getElem?_getD, List.getElem?_append_left hi2]
        rwa [List.getD_eq_getElem?_getD] at this
      · rename_i hlt
        rw [if_neg hlt] at hi
        exact ih i hi
end Go.Proofs.YtnjiibiafhnmgaaGreatDoor

namespace Go.Proofs.YtnjiibiafhnmgaaGreatDoor
set_option linter.unusedVariables false
set_option linter.unusedSimpArgs false

theorem gd_ne {d : List Int} {a b : Nat} {x : Int} (h : a ≠ b) : gD (d.set a x) b = gD d b := by
  unfold gD
  rw [List.getD_eq_getElem?_getD, List.getD_eq_getElem?_getD, List.getElem?_set_ne h]
theorem gd_eq {d : List Int} {a : Nat} {x : Int} (h : a < d.length) : gD (d.set a x) a = x := by
  unfold gD
  rw [List.getD_eq_getElem?_getD, List.getElem?_set_self h]
  rfl
structure SInv (S : List (List Nat)) (G : List Nat) (s : TS) : Prop where
  li : s.ix.length = S.length
  ll : s.lo.length = S.length
  lc : s.co.length = S.length
  n1 : 1 ≤ s.nx
  ixb : ∀ k, k < S.length → 0 ≤ gD s.ix k ∧ gD s.ix k < s.nx
  cob : ∀ k, k < S.length → gD s.co k < s.ct
  wh : ∀ k, k < S.length → gD s.ix k = 0 → gD s.co k < 0
  stm : ∀ k, k ∈ s.st ↔ k < S.length ∧ gD s.ix k ≠ 0 ∧ gD s.co k < 0
  srt : s.st.Pairwise (fun a b => gD s.ix a < gD s.ix b)
  up : ∀ x ∈ s.st, ∀ y ∈ s.st, gD s.ix x ≤ gD s.ix y → Rch S x y
  gr : ∀ y ∈ s.st, ∃ x ∈ G, x ∈ s.st ∧ gD s.ix x ≤ gD s.ix y ∧ Rch S y x
  gs : ∀ g ∈ G, g ∈ s.st
  bl : ∀ k, k < S.length → gD s.ix k ≠ 0 → k ∉ G → ∀ j ∈ S.getD k [], gD s.ix j ≠ 0
  dn : ∀ k, k < S.length → 0 ≤ gD s.co k → ∀ j ∈ S.getD k [], 0 ≤ gD s.co j
  sc : ∀ a b, a < S.length → b < S.length → 0 ≤ gD s.co a → 0 ≤ gD s.co b → (gD s.co a = gD s.co b ↔ Rch S a b ∧ Rch S b a)
structure VPost (S : List (List Nat)) (G : List Nat) (s : TS) (n : Nat) (s' : TS) : Prop where
  inv : SInv S G s'
  fi : ∀ k, k < S.length → gD s.ix k ≠ 0 → gD s'.ix k = gD s.ix k
  fl : ∀ k, k < S.length → gD s.ix k ≠ 0 → gD s'.lo k = gD s.lo k
  nx : s.nx ≤ s'.nx
  st : ∃ zs, s'.st = s.st ++ zs ∧ ∀ x ∈ zs, ∀ y ∈ S.getD x [], y ∈ s.st → gD s'.lo n ≤ gD s.ix y
  nw : gD s'.ix n ≠ 0
  low : (∃ y ∈ s.st, gD s.ix y = gD s'.lo n ∧ Rch S n y) ∨ (s.nx : Int) ≤ gD s'.lo n
structure FInv (S : List (List Nat)) (G : List Nat) (s : TS) (n : Nat) (pre : List Nat) (t : TS) : Prop where
  inv : SInv S (n :: G) t
  fi : ∀ k, k < S.length → gD s.ix k ≠ 0 → gD t.ix k = gD s.ix k
  fl : ∀ k, k < S.length → gD s.ix k ≠ 0 → gD t.lo k = gD s.lo k
  nx : s.nx + 1 ≤ t.nx
  ixn : gD t.ix n = (s.nx : Int)
  lon : gD t.lo n ≤ (s.nx : Int)
  st : ∃ zs, t.st = s.st ++ n :: zs ∧ ∀ x ∈ zs, ∀ y ∈ S.getD x [], y ∈ s.st → gD t.lo n ≤ gD s.ix y
  pre : ∀ k ∈ pre, gD t.ix k ≠ 0 ∧ (k ∈ s.st → gD t.lo n ≤ gD s.ix k)
  low : ∃ y ∈ t.st, gD t.ix y = gD t.lo n ∧ Rch S n y
theorem SInv.low {S : List (List Nat)} {G : List Nat} {s : TS} (h : SInv S G s) (n : Nat) (x : Int) : SInv S G (tlow s n x) :=
  ⟨h.li, by show (s.lo.set n _).length = _; rw [List.length_set, h.ll], h.lc, h.n1, h.ixb, h.cob, h.wh, h.stm, h.srt, h.up, h.gr, h.gs, h.bl, h.dn, h.sc⟩
theorem SInv.mark {S : List (List Nat)} {G : List Nat} {s : TS} (h : SInv S G s) {n : Nat} (hn : n < S.length) (h0 : gD s.ix n = 0) (hg : ∀ g ∈ G, Rch S g n) : FInv S G s n [] (tmark s n) := by
  have hnst : n ∉ s.st := fun hm => ((h.stm n).1 hm).2.1 h0
  have hn1 := h.n1
  have e1 : gD (tmark s n).ix n = (s.nx : Int) := gd_eq (by rw [h.li]; exact hn)
  have e2 : ∀ k, k ≠ n → gD (tmark s n).ix k = gD s.ix k := fun k hk => gd_ne (fun e => hk e.symm)
  have e3 : gD (tmark s n).lo n = (s.nx : Int) := gd_eq (by rw [h.ll]; exact hn)
  have e4 : ∀ k, k ≠ n → gD (tmark s n).lo k = gD s.lo k := fun k hk => gd_ne (fun e => hk e.symm)
  have es : ∀ k, k ∈ (tmark s n).st ↔ k ∈ s.st ∨ k = n := fun k => by show k ∈ s.st ++ [n] ↔ _; simp
  have hne : ∀ k ∈ s.st, k ≠ n := fun k hk e => hnst (e ▸ hk)
  refine ⟨⟨by show (s.ix.set n _).length = _; rw [List.length_set, h.li], by show (s.lo.set n _).length = _; rw [List.length_set, h.ll], h.lc, by show 1 ≤ s.nx + 1; omega, ?_, h.cob, ?_, ?_, ?_, ?_, ?_, fun g hgG => (es g).2 ((List.mem_cons.1 hgG).symm.imp (h.gs g) id), ?_, h.dn, h.sc⟩, ?_, ?_, Nat.le_refl _, e1, by rw [e3]; exact Int.le_refl _, ⟨[], rfl, fun x hx => by simp at hx⟩, fun k hk => by simp at hk, ⟨n, (es n).2 (.inr rfl), e1.trans e3.symm, .refl n⟩⟩
  · intro k hk
    show 0 ≤ gD (tmark s n).ix k ∧ gD (tmark s n).ix k < ((s.nx + 1 : Nat) : Int)
    by_cases e : k = n
    · subst e; rw [e1]; omega
    · rw [e2 k e]; have := h.ixb k hk; omega
  · intro k hk hz
    by_cases e : k = n
    · subst e; rw [e1] at hz; omega
    · rw [e2 k e] at hz; exact h.wh k hk hz
  · intro k
    rw [es]
    show _ ↔ k < S.length ∧ gD (tmark s n).ix k ≠ 0 ∧ gD s.co k < 0
    by_cases e : k = n
    · subst e; rw [e1]; exact ⟨fun _ => ⟨hn, by omega, h.wh k hn h0⟩, fun _ => .inr rfl⟩
    · rw [e2 k e, h.stm]; exact ⟨fun h => h.resolve_right e, .inl⟩
  · show (s.st ++ [n]).Pairwise _
    refine List.pairwise_append.2 ⟨h.srt.imp_of_mem fun ha hb hab => ?_, by simp, fun a ha b hb => ?_⟩
    · rw [e2 _ (hne _ ha), e2 _ (hne _ hb)]; exact hab
    · rw [List.mem_singleton] at hb
      subst hb
      rw [e1, e2 _ (hne _ ha)]
      exact (h.ixb a ((h.stm a).1 ha).1).2
  · intro x hx y hy hxy
    rcases (es x).1 hx with hx' | hx' <;> rcases (es y).1 hy with hy' | hy'
    · rw [e2 _ (hne _ hx'), e2 _ (hne _ hy')] at hxy; exact h.up x hx' y hy' hxy
    · subst hy'
      obtain ⟨g, hg1, _, _, hg2⟩ := h.gr x hx'
      exact hg2.trans (hg g hg1)
    · subst hx'
      rw [e1, e2 _ (hne _ hy')] at hxy
      have := (h.ixb y ((h.stm y).1 hy').1).2
      omega
    · subst hx'; subst hy'; exact .refl _
  · intro y hy
    rcases (es y).1 hy with hy | hy
    · obtain ⟨x, h1, h2, h3, h4⟩ := h.gr y hy
      exact ⟨x, List.mem_cons_of_mem _ h1, (es x).2 (.inl h2), by rw [e2 _ (hne _ h2), e2 _ (hne _ hy)]; exact h3, h4⟩
    · subst hy; exact ⟨y, by simp, (es y).2 (.inr rfl), Int.le_refl _, .refl y⟩
  · intro k hk hz hkG j hj
    have hkn : k ≠ n := fun e => hkG (by rw [e]; simp)
    rw [e2 k hkn] at hz
    have := h.bl k hk hz (fun e => hkG (by simp [e])) j hj
    by_cases e : j = n
    · subst e; rw [e1]; omega
    · rw [e2 j e]; exact this
  · intro k hk hz
    exact e2 k (fun e => hz (by rw [e]; exact h0))
  · intro k hk hz
    exact e4 k (fun e => hz (by rw [e]; exact h0))
theorem FInv.step {S : List (List Nat)} {G : List Nat} {s t : TS} {n k : Nat} {pre : List Nat} {v : TS → Nat → TS} (hs : SInv S G s) (hn : n < S.length) (h0 : gD s.ix n = 0) (h : FInv S G s n pre t) (hk : k ∈ S.getD n []) (hkl : k < S.length)
    (hv : gD t.ix k = 0 → VPost S (n :: G) t k (v t k)) : FInv S G s n (pre ++ [k]) (tstep v n t k) := by
  have hsm : ∀ y, y ∈ s.st → y ∈ t.st := fun y hy => by obtain ⟨zs, hz, _⟩ := h.st; rw [hz]; simp [hy]
  have hsx : ∀ y, y ∈ s.st → gD t.ix y = gD s.ix y := fun y hy => h.fi y ((hs.stm y).1 hy).1 ((hs.stm y).1 hy).2.1
  have hn1 := hs.n1
  have hnt : gD t.ix n ≠ 0 := by rw [h.ixn]; omega
  have hw : ∀ j, j < S.length → gD s.ix j ≠ 0 → gD t.ix j ≠ 0 := fun j hj h1 => by rw [h.fi j hj h1]; exact h1
  have hjn : ∀ j, gD s.ix j ≠ 0 → j ≠ n := fun j h1 e => h1 (by rw [e]; exact h0)
  have hlow : ∀ (u : TS) (x : Int), u.lo.length = S.length → gD (tlow u n x).lo n = min (gD u.lo n) x := fun u x hu => gd_eq (by rw [hu]; exact hn)
  have hlo2 : ∀ (u : TS) (x : Int) (j : Nat), j ≠ n → gD (tlow u n x).lo j = gD u.lo j := fun u x j hj => gd_ne (fun e => hj e.symm)
  unfold tstep
  split
  · rename_i hz
    have p := hv hz
    have hks : k ∉ s.st := fun hm => by
      have := hw k hkl ((hs.stm k).1 hm).2.1
      exact this hz
    have hl1 : gD (v t k).lo n = gD t.lo n := p.fl n hn hnt
    have hl2 := hlow (v t k) (gD (v t k).lo k) p.inv.ll
    rw [hl1] at hl2
    have hlon := h.lon
    have hnx := h.nx
    refine ⟨p.inv.low _ _, fun j hj h1 => ?_, fun j hj h1 => ?_, Nat.le_trans h.nx p.nx, (p.fi n hn hnt).trans h.ixn, ?_, ?_, ?_, ?_⟩
    · exact (p.fi j hj (hw j hj h1)).trans (h.fi j hj h1)
    · exact (hlo2 _ _ j (hjn j h1)).trans ((p.fl j hj (hw j hj h1)).trans (h.fl j hj h1))
    · rw [hl2]; omega
    · obtain ⟨zs, hz1, hz2⟩ := h.st
      obtain ⟨ys, hy1, hy2⟩ := p.st
      refine ⟨zs ++ ys, by show (v t k).st = _; rw [hy1, hz1]; simp, fun x hx y hy hys => ?_⟩
      rw [hl2]
      rcases List.mem_append.1 hx with hx | hx
      · have := hz2 x hx y hy hys; omega
      · have h5 := hy2 x hx y hy (hsm y hys)
        rw [hsx y hys] at h5
        omega
    · intro j hj
      rcases List.mem_append.1 hj with hj | hj
      · obtain ⟨h1, h2⟩ := h.pre j hj
        by_cases hjl : j < S.length
        · exact ⟨by rw [show gD (tlow (v t k) n (gD (v t k).lo k)).ix j = gD (v t k).ix j from rfl, p.fi j hjl h1]; exact h1, fun hm => by have := h2 hm; rw [hl2]; omega⟩
        · refine ⟨?_, fun hm => absurd ((hs.stm j).1 hm).1 hjl⟩
          show gD (v t k).ix j ≠ 0
          intro e
          have := gD_lt (d := (v t k).ix) (a := j) (by rw [e]; exact Int.le_refl _)
          rw [p.inv.li] at this
          exact hjl this
      · rw [List.mem_singleton] at hj
        subst hj
        exact ⟨p.nw, fun hm => absurd hm hks⟩
    · obtain ⟨y, hy1, hy2, hy3⟩ := h.low
      obtain ⟨ys, hz1, _⟩ := p.st
      have hyt : ∀ z, z ∈ t.st → z ∈ (v t k).st ∧ gD (v t k).ix z = gD t.ix z := fun z hz => ⟨by rw [hz1]; simp [hz], p.fi z ((h.inv.stm z).1 hz).1 ((h.inv.stm z).1 hz).2.1⟩
      rcases p.low with ⟨z, hz2, hz3, hz4⟩ | hz2
      · by_cases hc : gD t.lo n ≤ gD (v t k).lo k
        · exact ⟨y, (hyt y hy1).1, by rw [hl2]; show gD (v t k).ix y = _; rw [(hyt y hy1).2, hy2]; omega, hy3⟩
        · exact ⟨z, (hyt z hz2).1, by rw [hl2]; show gD (v t k).ix z = _; rw [(hyt z hz2).2, hz3]; omega, .step hk hz4⟩
      · exact ⟨y, (hyt y hy1).1, by rw [hl2]; show gD (v t k).ix y = _; rw [(hyt y hy1).2, hy2]; omega, hy3⟩
  · rename_i hz
    split
    · rename_i hc
      have hl2 := hlow t (gD t.ix k) h.inv.ll
      have hlon := h.lon
      have hkt : k ∈ t.st := (h.inv.stm k).2 ⟨hkl, hz, hc⟩
      refine ⟨h.inv.low _ _, h.fi, fun j hj h1 => (hlo2 _ _ j (hjn j h1)).trans (h.fl j hj h1), h.nx, h.ixn, by rw [hl2]; omega, ?_, ?_, ?_⟩
      · obtain ⟨zs, hz1, hz2⟩ := h.st
        refine ⟨zs, hz1, fun x hx y hy hys => ?_⟩
        have := hz2 x hx y hy hys
        rw [hl2]; omega
      · intro j hj
        rcases List.mem_append.1 hj with hj | hj
        · obtain ⟨h1, h2⟩ := h.pre j hj
          exact ⟨h1, fun hm => by have := h2 hm; rw [hl2]; omega⟩
        · rw [List.mem_singleton] at hj
          subst hj
          exact ⟨hz, fun hm => by rw [hl2, hsx j hm]; omega⟩
      · obtain ⟨y, hy1, hy2, hy3⟩ := h.low
        by_cases hc2 : gD t.lo n ≤ gD t.ix k
        · exact ⟨y, hy1, by rw [hl2]; show gD t.ix y = _; omega, hy3⟩
        · exact ⟨k, hkt, by rw [hl2]; show gD t.ix k = _; omega, .step hk (.refl k)⟩
    · rename_i hc
      refine ⟨h.inv, h.fi, h.fl, h.nx, h.ixn, h.lon, h.st, ?_, h.low⟩
      intro j hj
      rcases List.mem_append.1 hj with hj | hj
      · exact h.pre j hj
      · rw [List.mem_singleton] at hj
        subst hj
        exact ⟨hz, fun hm => absurd ((h.inv.stm j).1 (hsm j hm)).2.2 hc⟩
theorem tpopL_eq (ct : Int) (n : Nat) : ∀ (l r : List Nat) (co : List Int), n ∉ l → tpopL ct n (l ++ n :: r) co = (r, (l ++ [n]).foldl (fun co k => co.set k ct) co)
  | [], r, co, _ => by
    show (if n = n then (r, co.set n ct) else _) = _
    rw [if_pos rfl]
    rfl
  | k :: l, r, co, h => by
    show (if k = n then _ else tpopL ct n (l ++ n :: r) (co.set k ct)) = _
    rw [if_neg (fun e => h (by rw [e]; simp)), tpopL_eq ct n l r _ (fun e => h (by simp [e]))]
    rfl
theorem foldl_set_length (ct : Int) : ∀ (l : List Nat) (co : List Int), (l.foldl (fun co k => co.set k ct) co).length = co.length
  | [], _ => rfl
  | k :: l, co => by rw [List.foldl_cons, foldl_set_length ct l, List.length_set]
theorem foldl_set_get (ct : Int) (a : Nat) : ∀ (l : List Nat) (co : List Int), a < co.length → gD (l.foldl (fun co k => co.set k ct) co) a = if a ∈ l then ct else gD co a
  | [], _, _ => by simp
  | k :: l, co, h => by
    rw [List.foldl_cons, foldl_set_get ct a l _ (by rw [List.length_set]; exact h)]
    by_cases h1 : a ∈ l
    · rw [if_pos h1, if_pos (by simp [h1])]
    · rw [if_neg h1]
      by_cases h2 : k = a
      · subst h2; rw [gd_eq h, if_pos (by simp)]
      · rw [gd_ne h2, if_neg (by simp [h1, Ne.symm h2])]
theorem FInv.fin {S : List (List Nat)} {G : List Nat} {s t : TS} {n : Nat} (hS : ∀ a, ∀ k ∈ S.getD a [], k < S.length) (hs : SInv S G s) (hn : n < S.length) (h0 : gD s.ix n = 0) (hg : ∀ g ∈ G, Rch S g n) (h : FInv S G s n (S.getD n []) t) : VPost S G s n (tfin t n) := by
  have hn1 := hs.n1
  have hnt : gD t.ix n ≠ 0 := by rw [h.ixn]; omega
  have hsx : ∀ y, y ∈ s.st → gD t.ix y = gD s.ix y := fun y hy => h.fi y ((hs.stm y).1 hy).1 ((hs.stm y).1 hy).2.1
  have hsl : ∀ y, y ∈ s.st → gD t.ix y < (s.nx : Int) := fun y hy => by rw [hsx y hy]; exact (hs.ixb y ((hs.stm y).1 hy).1).2
  obtain ⟨zs, hz1, hz2⟩ := h.st
  have hmem : ∀ y, y ∈ t.st ↔ y ∈ s.st ∨ y = n ∨ y ∈ zs := fun y => by rw [hz1]; simp
  have hsrt := h.inv.srt
  rw [hz1] at hsrt
  obtain ⟨_, hp1, hp2⟩ := List.pairwise_append.1 hsrt
  rw [List.pairwise_cons] at hp1
  have hzx : ∀ y ∈ zs, (s.nx : Int) < gD t.ix y := fun y hy => by have := hp1.1 y hy; rw [h.ixn] at this; exact this
  have hzn : n ∉ zs := fun hm => by have := hzx n hm; rw [h.ixn] at this; omega
  have hbl : ∀ k, k < S.length → gD t.ix k ≠ 0 → k ∉ G → ∀ j ∈ S.getD k [], gD t.ix j ≠ 0 := fun k hk hz hkG j hj => by
    by_cases e : k = n
    · subst e; exact (h.pre j hj).1
    · exact h.inv.bl k hk hz (fun hm => by rcases List.mem_cons.1 hm with hm | hm; exact e hm; exact hkG hm) j hj
  have hlon := h.lon
  have hnx := h.nx
  unfold tfin
  split
  · rename_i hlt
    rw [h.ixn] at hlt
    obtain ⟨y0, hy1, hy2, hy3⟩ := h.low
    have hy0 : y0 ∈ s.st := by
      rcases (hmem y0).1 hy1 with e | e | e
      · exact e
      · subst e; rw [h.ixn] at hy2; omega
      · have := hzx y0 e; omega
    obtain ⟨g, hg1, hg2, hg3, hg4⟩ := hs.gr y0 hy0
    refine ⟨⟨h.inv.li, h.inv.ll, h.inv.lc, h.inv.n1, h.inv.ixb, h.inv.cob, h.inv.wh, h.inv.stm, h.inv.srt, h.inv.up, ?_, fun g hgG => h.inv.gs g (by simp [hgG]), hbl, h.inv.dn, h.inv.sc⟩, h.fi, h.fl, by omega, ⟨n :: zs, hz1, fun x hx y hy hys => ?_⟩, hnt, .inl ⟨y0, hy0, by rw [← hsx y0 hy0]; exact hy2, hy3⟩⟩
    · intro y hy
      obtain ⟨x, hx1, hx2, hx3, hx4⟩ := h.inv.gr y hy
      rcases List.mem_cons.1 hx1 with e | e
      · subst e
        refine ⟨g, hg1, (hmem g).2 (.inl hg2), ?_, hx4.trans (hy3.trans hg4)⟩
        have := hsl g hg2
        rw [h.ixn] at hx3
        omega
      · exact ⟨x, e, hx2, hx3, hx4⟩
    · rcases List.mem_cons.1 hx with e | e
      · subst e; exact (h.pre y hy).2 hys
      · exact hz2 x e y hy hys
  · rename_i hlt
    rw [h.ixn] at hlt
    have hrev : t.st.reverse = zs.reverse ++ n :: s.st.reverse := by rw [hz1]; simp
    have hpop := tpopL_eq (t.ct : Int) n zs.reverse s.st.reverse t.co (by simpa using hzn)
    rw [← hrev] at hpop
    have hst : (tpop t n).st = s.st := by show (tpopL _ _ _ _).1.reverse = _; rw [hpop]; simp
    have hlc : (tpop t n).co.length = S.length := by show (tpopL _ _ _ _).2.length = _; rw [hpop, foldl_set_length]; exact h.inv.lc
    have hco : ∀ a, a < S.length → gD (tpop t n).co a = if a = n ∨ a ∈ zs then (t.ct : Int) else gD t.co a := fun a ha => by
      show gD (tpopL _ _ _ _).2 a = _
      rw [hpop, foldl_set_get _ _ _ _ (by rw [h.inv.lc]; exact ha)]
      by_cases e : a = n ∨ a ∈ zs
      · rw [if_pos e, if_pos (by simp; exact e.symm)]
      · rw [if_neg e, if_neg (by simp; exact ⟨fun hm => e (.inr hm), fun hm => e (.inl hm)⟩)]
    have hct : (0 : Int) ≤ (t.ct : Int) := by omega
    have hcC : ∀ a, a = n ∨ a ∈ zs → a ∈ t.st := fun a ha => (hmem a).2 (.inr ha)
    have hcN : ∀ a, a = n ∨ a ∈ zs → a < S.length := fun a ha => ((h.inv.stm a).1 (hcC a ha)).1
    have hsC : ∀ a, a ∈ s.st → ¬ (a = n ∨ a ∈ zs) := fun a ha hc => by
      have h1 := hsl a ha
      rcases hc with e | e
      · subst e; rw [h.ixn] at h1; omega
      · have := hzx a e; omega
    have hgeC : ∀ a, a = n ∨ a ∈ zs → (s.nx : Int) ≤ gD t.ix a := fun a ha => by
      rcases ha with e | e
      · subst e; rw [h.ixn]; exact Int.le_refl _
      · have := hzx a e; omega
    have hnC : n ∈ t.st := hcC n (.inl rfl)
    have hto : ∀ a, a = n ∨ a ∈ zs → Rch S n a ∧ Rch S a n := fun a ha => by
      refine ⟨h.inv.up n hnC a (hcC a ha) (by rw [h.ixn]; exact hgeC a ha), ?_⟩
      obtain ⟨x, hx1, hx2, hx3, hx4⟩ := h.inv.gr a (hcC a ha)
      rcases List.mem_cons.1 hx1 with e | e
      · subst e; exact hx4
      · exact hx4.trans (hg x e)
    have hdn : ∀ (a : Nat), a < S.length → 0 ≤ gD (tpop t n).co a → ∀ j ∈ S.getD a [], 0 ≤ gD (tpop t n).co j := fun a ha hz j hj => by
      rw [hco j (hS a j hj)]
      split
      · exact hct
      · rename_i hjC
        rw [hco a ha] at hz
        by_cases hc : a = n ∨ a ∈ zs
        · have hjx : gD t.ix j ≠ 0 := by
            rcases hc with e | e
            · subst e; exact (h.pre j hj).1
            · exact h.inv.bl a ha ((h.inv.stm a).1 (hcC a (.inr e))).2.1 (fun hm => by
                rcases List.mem_cons.1 hm with e2 | e2
                · exact hzn (e2 ▸ e)
                · exact hsC a (hs.gs a e2) (.inr e)) j hj
          refine Int.not_lt.1 fun hneg => ?_
          have hjt := (h.inv.stm j).2 ⟨hS a j hj, hjx, hneg⟩
          rcases (hmem j).1 hjt with e | e
          · have h5 : gD t.lo n ≤ gD s.ix j := by
              rcases hc with e2 | e2
              · subst e2; exact (h.pre j hj).2 e
              · exact hz2 a e2 j hj e
            have := hsl j e
            rw [hsx j e] at this
            omega
          · exact hjC e
        · rw [if_neg hc] at hz
          exact h.inv.dn a ha hz j hj
    have hold : ∀ a b, Rch S a b → a < S.length → 0 ≤ gD t.co a → 0 ≤ gD t.co b ∧ b < S.length := fun a b hr => by
      induction hr with
      | refl a => exact fun h1 h2 => ⟨h2, h1⟩
      | step hb _ ih => exact fun h1 h2 => ih (hS _ _ hb) (h.inv.dn _ h1 h2 _ hb)
    refine ⟨⟨h.inv.li, h.inv.ll, hlc, h.inv.n1, h.inv.ixb, ?_, ?_, ?_, ?_, ?_, ?_, by rw [hst]; exact hs.gs, hbl, hdn, ?_⟩, h.fi, h.fl, by show s.nx ≤ t.nx; omega, ⟨[], by rw [hst]; simp, fun x hx => by simp at hx⟩, hnt, .inr (by show (s.nx : Int) ≤ gD t.lo n; omega)⟩
    · intro k hk
      rw [hco k hk]
      show _ < ((t.ct + 1 : Nat) : Int)
      have := h.inv.cob k hk
      split <;> omega
    · intro k hk hz
      rw [hco k hk, if_neg (fun hc => ((h.inv.stm k).1 (hcC k hc)).2.1 hz)]
      exact h.inv.wh k hk hz
    · intro k
      rw [hst]
      constructor
      · intro hk
        have h1 := (h.inv.stm k).1 ((hmem k).2 (.inl hk))
        exact ⟨h1.1, h1.2.1, by rw [hco k h1.1, if_neg (hsC k hk)]; exact h1.2.2⟩
      · rintro ⟨h1, h2, h3⟩
        rw [hco k h1] at h3
        by_cases hc : k = n ∨ k ∈ zs
        · rw [if_pos hc] at h3; omega
        · rw [if_neg hc] at h3
          exact ((hmem k).1 ((h.inv.stm k).2 ⟨h1, h2, h3⟩)).resolve_right hc
    · rw [hst]
      exact (List.pairwise_append.1 hsrt).1
    · rw [hst]
      exact fun x hx y hy hxy => h.inv.up x ((hmem x).2 (.inl hx)) y ((hmem y).2 (.inl hy)) hxy
    · rw [hst]
      intro y hy
      obtain ⟨x, hx1, hx2, hx3, hx4⟩ := h.inv.gr y ((hmem y).2 (.inl hy))
      have h1 := hsl y hy
      have hxs : x ∈ s.st := by
        rcases (hmem x).1 hx2 with e | e
        · exact e
        · have := hgeC x e; omega
      refine ⟨x, ?_, hxs, hx3, hx4⟩
      rcases List.mem_cons.1 hx1 with e | e
      · exact absurd (.inl e) (hsC x hxs)
      · exact e
    · intro a b ha hb hca hcb
      rw [hco a ha] at hca ⊢
      rw [hco b hb] at hcb ⊢
      by_cases ca : a = n ∨ a ∈ zs <;> by_cases cb : b = n ∨ b ∈ zs
      · rw [if_pos ca, if_pos cb]
        exact ⟨fun _ => ⟨(hto a ca).2.trans (hto b cb).1, (hto b cb).2.trans (hto a ca).1⟩, fun _ => rfl⟩
      · rw [if_pos ca, if_neg cb]
        rw [if_neg cb] at hcb
        have h1 := h.inv.cob b hb
        have h2 := ((h.inv.stm a).1 (hcC a ca)).2.2
        exact ⟨fun e => by omega, fun e => by have := (hold b a e.2 hb hcb).1; omega⟩
      · rw [if_neg ca, if_pos cb]
        rw [if_neg ca] at hca
        have h1 := h.inv.cob a ha
        have h2 := ((h.inv.stm b).1 (hcC b cb)).2.2
        exact ⟨fun e => by omega, fun e => by have := (hold a b e.1 ha hca).1; omega⟩
      · rw [if_neg ca, if_neg cb]
        rw [if_neg ca] at hca
        rw [if_neg cb] at hcb
        exact h.inv.sc a b ha hb hca hcb
theorem FInv.fold {S : List (List Nat)} {G : List Nat} {s : TS} {n f : Nat} {v : TS → Nat → TS} (hs : SInv S G s) (hn : n < S.length) (h0 : gD s.ix n = 0)
    (hv : ∀ (t : TS) (k : Nat), zeros t.ix ≤ f → TInv S.length t → SInv S (n :: G) t → k < S.length → gD t.ix k = 0 → k ∈ S.getD n [] → VPost S (n :: G) t k (v t k) ∧ TInv S.length (v t k) ∧ TRel t (v t k)) :
    ∀ (l pre : List Nat) (t : TS), (∀ k ∈ l, k ∈ S.getD n [] ∧ k < S.length) → zeros t.ix ≤ f → TInv S.length t → FInv S G s n pre t → FInv S G s n (pre ++ l) (l.foldl (tstep v n) t)
  | [], pre, t, _, _, _, h => by rw [List.append_nil]; exact h
  | k :: l, pre, t, hl, hz, ht, h => by
    have hk := hl k (by simp)
    have h1 := h.step (v := v) hs hn h0 hk.1 hk.2 (fun e => (hv t k hz ht h.inv hk.2 e hk.1).1)
    have h2 : TInv S.length (tstep v n t k) ∧ zeros (tstep v n t k).ix ≤ f := by
      unfold tstep
      split
      · obtain ⟨_, a, b⟩ := hv t k hz ht h.inv hk.2 ‹_› hk.1
        exact ⟨a.low _ _, Nat.le_trans b.z hz⟩
      · split
        · exact ⟨ht.low _ _, hz⟩
        · exact ⟨ht, hz⟩
    have := FInv.fold hs hn h0 hv l (pre ++ [k]) (tstep v n t k) (fun j hj => hl j (by simp [hj])) h2.2 h2.1 h1
    rw [List.append_assoc] at this
    exact this
theorem visitT_scc {S : List (List Nat)} (hS : ∀ a, ∀ k ∈ S.getD a [], k < S.length) : ∀ (f : Nat) (G : List Nat) (s : TS) (n : Nat), zeros s.ix ≤ f → TInv S.length s → SInv S G s → n < S.length → gD s.ix n = 0 → (∀ g ∈ G, Rch S g n) → VPost S G s n (visitT S f s n)
  | 0, G, s, n, hz, ht, h, hn, h0, hg => by
    have := zeros_set s.ix n 1 (by rw [h.li]; exact hn) h0 (by decide)
    omega
  | f + 1, G, s, n, hz, ht, h, hn, h0, hg => by
    obtain ⟨m1, m2⟩ := ht.mark hn h0
    have hf := FInv.fold (v := visitT S f) (f := f) h hn h0 (fun t k a b c d e hk => ⟨visitT_scc hS f (n :: G) t k a b c d e (fun g hgG => by
      rcases List.mem_cons.1 hgG with e | e
      · subst e; exact .step hk (.refl k)
      · exact (hg g e).trans (.step hk (.refl k))), visitT_ok hS f t k a b d e⟩) (S.getD n []) [] (tmark s n) (fun k hk => ⟨hk, hS n k hk⟩) (by omega) m1 (h.mark hn h0 hg)
    rw [List.nil_append] at hf
    exact hf.fin hS h hn h0 hg
theorem tinit_scc (S : List (List Nat)) : SInv S [] (tinit S.length) := by
  have h1 : ∀ k, k < S.length → gD (tinit S.length).ix k = 0 := fun k hk => by
    show (List.replicate S.length (0 : Int)).getD k (-1) = 0
    rw [List.getD_eq_getElem?_getD, List.getElem?_replicate, if_pos hk]; rfl
  have h2 : ∀ k, k < S.length → gD (tinit S.length).co k = -1 := fun k hk => gD_rep _ _
  refine ⟨by simp [tinit], by simp [tinit], by simp [tinit], Nat.le_refl _, ?_, ?_, ?_, ?_, by simp [tinit], by simp [tinit], by simp [tinit], by simp, ?_, ?_, ?_⟩
  · intro k hk; rw [h1 k hk]; exact ⟨Int.le_refl _, by show (0 : Int) < ((1 : Nat) : Int); decide⟩
  · intro k hk; rw [h2 k hk]; show (-1 : Int) < ((0 : Nat) : Int); decide
  · intro k hk _; rw [h2 k hk]; decide
  · intro k
    constructor
    · intro h; simp [tinit] at h
    · rintro ⟨a, b, _⟩; exact absurd (h1 k a) b
  · intro k hk h; exact absurd (h1 k hk) h
  · intro k hk h; rw [h2 k hk] at h; omega
  · intro a b ha _ h; rw [h2 a ha] at h; omega
theorem trun_scc {S : List (List Nat)} (hS : ∀ a, ∀ k ∈ S.getD a [], k < S.length) : ∀ k, k ≤ S.length → SInv S [] (trun S k) ∧ ∀ j, j < k → gD (trun S k).ix j ≠ 0
  | 0, _ => ⟨tinit_scc S, fun j hj => absurd hj (Nat.not_lt_zero _)⟩
  | k + 1, h => by
    obtain ⟨h1, h2⟩ := trun_scc hS k (by omega)
    have ht := tarj_inv hS k (by omega)
    rw [trun_succ]
    unfold tround
    split
    · rename_i hz
      have p := visitT_scc hS S.length [] (trun S k) k (by have := zeros_le (trun S k).ix; rw [h1.li] at this; exact this) ht h1 (by omega) hz (by simp)
      refine ⟨p.inv, fun j hj => ?_⟩
      by_cases e : j = k
      · subst e; exact p.nw
      · rw [p.fi j (by omega) (h2 j (by omega))]; exact h2 j (by omega)
    · rename_i hz
      refine ⟨h1, fun j hj => ?_⟩
      by_cases e : j = k
      · subst e; exact hz
      · exact h2 j (by omega)
theorem tarjan_scc {S : List (List Nat)} (hS : ∀ a, ∀ k ∈ S.getD a [], k < S.length) : (∀ k, k < S.length → 0 ≤ gD (tarjan S).co k ∧ gD (tarjan S).co k < (tarjan S).ct) ∧
    ∀ a b, a < S.length → b < S.length → (gD (tarjan S).co a = gD (tarjan S).co b ↔ Rch S a b ∧ Rch S b a) := by
  obtain ⟨h1, h2⟩ := trun_scc hS S.length (Nat.le_refl _)
  have he : trun S S.length = tarjan S := rfl
  rw [he] at h1 h2
  have h3 : ∀ k, k < S.length → 0 ≤ gD (tarjan S).co k := fun k hk => by
    refine Int.not_lt.1 fun hneg => ?_
    obtain ⟨x, hx, _⟩ := h1.gr k ((h1.stm k).2 ⟨hk, h2 k hk, hneg⟩)
    simp at hx
  exact ⟨fun k hk => ⟨h3 k hk, h1.cob k hk⟩, fun a b ha hb => h1.sc a b ha hb (h3 a ha) (h3 b hb)⟩
end Go.Proofs.YtnjiibiafhnmgaaGreatDoor
