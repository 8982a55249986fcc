/- Graphs, plain: the shortest cycle is one, and no way back makes a shorter one; where there is none, the list is an order. -/
import Derived.Test.YtlcgbkeggmaljaaPK
namespace Go.Proofs.Ytlcgbkeggmaljaa
set_option linter.unusedVariables false
set_option linter.unusedSimpArgs false

/-- a way over nodes that are not less than one. -/
inductive WalkG (S : List (List Nat)) (f : Nat) : Nat → Nat → Nat → Prop
  | nil {a : Nat} : f ≤ a → WalkG S f a a 0
  | cons {a b c m : Nat} : f ≤ a → b ∈ S.getD a [] → WalkG S f b c m → WalkG S f a c (m + 1)
theorem WalkG.mono {S : List (List Nat)} {f g a b m : Nat} (h : WalkG S f a b m) (hg : g ≤ f) : WalkG S g a b m := by
  induction h with
  | nil ha => exact .nil (by omega)
  | cons ha hb _ ih => exact .cons (by omega) hb ih
theorem WalkG.append {S : List (List Nat)} {f a b c m n : Nat} (h : WalkG S f a b m) (k : WalkG S f b c n) : WalkG S f a c (m + n) := by
  induction h with
  | nil ha => rw [Nat.zero_add]; exact k
  | @cons a b' c' m ha hb _ ih => rw [show m + 1 + n = (m + n) + 1 by omega]; exact .cons ha hb (ih k)
theorem WalkG.le {S : List (List Nat)} {f a b m : Nat} (h : WalkG S f a b m) : f ≤ a := by cases h <;> assumption
/-- a way has a least node. -/
theorem Walk.least {S : List (List Nat)} {a b m : Nat} (h : Walk S a b m) : ∃ f i j, i + j = m ∧ WalkG S f a f i ∧ WalkG S f f b j := by
  induction h with
  | nil a => exact ⟨a, 0, 0, rfl, .nil (Nat.le_refl _), .nil (Nat.le_refl _)⟩
  | @cons a b' c m hb _ ih =>
    obtain ⟨f, i, j, hij, h1, h2⟩ := ih
    by_cases hf : f ≤ a
    · exact ⟨f, i + 1, j, by omega, .cons hf hb h1, h2⟩
    · exact ⟨a, 0, m + 1, by omega, .nil (Nat.le_refl _), .cons (Nat.le_refl _) hb (by rw [← hij]; exact (h1.append h2).mono (by omega))⟩
theorem walkG_dist {N : Nat} {es : List (Int × Int)} {to a m f : Nat} {d : List Int} (h : DistR (sucs N (es.map swapE)) f to d) (hw : WalkG (sucs N es) f a to m) : 0 ≤ gD d a ∧ gD d a ≤ m := by
  induction hw with
  | nil ha => rw [h.t0]; simp
  | @cons a b c m ha hb _ ih =>
    obtain ⟨h1, h2⟩ := ih h
    obtain ⟨m1, m2, m3⟩ := mem_sucs.1 hb
    obtain ⟨h3, h4⟩ := h.near b h1 a (by unfold ofP; exact List.mem_filter.2 ⟨mem_sucs.2 ⟨m2, m1, mem_swap.2 m3⟩, by simpa using ha⟩)
    refine ⟨h3, ?_⟩
    have : ((m + 1 : Nat) : Int) = (m : Int) + 1 := by simp
    omega
theorem descP_get {N : Nat} {es : List (Int × Int)} {to f : Nat} {d : List Int} (h : DistR (sucs N (es.map swapE)) f to d) : ∀ (m n : Nat), gD d n = (m : Int) →
    IsWay (sucs N es) (descP (sucs N es) d m n) n to ∧ (descP (sucs N es) d m n).length = m + 1 ∧ ∀ (i : Nat) (x : Nat), (descP (sucs N es) d m n)[i]? = some x → gD d x + (i : Int) = (m : Int)
  | 0, n, hn => by
    have := h.zero n (by simpa using hn)
    subst this
    refine ⟨⟨rfl, rfl, fun i x y hx hy => by simp [descP] at hy⟩, rfl, fun i x hx => ?_⟩
    cases i with
    | zero => simp [descP] at hx; subst hx; simpa using hn
    | succ i => simp [descP] at hx
  | m + 1, n, hn => by
    obtain ⟨k0, hk0, hm0⟩ := h.desc n m (by rw [hn]; simp)
    unfold descP
    cases e : ((sucs N es).getD n []).find? (fun k => gD d k == (m : Int)) with
    | none =>
      have := List.find?_eq_none.1 e k0 hk0
      exact absurd (by simpa using hm0) this
    | some k =>
      have hk1 := List.mem_of_find?_eq_some e
      have hk2 : gD d k = (m : Int) := by simpa using List.find?_some e
      obtain ⟨⟨i1, i2, i3⟩, i4, i5⟩ := descP_get h m k hk2
      simp only
      refine ⟨⟨rfl, ?_, fun i x y hx hy => ?_⟩, by rw [List.length_cons, i4], fun i x hx => ?_⟩
      · rw [List.getLast?_cons, i2]
        rfl
      · cases i with
        | zero =>
          simp at hx hy
          subst hx
          rw [← List.head?_eq_getElem?, i1] at hy
          cases hy
          exact hk1
        | succ i => exact i3 i x y (by simpa using hx) (by simpa using hy)
      · cases i with
        | zero => simp at hx; subst hx; simpa using hn
        | succ i =>
          have := i5 i x (by simpa using hx)
          have e1 : ((i + 1 : Nat) : Int) = (i : Int) + 1 := by simp
          have e2 : ((m + 1 : Nat) : Int) = (m : Int) + 1 := by simp
          omega
/-- the nearest successor. -/
theorem cstep_min {far : List Int} : ∀ (l : List Nat) (st : Int × Int), (st.1 < 0 ∨ (0 ≤ st.2 ∧ ∃ k : Nat, st.1 = (k : Int) ∧ gD far k = st.2)) →
    ((l.foldl (cstep far) st).1 < 0 → st.1 < 0 ∧ ∀ k ∈ l, gD far k < 0) ∧ (0 ≤ (l.foldl (cstep far) st).1 → (∃ k : Nat, (l.foldl (cstep far) st).1 = (k : Int) ∧ gD far k = (l.foldl (cstep far) st).2 ∧ 0 ≤ (l.foldl (cstep far) st).2 ∧ (k ∈ l ∨ st.1 = (k : Int))) ∧
      (0 ≤ st.1 → (l.foldl (cstep far) st).2 ≤ st.2) ∧ ∀ k ∈ l, 0 ≤ gD far k → (l.foldl (cstep far) st).2 ≤ gD far k)
  | [], st, h => by
    refine ⟨fun h1 => ⟨h1, fun k hk => by simp at hk⟩, fun h1 => ⟨?_, fun _ => Int.le_refl _, fun k hk => by simp at hk⟩⟩
    rcases h with h | ⟨h2, k, h3, h4⟩
    · have h1 : 0 ≤ st.1 := h1
      omega
    · exact ⟨k, h3, h4, h2, .inr h3⟩
  | k :: l, st, h => by
    rw [List.foldl_cons]
    by_cases hc : 0 ≤ gD far k ∧ (st.1 < 0 ∨ gD far k < st.2)
    · have e : cstep far st k = ((k : Int), gD far k) := if_pos hc
      obtain ⟨i1, i2⟩ := cstep_min l (cstep far st k) (.inr (by rw [e]; exact ⟨hc.1, k, rfl, rfl⟩))
      rw [e] at i1 i2 ⊢
      refine ⟨fun h1 => ?_, fun h1 => ?_⟩
      · have := (i1 h1).1
        have : (k : Int) < 0 := this
        omega
      · obtain ⟨⟨j, j1, j2, j3, j4⟩, i3, i4⟩ := i2 h1
        have i3 := i3 (by show (0 : Int) ≤ (k : Int); omega)
        have i3 : _ ≤ gD far k := i3
        refine ⟨⟨j, j1, j2, j3, ?_⟩, fun h2 => ?_, fun m hm h2 => ?_⟩
        · rcases j4 with j4 | j4
          · exact .inl (by simp [j4])
          · have j4 : (k : Int) = (j : Int) := j4
            exact .inl (by simp; omega)
        · rcases hc.2 with h5 | h5
          · omega
          · omega
        · rcases List.mem_cons.1 hm with rfl | hm
          · exact i3
          · exact i4 m hm h2
    · have e : cstep far st k = st := if_neg hc
      obtain ⟨i1, i2⟩ := cstep_min l (cstep far st k) (by rw [e]; exact h)
      rw [e] at i1 i2 ⊢
      refine ⟨fun h1 => ?_, fun h1 => ?_⟩
      · obtain ⟨h2, h3⟩ := i1 h1
        refine ⟨h2, fun m hm => ?_⟩
        rcases List.mem_cons.1 hm with rfl | hm
        · exact Int.not_le.1 fun h4 => hc ⟨h4, .inl h2⟩
        · exact h3 m hm
      · obtain ⟨⟨j, j1, j2, j3, j4⟩, i3, i4⟩ := i2 h1
        refine ⟨⟨j, j1, j2, j3, j4.imp (fun h => by simp [h]) id⟩, i3, fun m hm h2 => ?_⟩
        rcases List.mem_cons.1 hm with rfl | hm
        · by_cases h5 : st.1 < 0
          · exact absurd ⟨h2, .inl h5⟩ hc
          · have := i3 (by omega)
            have : ¬ gD far m < st.2 := fun h6 => hc ⟨h2, .inr h6⟩
            omega
        · exact i4 m hm h2
/-- a cycle. -/
structure CycP (N : Nat) (es : List (Int × Int)) (c : List Nat) : Prop where
  lt : ∀ n ∈ c, n < N
  hd : ∀ (x : Nat), c[0]? = some x → ∀ n ∈ c, x ≤ n
  nod : c.Nodup
  edge : ∀ (i x y : Nat), c[i]? = some x → c[(i + 1) % c.length]? = some y → ((x : Int), (y : Int)) ∈ es
/-- a way back to a node makes a cycle. -/
theorem cyc_of {N : Nat} {es : List (Int × Int)} {f k m : Nat} {d : List Int} (hf : f < N) (h : DistR (sucs N (es.map swapE)) f f d) (hk : k ∈ (sucs N es).getD f []) (hm : gD d k = (m : Int)) :
    CycP N es ((f :: descP (sucs N es) d m k).dropLast) ∧ ((f :: descP (sucs N es) d m k).dropLast).length = m + 1 := by
  obtain ⟨⟨w1, w2, w3⟩, hl, hd⟩ := descP_get h m k hm
  generalize descP (sucs N es) d m k = p at *
  have hlen : ((f :: p).dropLast).length = m + 1 := by rw [List.length_dropLast, List.length_cons, hl]; omega
  have hget : ∀ i x, ((f :: p).dropLast)[i]? = some x → i < m + 1 ∧ (f :: p)[i]? = some x := fun i x hx => by
    have hi := (List.getElem?_eq_some_iff.1 hx).1
    rw [hlen] at hi
    rw [List.getElem?_dropLast, if_pos (by rw [List.length_cons, hl]; omega)] at hx
    exact ⟨hi, hx⟩
  have hlast : p[m]? = some f := by rw [List.getLast?_eq_getElem?, hl] at w2; exact w2
  have hge : ∀ x, 0 ≤ gD d x → f ≤ x := fun x hx => by
    by_cases e : gD d x = 0
    · rw [h.zero x e]; exact Nat.le_refl _
    · obtain ⟨b, hb, _⟩ := h.pred x (gD d x - 1).toNat (by omega)
      unfold ofP at hb
      have := (List.mem_filter.1 hb).2
      simpa using this
  have hpx : ∀ i x, i ≤ m → p[i]? = some x → f ≤ x ∧ x < N := fun i x hi hx => by
    have h1 := hd i x hx
    refine ⟨hge x (by omega), ?_⟩
    have := gD_lt (d := d) (a := x) (by omega)
    have hdl := h.len
    rw [sucs_length] at hdl
    omega
  have hedge : ∀ i x y, i < m + 1 → (f :: p)[i]? = some x → p[i]? = some y → y ∈ (sucs N es).getD x [] := fun i x y hi hx hy => by
    cases i with
    | zero =>
      simp at hx
      subst hx
      rw [← List.head?_eq_getElem?, w1] at hy
      cases hy
      exact hk
    | succ i => exact w3 i x y (by simpa using hx) hy
  refine ⟨⟨fun n hn => ?_, fun x hx n hn => ?_, ?_, fun i x y hx hy => ?_⟩, hlen⟩
  · obtain ⟨i, hi⟩ := List.mem_iff_getElem?.1 hn
    obtain ⟨h1, h2⟩ := hget i n hi
    cases i with
    | zero => simp at h2; omega
    | succ i => exact (hpx i n (by omega) (by simpa using h2)).2
  · obtain ⟨_, hx⟩ := hget 0 x hx
    simp at hx
    subst hx
    obtain ⟨i, hi⟩ := List.mem_iff_getElem?.1 hn
    obtain ⟨h1, h2⟩ := hget i n hi
    cases i with
    | zero => simp at h2; omega
    | succ i => exact (hpx i n (by omega) (by simpa using h2)).1
  · refine List.pairwise_iff_getElem.2 fun i j hi hj hij e => ?_
    have g1 := hget i _ (List.getElem?_eq_getElem hi)
    have g2 := hget j _ (List.getElem?_eq_getElem hj)
    rw [e] at g1
    generalize ((f :: p).dropLast)[j] = y at *
    obtain ⟨j', rfl⟩ : ∃ j', j = j' + 1 := ⟨j - 1, by omega⟩
    have d2 := hd j' y (by simpa using g2.2)
    cases i with
    | zero =>
      have h1 : f = y := by simpa using g1.2
      rw [← h1, h.t0] at d2
      omega
    | succ i =>
      have d1 := hd i y (by simpa using g1.2)
      omega
  · obtain ⟨h1, h2⟩ := hget i x hx
    rw [hlen] at hy
    by_cases e : i = m
    · subst e
      rw [Nat.mod_self] at hy
      obtain ⟨_, hy⟩ := hget 0 y hy
      simp at hy
      subst hy
      exact (mem_sucs.1 (hedge i x _ (by omega) h2 hlast)).2.2
    · rw [Nat.mod_eq_of_lt (by omega)] at hy
      obtain ⟨_, hy⟩ := hget (i + 1) y hy
      exact (mem_sucs.1 (hedge i x y (by omega) h2 (by simpa using hy))).2.2
theorem cycStep_ok {N : Nat} {es : List (Int × Int)} {f : Nat} (hf : f < N) (best : List Nat) (hb : best ≠ [] → CycP N es best) :
    (cycStep N es best f = best ∨ (∃ m : Nat, CycP N es (cycStep N es best f) ∧ (cycStep N es best f).length = m + 1 ∧ (best ≠ [] → m + 1 < best.length))) ∧
    ∀ k L, k ∈ (sucs N es).getD f [] → WalkG (sucs N es) f k f L → cycStep N es best f ≠ [] ∧ (cycStep N es best f).length ≤ L + 1 := by
  have hd : DistR (sucs N (es.map swapE)) f f (cfar N es f) := bfsD_dist sucs_lt (by rw [sucs_length]; exact hf)
  obtain ⟨h1, h2⟩ := cstep_min (far := cfar N es f) (ofP (sucs N es) f f) (-1, 0) (.inl (by decide))
  have hmem : ∀ k L, k ∈ (sucs N es).getD f [] → WalkG (sucs N es) f k f L → k ∈ ofP (sucs N es) f f ∧ 0 ≤ gD (cfar N es f) k ∧ gD (cfar N es f) k ≤ L := fun k L hk hw => by
    have := walkG_dist hd hw
    exact ⟨List.mem_filter.2 ⟨hk, by simpa using hw.le⟩, this⟩
  unfold cycStep
  simp only
  generalize (ofP (sucs N es) f f).foldl (cstep (cfar N es f)) (-1, 0) = st at *
  by_cases hc : st.1 < 0 ∨ (best ≠ [] ∧ (best.length : Int) ≤ st.2 + 1)
  · rw [if_pos hc]
    refine ⟨.inl rfl, fun k L hk hw => ?_⟩
    obtain ⟨m1, m2, m3⟩ := hmem k L hk hw
    rcases hc with hc | ⟨hc1, hc2⟩
    · have := (h1 hc).2 k m1
      omega
    · have := (h2 (by
        refine Int.not_lt.1 fun hneg => ?_
        have := (h1 hneg).2 k m1
        omega)).2.2 k m1 m2
      exact ⟨hc1, by omega⟩
  · rw [if_neg hc]
    have hs0 : 0 ≤ st.1 := by omega
    obtain ⟨⟨k0, k1, k2, k3, k4⟩, _, k5⟩ := h2 hs0
    have k4 : k0 ∈ ofP (sucs N es) f f := by
      rcases k4 with k4 | k4
      · exact k4
      · have : (-1 : Int) = (k0 : Int) := k4
        omega
    have hk0 := (List.mem_filter.1 k4).1
    obtain ⟨m, hm⟩ : ∃ m : Nat, st.2 = (m : Int) := ⟨st.2.toNat, by omega⟩
    have hnew : (if st.1 = (f : Int) then [f] else f :: (descP (sucs N es) (cfar N es f) (gD (cfar N es f) st.1.toNat).toNat st.1.toNat).dropLast) = (f :: descP (sucs N es) (cfar N es f) m k0).dropLast := by
      have e1 : st.1.toNat = k0 := by omega
      have e2 : (gD (cfar N es f) k0).toNat = m := by omega
      rw [e1, e2]
      by_cases e : st.1 = (f : Int)
      · have e3 : k0 = f := by omega
        rw [if_pos e]
        subst e3
        rw [hd.t0] at k2
        have e4 : m = 0 := by omega
        subst e4
        rfl
      · rw [if_neg e]
        cases e5 : descP (sucs N es) (cfar N es f) m k0 with
        | nil => have := descP_pos (sucs N es) (cfar N es f) m k0; rw [e5] at this; simp at this
        | cons x l => rfl
    rw [hnew]
    obtain ⟨g1, g2⟩ := cyc_of hf hd hk0 (k2.trans hm)
    refine ⟨.inr ⟨m, g1, g2, fun hne => ?_⟩, fun k L hk hw => ?_⟩
    · have : ¬ (best.length : Int) ≤ st.2 + 1 := fun h => hc (.inr ⟨hne, h⟩)
      omega
    · obtain ⟨m1, m2, m3⟩ := hmem k L hk hw
      have := k5 k m1 m2
      refine ⟨fun e => ?_, by omega⟩
      rw [e] at g2
      simp at g2
theorem cycF_inv {N : Nat} {es : List (Int × Int)} : ∀ m, m ≤ N → (cycF N es m ≠ [] → CycP N es (cycF N es m)) ∧ ∀ f, f < m → ∀ k L, k ∈ (sucs N es).getD f [] → WalkG (sucs N es) f k f L → cycF N es m ≠ [] ∧ (cycF N es m).length ≤ L + 1
  | 0, _ => ⟨fun h => absurd rfl h, fun f hf => absurd hf (Nat.not_lt_zero _)⟩
  | m + 1, hm => by
    obtain ⟨i1, i2⟩ := cycF_inv (N := N) (es := es) m (by omega)
    rw [cycF_succ]
    obtain ⟨s1, s2⟩ := cycStep_ok (es := es) (f := m) (by omega) (cycF N es m) i1
    refine ⟨fun hne => ?_, fun f hf k L hk hw => ?_⟩
    · rcases s1 with s1 | ⟨_, s1, _⟩
      · rw [s1] at hne ⊢; exact i1 hne
      · exact s1
    · by_cases e : f = m
      · subst e; exact s2 k L hk hw
      · obtain ⟨j1, j2⟩ := i2 f (by omega) k L hk hw
        rcases s1 with s1 | ⟨n, _, s3, s4⟩
        · rw [s1]; exact ⟨j1, j2⟩
        · have := s4 j1
          refine ⟨fun e => ?_, by omega⟩
          rw [e] at s3; simp at s3
theorem cycF_cyc {N : Nat} {es : List (Int × Int)} (h : cycF N es N ≠ []) : CycP N es (cycF N es N) := (cycF_inv N (Nat.le_refl _)).1 h
/-- no way back along an edge makes a shorter cycle. -/
theorem cycF_least {N : Nat} {es : List (Int × Int)} {u v m : Nat} (hv : v ∈ (sucs N es).getD u []) (hw : Walk (sucs N es) v u m) : cycF N es N ≠ [] ∧ (cycF N es N).length ≤ m + 1 := by
  obtain ⟨f, i, j, hij, h1, h2⟩ := (Walk.cons hv hw).least
  have hc := h2.append h1
  have hlen : j + i = m + 1 := by omega
  rw [hlen] at hc
  cases hc with
  | cons hle hb hr =>
    have hfN : f < N := (mem_sucs.1 hb).1
    exact (cycF_inv (es := es) N (Nat.le_refl _)).2 f hfN _ m hb hr
/-- how many nodes a node reaches. -/
noncomputable def rankN (N : Nat) (es : List (Int × Int)) (a : Nat) : Nat := ((List.range N).filter fun k => @decide (Rch (sucs N es) a k) (Classical.propDecidable _)).length
theorem acyc_rank {N : Nat} {es : List (Int × Int)} (h : cycF N es N = []) : ∀ a, ∀ j ∈ (sucs N es).getD a [], rankN N es j < rankN N es a := fun a j hj => by
  have ha : a < N := (mem_sucs.1 hj).1
  refine filter_lt _ _ a _ (fun k hk hq => ?_) (List.mem_range.2 ha) ?_ ?_
  · exact @decide_eq_true _ (_) (.step hj (@of_decide_eq_true _ (_) hq))
  · refine @decide_eq_false _ (_) fun hr => ?_
    obtain ⟨m, hm⟩ := hr.walk
    exact (cycF_least hj hm).1 h
  · exact @decide_eq_true _ (_) (.refl a)
/-- where there is no cycle, each node is listed once, behind all to which edges lead. -/
theorem order_ok {N : Nat} {es : List (Int × Int)} (h : cycF N es N = []) : OInv (sucs N es) N (lrun (sucs N es) N) := by
  have := listF_ok (S := sucs N es) sucs_lt (acyc_rank h)
  rw [sucs_length] at this
  exact this
theorem order_at {N : Nat} {es : List (Int × Int)} (h : cycF N es N = []) {u v : Nat} (hu : u < N) (hv : v ∈ (sucs N es).getD u []) : ∃ i j : Nat, j < i ∧ (listF (sucs N es))[i]? = some u ∧ (listF (sucs N es))[j]? = some v := by
  have ho := order_ok h
  have he : listF (sucs N es) = (lrun (sucs N es) N).2 := by unfold listF; rw [sucs_length]
  have hm := (listF_mem (S := sucs N es) sucs_lt (acyc_rank h) u).2 (by rw [sucs_length]; exact hu)
  rw [he] at hm ⊢
  obtain ⟨i, hi⟩ := List.mem_iff_getElem?.1 hm
  obtain ⟨j, hj⟩ := List.mem_iff_getElem?.1 (ho.top i u hi v hv)
  have hjl : j < i := by have := (List.getElem?_eq_some_iff.1 hj).1; rw [List.length_take] at this; omega
  rw [List.getElem?_take, if_pos hjl] at hj
  exact ⟨i, j, hjl, hi, hj⟩
end Go.Proofs.Ytlcgbkeggmaljaa
