/- Graphs, plain: the components as the program lists them are the sets of nodes that reach each other; the edges between them. -/
import Derived.Test.YtnjiibiafhnmgaaGreatDoorZF
import Derived.Test.YtnjiibiafhnmgaaGreatDoorZE
namespace Go.Proofs.YtnjiibiafhnmgaaGreatDoor
set_option linter.unusedVariables false
set_option linter.unusedSimpArgs false

theorem numbered (N : Nat) (es : List (Int × Int)) : Numbered N es := fun n hn => (tarjan_scc (S := sucs N es) sucs_lt).1 n (by rw [sucs_length]; exact hn)
structure KInv (co : List Int) (k : Nat) (st : List Int × List (List Nat)) : Prop where
  inj : ∀ c c', 0 ≤ gD st.1 c → gD st.1 c = gD st.1 c' → c = c'
  row : ∀ p n, n ∈ st.2.getD p [] ↔ n < k ∧ gD st.1 (gD co n).toNat = (p : Int)
  srt : ∀ p, (st.2.getD p []).Pairwise (· < ·)
  hd : ∀ p, p < st.2.length → ∃ a, (st.2.getD p []).head? = some a ∧ ∀ q, p < q → ∀ b ∈ st.2.getD q [], a < b
theorem cstepN_eq {co : List Int} {ct k : Nat} {st : List Int × List (List Nat)} (h : CInv co ct k st) (hc : (gD co k).toNat < ct) :
    ∃ p0 : Nat, (gD st.1 (gD co k).toNat = (p0 : Int) ∨ (gD st.1 (gD co k).toNat < 0 ∧ p0 = st.2.length)) ∧ p0 ≤ st.2.length ∧ (∀ c, gD (cstepN co st k).1 c = if c = (gD co k).toNat then (p0 : Int) else gD st.1 c) ∧
      (∀ p, (cstepN co st k).2.getD p [] = if p = p0 then st.2.getD p [] ++ [k] else st.2.getD p []) ∧ (cstepN co st k).2.length = max st.2.length (p0 + 1) := by
  unfold cstepN
  generalize (gD co k).toNat = c0 at *
  unfold cput
  by_cases hlt : gD st.1 c0 < 0
  · rw [if_pos hlt]
    have hg : gD (st.1.set c0 (st.2.length : Int)) c0 = (st.2.length : Int) := by rw [gD_set', if_pos ⟨rfl, by rw [h.len]; exact hc⟩]
    refine ⟨st.2.length, .inr ⟨hlt, rfl⟩, Nat.le_refl _, fun c => ?_, fun p => ?_, ?_⟩
    · show gD (st.1.set c0 _) c = _
      rw [gD_set']
      by_cases e : c = c0
      · rw [if_pos e, if_pos ⟨e, by rw [h.len]; exact hc⟩]
      · rw [if_neg e, if_neg (fun h => e h.1)]
    · show (List.set (st.2 ++ [[]]) (gD (st.1.set c0 _) c0).toNat _).getD p [] = _
      rw [getD_set_row, hg, Int.toNat_natCast]
      have e1 : ∀ q, (st.2 ++ [[]]).getD q [] = st.2.getD q [] := fun q => by
        rw [List.getD_eq_getElem?_getD, List.getD_eq_getElem?_getD, List.getElem?_append]
        split
        · rfl
        · rename_i hq
          rw [List.getElem?_eq_none (l := st.2) (by omega)]
          cases e : [([] : List Nat)][q - st.2.length]? with
          | none => rfl
          | some r => have := List.mem_of_getElem? e; simp at this; simp [this]
      rw [e1, e1]
      by_cases e : p = st.2.length
      · rw [if_pos e, if_pos ⟨e, by simp⟩, e]
      · rw [if_neg e, if_neg (fun h => e h.1)]
    · show (List.set (st.2 ++ [[]]) _ _).length = _
      rw [List.length_set, List.length_append, List.length_singleton]; omega
  · rw [if_neg hlt]
    obtain ⟨p0, hp⟩ : ∃ p0 : Nat, gD st.1 c0 = (p0 : Int) := ⟨(gD st.1 c0).toNat, by omega⟩
    have hhi := h.hi c0
    refine ⟨p0, .inl hp, by omega, fun c => ?_, fun p => ?_, ?_⟩
    · show gD st.1 c = _
      by_cases e : c = c0
      · rw [if_pos e, e, hp]
      · rw [if_neg e]
    · show (List.set st.2 (gD st.1 c0).toNat _).getD p [] = _
      rw [getD_set_row, hp, Int.toNat_natCast]
      by_cases e : p = p0
      · rw [if_pos e, if_pos ⟨e, by omega⟩, e]
      · rw [if_neg e, if_neg (fun h => e h.1)]
    · show (List.set st.2 _ _).length = _
      rw [List.length_set]; omega
theorem KInv.step {co : List Int} {ct k : Nat} {st : List Int × List (List Nat)} (h : CInv co ct k st) (hk : KInv co k st) (hc : (gD co k).toNat < ct) : KInv co (k + 1) (cstepN co st k) := by
  obtain ⟨p0, h1, h2, h3, h4, h5⟩ := cstepN_eq h hc
  have hold : ∀ n, n < k → (gD co n).toNat = (gD co k).toNat → gD st.1 (gD co k).toNat = (p0 : Int) := fun n hn e => by
    have := h.old n hn
    rw [e] at this
    rcases h1 with h1 | ⟨h1, _⟩
    · exact h1
    · omega
  have hrow : ∀ p n, n ∈ st.2.getD p [] → n < k := fun p n hn => ((hk.row p n).1 hn).1
  refine ⟨fun c c' hz he => ?_, fun p n => ?_, fun p => ?_, fun p hp => ?_⟩
  · rw [h3] at hz
    rw [h3, h3] at he
    by_cases e1 : c = (gD co k).toNat <;> by_cases e2 : c' = (gD co k).toNat
    · rw [e1, e2]
    · rw [if_pos e1, if_neg e2] at he
      rcases h1 with h1 | ⟨_, h1⟩
      · exact e1.trans (hk.inj _ _ (by omega) (h1.trans he))
      · have := h.hi c'; omega
    · rw [if_neg e1, if_pos e2] at he
      rw [if_neg e1] at hz
      rcases h1 with h1 | ⟨_, h1⟩
      · exact (hk.inj _ _ hz (he.trans h1.symm)).trans e2.symm
      · have := h.hi c; omega
    · rw [if_neg e1, if_neg e2] at he
      rw [if_neg e1] at hz
      exact hk.inj c c' hz he
  · rw [h4, h3]
    by_cases ep : p = p0
    · rw [if_pos ep, List.mem_append, List.mem_singleton, hk.row]
      by_cases e : n = k
      · subst e; rw [if_pos rfl, ep]; exact ⟨fun _ => ⟨by omega, rfl⟩, fun _ => .inr rfl⟩
      · by_cases ec : (gD co n).toNat = (gD co k).toNat
        · rw [if_pos ec, ec, ep]
          exact ⟨fun hh => ⟨by have := hh.resolve_right e; omega, rfl⟩, fun hh => .inl ⟨by omega, hold n (by omega) ec⟩⟩
        · rw [if_neg ec]
          exact ⟨fun hh => ⟨by have := hh.resolve_right e; omega, (hh.resolve_right e).2⟩, fun hh => .inl ⟨by omega, hh.2⟩⟩
    · rw [if_neg ep, hk.row]
      by_cases e : n = k
      · subst e; rw [if_pos rfl]; exact ⟨fun hh => by omega, fun hh => by omega⟩
      · by_cases ec : (gD co n).toNat = (gD co k).toNat
        · rw [if_pos ec, ec]
          refine ⟨fun hh => ?_, fun hh => by omega⟩
          have := hold n hh.1 ec
          omega
        · rw [if_neg ec]
          exact ⟨fun hh => ⟨by omega, hh.2⟩, fun hh => ⟨by omega, hh.2⟩⟩
  · rw [h4]
    split
    · exact List.pairwise_append.2 ⟨hk.srt p, by simp, fun a ha b hb => by rw [List.mem_singleton] at hb; have := hrow p a ha; omega⟩
    · exact hk.srt p
  · rw [h5] at hp
    by_cases hpl : p < st.2.length
    · obtain ⟨a, ha, hq⟩ := hk.hd p hpl
      refine ⟨a, ?_, fun q hpq b hb => ?_⟩
      · rw [h4]
        split
        · rw [List.head?_append, ha]; rfl
        · exact ha
      · rw [h4] at hb
        have hak : a < k := hrow p a (List.mem_of_mem_head? ha)
        split at hb
        · rcases List.mem_append.1 hb with hb | hb
          · exact hq q hpq b hb
          · rw [List.mem_singleton] at hb; omega
        · exact hq q hpq b hb
    · have ep : p = p0 := by omega
      have hnil : ∀ q, st.2.length ≤ q → st.2.getD q [] = [] := fun q hq => by rw [List.getD_eq_getElem?_getD, List.getElem?_eq_none (by omega)]; rfl
      refine ⟨k, ?_, fun q hpq b hb => ?_⟩
      · rw [h4, if_pos ep, hnil p (by omega)]; rfl
      · rw [h4, if_neg (by omega), hnil q (by omega)] at hb; simp at hb
theorem crun_kinv {co : List Int} {ct N : Nat} (hco : ∀ n, n < N → 0 ≤ gD co n ∧ gD co n < (ct : Int)) : ∀ k, k ≤ N → KInv co k (crun co ct k)
  | 0, _ => by
    have hg : ∀ c, gD (List.replicate ct (-1 : Int)) c = -1 := fun c => gD_rep _ _
    refine ⟨fun c c' hz => ?_, fun p n => ?_, fun p => by simp [crun], fun p hp => by simp [crun] at hp⟩
    · have : gD (crun co ct 0).1 c = -1 := hg c
      omega
    · simp [crun]
  | k + 1, h => by
    rw [crun_succ]
    exact (crun_kinv hco k (by omega)).step (crun_inv hco k (by omega)) (by have := hco k (by omega); omega)
def clG (N : Nat) (es : List (Int × Int)) (n : Nat) : Nat := (gD (crun (tarG N es).co (tarG N es).ct N).1 (gD (tarG N es).co n).toNat).toNat
theorem clG_int {N : Nat} {es : List (Int × Int)} {n : Nat} (hn : n < N) : gD (crun (tarG N es).co (tarG N es).ct N).1 (gD (tarG N es).co n).toNat = (clG N es n : Int) := by
  have := (crun_inv (numbered N es) N (Nat.le_refl _)).old n hn
  unfold clG
  omega
theorem clG_lt {N : Nat} {es : List (Int × Int)} {n : Nat} (hn : n < N) : clG N es n < (nodesG N es).length := by
  have h1 := (crun_inv (numbered N es) N (Nat.le_refl _)).hi (gD (tarG N es).co n).toNat
  rw [clG_int hn] at h1
  unfold nodesG
  omega
theorem nodesG_mem {N : Nat} {es : List (Int × Int)} {p n : Nat} : n ∈ (nodesG N es).getD p [] ↔ n < N ∧ clG N es n = p := by
  have h := (crun_kinv (numbered N es) N (Nat.le_refl _)).row p n
  refine h.trans (and_congr_right fun hn => ?_)
  rw [clG_int hn]
  omega
theorem nodesG_srt (N : Nat) (es : List (Int × Int)) (p : Nat) : ((nodesG N es).getD p []).Pairwise (· < ·) := (crun_kinv (numbered N es) N (Nat.le_refl _)).srt p
theorem nodesG_hd {N : Nat} {es : List (Int × Int)} {p : Nat} (hp : p < (nodesG N es).length) : ∃ a, ((nodesG N es).getD p []).head? = some a ∧ ∀ q, p < q → ∀ b ∈ (nodesG N es).getD q [], a < b := (crun_kinv (numbered N es) N (Nat.le_refl _)).hd p hp
theorem clG_co {N : Nat} {es : List (Int × Int)} {a b : Nat} (ha : a < N) (hb : b < N) : clG N es a = clG N es b ↔ gD (tarG N es).co a = gD (tarG N es).co b := by
  constructor
  · intro e
    have h1 := clG_int (es := es) ha
    have h2 := clG_int (es := es) hb
    have := (crun_kinv (numbered N es) N (Nat.le_refl _)).inj (gD (tarG N es).co a).toNat (gD (tarG N es).co b).toNat (by rw [h1]; omega) (by rw [h1, h2, e])
    have h3 := numbered N es a ha
    have h4 := numbered N es b hb
    omega
  · intro e
    unfold clG
    rw [e]
theorem clG_eq {N : Nat} {es : List (Int × Int)} {a b : Nat} (ha : a < N) (hb : b < N) : clG N es a = clG N es b ↔ Rch (sucs N es) a b ∧ Rch (sucs N es) b a :=
  (clG_co ha hb).trans ((tarjan_scc (S := sucs N es) sucs_lt).2 a b (by rw [sucs_length]; exact ha) (by rw [sucs_length]; exact hb))
theorem cedges_mem {N : Nat} {es : List (Int × Int)} {n : Nat} (hn : n < N) (p d : Nat) : ∀ (l : List Nat) (out : List (List Nat)), (∀ k ∈ l, k < N) → out.length = (nodesG N es).length →
    (d ∈ (l.foldl (cedge (tarG N es).co (crun (tarG N es).co (tarG N es).ct N).1 n) out).getD p [] ↔ d ∈ out.getD p [] ∨ ∃ k ∈ l, clG N es n = p ∧ clG N es k = d ∧ p ≠ d)
  | [], out, _, _ => by simp
  | k :: l, out, hl, ho => by
    have hk := hl k (by simp)
    have hcl := clG_lt (es := es) hn
    rw [List.foldl_cons, cedges_mem hn p d l _ (fun j hj => hl j (by simp [hj])) (by unfold cedge; split; exact ho; rw [List.length_set]; exact ho)]
    have key : d ∈ (cedge (tarG N es).co (crun (tarG N es).co (tarG N es).ct N).1 n out k).getD p [] ↔ d ∈ out.getD p [] ∨ (clG N es n = p ∧ clG N es k = d ∧ p ≠ d) := by
      unfold cedge
      by_cases e : gD (tarG N es).co k = gD (tarG N es).co n
      · rw [if_pos e]
        have := (clG_co (es := es) hk hn).2 e
        exact ⟨.inl, fun h => h.resolve_right fun ⟨h1, h2, h3⟩ => h3 (by omega)⟩
      · rw [if_neg e, getD_set_row]
        have hne : clG N es k ≠ clG N es n := fun e2 => e ((clG_co (es := es) hk hn).1 e2)
        show d ∈ (if p = clG N es n ∧ clG N es n < out.length then out.getD (clG N es n) [] ++ [clG N es k] else out.getD p []) ↔ _
        by_cases ep : p = clG N es n
        · rw [if_pos ⟨ep, by omega⟩, List.mem_append, List.mem_singleton, ← ep]
          exact or_congr_right ⟨fun e2 => ⟨rfl, e2.symm, by omega⟩, fun h => h.2.1.symm⟩
        · rw [if_neg (fun h => ep h.1)]
          exact ⟨.inl, fun h => h.resolve_right fun h => ep h.1.symm⟩
    rw [key, or_assoc]
    refine or_congr_right ⟨?_, ?_⟩
    · rintro (h | ⟨j, hj, h⟩)
      · exact ⟨k, by simp, h⟩
      · exact ⟨j, by simp [hj], h⟩
    · rintro ⟨j, hj, h⟩
      rcases List.mem_cons.1 hj with rfl | hj
      · exact .inl h
      · exact .inr ⟨j, hj, h⟩
theorem couts_mem {N : Nat} {es : List (Int × Int)} (p d : Nat) : ∀ k, k ≤ N →
    (d ∈ (couts (tarG N es).co (crun (tarG N es).co (tarG N es).ct N).1 (sucs N es) (nodesG N es).length k).getD p [] ↔ ∃ n j, n < k ∧ j ∈ (sucs N es).getD n [] ∧ clG N es n = p ∧ clG N es j = d ∧ p ≠ d)
  | 0, _ => by
    have : (couts (tarG N es).co (crun (tarG N es).co (tarG N es).ct N).1 (sucs N es) (nodesG N es).length 0).getD p [] = [] := by
      show (List.replicate (nodesG N es).length []).getD p [] = []
      rw [List.getD_eq_getElem?_getD, List.getElem?_replicate]
      split <;> rfl
    rw [this]
    exact ⟨fun h => by simp at h, fun ⟨n, j, h, _⟩ => by omega⟩
  | k + 1, hk => by
    rw [couts_succ, cedges_mem (by omega) p d _ _ (fun j hj => by have := sucs_lt (N := N) (es := es) k j hj; rwa [sucs_length] at this) (couts_len (fun a => sucs_row a) k).1, couts_mem p d k (by omega)]
    constructor
    · rintro (⟨n, j, h1, h2⟩ | ⟨j, hj, h2⟩)
      · exact ⟨n, j, by omega, h2⟩
      · exact ⟨k, j, by omega, hj, h2⟩
    · rintro ⟨n, j, h1, h2, h3⟩
      by_cases e : n = k
      · subst e; exact .inr ⟨j, h2, h3⟩
      · exact .inl ⟨n, j, by omega, h2, h3⟩
theorem condG_mem {N : Nat} {es : List (Int × Int)} {p d : Nat} : d ∈ (condG N es).getD p [] ↔ ∃ n j, n < N ∧ j ∈ (sucs N es).getD n [] ∧ clG N es n = p ∧ clG N es j = d ∧ p ≠ d := couts_mem p d N (Nat.le_refl _)
noncomputable def rankG (N : Nat) (es : List (Int × Int)) (p : Nat) : Nat := ((List.range N).filter fun k => @decide (∃ n, n < N ∧ clG N es n = p ∧ Rch (sucs N es) n k) (Classical.propDecidable _)).length
theorem filter_lt {α : Type} (P Q : α → Bool) (x : α) : ∀ (l : List α), (∀ a ∈ l, P a = true → Q a = true) → x ∈ l → P x = false → Q x = true → (l.filter P).length < (l.filter Q).length
  | [], _, hx, _, _ => by simp at hx
  | y :: l, h, hx, h1, h2 => by
    have hle : ∀ (m : List α), (∀ a ∈ m, P a = true → Q a = true) → (m.filter P).length ≤ (m.filter Q).length := fun m => by
      induction m with
      | nil => intro _; simp
      | cons z m ih =>
        intro hm
        have := ih (fun a ha => hm a (by simp [ha]))
        rw [List.filter_cons, List.filter_cons]
        have hz := hm z (by simp)
        cases hp : P z <;> cases hq : Q z <;> simp [hp, hq] at * <;> omega
    rw [List.filter_cons, List.filter_cons]
    rcases List.mem_cons.1 hx with rfl | hx
    · rw [h1, h2]
      have := hle l (fun a ha => h a (by simp [ha]))
      simp
      omega
    · have := filter_lt P Q x l (fun a ha => h a (by simp [ha])) hx h1 h2
      have hy := h y (by simp)
      cases hp : P y <;> cases hq : Q y <;> simp [hp, hq] at * <;> omega
theorem rankG_lt {N : Nat} {es : List (Int × Int)} {p d : Nat} (h : d ∈ (condG N es).getD p []) : rankG N es d < rankG N es p := by
  obtain ⟨n, j, hn, hj, hp, hd, hne⟩ := condG_mem.1 h
  have hjN : j < N := by have := sucs_lt (N := N) (es := es) n j hj; rwa [sucs_length] at this
  refine filter_lt _ _ n _ (fun k hk hq => ?_) (List.mem_range.2 hn) ?_ ?_
  · obtain ⟨m, hm, hmd, hr⟩ := @of_decide_eq_true _ (_) hq
    refine @decide_eq_true _ (_) ⟨n, hn, hp, .step hj ((((clG_eq hjN hm).1 (hd.trans hmd.symm)).1).trans hr)⟩
  · refine @decide_eq_false _ (_) ?_
    rintro ⟨m, hm, hmd, hr⟩
    have h1 := ((clG_eq hm hjN).1 (hmd.trans hd.symm))
    have h2 : Rch (sucs N es) n m := .step hj h1.2
    exact hne (hp.symm.trans (((clG_eq hn hm).2 ⟨h2, hr⟩).trans hmd))
  · exact @decide_eq_true _ (_) ⟨n, hn, hp, .refl n⟩
end Go.Proofs.YtnjiibiafhnmgaaGreatDoor

namespace Go.Proofs.YtnjiibiafhnmgaaGreatDoor
set_option linter.unusedVariables false
set_option linter.unusedSimpArgs false

structure OInv (S : List (List Nat)) (k : Nat) (st : List Bool × List Nat) : Prop where
  len : st.1.length = S.length
  cnt : st.2.length = k
  nod : st.2.Nodup
  mem : ∀ j, j < S.length → (bD st.1 j = true ↔ j ∈ st.2)
  lt : ∀ x ∈ st.2, x < S.length
  top : ∀ i x, st.2[i]? = some x → ∀ j ∈ S.getD x [], j ∈ st.2.take i
  least : ∀ i x, st.2[i]? = some x → ∀ y, y < x → y ∉ st.2.take i → ∃ j ∈ S.getD y [], j ∉ st.2.take i
theorem lrdy_iff {S : List (List Nat)} {done : List Bool} {k : Nat} : lrdy S done k = true ↔ bD done k = false ∧ ∀ j ∈ S.getD k [], bD done j = true := by
  unfold lrdy
  rw [Bool.and_eq_true, Bool.not_eq_true', Bool.not_eq_true', List.any_eq_false]
  refine and_congr_right fun _ => forall_congr' fun j => imp_congr_right fun _ => ?_
  cases bD done j <;> simp
theorem rdy_ex {S : List (List Nat)} (hS : ∀ a, ∀ j ∈ S.getD a [], j < S.length) {r : Nat → Nat} (hr : ∀ a, ∀ j ∈ S.getD a [], r j < r a) (done : List Bool) : ∀ (m a : Nat), r a ≤ m → a < S.length → bD done a = false → ∃ b, b < S.length ∧ lrdy S done b = true
  | 0, a, hm, ha, hd => by
    refine ⟨a, ha, lrdy_iff.2 ⟨hd, fun j hj => ?_⟩⟩
    have := hr a j hj
    omega
  | m + 1, a, hm, ha, hd => by
    by_cases h : ∀ j ∈ S.getD a [], bD done j = true
    · exact ⟨a, ha, lrdy_iff.2 ⟨hd, h⟩⟩
    · obtain ⟨j, hj⟩ := Classical.not_forall.1 h
      obtain ⟨hj, hn⟩ := Classical.not_imp.1 hj
      exact rdy_ex hS hr done m j (by have := hr a j hj; omega) (hS a j hj) (by simpa using hn)
theorem lpick_spec {S : List (List Nat)} {done : List Bool} (h : ∃ b, b < S.length ∧ lrdy S done b = true) : lpick S done < S.length ∧ lrdy S done (lpick S done) = true ∧ ∀ y, y < lpick S done → lrdy S done y = false := by
  unfold lpick
  cases e : (List.range S.length).find? (lrdy S done) with
  | none =>
    obtain ⟨b, hb, hr⟩ := h
    exact absurd hr (List.find?_eq_none.1 e b (List.mem_range.2 hb))
  | some x =>
    refine ⟨List.mem_range.1 (List.mem_of_find?_eq_some e), List.find?_some e, fun y hy => ?_⟩
    have hy : y < x := hy
    obtain ⟨_, us, bs, hab, hno⟩ := List.find?_eq_some_iff_append.1 e
    have hlen : x = us.length := by
      have h1 : (List.range S.length)[us.length]? = some x := by rw [hab, List.getElem?_append_right (Nat.le_refl _)]; simp
      have h2 := List.getElem?_eq_some_iff.1 h1
      obtain ⟨_, h2⟩ := h2
      rw [List.getElem_range] at h2
      exact h2.symm
    have hya : y ∈ us := by
      have h1 : us[y]? = some y := by
        have h3 : (List.range S.length)[y]? = some y := by
          have := List.mem_range.1 (List.mem_of_find?_eq_some e)
          rw [List.getElem?_range (by omega)]
        rw [hab, List.getElem?_append_left (by omega)] at h3
        exact h3
      exact List.mem_of_getElem? h1
    have := hno y hya
    simpa using this
theorem OInv.step {S : List (List Nat)} (hS : ∀ a, ∀ j ∈ S.getD a [], j < S.length) {r : Nat → Nat} (hr : ∀ a, ∀ j ∈ S.getD a [], r j < r a) {k : Nat} {st : List Bool × List Nat} (h : OInv S k st) (hk : k < S.length) : OInv S (k + 1) (lstep S st) := by
  have hex : ∃ a, a < S.length ∧ bD st.1 a = false := Classical.byContradiction fun hn => by
    have hall : ∀ a, a < S.length → a ∈ st.2 := fun a ha => (h.mem a ha).1 (by
      cases e : bD st.1 a with
      | true => rfl
      | false => exact absurd ⟨a, ha, e⟩ hn)
    have hp : st.2.Perm (List.range S.length) := (List.perm_ext_iff_of_nodup h.nod List.nodup_range).2 fun x => by
      rw [List.mem_range]
      exact ⟨h.lt x, hall x⟩
    have := hp.length_eq
    rw [h.cnt, List.length_range] at this
    omega
  obtain ⟨a, ha, hd⟩ := hex
  obtain ⟨h1, h2, h3⟩ := lpick_spec (rdy_ex hS hr st.1 (r a) a (Nat.le_refl _) ha hd)
  unfold lstep
  generalize lpick S st.1 = x at *
  obtain ⟨hx, hxs⟩ := lrdy_iff.1 h2
  have hxn : x ∉ st.2 := fun hm => by have := (h.mem x h1).2 hm; rw [hx] at this; cases this
  refine ⟨by show (List.set _ _ _).length = _; rw [List.length_set]; exact h.len, by show (st.2 ++ [x]).length = _; rw [List.length_append, h.cnt]; rfl, ?_, fun j hj => ?_, fun y hy => ?_, fun i y hi j hj => ?_, fun i y hi z hz hzn => ?_⟩
  · exact List.nodup_append.2 ⟨h.nod, by simp, fun a ha b hb e => by rw [List.mem_singleton] at hb; subst hb; subst e; exact hxn ha⟩
  · show bD (st.1.set x true) j = true ↔ j ∈ st.2 ++ [x]
    rw [List.mem_append, List.mem_singleton]
    by_cases e : j = x
    · subst e
      unfold bD
      rw [List.getD_eq_getElem?_getD, List.getElem?_set_self (by rw [h.len]; exact hj)]
      simp
    · unfold bD
      rw [List.getD_eq_getElem?_getD, List.getElem?_set_ne (Ne.symm e), ← List.getD_eq_getElem?_getD]
      exact (h.mem j hj).trans ⟨.inl, fun hh => hh.resolve_right e⟩
  · rcases List.mem_append.1 hy with hy | hy
    · exact h.lt y hy
    · rw [List.mem_singleton] at hy; subst hy; exact h1
  · show j ∈ (st.2 ++ [x]).take i
    have hi : (st.2 ++ [x])[i]? = some y := hi
    by_cases hik : i < st.2.length
    · rw [List.getElem?_append_left hik] at hi
      rw [List.take_append_of_le_length (by omega)]
      exact h.top i y hi j hj
    · have hil := (List.getElem?_eq_some_iff.1 hi).1
      rw [List.length_append, List.length_singleton] at hil
      have ei : i = st.2.length := by omega
      subst ei
      rw [List.getElem?_append_right (Nat.le_refl _)] at hi
      simp at hi
      subst hi
      rw [List.take_left]
      exact (h.mem j (hS _ j hj)).1 (hxs j hj)
  · have hi : (st.2 ++ [x])[i]? = some y := hi
    show ∃ j ∈ S.getD z [], j ∉ (st.2 ++ [x]).take i
    have hzn : z ∉ (st.2 ++ [x]).take i := hzn
    by_cases hik : i < st.2.length
    · rw [List.getElem?_append_left hik] at hi
      rw [List.take_append_of_le_length (by omega)] at hzn ⊢
      exact h.least i y hi z hz hzn
    · have hil := (List.getElem?_eq_some_iff.1 hi).1
      rw [List.length_append, List.length_singleton] at hil
      have ei : i = st.2.length := by omega
      subst ei
      rw [List.getElem?_append_right (Nat.le_refl _)] at hi
      simp at hi
      subst hi
      rw [List.take_left] at hzn ⊢
      have hzr := h3 z hz
      have hzd : bD st.1 z = false := by
        cases e : bD st.1 z with
        | false => rfl
        | true => exact absurd ((h.mem z (by omega)).1 e) hzn
      refine Classical.byContradiction fun hno => ?_
      have : lrdy S st.1 z = true := lrdy_iff.2 ⟨hzd, fun j hj => (h.mem j (hS z j hj)).2 (Classical.byContradiction fun hn => hno ⟨j, hj, hn⟩)⟩
      rw [hzr] at this
      cases this
theorem lrun_oinv {S : List (List Nat)} (hS : ∀ a, ∀ j ∈ S.getD a [], j < S.length) {r : Nat → Nat} (hr : ∀ a, ∀ j ∈ S.getD a [], r j < r a) : ∀ k, k ≤ S.length → OInv S k (lrun S k)
  | 0, _ => by
    refine ⟨by simp [lrun], rfl, by simp [lrun], fun j hj => ?_, fun x hx => by simp [lrun] at hx, fun i x hi => by simp [lrun] at hi, fun i x hi => by simp [lrun] at hi⟩
    show (List.replicate S.length false).getD j false = true ↔ j ∈ []
    rw [List.getD_eq_getElem?_getD, List.getElem?_replicate, if_pos hj]
    simp
  | k + 1, h => (lrun_oinv hS hr k (by omega)).step hS hr (by omega)
theorem listF_ok {S : List (List Nat)} (hS : ∀ a, ∀ j ∈ S.getD a [], j < S.length) {r : Nat → Nat} (hr : ∀ a, ∀ j ∈ S.getD a [], r j < r a) : OInv S S.length (lrun S S.length) := lrun_oinv hS hr _ (Nat.le_refl _)
theorem listF_mem {S : List (List Nat)} (hS : ∀ a, ∀ j ∈ S.getD a [], j < S.length) {r : Nat → Nat} (hr : ∀ a, ∀ j ∈ S.getD a [], r j < r a) (x : Nat) : x ∈ listF S ↔ x < S.length := by
  have h := listF_ok hS hr
  refine ⟨h.lt x, fun hx => Classical.byContradiction fun hn => ?_⟩
  have hp : ((lrun S S.length).2 ++ [x]).Nodup := List.nodup_append.2 ⟨h.nod, by simp, fun a ha b hb e => by rw [List.mem_singleton] at hb; subst hb; subst e; exact hn ha⟩
  have hq : ((lrun S S.length).2 ++ [x]).Perm ((List.range S.length).filter fun k => decide (k ∈ (lrun S S.length).2 ++ [x])) := (List.perm_ext_iff_of_nodup hp (List.nodup_range.filter _)).2 fun k => by
    rw [List.mem_filter, List.mem_range, decide_eq_true_eq]
    refine ⟨fun hk => ⟨?_, hk⟩, fun hk => hk.2⟩
    rcases List.mem_append.1 hk with hk | hk
    · exact h.lt k hk
    · rw [List.mem_singleton] at hk; omega
  have h1 := hq.length_eq
  have h2 := List.length_filter_le (fun k => decide (k ∈ (lrun S S.length).2 ++ [x])) (List.range S.length)
  rw [List.length_append, h.cnt, List.length_singleton] at h1
  rw [List.length_range] at h2
  omega
end Go.Proofs.YtnjiibiafhnmgaaGreatDoor

namespace Go.Proofs.YtnjiibiafhnmgaaGreatDoor
set_option linter.unusedVariables false
set_option linter.unusedSimpArgs false

theorem lvsteps_get {c : Nat} : ∀ (l : List Nat) (lv : List Int), c < lv.length → (∀ d ∈ l, d ≠ c) →
    (∀ a, a ≠ c → gD (l.foldl (lvstep c) lv) a = gD lv a) ∧ gD lv c ≤ gD (l.foldl (lvstep c) lv) c ∧ (∀ d ∈ l, gD lv d + 1 ≤ gD (l.foldl (lvstep c) lv) c) ∧ (gD (l.foldl (lvstep c) lv) c = gD lv c ∨ ∃ d ∈ l, gD (l.foldl (lvstep c) lv) c = gD lv d + 1) ∧ (l.foldl (lvstep c) lv).length = lv.length
  | [], lv, _, _ => ⟨fun _ _ => rfl, Int.le_refl _, fun d hd => by simp at hd, .inl rfl, rfl⟩
  | d :: l, lv, hc, hl => by
    have hdc := hl d (by simp)
    have e1 : gD (lvstep c lv d) c = max (gD lv c) (gD lv d + 1) := by unfold lvstep; rw [gD_set _ _ _ _ hc, if_pos rfl]
    have e2 : ∀ a, a ≠ c → gD (lvstep c lv d) a = gD lv a := fun a ha => by unfold lvstep; rw [gD_set _ _ _ _ hc, if_neg ha]
    obtain ⟨h1, h2, h3, h4, h5⟩ := lvsteps_get l (lvstep c lv d) (by unfold lvstep; rw [List.length_set]; exact hc) (fun j hj => hl j (by simp [hj]))
    rw [List.foldl_cons]
    refine ⟨fun a ha => (h1 a ha).trans (e2 a ha), by omega, fun j hj => ?_, ?_, by rw [h5]; unfold lvstep; rw [List.length_set]⟩
    · rcases List.mem_cons.1 hj with rfl | hj
      · omega
      · have := h3 j hj
        rw [e2 j (hl j (by simp [hj]))] at this
        exact this
    · rcases h4 with h4 | ⟨j, hj, h4⟩
      · rw [e1] at h4
        by_cases hm : gD lv d + 1 ≤ gD lv c
        · exact .inl (by omega)
        · exact .inr ⟨d, by simp, by omega⟩
      · rw [e2 j (hl j (by simp [hj]))] at h4
        exact .inr ⟨j, by simp [hj], h4⟩
theorem lvput_mem (nd out : List (List Nat)) (m c i n : Nat) : n ∈ (lvput nd out m c).getD i [] ↔ n ∈ out.getD i [] ∨ (i = m ∧ n ∈ nd.getD c []) := by
  unfold lvput
  rw [getD_set_row, lvpad_row, lvpad_row, lvpad_len]
  by_cases e : i = m
  · subst e
    rw [if_pos ⟨rfl, by omega⟩, List.mem_append]
    exact or_congr_right ⟨fun h => ⟨rfl, h⟩, fun h => h.2⟩
  · rw [if_neg (fun h => e h.1)]
    exact ⟨.inl, fun h => h.resolve_right fun h => e h.1⟩
structure VInv (K nd : List (List Nat)) (P : List Nat) (st : List Int × List (List Nat)) : Prop where
  len : st.1.length = nd.length
  nn : ∀ c, c < nd.length → 0 ≤ gD st.1 c
  zr : ∀ c, c < nd.length → c ∉ P → gD st.1 c = 0
  ge : ∀ c ∈ P, ∀ d ∈ K.getD c [], gD st.1 d + 1 ≤ gD st.1 c
  at_ : ∀ c ∈ P, gD st.1 c = 0 ∨ ∃ d ∈ K.getD c [], gD st.1 c = gD st.1 d + 1
  mem : ∀ m n, n ∈ st.2.getD m [] ↔ ∃ c ∈ P, n ∈ nd.getD c [] ∧ gD st.1 c = (m : Int)
  nod : ∀ m, (st.2.getD m []).Nodup
  lt : ∀ c ∈ P, gD st.1 c < (st.2.length : Int)
  ln : st.2.length = 0 ∨ ∃ c ∈ P, gD st.1 c + 1 = (st.2.length : Int)
theorem VInv.step {K nd : List (List Nat)} {P : List Nat} {st : List Int × List (List Nat)} (h : VInv K nd P st) {c : Nat} (hc : c < nd.length) (hcP : c ∉ P) (hK : ∀ d ∈ K.getD c [], d ∈ P) (hKc : ∀ a ∈ P, ∀ d ∈ K.getD a [], d ∈ P) (hP : ∀ a ∈ P, a < nd.length)
    (hnd : (nd.getD c []).Nodup) (hdis : ∀ a, a ≠ c → ∀ n ∈ nd.getD a [], n ∉ nd.getD c []) : VInv K nd (P ++ [c]) (lvadd K nd st c) := by
  have hne : ∀ d ∈ P, d ≠ c := fun d hd e => hcP (e ▸ hd)
  obtain ⟨h1, h2, h3, h4, h5⟩ := lvsteps_get (K.getD c []) st.1 (by rw [h.len]; exact hc) (fun d hd => hne d (hK d hd))
  unfold lvadd
  generalize (K.getD c []).foldl (lvstep c) st.1 = lv at *
  have hcn : 0 ≤ gD lv c := by have := h.nn c hc; omega
  have hz := h.zr c hc hcP
  obtain ⟨m0, hm0⟩ : ∃ m0 : Nat, gD lv c = (m0 : Int) := ⟨(gD lv c).toNat, by omega⟩
  rw [hm0, Int.toNat_natCast]
  have hln : (lvput nd st.2 m0 c).length = max st.2.length (m0 + 1) := by unfold lvput; rw [List.length_set, lvpad_len]
  have hmm : ∀ a, a ∈ P ++ [c] ↔ a ∈ P ∨ a = c := fun a => by simp
  refine ⟨h5.trans h.len, fun a ha => ?_, fun a ha hn => ?_, fun a ha d hd => ?_, fun a ha => ?_, fun m n => ?_, fun m => ?_, fun a ha => ?_, ?_⟩
  · show 0 ≤ gD lv a
    by_cases e : a = c
    · subst e; exact hcn
    · rw [h1 a e]; exact h.nn a ha
  · show gD lv a = 0
    have : a ≠ c := fun e => hn ((hmm a).2 (.inr e))
    rw [h1 a this]
    exact h.zr a ha (fun hm => hn ((hmm a).2 (.inl hm)))
  · show gD lv d + 1 ≤ gD lv a
    rcases (hmm a).1 ha with ha | rfl
    · rw [h1 a (hne a ha), h1 d (hne d (hKc a ha d hd))]
      exact h.ge a ha d hd
    · rw [h1 d (hne d (hK d hd))]
      exact h3 d hd
  · show gD lv a = 0 ∨ ∃ d ∈ K.getD a [], gD lv a = gD lv d + 1
    rcases (hmm a).1 ha with ha | rfl
    · rw [h1 a (hne a ha)]
      rcases h.at_ a ha with h0 | ⟨d, hd, h0⟩
      · exact .inl h0
      · exact .inr ⟨d, hd, by rw [h1 d (hne d (hKc a ha d hd))]; exact h0⟩
    · rcases h4 with h4 | ⟨d, hd, h4⟩
      · exact .inl (h4.trans hz)
      · exact .inr ⟨d, hd, by rw [h1 d (hne d (hK d hd))]; exact h4⟩
  · show n ∈ (lvput nd st.2 m0 c).getD m [] ↔ ∃ a ∈ P ++ [c], n ∈ nd.getD a [] ∧ gD lv a = (m : Int)
    rw [lvput_mem, h.mem]
    constructor
    · rintro (⟨a, ha, hn, hm⟩ | ⟨rfl, hn⟩)
      · exact ⟨a, (hmm a).2 (.inl ha), hn, by rw [h1 a (hne a ha)]; exact hm⟩
      · exact ⟨c, (hmm c).2 (.inr rfl), hn, hm0⟩
    · rintro ⟨a, ha, hn, hm⟩
      rcases (hmm a).1 ha with ha | rfl
      · rw [h1 a (hne a ha)] at hm
        exact .inl ⟨a, ha, hn, hm⟩
      · exact .inr ⟨by omega, hn⟩
  · show ((lvput nd st.2 m0 c).getD m []).Nodup
    unfold lvput
    rw [getD_set_row, lvpad_row, lvpad_row]
    split
    · refine List.nodup_append.2 ⟨h.nod m0, hnd, fun a ha b hb e => ?_⟩
      subst e
      obtain ⟨c', hc', hn, _⟩ := (h.mem m0 a).1 ha
      exact hdis c' (hne c' hc') a hn hb
    · exact h.nod m
  · show gD lv a < ((lvput nd st.2 m0 c).length : Int)
    rw [hln]
    rcases (hmm a).1 ha with ha | rfl
    · rw [h1 a (hne a ha)]
      have := h.lt a ha
      omega
    · omega
  · show (lvput nd st.2 m0 c).length = 0 ∨ ∃ a ∈ P ++ [c], gD lv a + 1 = ((lvput nd st.2 m0 c).length : Int)
    rw [hln]
    by_cases e : m0 + 1 ≤ st.2.length
    · rcases h.ln with h0 | ⟨a, ha, h0⟩
      · omega
      · exact .inr ⟨a, (hmm a).2 (.inl ha), by rw [h1 a (hne a ha)]; omega⟩
    · exact .inr ⟨c, (hmm c).2 (.inr rfl), by omega⟩
theorem condG_ok (N : Nat) (es : List (Int × Int)) : (∀ a, ∀ j ∈ (condG N es).getD a [], j < (condG N es).length) ∧ (∀ a, ∀ j ∈ (condG N es).getD a [], rankG N es j < rankG N es a) := by
  refine ⟨fun a j hj => ?_, fun a j hj => rankG_lt hj⟩
  rw [(condG_len N es).1]
  obtain ⟨n, k, hn, hk, _, hd, _⟩ := condG_mem.1 hj
  rw [← hd]
  exact clG_lt (by have := sucs_lt (N := N) (es := es) n k hk; rwa [sucs_length] at this)
theorem listG_ok (N : Nat) (es : List (Int × Int)) : OInv (condG N es) (condG N es).length (lrun (condG N es) (condG N es).length) := listF_ok (condG_ok N es).1 (condG_ok N es).2
theorem listG_mem {N : Nat} {es : List (Int × Int)} (x : Nat) : x ∈ listF (condG N es) ↔ x < (nodesG N es).length := by
  rw [listF_mem (condG_ok N es).1 (condG_ok N es).2, (condG_len N es).1]
theorem lvrun_vinv (N : Nat) (es : List (Int × Int)) : ∀ k, k ≤ (listF (condG N es)).length → VInv (condG N es) (nodesG N es) ((listF (condG N es)).take k) (lvrun (condG N es) (nodesG N es) ((listF (condG N es)).take k))
  | 0, _ => by
    have hg : ∀ a, a < (nodesG N es).length → gD (List.replicate (nodesG N es).length (0 : Int)) a = 0 := fun a ha => by
      unfold gD
      rw [List.getD_eq_getElem?_getD, List.getElem?_replicate, if_pos ha]
      rfl
    refine ⟨by simp [lvrun], fun c hc => ?_, fun c hc _ => ?_, fun c hc => by simp at hc, fun c hc => by simp at hc, fun m n => by simp [lvrun], fun m => by simp [lvrun], fun c hc => by simp at hc, .inl (by simp [lvrun])⟩
    · show 0 ≤ gD (List.replicate (nodesG N es).length (0 : Int)) c
      rw [hg c hc]; exact Int.le_refl _
    · exact hg c hc
  | k + 1, hk => by
    have ih := lvrun_vinv N es k (by omega)
    have ho := listG_ok N es
    have hk' : k < (listF (condG N es)).length := by omega
    have e : lvrun (condG N es) (nodesG N es) ((listF (condG N es)).take (k + 1)) = lvadd (condG N es) (nodesG N es) (lvrun (condG N es) (nodesG N es) ((listF (condG N es)).take k)) (listF (condG N es))[k] := by
      unfold lvrun
      rw [List.take_succ_eq_append_getElem hk', List.foldl_append]
      rfl
    have hget : (listF (condG N es))[k]? = some (listF (condG N es))[k] := by simp [hk']
    have hn := ho.nod
    have hsplit := List.take_append_drop (k + 1) (listF (condG N es))
    rw [e, List.take_succ_eq_append_getElem hk']
    refine ih.step ((listG_mem _).1 (List.getElem_mem _)) (fun hm => ?_) (fun d hd => ho.top k _ hget d hd) (fun a ha d hd => ?_) (fun a ha => (listG_mem a).1 (List.mem_of_mem_take ha)) ((nodesG_srt N es _).imp fun h => Nat.ne_of_lt h) (fun a ha n hn1 hn2 => ?_)
    · have h2 : ((listF (condG N es)).take (k + 1)).Nodup := List.Nodup.sublist (List.take_sublist _ _) hn
      rw [List.take_succ_eq_append_getElem hk'] at h2
      exact (List.nodup_append.1 h2).2.2 _ hm _ (by simp) rfl
    · obtain ⟨i, hi⟩ := List.mem_iff_getElem?.1 ha
      have hik : i < k := by
        have := (List.getElem?_eq_some_iff.1 hi).1
        rw [List.length_take] at this
        omega
      rw [List.getElem?_take, if_pos hik] at hi
      have := ho.top i a hi d hd
      have h9 : d ∈ ((listF (condG N es)).take k).take i := by rw [List.take_take, Nat.min_eq_left (by omega)]; exact this
      exact List.mem_of_mem_take h9
    · exact ha ((nodesG_mem.1 hn1).2.symm.trans (nodesG_mem.1 hn2).2)
structure LevP (N : Nat) (es : List (Int × Int)) (lv : Nat → Nat) : Prop where
  down : ∀ c d, d ∈ (condG N es).getD c [] → lv d < lv c
  attain : ∀ c, c < (nodesG N es).length → lv c = 0 ∨ ∃ d ∈ (condG N es).getD c [], lv c = lv d + 1
  mem : ∀ m n, n ∈ (levelsG N es).getD m [] ↔ n < N ∧ lv (clG N es n) = m
  srt : ∀ m, ((levelsG N es).getD m []).Pairwise (· < ·)
  lt : ∀ c, c < (nodesG N es).length → lv c < (levelsG N es).length
  ln : (levelsG N es).length = 0 ∨ ∃ c, c < (nodesG N es).length ∧ lv c + 1 = (levelsG N es).length
theorem sortN_mem (r : List Nat) (n : Nat) : n ∈ sortN r ↔ n ∈ r := by
  have hp := List.mergeSort_perm (r.map fun n : Nat => (n : Int)) fun x y => decide (x ≤ y)
  unfold sortN
  rw [List.mem_map]
  constructor
  · rintro ⟨x, hx, rfl⟩
    obtain ⟨y, hy, rfl⟩ := List.mem_map.1 (hp.subset hx)
    exact hy
  · intro h
    exact ⟨(n : Int), hp.symm.subset (List.mem_map.2 ⟨n, h, rfl⟩), by simp⟩
theorem sortN_srt {r : List Nat} (h : r.Nodup) : (sortN r).Pairwise (· < ·) := by
  have hp := List.mergeSort_perm (r.map fun n : Nat => (n : Int)) fun x y => decide (x ≤ y)
  have hs := List.pairwise_mergeSort (le := fun x y : Int => decide (x ≤ y)) (fun a b c hab hbc => by simp at *; omega) (fun a b => by simp; omega) (r.map fun n : Nat => (n : Int))
  have hn : ((r.map fun n : Nat => (n : Int)).mergeSort fun x y => decide (x ≤ y)).Nodup := hp.symm.nodup (List.Pairwise.map _ (fun a b hab e => hab (Int.ofNat.inj e)) h)
  unfold sortN
  refine List.pairwise_map.2 ?_
  have hb : ∀ x ∈ (r.map fun n : Nat => (n : Int)).mergeSort fun x y => decide (x ≤ y), 0 ≤ x := fun x hx => by
    obtain ⟨y, _, rfl⟩ := List.mem_map.1 (hp.subset hx)
    omega
  refine (hs.and hn).imp_of_mem fun {x y} hx hy h => ?_
  have h1 := of_decide_eq_true h.1
  have h2 := h.2
  have := hb x hx
  have := hb y hy
  omega
theorem levels_ok (N : Nat) (es : List (Int × Int)) : ∃ lv, LevP N es lv := by
  have h := lvrun_vinv N es (listF (condG N es)).length (Nat.le_refl _)
  rw [List.take_length] at h
  have hK : ∀ c d, d ∈ (condG N es).getD c [] → c < (nodesG N es).length ∧ d < (nodesG N es).length := fun c d hd => by
    refine ⟨?_, by have := (condG_ok N es).1 c d hd; rwa [(condG_len N es).1] at this⟩
    obtain ⟨n, k, hn, hk, hp, _, _⟩ := condG_mem.1 hd
    rw [← hp]
    exact clG_lt hn
  have hrow : ∀ m, (levelsG N es).getD m [] = sortN ((lvrun (condG N es) (nodesG N es) (listF (condG N es))).2.getD m []) := fun m => by
    unfold levelsG
    rw [List.getD_eq_getElem?_getD, List.getD_eq_getElem?_getD, List.getElem?_map]
    cases (lvrun (condG N es) (nodesG N es) (listF (condG N es))).2[m]? with
    | none => simp [sortN]
    | some r => rfl
  have hlen : (levelsG N es).length = (lvrun (condG N es) (nodesG N es) (listF (condG N es))).2.length := by unfold levelsG; rw [List.length_map]
  have hin : ∀ c, c < (nodesG N es).length → ((gD (lvrun (condG N es) (nodesG N es) (listF (condG N es))).1 c).toNat : Int) = gD (lvrun (condG N es) (nodesG N es) (listF (condG N es))).1 c := fun c hc => by have := h.nn c hc; omega
  refine ⟨fun c => (gD (lvrun (condG N es) (nodesG N es) (listF (condG N es))).1 c).toNat, fun c d hd => ?_, fun c hc => ?_, fun m n => ?_, fun m => ?_, fun c hc => ?_, ?_⟩
  · obtain ⟨h1, h2⟩ := hK c d hd
    have h3 := h.ge c ((listG_mem c).2 h1) d hd
    have := hin c h1
    have := hin d h2
    omega
  · rcases h.at_ c ((listG_mem c).2 hc) with h0 | ⟨d, hd, h0⟩
    · exact .inl (by show Int.toNat _ = 0; omega)
    · obtain ⟨h1, h2⟩ := hK c d hd
      refine .inr ⟨d, hd, ?_⟩
      have := hin c h1
      have := hin d h2
      show Int.toNat _ = Int.toNat _ + 1
      omega
  · rw [hrow, sortN_mem, h.mem]
    constructor
    · rintro ⟨c, hc, hn, hm⟩
      obtain ⟨h1, h2⟩ := nodesG_mem.1 hn
      refine ⟨h1, ?_⟩
      show Int.toNat _ = m
      rw [h2]
      omega
    · rintro ⟨hn, hm⟩
      refine ⟨clG N es n, (listG_mem _).2 (clG_lt hn), nodesG_mem.2 ⟨hn, rfl⟩, ?_⟩
      have := hin _ (clG_lt (es := es) hn)
      have hm : Int.toNat _ = m := hm
      omega
  · rw [hrow]
    exact sortN_srt (h.nod m)
  · have := h.lt c ((listG_mem c).2 hc)
    have := hin c hc
    show Int.toNat _ < _
    omega
  · rw [hlen]
    rcases h.ln with h0 | ⟨c, hc, h0⟩
    · exact .inl h0
    · have hc := (listG_mem c).1 hc
      have := hin c hc
      exact .inr ⟨c, hc, by show Int.toNat _ + 1 = _; omega⟩
theorem rch_lev {N : Nat} {es : List (Int × Int)} {lv : Nat → Nat} (h : LevP N es lv) {a b : Nat} (hr : Rch (sucs N es) a b) : a < N → b < N ∧ (clG N es a = clG N es b ∨ lv (clG N es b) < lv (clG N es a)) := by
  induction hr with
  | refl a => exact fun ha => ⟨ha, .inl rfl⟩
  | @step a j b hj _ ih =>
    intro ha
    have hjN : j < N := by have := sucs_lt (N := N) (es := es) a j hj; rwa [sucs_length] at this
    obtain ⟨hb, hlev⟩ := ih hjN
    refine ⟨hb, ?_⟩
    by_cases e : clG N es a = clG N es j
    · rw [e]; exact hlev
    · have h1 := h.down (clG N es a) (clG N es j) (condG_mem.2 ⟨a, j, ha, hj, rfl, rfl, e⟩)
      rcases hlev with e2 | h2
      · rw [← e2]; exact .inr h1
      · exact .inr (by omega)
end Go.Proofs.YtnjiibiafhnmgaaGreatDoor
