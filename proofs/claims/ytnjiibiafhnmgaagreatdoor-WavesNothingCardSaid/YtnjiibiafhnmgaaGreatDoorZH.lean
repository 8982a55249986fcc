/- Graphs, plain: the components in their order are the sets of nodes that reach each other, and edges lead to earlier ones. -/
import Derived.Test.YtnjiibiafhnmgaaGreatDoorZG
import Derived.Test.YtnjiibiafhnmgaaGreatDoorYW
import Derived.Test.YtnjiibiafhnmgaaGreatDoorYS
import Derived.Test.YtnjiibiafhnmgaaGreatDoorYV
namespace Go.Proofs.YtnjiibiafhnmgaaGreatDoor
set_option linter.unusedVariables false
set_option linter.unusedSimpArgs false

structure PosP (N : Nat) (es : List (Int × Int)) (pos : Nat → Nat) : Prop where
  mem : ∀ (i : Nat) (row : List Nat), (compsG N es)[i]? = some row → ∀ n, n ∈ row ↔ n < N ∧ pos (clG N es n) = i
  srt : ∀ (i : Nat) (row : List Nat), (compsG N es)[i]? = some row → row.Pairwise (· < ·) ∧ 0 < row.length
  lt : ∀ n, n < N → pos (clG N es n) < (compsG N es).length
  inj : ∀ a b, a < N → b < N → (pos (clG N es a) = pos (clG N es b) ↔ clG N es a = clG N es b)
  down : ∀ a b, a < N → b ∈ (sucs N es).getD a [] → pos (clG N es b) ≤ pos (clG N es a)
theorem comps_len (N : Nat) (es : List (Int × Int)) : (compsG N es).length = (nodesG N es).length := by
  unfold compsG
  rw [List.length_map, listF_length, (condG_len N es).1]
theorem pos_ok (N : Nat) (es : List (Int × Int)) : ∃ pos, PosP N es pos := by
  have ho := listG_ok N es
  have hnod : (listF (condG N es)).Nodup := ho.nod
  have hlen : (listF (condG N es)).length = (nodesG N es).length := by rw [listF_length, (condG_len N es).1]
  have hex : ∀ c, c < (nodesG N es).length → ∃ i, (listF (condG N es))[i]? = some c := fun c hc => List.mem_iff_getElem?.1 ((listG_mem c).2 hc)
  have huniq : ∀ i j c, (listF (condG N es))[i]? = some c → (listF (condG N es))[j]? = some c → i = j := fun i j c hi hj => by
    obtain ⟨h1, e1⟩ := List.getElem?_eq_some_iff.1 hi
    obtain ⟨h2, e2⟩ := List.getElem?_eq_some_iff.1 hj
    rcases Nat.lt_trichotomy i j with h | h | h
    · exact absurd (e1.trans e2.symm) (List.pairwise_iff_getElem.1 hnod i j h1 h2 h)
    · exact h
    · exact absurd (e2.trans e1.symm) (List.pairwise_iff_getElem.1 hnod j i h2 h1 h)
  have hch : ∃ pos : Nat → Nat, ∀ c, c < (nodesG N es).length → (listF (condG N es))[pos c]? = some c :=
    ⟨fun c => @dite _ (c < (nodesG N es).length) (Classical.propDecidable _) (fun h => (hex c h).choose) (fun _ => 0), fun c hc => by
      show (listF (condG N es))[@dite _ (c < (nodesG N es).length) (Classical.propDecidable _) (fun h => (hex c h).choose) (fun _ => 0)]? = _
      rw [dif_pos hc]
      exact (hex c hc).choose_spec⟩
  obtain ⟨pos, hpos⟩ := hch
  have hcomp : ∀ i row, (compsG N es)[i]? = some row → ∃ c, (listF (condG N es))[i]? = some c ∧ row = (nodesG N es).getD c [] ∧ c < (nodesG N es).length := fun i row h => by
    unfold compsG at h
    rw [List.getElem?_map, Option.map_eq_some_iff] at h
    obtain ⟨c, h1, h2⟩ := h
    exact ⟨c, h1, h2.symm, (listG_mem c).1 (List.mem_of_getElem? h1)⟩
  refine ⟨pos, fun i row h n => ?_, fun i row h => ?_, fun n hn => ?_, fun a b ha hb => ⟨fun e => ?_, fun e => by rw [e]⟩, fun a b ha hb => ?_⟩
  · obtain ⟨c, h1, rfl, hc⟩ := hcomp i row h
    rw [nodesG_mem]
    refine and_congr_right fun hn => ⟨fun e => ?_, fun e => ?_⟩
    · rw [e]; exact huniq _ _ c (hpos c hc) h1
    · have h2 := hpos _ (clG_lt (es := es) hn)
      rw [e, h1] at h2
      exact (Option.some.inj h2).symm
  · obtain ⟨c, h1, rfl, hc⟩ := hcomp i row h
    refine ⟨nodesG_srt N es c, ?_⟩
    obtain ⟨a, ha, _⟩ := nodesG_hd hc
    cases e : (nodesG N es).getD c [] with
    | nil => rw [e] at ha; cases ha
    | cons x l => simp
  · have := (List.getElem?_eq_some_iff.1 (hpos _ (clG_lt (es := es) hn))).1
    rw [comps_len]
    omega
  · have h1 := hpos _ (clG_lt (es := es) ha)
    have h2 := hpos _ (clG_lt (es := es) hb)
    rw [e, h2] at h1
    exact (Option.some.inj h1).symm
  · have hbN : b < N := by have := sucs_lt (N := N) (es := es) a b hb; rwa [sucs_length] at this
    by_cases e : clG N es a = clG N es b
    · rw [e]; exact Nat.le_refl _
    · have h1 := hpos _ (clG_lt (es := es) ha)
      have h2 := ho.top _ _ h1 (clG N es b) (condG_mem.2 ⟨a, b, ha, hb, rfl, rfl, e⟩)
      obtain ⟨j, hj⟩ := List.mem_iff_getElem?.1 h2
      have hjl : j < pos (clG N es a) := by have := (List.getElem?_eq_some_iff.1 hj).1; rw [List.length_take] at this; omega
      rw [List.getElem?_take, if_pos hjl] at hj
      have := huniq _ _ _ (hpos _ (clG_lt (es := es) hbN)) hj
      omega
end Go.Proofs.YtnjiibiafhnmgaaGreatDoor

namespace Go.Proofs.YtnjiibiafhnmgaaGreatDoor
open Go

theorem comps_comp (N : Nat) (es : List (Int × Int)) : ∃ pos, CompP N es (compsG N es) pos := by
  obtain ⟨pos, h⟩ := pos_ok N es
  exact ⟨fun n => pos (clG N es n), ⟨h.mem, h.srt, h.lt, fun a b ha hb he => h.down a b ha (mem_sucs.2 ⟨ha, hb, he⟩)⟩, fun a b ha hb => (h.inj a b ha hb).trans (clG_eq ha hb)⟩
theorem lev_below {N : Nat} {es : List (Int × Int)} {lv : Nat → Nat} (h : LevP N es lv) : ∀ (m c : Nat), c < (nodesG N es).length → lv c = m → ∀ i, i ≤ m → ∃ d, d < (nodesG N es).length ∧ lv d = i
  | 0, c, hc, hm, i, hi => ⟨c, hc, by omega⟩
  | m + 1, c, hc, hm, i, hi => by
    by_cases e : i = m + 1
    · exact ⟨c, hc, by omega⟩
    · rcases h.attain c hc with h0 | ⟨d, hd, hl⟩
      · omega
      · have hdl := (condG_ok N es).1 c d hd
        rw [(condG_len N es).1] at hdl
        exact lev_below h m d hdl (by omega) i (by omega)
theorem lev_ex {N : Nat} {es : List (Int × Int)} {lv : Nat → Nat} (h : LevP N es lv) {i : Nat} (hi : i < (levelsG N es).length) : ∃ d, d < (nodesG N es).length ∧ lv d = i := by
  rcases h.ln with h0 | ⟨c, hc, hl⟩
  · omega
  · exact lev_below h (lv c) c hc rfl i (by omega)
theorem levels_part (N : Nat) (es : List (Int × Int)) : ∃ pos, PartP N es (levelsG N es) pos := by
  obtain ⟨lv, h⟩ := levels_ok N es
  have hg : ∀ (i : Nat) (row : List Nat), (levelsG N es)[i]? = some row → (levelsG N es).getD i [] = row := fun i row e => by rw [List.getD_eq_getElem?_getD, e]; rfl
  refine ⟨fun n => lv (clG N es n), fun i row e n => ?_, fun i row e => ⟨?_, ?_⟩, fun n hn => h.lt _ (clG_lt hn), fun a b ha hb he => ?_⟩
  · rw [← hg i row e]; exact h.mem i n
  · rw [← hg i row e]; exact h.srt i
  · obtain ⟨d, hd, hl⟩ := lev_ex h (List.getElem?_eq_some_iff.1 e).1
    obtain ⟨a, ha, _⟩ := nodesG_hd hd
    have ham : a ∈ (nodesG N es).getD d [] := List.mem_of_mem_head? ha
    obtain ⟨h1, h2⟩ := nodesG_mem.1 ham
    have : a ∈ row := by rw [← hg i row e]; exact (h.mem i a).2 ⟨h1, by rw [h2]; exact hl⟩
    exact List.length_pos_of_mem this
  · rcases (rch_lev h (.step (mem_sucs.2 ⟨ha, hb, he⟩) (.refl b)) ha).2 with e | e
    · rw [e]; exact Nat.le_refl _
    · exact Nat.le_of_lt e
theorem levels_len (N : Nat) (es : List (Int × Int)) : (levelsG N es).length ≤ (compsG N es).length := by
  obtain ⟨lv, h⟩ := levels_ok N es
  have hch : ∃ F : Nat → Nat, ∀ i, i < (levelsG N es).length → F i < (nodesG N es).length ∧ lv (F i) = i :=
    ⟨fun i => @dite _ (i < (levelsG N es).length) (Classical.propDecidable _) (fun hi => (lev_ex h hi).choose) (fun _ => 0), fun i hi => by
      show (@dite _ (i < (levelsG N es).length) (Classical.propDecidable _) (fun hi => (lev_ex h hi).choose) (fun _ => 0)) < _ ∧ lv (@dite _ (i < (levelsG N es).length) (Classical.propDecidable _) (fun hi => (lev_ex h hi).choose) (fun _ => 0)) = i
      rw [dif_pos hi]
      exact (lev_ex h hi).choose_spec⟩
  obtain ⟨F, hF⟩ := hch
  have hn : ((List.range (levelsG N es).length).map F).Nodup := by
    unfold List.Nodup
    rw [List.pairwise_map]
    refine List.pairwise_lt_range.imp_of_mem fun {i j} hi hj hij e => ?_
    have h1 := (hF i (List.mem_range.1 hi)).2
    have h2 := (hF j (List.mem_range.1 hj)).2
    rw [e] at h1
    omega
  have := sub_length hn (m := List.range (nodesG N es).length) fun a ha => by
    obtain ⟨i, hi, rfl⟩ := List.mem_map.1 ha
    exact List.mem_range.2 (hF i (List.mem_range.1 hi)).1
  rw [comps_len]
  simpa using this
theorem free_comps (N : Nat) : (compsG N []).flatten = List.range N := by
  obtain ⟨pos, h⟩ := comps_comp N []
  have ho := listG_ok N []
  have hno : ∀ p, (condG N []).getD p [] = [] := fun p => by
    rw [List.eq_nil_iff_forall_not_mem]
    intro d hd
    obtain ⟨n, j, _, hj, _⟩ := condG_mem.1 hd
    have := (mem_sucs.1 hj).2.2
    cases this
  have hinc : (listF (condG N [])).Pairwise (· < ·) := by
    rw [List.pairwise_iff_getElem]
    intro i j hi hj hij
    rcases Nat.lt_or_ge (listF (condG N []))[i] (listF (condG N []))[j] with g | g
    · exact g
    · have hne : (listF (condG N []))[j] ≠ (listF (condG N []))[i] := fun e => by
        have hn : (listF (condG N [])).Nodup := ho.nod
        exact List.pairwise_iff_getElem.1 hn i j hi hj hij e.symm
      obtain ⟨d, hd, _⟩ := ho.least i _ (List.getElem?_eq_getElem hi) (listF (condG N []))[j] (by omega) (fun hm => by
        obtain ⟨k, hk⟩ := List.mem_iff_getElem?.1 hm
        rw [List.getElem?_take] at hk
        split at hk
        · obtain ⟨hkl, e⟩ := List.getElem?_eq_some_iff.1 hk
          have hn : (listF (condG N [])).Nodup := ho.nod
          exact List.pairwise_iff_getElem.1 hn k j hkl hj (by omega) e
        · cases hk)
      rw [hno] at hd
      cases hd
  refine lt_unique ?_ List.pairwise_lt_range fun n => ?_
  · rw [List.pairwise_flatten]
    refine ⟨fun l hl => ?_, ?_⟩
    · obtain ⟨i, hi⟩ := List.mem_iff_getElem?.1 hl
      exact (h.part.srt i l hi).1
    · unfold compsG
      rw [List.pairwise_map]
      refine hinc.imp_of_mem fun {p q} hp hq hpq a ha b hb => ?_
      have hpl := (listG_mem p).1 hp
      obtain ⟨x, hx, hlt⟩ := nodesG_hd hpl
      have hone : ((nodesG N []).getD p []).length = 1 := comp_one h (by unfold compsG; exact List.mem_map.2 ⟨p, hp, rfl⟩)
      obtain ⟨z, hz⟩ := List.length_eq_one_iff.1 hone
      rw [hz] at ha hx
      have e1 := List.mem_singleton.1 ha
      have e2 : z = x := Option.some.inj hx
      rw [e1, e2]
      exact hlt q hpq b hb
  · rw [List.mem_flatten, List.mem_range]
    constructor
    · rintro ⟨l, hl, hn⟩
      obtain ⟨i, hi⟩ := List.mem_iff_getElem?.1 hl
      exact ((h.part.mem i l hi n).1 hn).1
    · intro hn
      have hl := h.part.lt n hn
      exact ⟨_, List.getElem_mem hl, (h.part.mem _ _ (List.getElem?_eq_getElem hl) n).2 ⟨hn, rfl⟩⟩
theorem free_levels (N : Nat) : (levelsG N []).length ≤ 1 ∧ (levelsG N []).flatten = List.range N := by
  obtain ⟨lv, h⟩ := levels_ok N []
  have hz : ∀ c, c < (nodesG N []).length → lv c = 0 := fun c hc => by
    rcases h.attain c hc with e | ⟨d, hd, _⟩
    · exact e
    · obtain ⟨n, j, _, hj, _⟩ := condG_mem.1 hd
      have := (mem_sucs.1 hj).2.2
      cases this
  have hl1 : (levelsG N []).length ≤ 1 := by
    rcases h.ln with e | ⟨c, hc, e⟩
    · omega
    · have := hz c hc
      omega
  refine ⟨hl1, lt_unique ?_ List.pairwise_lt_range fun n => ?_⟩
  · rw [List.pairwise_flatten]
    refine ⟨fun l hl => ?_, ?_⟩
    · obtain ⟨i, hi⟩ := List.mem_iff_getElem?.1 hl
      have := h.srt i
      rwa [List.getD_eq_getElem?_getD, hi] at this
    · rw [List.pairwise_iff_getElem]
      intro i j hi hj hij
      omega
  · rw [List.mem_flatten, List.mem_range]
    constructor
    · rintro ⟨l, hl, hn⟩
      obtain ⟨i, hi⟩ := List.mem_iff_getElem?.1 hl
      have hg : (levelsG N []).getD i [] = l := by rw [List.getD_eq_getElem?_getD, hi]; rfl
      rw [← hg] at hn
      exact ((h.mem i n).1 hn).1
    · intro hn
      have hl := h.lt _ (clG_lt hn)
      refine ⟨_, List.getElem_mem hl, ?_⟩
      have := (h.mem (lv (clG N [] n)) n).2 ⟨hn, rfl⟩
      rwa [List.getD_eq_getElem?_getD, List.getElem?_eq_getElem hl] at this
noncomputable def errW (X : List RelL) (f t : List SelL) : Int := if consV X f ≠ 0 then consV X f else consV X t
theorem errW_zero {X : List RelL} {f t : List SelL} : errW X f t = 0 ↔ ConsP X f ∧ ConsP X t := by
  unfold errW
  by_cases h : consV X f = 0
  · rw [if_neg (fun g => g h), consV_zero]
    exact ⟨fun g => ⟨consV_zero.1 h, g⟩, fun g => g.2⟩
  · rw [if_pos h]
    exact ⟨fun g => absurd g h, fun g => absurd (consV_zero.2 g.1) h⟩
def grpW (X : List RelL) (f t : List SelL) : List (List ByteArray) := nameL (movesP f t) (compsG (movesP f t).length (wavE X f t))
def wavW (X : List RelL) (f t : List SelL) : List (List ByteArray) := nameL (movesP f t) (levelsG (movesP f t).length (wavE X f t))
open Classical in
noncomputable def planV (X : List RelL) (f t : List SelL) (plan : List (List ByteArray)) : Int :=
  if errW X f t ≠ 0 then errW X f t
  else if ¬ ((∀ l ∈ plan, l ≠ [] ∧ IncB l) ∧ plan.flatten.Nodup ∧ ∀ p, p ∈ plan.flatten ↔ p ∈ movesP f t) then 1
  else if ∃ i, i < plan.length ∧ ¬ ConsP X (betV f t (plan.take (i + 1)).flatten) then 17 else 0
theorem planV_zero {X : List RelL} {f t : List SelL} {plan : List (List ByteArray)} : planV X f t plan = 0 ↔ errW X f t = 0 ∧ PlanP X f t plan := by
  unfold planV
  by_cases h0 : errW X f t = 0
  · rw [if_neg (fun g => g h0)]
    by_cases h1 : (∀ l ∈ plan, l ≠ [] ∧ IncB l) ∧ plan.flatten.Nodup ∧ ∀ p, p ∈ plan.flatten ↔ p ∈ movesP f t
    · rw [if_neg (fun g => g h1)]
      by_cases h2 : ∃ i, i < plan.length ∧ ¬ ConsP X (betV f t (plan.take (i + 1)).flatten)
      · rw [if_pos h2]
        obtain ⟨i, hi, hn⟩ := h2
        exact ⟨fun g => absurd g (by decide), fun g => absurd (g.2.cons i hi) hn⟩
      · rw [if_neg h2]
        exact ⟨fun _ => ⟨h0, h1.1, h1.2.1, h1.2.2, fun i hi => Classical.byContradiction fun hn => h2 ⟨i, hi, hn⟩⟩, fun _ => rfl⟩
    · rw [if_pos h1]
      exact ⟨fun g => absurd g (by decide), fun g => absurd ⟨g.2.ne, g.2.nod, g.2.mem⟩ h1⟩
  · rw [if_pos h0]
    exact ⟨fun g => absurd g h0, fun g => absurd g.1 h0⟩
theorem right_law {X : List RelL} {f t : List SelL} (h : errW X f t = 0) : planV X f t (grpW X f t) = 0 ∧ planV X f t (wavW X f t) = 0 ∧ (wavW X f t).length ≤ (grpW X f t).length ∧ betV f t (grpW X f t).flatten = t ∧ betV f t [] = f := by
  obtain ⟨hf, ht⟩ := errW_zero.1 h
  obtain ⟨pos, hc⟩ := comps_comp (movesP f t).length (wavE X f t)
  obtain ⟨pos2, hl⟩ := levels_part (movesP f t).length (wavE X f t)
  have hp := part_plan hf ht hc.part
  refine ⟨planV_zero.2 ⟨h, hp⟩, planV_zero.2 ⟨h, part_plan hf ht hl⟩, ?_, bet_all hf.incr ht.incr hf ht fun p hm => (hp.mem p).2 hm, bet_none hf ht⟩
  unfold wavW grpW nameL
  rw [List.length_map, List.length_map]
  exact levels_len _ _
theorem whole_law {X : List RelL} {f t : List SelL} {plan : List (List ByteArray)} (h : planV X f t plan = 0) : plan.length ≤ (grpW X f t).length ∧ ∀ g ∈ grpW X f t, g ≠ [] ∧ ∃ i, i < plan.length ∧ (∀ p, g.head? = some p → p ∈ plan.getD i [] ∧ ∀ j, j < i → p ∉ plan.getD j []) ∧ ∀ p ∈ g, p ∈ plan.getD i [] := by
  obtain ⟨h0, hp⟩ := planV_zero.1 h
  obtain ⟨hf, ht⟩ := errW_zero.1 h0
  obtain ⟨pos, hc⟩ := comps_comp (movesP f t).length (wavE X f t)
  refine ⟨?_, fun g hg => ?_⟩
  · unfold grpW nameL
    rw [List.length_map]
    exact whole_len hf ht hp hc
  · unfold grpW nameL at hg
    obtain ⟨row, hr, rfl⟩ := List.mem_map.1 hg
    obtain ⟨k, hk⟩ := List.mem_iff_getElem?.1 hr
    obtain ⟨_, h2⟩ := hc.part.srt k row hk
    obtain ⟨a, l, e⟩ := List.exists_cons_of_ne_nil (fun e : row = [] => by rw [e] at h2; simp at h2)
    have ham : a ∈ row := by rw [e]; simp
    have ha1 := ((hc.part.mem k row hk a).1 ham).1
    obtain ⟨i, hi, hm⟩ := hp.spot (getD_mem ha1)
    have hgd : ∀ j (hj : j < plan.length), plan.getD j [] = plan[j] := fun j hj => by rw [List.getD_eq_getElem?_getD, List.getElem?_eq_getElem hj]; rfl
    refine ⟨by rw [e]; simp, i, hi, fun p hpe => ?_, fun p hpm => ?_⟩
    · rw [e] at hpe
      have hpe : (movesP f t).getD a default = p := Option.some.inj hpe
      subst hpe
      refine ⟨by rw [hgd i hi]; exact hm, fun j hj hmj => ?_⟩
      rw [hgd j (by omega)] at hmj
      have := hp.one (by omega) hi hmj hm
      omega
    · obtain ⟨b, hb, rfl⟩ := List.mem_map.1 hpm
      rw [hgd i hi]
      exact whole_in hf ht hp hc hr a ham b hb i hi hm
theorem back_law {X : List RelL} {f t : List SelL} (hf : ConsP X f) (ht : ConsP X t) : movesP t f = movesP f t ∧ (wavE X t f).length = (wavE X f t).length ∧ (∀ e ∈ wavE X f t, (e.2, e.1) ∈ wavE X t f) ∧ (grpW X f t).length = (grpW X t f).length ∧ ∀ g ∈ grpW X f t, g ∈ grpW X t f := by
  have hm := moves_back hf.incr ht.incr
  have hb : ∀ i k : Nat, ((i : Int), (k : Int)) ∈ wavE X t f ↔ ((k : Int), (i : Int)) ∈ wavE X f t := fun i k => wavE_back hf.incr ht.incr
  obtain ⟨pos, hc⟩ := comps_comp (movesP f t).length (wavE X f t)
  obtain ⟨pos2, hd⟩ := comps_comp (movesP f t).length (wavE X t f)
  refine ⟨hm, wavE_len hf.incr ht.incr, fun e he => ?_, ?_, fun g hg => ?_⟩
  · obtain ⟨i, k, _, _, _, rfl⟩ := mem_wavE.1 he
    exact (hb k i).2 he
  · unfold grpW nameL
    rw [List.length_map, List.length_map, hm]
    exact back_len hb hc hd
  · unfold grpW nameL at hg ⊢
    obtain ⟨row, hr, rfl⟩ := List.mem_map.1 hg
    rw [hm]
    exact List.mem_map.2 ⟨row, back_sub hb hc hd row hr, rfl⟩
theorem self_law (X : List RelL) (f : List SelL) : grpW X f f = [] ∧ wavW X f f = [] := by
  unfold grpW wavW
  rw [moves_self]
  obtain ⟨pos, hc⟩ := comps_comp 0 (wavE X f f)
  obtain ⟨pos2, hl⟩ := levels_part 0 (wavE X f f)
  show nameL [] (compsG 0 _) = [] ∧ nameL [] (levelsG 0 _) = []
  rw [part_none hc.part, part_none hl]
  exact ⟨rfl, rfl⟩
theorem free_law {X : List RelL} {f t : List SelL} (h : ∀ y, reqsOf X y = []) : (wavW X f t).length ≤ 1 ∧ (∀ g ∈ grpW X f t, g.length = 1) ∧ (grpW X f t).flatten = (wavW X f t).flatten := by
  have he : wavE X f t = [] := by
    rw [List.eq_nil_iff_forall_not_mem]
    intro e he
    obtain ⟨i, k, _, _, hn, _⟩ := mem_wavE.1 he
    have hc : ∀ s a o b, clashB X s a o b = false := fun s a o b => by
      cases hb : clashB X s a o b with
      | false => rfl
      | true =>
        obtain ⟨y, _, q, hq, _⟩ := clash_iff.1 hb
        rw [h] at hq; cases hq
    obtain ⟨_, g | g⟩ := need_iff.1 hn
    · rw [hc] at g; cases g
    · rw [hc] at g; cases g
  obtain ⟨pos, hc⟩ := comps_comp (movesP f t).length []
  have hfl : ∀ L : List (List Nat), (nameL (movesP f t) L).flatten = L.flatten.map fun n => (movesP f t).getD n default := fun L => by
    unfold nameL
    rw [List.map_flatten]
  refine ⟨?_, fun g hg => ?_, ?_⟩
  · unfold wavW nameL
    rw [List.length_map, he]
    exact (free_levels _).1
  · unfold grpW nameL at hg
    rw [he] at hg
    obtain ⟨row, hr, rfl⟩ := List.mem_map.1 hg
    rw [List.length_map]
    exact comp_one hc hr
  · unfold grpW wavW
    rw [hfl, hfl, he, free_comps, (free_levels _).2]
end Go.Proofs.YtnjiibiafhnmgaaGreatDoor

namespace Go.Proofs.YtnjiibiafhnmgaaGreatDoor
open Go Go.RowKit Go.Maps

theorem cons_parts {X : List RelL} {s : List SelL} (h : consV X s = 0) : checkX X = 0 ∧ incrS s ∧ ∀ y ∈ s, (findR X y).isSome = true := by
  unfold consV at h
  split at h
  · cases h
  · rename_i h1
    split at h
    · cases h
    · rename_i h2
      refine ⟨Classical.byContradiction fun e => h1 (.inl e), Classical.byContradiction fun e => h1 (.inr e), fun y hy => ?_⟩
      cases hf : findR X y with
      | none => exact absurd ⟨y, hy, hf⟩ h2
      | some _ => rfl
theorem mergeU_len : ∀ l m : List ByteArray, (mergeU l m).length ≤ l.length + m.length
  | [], m => by rw [mergeU_nil]; simp
  | a :: l, [] => by rw [mergeU_none]; simp
  | a :: l, b :: m => by
    rw [mergeU_cons]
    split
    · have := mergeU_len l m; simp only [List.length_cons]; omega
    · split
      · have := mergeU_len l (b :: m); simp only [List.length_cons] at *; omega
      · have := mergeU_len (a :: l) m; simp only [List.length_cons] at *; omega
  termination_by l m => l.length + m.length
theorem movesP_len (f t : List SelL) : (movesP f t).length ≤ f.length + t.length := by
  have h1 : (movesP f t).length ≤ (allP f t).length := List.length_filter_le _ _
  have h2 := mergeU_len (f.map (·.1)) (t.map (·.1))
  rw [List.length_map, List.length_map] at h2
  unfold allP at h1
  omega
def UpV (X : List RelL) (f t : List SelL) (L : List ByteArray) (b : Nat) (W : World) : Prop := ∃ m1 m2 fv tv pv B, W.heap[b]? = some (.cells #[.map (some m1), .map (some m2), fv, tv, pv] 102 (0, 0)) ∧ SideAt X f m1 W ∧ SideAt X t m2 W ∧ W.ownsRow B 9 1 pv L.length (strsC L) ∧ SelsOf W.heap.size fv f W ∧ SelsOf W.heap.size tv t W
theorem UpV.below {X : List RelL} {f t : List SelL} {L : List ByteArray} {b : Nat} {W W' : World} (h : UpV X f t L b W) (hb : Below W.heap.size W W') : UpV X f t L b W' := by
  obtain ⟨m1, m2, fv, tv, pv, B, h1, h2, h3, h4, h5, h6⟩ := h
  exact ⟨m1, m2, fv, tv, pv, B, (hb.block _ (Array.getElem?_eq_some_iff.1 h1).1).trans h1, h2.below hb, h3.below hb, own_on h4 hb, h5.on hb, h6.on hb⟩
def UpgR (X : List RelL) (f t : List SelL) (w : World) (e : Ending) (w' : World) : Prop := Below w.heap.size w w' ∧ ∃ g : Option Addr, e = .returned (.tuple #[.pointer g, .int .i64 (errW X f t)]) ∧ (errW X f t = 0 → ∃ b, g = some ⟨b, 0, none⟩ ∧ UpV X f t (movesP f t) b w')
theorem UpgR.no {X : List RelL} {f t : List SelL} {w w' : World} {E : Int} (hb : Below w.heap.size w w') (h : errW X f t = E) (h0 : E ≠ 0) : UpgR X f t w (.returned (.tuple #[.pointer none, .int .i64 E])) w' := ⟨hb, none, by rw [h], fun e => absurd (h.symm.trans e) h0⟩
structure UpJ (w3 : World) (g : Nat) (a b c d : Value) (xs : List ByteArray) (pv : Value) (W : World) : Prop where
  bel : Below g w3 W
  lo : g < w3.heap.size
  mid : ∀ k, k < w3.heap.size → k ≠ g → W.heap[k]? = w3.heap[k]?
  out : W.heap[g]? = some (.cells #[a, b, c, d, pv] 102 (0, 0))
  row : W.ownsRow w3.heap.size 9 1 pv xs.length (strsC xs)
section
variable {w3 W W' : World} {g : Nat} {a b c d pv : Value} {xs : List ByteArray}
theorem UpJ.below (h : UpJ w3 g a b c d xs pv W) (hb : Below W.heap.size W W') : UpJ w3 g a b c d xs pv W' := by
  obtain ⟨h1, h2, h3, h4, h5⟩ := h
  have hs := h1.size
  exact ⟨h1.trans (hb.mono (by omega)), h2, fun k hk hn => (hb.block k (by omega)).trans (h3 k hk hn), (hb.block g (by omega)).trans h4, own_on h5 hb⟩
theorem UpJ.keep {W6 : World} (h : UpJ w3 g a b c d xs pv W) (hg : W.grownBy W6 pv.ownBlock) : W6.heap[g]? = some (.cells #[a, b, c, d, pv] 102 (0, 0)) := by
  have hs := h.bel.size
  have h2 := h.lo
  exact (hg.block g (by omega) (fun e => by have := (own_lo h.row _ e.symm).1; omega)).trans h.out
theorem UpJ.push {W6 : World} {pv' : Value} {p : ByteArray} (h : UpJ w3 g a b c d xs pv W) (hown : W6.ownsRow w3.heap.size 9 1 pv' (xs.length + 1) (strsC xs ++ [.string p])) (hg : W.grownBy W6 pv.ownBlock) : UpJ w3 g a b c d (xs ++ [p]) pv' (W6.setCell ⟨g, 4, none⟩ pv') := by
  have hk := h.keep hg
  obtain ⟨h1, h2, h3, h4, h5⟩ := h
  have hs := h1.size
  have lo : ∀ b, some b = pv.ownBlock → w3.heap.size ≤ b := fun b hb => (own_lo h5 b hb.symm).1
  have g2 := grownBy_setC W6 g 4 pv'
  refine ⟨(h1.grown hg (by omega) (fun b hb => by have := lo b hb.symm; omega)).setCell (Nat.le_refl _) _, h2, fun k hk hn => ?_, heap_setCell_same _ _ 4 _ _ pv' hk, ?_⟩
  · have hk6 := hg.size
    exact (g2.block k (by omega) (fun e => hn (by injection e))).trans ((hg.block k (by omega) (fun e => by have := lo _ e; omega)).trans (h3 k hk hn))
  · rw [List.length_append, strsC_snoc]
    exact own_farM hown g2 (by omega)
theorem up_noStr {g : Nat} {W : World} {m1 m2 : Option Nat} {a1 a2 a3 : Option Addr} {n1 n2 n3 c1 c2 c3 : Nat} {T : TypeId} (h : W.heap[g]? = some (.cells #[.map m1, .map m2, .slice a1 n1 c1, .slice a2 n2 c2, .slice a3 n3 c3] T (0, 0))) (j : Nat) (p : ByteArray) : W.cell? ⟨g, j, none⟩ ≠ some (.string p) := fun e => by
  unfold World.cell? at e
  simp [h] at e
  rcases j with _ | _ | _ | _ | _ | j <;> simp at e
end
theorem step_strW {ops : Array Oper} {o : Oper} {a : Act} {K : Act → World → Prop} {Q : Exit → Act → World → Prop} {E : Prop} (w w0 : World) (hgd : o.guard = none) (s x : Operand)
    (ho : o.op = .call { callee := .builtin .append, args := #[s, x], argTypes := #[29, 29] }) (B : Nat) (v : Value) (n : Nat) (xs : List Value) (hs : a.eval s = v) (hown : Hid (w.ownsRow B 9 1 v n xs))
    (p : ByteArray) (hw0 : w0 = w.alloc (.cells #[.string p] 9)) (hx : a.eval x = .slice (some ⟨w.heap.size, 0, none⟩) 1 1) (hb : n ≤ 100000000) (hB : B ≤ w.heap.size)
    (h : ∀ g cap w', Hid (w'.ownsRow B 9 1 (.slice (some ⟨g, 0, none⟩) (n + 1) cap) (n + 1) (xs ++ [.string p])) → Hid (w.grownBy w' v.ownBlock) → K (a.put o.dst (.slice (some ⟨g, 0, none⟩) (n + 1) cap)) w') :
    if Region.wanted o (yielded ops a.tmps) = true then Oper.wp Tryz.prog o a w0 K Q else E := by
  have hw : Region.wanted o (yielded ops a.tmps) = true := by simp [Region.wanted, hgd]
  rw [if_pos hw]
  subst hw0
  obtain ⟨i0, hi, hz0, hz1, hz2⟩ := info_parts info_strW
  have ho1 := hown.out
  obtain ⟨v', w', hrun, hown', hgrow, _⟩ := run_append_own (P := Tryz.prog) (w.alloc (.cells #[.string p] 9)) B 29 o.type 9 i0 (.string ⟨#[]⟩) 1 16 Tryz.underlying29 hi hz0 hz1 hz2 rfl (by decide) v n xs (ho1.alloc _) ⟨w.heap.size, 0, none⟩ 1 1 [.string p] rfl (World.news_of_block (World.alloc_heap_new w _)) (by simp [Value.oneCell']) (by unfold maxLen; omega) (by omega) (by simp; omega)
  have hq := belQ w (.cells #[.string p] 9)
  have hsz := hq.size
  have hgw : w.grownBy w' v.ownBlock := ⟨hgrow.os.trans hq.os, hgrow.tape.trans hq.tape, hgrow.output.trans hq.output, Nat.le_trans hsz hgrow.size, fun k hk hne => (hgrow.block k (by omega) hne).trans (hq.block k hk)⟩
  obtain ⟨g, cap, rfl⟩ := ownsRow_succ hown'
  unfold Oper.wp
  simp [execOp, ho, resolve, invoke, builtin, hs, hx, hrun, Result.andThen]
  exact h g cap w' (Lib.hid hown') (Lib.hid hgw)
set_option maxRecDepth 100000 in
set_option maxHeartbeats 16000000 in
theorem newUpgrade_any (v iv fv tv : Value) (X : List RelL) (f t : List SelL) (w : World) (hm : MaxOk w) (hX : X.length ≤ 1000000) (hq : ∀ x ∈ X, RelBd x) (hR : RelsOf w.heap.size v X w)
    (hf : f.length ≤ 1000000) (hfy : ∀ y ∈ f, SelBd y) (hF : SelsOf w.heap.size fv f w) (ht : t.length ≤ 1000000) (hty : ∀ y ∈ t, SelBd y) (hT : SelsOf w.heap.size tv t w) :
    Calls Tryz.prog 41 #[.agg #[v, iv], fv, tv] w (UpgR X f t w) := by
  have HC1 := Lib.hid (fun W (hb : RowKit.Below w.heap.size w W) => consistent_any v iv fv X f W (hm.below hb hm.pos) hX hq (hR.on hb) hf hfy (hF.on hb))
  have HC2 := Lib.hid (fun W (hb : RowKit.Below w.heap.size w W) => consistent_any v iv tv X t W (hm.below hb hm.pos) hX hq (hR.on hb) ht hty (hT.on hb))
  have HMV := Lib.hid (fun W (hb : RowKit.Below w.heap.size w W) (h1 : consV X f = 0) (h2 : consV X t = 0) =>
    Moves_any fv tv f t W hf ht (cons_parts h1).2.1 (cons_parts h2).2.1 (fun y hy => found_valid (cons_parts h1).1 ((cons_parts h1).2.2 y hy)) (fun y hy => found_valid (cons_parts h2).1 ((cons_parts h2).2.2 y hy)) (fun y hy => (hfy y hy).path) (fun y hy => (hty y hy).path) (hF.on hb) (hT.on hb))
  have hml : (movesP f t).length ≤ 100000000 := by
    have h := movesP_len f t
    omega
  obtain ⟨va, vn, vc, rfl⟩ : ∃ a n c, v = .slice a n c := by obtain ⟨a, c, _, e, _⟩ := hR.rv; exact ⟨_, _, _, e⟩
  obtain ⟨fa, fc, rfl⟩ : ∃ a c, fv = .slice a f.length c := by obtain ⟨a, c, e, _⟩ := hF; exact ⟨a, c, e⟩
  obtain ⟨ta, tc, rfl⟩ : ∃ a c, tv = .slice a t.length c := by obtain ⟨a, c, e, _⟩ := hT; exact ⟨a, c, e⟩
  have HML := Lib.hid hml
  have HSF := Lib.hid hF
  have HST := Lib.hid hT
  clear hm hq hR hF hT hfy hty hml
  have HB0 := Lib.hid (IdxBx.start w (.slice va vn vc) iv)
  have HEW : Hid (errW X f t = if consV X f ≠ 0 then consV X f else consV X t) := Lib.hid rfl
  unfold ConsR at HC1 HC2
  generalize consV X f = E1 at *
  generalize consV X t = E2 at *
  go_enter Tryz.func41, Tryz.ntmps41
  go_upto_region 1 with fail
  generalize w.alloc (.cells #[.slice va vn vc, iv] 25) = W at *
  have c0 := HB0.out.c0
  have c1 := HB0.out.c1
  go_wp2_with fail
  refine (HC1.out _ HB0.out.bel).mono ?_
  rintro e w1 ⟨hb1, m, rfl, hm1⟩
  have HB1 := Lib.hid (HB0.out.below hb1)
  have HS1 := Lib.hid hm1
  clear hb1 hm1 c0 c1 HC1 HB0
  have c0 := HB1.out.c0
  have c1 := HB1.out.c1
  by_cases hE1 : E1 = 0
  case neg =>
    have hE1b : (E1 != 0) = true := by simpa using hE1
    have HV : Hid (errW X f t = E1) := Lib.hid (by rw [HEW.out, if_pos hE1])
    clear c0 c1
    go_wp2_with fail
    go_ret2
    exact UpgR.no HB1.out.bel HV.out hE1
  subst hE1
  obtain ⟨m1, e, hs1⟩ := HS1.out rfl
  subst e
  clear HS1
  have HSA := Lib.hid hs1
  clear hs1
  go_wp2_with fail
  refine (HC2.out _ HB1.out.bel).mono ?_
  rintro e w2 ⟨hb2, m, rfl, hm2⟩
  have HB2 := Lib.hid (HB1.out.below hb2)
  have HSA := Lib.hid (HSA.out.below hb2)
  have HS2 := Lib.hid hm2
  clear hb2 hm2 c0 c1 HC2 HB1
  have HV : Hid (errW X f t = E2) := Lib.hid (by rw [HEW.out, if_neg (fun h => h rfl)])
  by_cases hE2 : E2 = 0
  case neg =>
    have hE1b : (E2 != 0) = true := by simpa using hE2
    go_wp2_with fail
    go_ret2
    exact UpgR.no HB2.out.bel HV.out hE2
  subst hE2
  obtain ⟨m2, e, hs2⟩ := HS2.out rfl
  subst e
  clear HS2
  have HSB := Lib.hid hs2
  clear hs2
  have hbq := belQ w2 (.cells #[.map (some m1), .map (some m2), .slice fa f.length fc, .slice ta t.length tc, .slice none 0 0] 102)
  have HN3 := Lib.hid (World.alloc_heap_new w2 (.cells #[.map (some m1), .map (some m2), .slice fa f.length fc, .slice ta t.length tc, .slice none 0 0] 102))
  have HQ3 := Lib.hid hbq
  have HB3 := Lib.hid (HB2.out.bel.trans (hbq.mono HB2.out.bel.size))
  clear hbq
  go_upto_region 8 with fail
  generalize w2.alloc (.cells #[.map (some m1), .map (some m2), .slice fa f.length fc, .slice ta t.length tc, .slice none 0 0] 102) = wa at *
  go_wp2_with fail
  refine (HMV.out _ HB3.out trivial trivial).mono ?_
  rintro e w3 ⟨mv, rfl, hmv, hb3⟩
  have HB4 := Lib.hid (HB2.out.bel.trans ((HQ3.out.trans (hb3.mono HQ3.out.size)).mono HB2.out.bel.size))
  have HQ4 := Lib.hid (HQ3.out.trans (hb3.mono HQ3.out.size))
  have hgl : w2.heap.size < wa.heap.size := (Array.getElem?_eq_some_iff.1 HN3.out).1
  have HN4 := Lib.hid ((hb3.block _ hgl).trans HN3.out)
  have hgl3 : w2.heap.size < w3.heap.size := Nat.lt_of_lt_of_le hgl hb3.size
  have HMO := Lib.hid hmv
  obtain ⟨ma, mc, hme, _⟩ := hmv
  subst hme
  obtain ⟨g, hg⟩ : ∃ g, w2.heap.size = g := ⟨_, rfl⟩
  rw [hg] at HN3 HN4 HQ3 HQ4 hgl hgl3
  have HGE := Lib.hid hg
  simp only [hg]
  clear hg hb3 HMV HN3 hgl HEW
  obtain ⟨L, hL⟩ : ∃ L, movesP f t = L := ⟨_, rfl⟩
  rw [hL] at HML HMO
  have HLE := Lib.hid hL
  simp only [hL]
  clear hL
  go_upto_region 9 with fail
  go_wp2_with fail
  go_loopw [48] (fun p wr => Hid (∃ (k : Nat) (pv : Value), k ≤ L.length ∧ p = .int .i64 (k : Int) ∧ UpJ w3 g (.map (some m1)) (.map (some m2)) (.slice fa f.length fc) (.slice ta t.length tc) (L.take k) pv wr)) (fun p _ => L.length - (intOf p).toNat)
  case atStart => exact Lib.hid ⟨0, _, Nat.zero_le _, rfl, Below.refl _ _, hgl3, fun _ _ _ => rfl, HN4.out, World.ownsRow_nil _ _ _ _⟩
  case round =>
    obtain ⟨k, pv, hk, rfl, hj⟩ := hrel.out
    have HJ := Lib.hid hj
    have hlen : (L.take k).length = k := by rw [List.length_take]; omega
    obtain ⟨pa, pc, rfl⟩ : ∃ a c, pv = .slice a k c := by obtain ⟨a, c, e⟩ := own_any hj.row; exact ⟨a, c, by rw [e, hlen]⟩
    clear hrel hj
    have hmlk := HML.out
    by_cases hlt : k < L.length
    case neg =>
      have hkk : k = L.length := Nat.le_antisymm hk (Nat.le_of_not_lt hlt)
      clear hk hmlk
      subst hkk
      have HRS : Hid (UpgR X f t w (.returned (.tuple #[.pointer (some ⟨g, 0, none⟩), .int .i64 0])) wr) := Lib.hid (by
        have hj := HJ.out
        rw [List.take_length] at hj
        have hge := HGE.out
        have hb2 : Below w2.heap.size w2 wr := by rw [hge]; exact HQ4.out.trans hj.bel
        refine ⟨HB2.out.bel.trans (hb2.mono HB2.out.bel.size), _, by rw [HV.out], fun _ => ⟨g, rfl, m1, m2, _, _, _, w3.heap.size, hj.out, HSA.out.below hb2, HSB.out.below hb2, by rw [HLE.out]; exact hj.row, HSF.out.on (HB2.out.bel.trans (hb2.mono HB2.out.bel.size)), HST.out.on (HB2.out.bel.trans (hb2.mono HB2.out.bel.size))⟩⟩)
      clear HJ
      go_wp2_with fail
      go_ret2
      exact HRS.out
    case pos =>
      have hk0 : (0 : Int) ≤ (k : Int) := Int.natCast_nonneg k
      have hkz : (k : Int) < (L.length : Int) := Int.ofNat_lt.2 hlt
      have HTK : Hid (L.take (k + 1) = L.take k ++ [L[k]]) := Lib.hid (List.take_succ_eq_append_getElem hlt)
      obtain ⟨ao, cap, e0, hrow⟩ := HMO.out
      cases e0
      obtain ⟨b, off, rfl, hbl, d0, d1, d2⟩ := hrow k _ (List.getElem?_eq_getElem hlt)
      have hbg : b ≠ g := fun e => by subst e; exact up_noStr HN4.out _ _ d0
      have hbk : wr.heap[b]? = w3.heap[b]? := HJ.out.mid b hbl hbg
      have d0 : wr.cell? ⟨b, off + k * 3, none⟩ = _ := (World.cell?_of_block hbk).trans d0
      have d1 : wr.cell? ⟨b, off + k * 3 + 1, none⟩ = _ := (World.cell?_of_block hbk).trans d1
      have d2 : wr.cell? ⟨b, off + k * 3 + 2, none⟩ = _ := (World.cell?_of_block hbk).trans d2
      generalize L[k] = p at *
      generalize plcS f p = x at *
      generalize plcS t p = z at *
      clear hrow hbk hbg
      have hbq := belQ wr (.cells #[.string p, intC x, intC z] 82)
      have HN5 := Lib.hid (World.alloc_heap_new wr (.cells #[.string p, intC x, intC z] 82))
      have HJ5 := Lib.hid (HJ.out.below hbq)
      clear hbq HJ
      go_upto_region 12 with fail
      generalize wr.alloc (.cells #[.string p, intC x, intC z] 82) = W1 at *
      obtain ⟨gy, hgy⟩ : ∃ gy, wr.heap.size = gy := ⟨_, rfl⟩
      rw [hgy] at HN5
      try simp only [hgy]
      clear hgy d0 d1 d2
      have y0 : W1.cell? ⟨gy, 0, none⟩ = some (.string p) := cell_of_row _ _ 0 _ _ _ HN5.out
      have o4 : W1.cell? ⟨g, 4, none⟩ = some (.slice pa k pc) := cell_of_row _ _ 4 _ _ _ HJ5.out.out
      have o5 : (W1.alloc (.cells #[.string p] 9)).cell? ⟨g, 4, none⟩ = some (.slice pa k pc) := cell_of_row _ _ 4 _ _ _ (HJ5.out.below (belQ W1 _)).out
      have HRW : Hid (W1.drew.ownsRow w3.heap.size 9 1 (.slice pa k pc) k (strsC (L.take k))) := Lib.hid (by have h := HJ5.out.row; rw [hlen] at h; exact h.drew)
      have hsz1 : w3.heap.size ≤ W1.drew.heap.size := HJ5.out.bel.size
      have HPU : Hid (∀ (pv' : Value) (W6 : World), W6.ownsRow w3.heap.size 9 1 pv' (k + 1) (strsC (L.take k) ++ [.string p]) → W1.drew.grownBy W6 (Value.slice pa k pc).ownBlock → W6.heap[g]? = some (.cells #[.map (some m1), .map (some m2), .slice fa f.length fc, .slice ta t.length tc, .slice pa k pc] 102 (0, 0)) ∧ UpJ w3 g (.map (some m1)) (.map (some m2)) (.slice fa f.length fc) (.slice ta t.length tc) (L.take (k + 1)) pv' (W6.setCell ⟨g, 4, none⟩ pv')) := Lib.hid (fun pv' W6 h1 h2 => by
        have hj : UpJ w3 g (.map (some m1)) (.map (some m2)) (.slice fa f.length fc) (.slice ta t.length tc) (L.take k) (.slice pa k pc) W1.drew := HJ5.out.below (Below.refl _ _).drew
        refine ⟨hj.keep h2, ?_⟩
        rw [HTK.out]
        exact hj.push (by rw [hlen]; exact h1) h2)
      clear HN5 HJ5 hlen HTK
      go_wp2_with fail
      go_region_law (go_loud (refine step_strW _ _ rfl _ _ (by rfl) w3.heap.size _ _ _ (by rfl) HRW _ (by rfl) (by rfl) (by omega) hsz1 ?_); intro g3 gc3 W6 HO6 HG6; have q6 := (HPU.out _ _ HO6.out HG6.out).1; have r6 := cell_of_row _ _ 4 _ _ _ q6; have f6 := frozen_of_row _ _ 4 _ _ q6; have HP6 := Lib.hid (HPU.out _ _ HO6.out HG6.out).2; clear q6)
      all_goals
        go_wp2_with fail
        refine ⟨Lib.hid ⟨k + 1, _, hlt, by go_num, HP6.out⟩, ?_⟩
        simp [intOf]; omega
end Go.Proofs.YtnjiibiafhnmgaaGreatDoor
