/- The text of a set, plain; it is read as this set. -/
import Derived.Test.YtdhihdiifgcfdaaGreatDoorCPlainBack
import Derived.Test.YtdhihdiifgcfdaaGreatDoorCPlainSets
namespace Go.Proofs.YtdhihdiifgcfdaaGreatDoor
set_option linter.unusedVariables false
set_option linter.unusedSimpArgs false
open Go

/-- the text of a place. -/
def textV (m p : Int) : List UInt8 := (formatV (atV m p).1.1 (atV m p).1.2.1 (atV m p).1.2.2).1
def textB (m p : Int) : ByteArray := ⟨(textV m p).toArray⟩
/-- the text of a span. -/
def spanB (m : Int) (x : Int × Int) : ByteArray :=
  if x = (0, 1000000) then ⟨#[42]⟩ else if x.2 = x.1 + 1 then textB m x.1 else if x.2 = 1000000 then textB m x.1 ++ ⟨#[46, 46]⟩
  else if x.1 = 0 then ⟨#[46, 46]⟩ ++ textB m x.2 else textB m x.1 ++ ⟨#[46, 46]⟩ ++ textB m x.2
def spanT (m : Int) (x : Int × Int) : List UInt8 := (spanB m x).data.toList
/-- the text of a set, and the error. -/
def formatC (m : Int) (s : List (Int × Int)) : List UInt8 × Int :=
  if ¬ (0 ≤ m ∧ m ≤ 999) then ([], 2) else if canon s = [] then ([110, 111, 110, 101], 0) else (Lib.join ((canon s).map (spanT m)) [32, 124, 32], 0)
theorem format_len (a b c : Int) : (formatV a b c).1.length ≤ 11 := by
  unfold formatV
  split
  · rename_i h
    obtain ⟨⟨a0, a1⟩, ⟨b0, b1⟩, c0, c1⟩ := valid_le h
    have h1 := decL_len a a1
    have h2 := decL_len b b1
    have h3 := decL_len c c1
    unfold fmtL
    simp only [List.length_append, List.length_cons]
    omega
  · simp
theorem textB_size (m p : Int) : (textB m p).size ≤ 11 := by
  rw [Lib.size_eq]
  unfold textB textV
  simpa using format_len _ _ _
theorem size_app2 (a b : ByteArray) : (a ++ b).size = a.size + b.size := by
  rw [Lib.size_eq, Lib.size_eq a, Lib.size_eq b, ByteArray.data_append]
  simp
theorem spanB_size (m : Int) (x : Int × Int) : (spanB m x).size ≤ 24 := by
  have h1 := textB_size m x.1
  have h2 := textB_size m x.2
  have h3 : (⟨#[46, 46]⟩ : ByteArray).size = 2 := rfl
  have h4 : (⟨#[42]⟩ : ByteArray).size = 1 := rfl
  unfold spanB
  split
  · omega
  · split
    · omega
    · split
      · rw [size_app2]; omega
      · split
        · rw [size_app2]; omega
        · rw [size_app2, size_app2]; omega
theorem jtext_len (sep : List UInt8) (C : Nat) : ∀ (l : List (List UInt8)), (∀ x ∈ l, x.length ≤ C) → (Lib.join l sep).length ≤ l.length * (C + sep.length)
  | [], _ => by simp [Lib.join]
  | x :: l, h => by
    rw [Lib.join_cons]
    have hx := h x List.mem_cons_self
    have : ∀ (l : List (List UInt8)), (∀ x ∈ l, x.length ≤ C) → (Lib.joinTail sep l).length ≤ l.length * (C + sep.length) := fun l => by
      induction l with
      | nil => intro _; simp [Lib.joinTail]
      | cons y l ih =>
        intro h2
        have hy := h2 y List.mem_cons_self
        have := ih fun z hz => h2 z (List.mem_cons_of_mem _ hz)
        simp only [Lib.joinTail, List.map_cons, List.flatten_cons, List.length_append, List.length_cons, Nat.add_mul] at *
        omega
    have := this l fun z hz => h z (List.mem_cons_of_mem _ hz)
    simp only [List.length_append, List.length_cons, Nat.add_mul] at *
    omega
theorem spanB_cases (m : Int) (x : Int × Int) : (x = (0, 1000000) ∧ spanB m x = ⟨#[42]⟩) ∨ (x ≠ (0, 1000000) ∧ x.2 = x.1 + 1 ∧ spanB m x = textB m x.1) ∨ (x ≠ (0, 1000000) ∧ x.2 ≠ x.1 + 1 ∧ x.2 = 1000000 ∧ spanB m x = textB m x.1 ++ ⟨#[46, 46]⟩) ∨
    (x ≠ (0, 1000000) ∧ x.2 ≠ x.1 + 1 ∧ x.2 ≠ 1000000 ∧ x.1 = 0 ∧ spanB m x = ⟨#[46, 46]⟩ ++ textB m x.2) ∨ (x ≠ (0, 1000000) ∧ x.2 ≠ x.1 + 1 ∧ x.2 ≠ 1000000 ∧ x.1 ≠ 0 ∧ spanB m x = textB m x.1 ++ ⟨#[46, 46]⟩ ++ textB m x.2) := by
  unfold spanB
  by_cases h1 : x = (0, 1000000)
  · exact .inl ⟨h1, if_pos h1⟩
  · by_cases h2 : x.2 = x.1 + 1
    · exact .inr (.inl ⟨h1, h2, by rw [if_neg h1, if_pos h2]⟩)
    · by_cases h3 : x.2 = 1000000
      · exact .inr (.inr (.inl ⟨h1, h2, h3, by rw [if_neg h1, if_neg h2, if_pos h3]⟩))
      · by_cases h4 : x.1 = 0
        · exact .inr (.inr (.inr (.inl ⟨h1, h2, h3, h4, by rw [if_neg h1, if_neg h2, if_neg h3, if_pos h4]⟩)))
        · exact .inr (.inr (.inr (.inr ⟨h1, h2, h3, h4, by rw [if_neg h1, if_neg h2, if_neg h3, if_neg h4]⟩)))

theorem at_valid {m p : Int} (hm : 0 ≤ m ∧ m ≤ 999) (h0 : 0 ≤ p) (h1 : p < 1000000) : validB m (p / 1000) (p % 1000) = true := by
  rw [valid_at h0 h1]; unfold partB; simp; omega
theorem textV_eq {m p : Int} (hm : 0 ≤ m ∧ m ≤ 999) (h0 : 0 ≤ p) (h1 : p < 1000000) : textV m p = fmtL m (p / 1000) (p % 1000) := by
  unfold textV atV
  rw [if_pos ⟨by unfold partB; simp; omega, h0, h1⟩]
  unfold formatV
  rw [if_pos (at_valid hm h0 h1)]
theorem textB_mk (m p : Int) : (textB m p).data.toList = textV m p := by unfold textB; simp
theorem alt_star (m : Int) : altV m [42] = ((0, 1000000), 0) := by unfold altV; rw [if_neg (by decide), if_pos rfl]
theorem alt_none (m : Int) : altV m [110, 111, 110, 101] = ((0, 0), 0) := by unfold altV; rw [if_pos rfl]
theorem canon_zero : canon [(0, 0)] = [] := (can_nil_iff (canon_can _)).2 fun p hp => by
  rw [canon_in, inL_one] at hp
  simp only at hp
  omega
/-- the text of a span is an alternative that gives this span. -/
theorem spanT_facts {m : Int} (hm : 0 ≤ m ∧ m ≤ 999) (x : Int × Int) (h0 : 0 ≤ x.1) (h1 : x.1 < x.2) (h2 : x.2 ≤ 1000000) : altV m (spanT m x) = (x, 0) ∧ PieceOk (spanT m x) ∧ spanT m x ≠ [] := by
  have vx := at_valid (p := x.1) hm h0 (by omega)
  have ex := textV_eq (p := x.1) hm h0 (by omega)
  have pc : ∀ l : List UInt8, (∀ b ∈ l, dgB b = true ∨ b = 46) → PieceOk l := fun l h => by
    have key : ∀ b ∈ l, b ≠ 124 ∧ b ≠ 32 := fun b hb => by
      rcases h b hb with h | rfl
      · exact ⟨(dg_ne h).2.1, (dg_ne h).2.2.1⟩
      · decide
    refine ⟨fun b hb => (key b hb).1, fun e => (key 32 (List.mem_of_mem_head? (by rw [e]; rfl))).2 rfl, fun e => (key 32 (List.mem_of_getLast? e)).2 rfl⟩
  unfold spanT
  obtain ⟨x1, x2⟩ := x
  simp only at h0 h1 h2 vx ex
  have dot2 : (⟨#[46, 46]⟩ : ByteArray).data.toList = [46, 46] := rfl
  rcases spanB_cases m (x1, x2) with ⟨h3, hs⟩ | ⟨h3, h4, hs⟩ | ⟨h3, h4, h5, hs⟩ | ⟨h3, h4, h5, h6, hs⟩ | ⟨h3, h4, h5, h6, hs⟩
  · rw [hs, h3]
    refine ⟨alt_star m, ?_, by decide⟩
    exact ⟨by decide, by decide, by decide⟩
  · simp only at h4
    rw [hs, textB_mk, ex]
    refine ⟨?_, pc _ (fmt_mem vx), fmt_ne vx⟩
    rw [alt_one vx, h4, show 1000 * (x1 / 1000) + x1 % 1000 = x1 by omega]
  · simp only at h5
    rw [hs, ByteArray.data_append, Array.toList_append, dot2, textB_mk, ex]
    refine ⟨?_, pc _ (fun b hb => ?_), by simp⟩
    · rw [alt_from vx, h5, show 1000 * (x1 / 1000) + x1 % 1000 = x1 by omega]
    · rcases List.mem_append.1 hb with hb | hb
      · exact fmt_mem vx b hb
      · simp at hb; exact .inr hb
  · simp only at h5 h6
    have vy := at_valid (p := x2) hm (by omega) (by omega)
    have ey := textV_eq (p := x2) hm (by omega) (by omega)
    rw [hs, ByteArray.data_append, Array.toList_append, dot2, textB_mk, ey]
    refine ⟨?_, pc _ (fun b hb => ?_), by simp⟩
    · rw [alt_to vy (by omega), h6, show 1000 * (x2 / 1000) + x2 % 1000 = x2 by omega]
    · rcases List.mem_append.1 hb with hb | hb
      · simp at hb; exact .inr hb
      · exact fmt_mem vy b hb
  · simp only at h5 h6
    have vy := at_valid (p := x2) hm (by omega) (by omega)
    have ey := textV_eq (p := x2) hm (by omega) (by omega)
    rw [hs, ByteArray.data_append, Array.toList_append, ByteArray.data_append, Array.toList_append, dot2, textB_mk, textB_mk, ex, ey]
    refine ⟨?_, pc _ (fun b hb => ?_), by simp⟩
    · rw [alt_both vx vy (by omega), show 1000 * (x1 / 1000) + x1 % 1000 = x1 by omega, show 1000 * (x2 / 1000) + x2 % 1000 = x2 by omega]
    · rcases List.mem_append.1 hb with hb | hb
      · rcases List.mem_append.1 hb with hb | hb
        · exact fmt_mem vx b hb
        · simp at hb; exact .inr hb
      · exact fmt_mem vy b hb
theorem parseC_of {m : Int} {l : List UInt8} (hm : 0 ≤ m ∧ m ≤ 999) (h1 : l.length ≤ 65536) (h2 : (altsL l).length ≤ 1024) (h3 : ∀ a ∈ altsL l, (altV m a).2 = 0) : parseC m l = (canon ((altsL l).map fun a => (altV m a).1), 0) := by
  have hc : (altsL l).length = l.count 124 + 1 := by unfold altsL; rw [List.length_map, bars_count]
  unfold parseC
  rw [if_neg (by omega), if_neg (by omega), errL_none h3, if_neg (by decide)]
/-- the text of a set is read as its canonical form. -/
theorem parse_formatC {m : Int} (hm : 0 ≤ m ∧ m ≤ 999) (s : List (Int × Int)) (hs : s.length ≤ 1000) : (formatC m s).2 = 0 ∧ parseC m (formatC m s).1 = (canon s, 0) := by
  have hcl := canon_len s
  have hcm := (canon_can s).2
  have hcc := canon_of_can (canon_can s)
  unfold formatC
  rw [if_neg (by omega)]
  by_cases h0 : canon s = []
  · rw [if_pos h0, h0]
    refine ⟨rfl, ?_⟩
    have e : altsL [110, 111, 110, 101] = [[110, 111, 110, 101]] := by decide
    show parseC m [110, 111, 110, 101] = ([], 0)
    rw [parseC_of hm (by decide) (by decide) (fun a ha => by rw [e] at ha; rcases List.mem_singleton.1 ha with rfl; rw [alt_none]), e]
    simp only [List.map_cons, List.map_nil, alt_none, canon_zero]
  · rw [if_neg h0]
    refine ⟨rfl, ?_⟩
    generalize canon s = c at *
    show parseC m (Lib.join (c.map (spanT m)) [32, 124, 32]) = (c, 0)
    have ha : altsL (Lib.join (c.map (spanT m)) [32, 124, 32]) = c.map (spanT m) := by
      refine alts_join _ (by simpa using h0) fun x hx => ?_
      obtain ⟨y, hy, rfl⟩ := List.mem_map.1 hx
      have := hcm y hy
      exact (spanT_facts hm y this.1 this.2.1 this.2.2).2.1
    have hl : (Lib.join (c.map (spanT m)) [32, 124, 32]).length ≤ (c.map (spanT m)).length * (24 + 3) := jtext_len [32, 124, 32] 24 _ fun x hx => by
      obtain ⟨y, hy, rfl⟩ := List.mem_map.1 hx
      have := spanB_size m y
      unfold spanT
      rw [← Lib.size_eq]
      exact this
    rw [List.length_map] at hl
    rw [parseC_of hm (by omega) (by rw [ha, List.length_map]; omega) (fun a ha2 => ?_)]
    · rw [ha, List.map_map]
      have : c.map ((fun a => (altV m a).1) ∘ spanT m) = c := by
        have e : ∀ y ∈ c, ((fun a => (altV m a).1) ∘ spanT m) y = id y := fun y hy => by
          have := hcm y hy
          show (altV m (spanT m y)).1 = y
          rw [(spanT_facts hm y this.1 this.2.1 this.2.2).1]
        rw [List.map_congr_left e, List.map_id]
      rw [this, hcc]
    · rw [ha] at ha2
      obtain ⟨y, hy, rfl⟩ := List.mem_map.1 ha2
      have := hcm y hy
      rw [(spanT_facts hm y this.1 this.2.1 this.2.2).1]
/-- the canonical form has the same text. -/
theorem format_canon (m : Int) (s : List (Int × Int)) : formatC m (canon s) = formatC m s := by
  unfold formatC
  rw [canon_of_can (canon_can s)]
/-- what a version's text means, alone, with ^, with ~. -/
theorem parse_alone {m : Int} {l : List UInt8} {x : Int × Int} (hm : 0 ≤ m ∧ m ≤ 999) (h1 : l.length ≤ 1000) (h2 : PieceOk l) (h3 : altV m l = (x, 0)) : parseC m l = (canon [x], 0) := by
  have e : altsL l = [l] := by rw [alts_one l h2.1, h2.trim]
  rw [parseC_of hm (by omega) (by rw [e]; simp) (fun a ha => by rw [e] at ha; rcases List.mem_singleton.1 ha with rfl; rw [h3]), e]
  simp only [List.map_cons, List.map_nil, h3]
theorem piece_of (l : List UInt8) (h : ∀ b ∈ l, dgB b = true ∨ b = 46 ∨ b = 94 ∨ b = 126) : PieceOk l := by
  have key : ∀ b ∈ l, b ≠ 124 ∧ b ≠ 32 := fun b hb => by
    rcases h b hb with h | rfl | rfl | rfl
    · exact ⟨(dg_ne h).2.1, (dg_ne h).2.2.1⟩
    · decide
    · decide
    · decide
  exact ⟨fun b hb => (key b hb).1, fun e => (key 32 (List.mem_of_mem_head? (by rw [e]; rfl))).2 rfl, fun e => (key 32 (List.mem_of_getLast? e)).2 rfl⟩
theorem canon_one {x : Int × Int} (h0 : 0 ≤ x.1) (h1 : x.1 < x.2) (h2 : x.2 ≤ 1000000) : canon [x] = [x] := canon_of_can (can_cons.2 ⟨⟨h0, h1, h2⟩, fun y hy => (List.not_mem_nil hy).elim, can_nil⟩)
theorem parse_vers {a b c : Int} (h : validB a b c = true) :
    parseC a (fmtL a b c) = ([(1000 * b + c, 1000 * b + c + 1)], 0) ∧ parseC a (94 :: fmtL a b c) = (canon [(1000 * b + c, 1000000)], 0) ∧ parseC a (126 :: fmtL a b c) = (minusS (canon [(1000 * b + c, 1000000)]) [(1000 * b + 1000, 1000000)], 0) := by
  obtain ⟨⟨a0, a1⟩, ⟨b0, b1⟩, c0, c1⟩ := valid_le h
  have hl := fmt_len h
  have hm := fmt_mem h
  refine ⟨?_, ?_, ?_⟩
  · rw [parse_alone ⟨a0, a1⟩ (by omega) (piece_of _ fun x hx => (hm x hx).elim .inl (fun e => .inr (.inl e))) (alt_one h), canon_one (by simp only; omega) (by simp only; omega) (by simp only; omega)]
  · exact parse_alone ⟨a0, a1⟩ (by simp only [List.length_cons]; omega) (piece_of _ fun x hx => by
      rcases List.mem_cons.1 hx with rfl | hx
      · exact .inr (.inr (.inl rfl))
      · exact (hm x hx).elim .inl (fun e => .inr (.inl e))) (alt_hat h)
  · rw [parse_alone ⟨a0, a1⟩ (by simp only [List.length_cons]; omega) (piece_of _ fun x hx => by
      rcases List.mem_cons.1 hx with rfl | hx
      · exact .inr (.inr (.inr rfl))
      · exact (hm x hx).elim .inl (fun e => .inr (.inl e))) (alt_tilde h)]
    congr 1
    refine can_unique (canon_can _) (minus_can _ _) fun p => ?_
    rw [canon_in, minus_in, canon_in, inL_one, inL_one, inL_one]
    simp only
    constructor
    · rintro ⟨⟨h1, h2⟩, h3⟩
      exact ⟨⟨⟨⟨h1, by omega⟩, h3⟩, by omega⟩, h3⟩
    · rintro ⟨⟨⟨⟨h1, _⟩, h3⟩, h4⟩, _⟩
      exact ⟨⟨h1, by omega⟩, h3⟩
end Go.Proofs.YtdhihdiifgcfdaaGreatDoor
