/- Minimal version selection, plain: lists of requirements as one list. The library's SortFunc at requirements, by their paths; the closure of Merge. -/
import Derived.Test.YtenfkejbndifdaaGreatDoorUQ
import Derived.Test.YtenfkejbndifdaaGreatDoorUE
import Derived.Test.YtenfkejbndifdaaGreatDoorUK
import Derived.Test.YtenfkejbndifdaaGreatDoorUC
namespace Go.Proofs.YtenfkejbndifdaaGreatDoor
set_option linter.unusedVariables false
set_option linter.unusedSimpArgs false
open Go

def insM : List ReqL → ReqL → List ReqL
  | [], q => [q]
  | r :: out, q => if ltB r.1 q.1 = true then r :: insM out q else if r.1 = q.1 then (r.1, interS [r.2, q.2]) :: out else q :: r :: out
def mergeL (ls : List (List ReqL)) : List ReqL := ls.flatten.foldl insM []
open Classical in
noncomputable def mergeV (ls : List (List ReqL)) : List ReqL × Int := if ∃ l ∈ ls, ¬ UpR l then ([], 1) else if 16 < (mergeL ls).length then ([], 7) else (mergeL ls, 0)
def incrR (l : List ReqL) : Prop := l.Pairwise fun a b => ltB a.1 b.1 = true
def lookM : List ReqL → ByteArray → Option (List (Int × Int))
  | [], _ => none
  | r :: out, p => if r.1 = p then some r.2 else lookM out p
theorem ltB_ne {a b : ByteArray} (h : ltB a b = true) : a ≠ b := fun e => by rw [e, ltB_irrefl] at h; cases h
theorem lookM_none {out : List ReqL} {p : ByteArray} : lookM out p = none ↔ ∀ q ∈ out, q.1 ≠ p := by
  induction out with
  | nil => simp [lookM]
  | cons r out ih =>
    unfold lookM
    by_cases h : r.1 = p
    · rw [if_pos h]
      exact ⟨(fun h => by cases h), fun g => absurd h (g r (by simp))⟩
    · rw [if_neg h, ih]
      exact ⟨fun g q hq => (List.mem_cons.1 hq).elim (fun e => e ▸ h) (g q), fun g q hq => g q (by simp [hq])⟩
theorem lookM_mem {out : List ReqL} (ho : incrR out) {q : ReqL} : q ∈ out ↔ lookM out q.1 = some q.2 := by
  induction out with
  | nil => simp [lookM]
  | cons r out ih =>
    obtain ⟨h1, h2⟩ := List.pairwise_cons.1 ho
    unfold lookM
    by_cases h : r.1 = q.1
    · rw [if_pos h]
      constructor
      · intro hq
        rcases List.mem_cons.1 hq with rfl | hq
        · rfl
        · exact absurd h (ltB_ne (h1 q hq))
      · intro e
        have : q = r := Prod.ext h.symm (Option.some.inj e).symm
        rw [this]; simp
    · rw [if_neg h, ← ih h2, List.mem_cons]
      exact ⟨fun g => g.resolve_left (fun e => h (by rw [e])), .inr⟩
theorem insM_head {out : List ReqL} {q x : ReqL} (h : x ∈ insM out q) : x.1 = q.1 ∨ x ∈ out := by
  induction out with
  | nil => exact .inl (by rw [List.mem_singleton.1 h])
  | cons r out ih =>
    unfold insM at h
    split at h
    · rcases List.mem_cons.1 h with rfl | h
      · exact .inr (by simp)
      · exact (ih h).imp id fun g => by simp [g]
    · split at h
      · rename_i he
        rcases List.mem_cons.1 h with rfl | h
        · exact .inl he
        · exact .inr (by simp [h])
      · rcases List.mem_cons.1 h with rfl | h
        · exact .inl rfl
        · exact .inr h
theorem insM_incr : ∀ {out : List ReqL} (q : ReqL), incrR out → incrR (insM out q)
  | [], q, _ => List.pairwise_singleton _ _
  | r :: out, q, ho => by
    obtain ⟨h1, h2⟩ := List.pairwise_cons.1 ho
    unfold insM
    split
    · rename_i hlt
      refine List.pairwise_cons.2 ⟨fun x hx => ?_, insM_incr q h2⟩
      rcases insM_head hx with e | hx
      · rw [e]; exact hlt
      · exact h1 x hx
    · rename_i hlt
      split
      · exact List.pairwise_cons.2 ⟨h1, h2⟩
      · rename_i hne
        have hqr : ltB q.1 r.1 = true := by
          cases hb : ltB q.1 r.1 with
          | true => rfl
          | false => exact absurd (ltB_tri (by simpa using hlt) hb) hne
        refine List.pairwise_cons.2 ⟨fun x hx => ?_, ho⟩
        rcases List.mem_cons.1 hx with rfl | hx
        · exact hqr
        · exact ltB_trans hqr (h1 x hx)
theorem insM_look : ∀ {out : List ReqL} (q : ReqL) (p : ByteArray), incrR out → lookM (insM out q) p = if p = q.1 then some (match lookM out q.1 with | some s => interS [s, q.2] | none => q.2) else lookM out p
  | [], q, p, _ => by
    unfold insM lookM
    by_cases h : p = q.1
    · rw [if_pos h, if_pos h.symm]
    · rw [if_neg h, if_neg fun e => h e.symm]
      rfl
  | r :: out, q, p, ho => by
    obtain ⟨h1, h2⟩ := List.pairwise_cons.1 ho
    have ih := insM_look q p h2
    unfold insM
    split
    · rename_i hlt
      have hne := ltB_ne hlt
      rw [show lookM (r :: insM out q) p = if r.1 = p then some r.2 else lookM (insM out q) p from rfl, show lookM (r :: out) q.1 = if r.1 = q.1 then some r.2 else lookM out q.1 from rfl, show lookM (r :: out) p = if r.1 = p then some r.2 else lookM out p from rfl, if_neg hne, ih]
      by_cases hp : r.1 = p
      · rw [if_pos hp, if_pos hp, if_neg fun e => hne (hp.trans e)]
      · rw [if_neg hp, if_neg hp]
    · rename_i hlt
      split
      · rename_i he
        rw [show lookM ((r.1, interS [r.2, q.2]) :: out) p = if r.1 = p then some (interS [r.2, q.2]) else lookM out p from rfl, show lookM (r :: out) q.1 = if r.1 = q.1 then some r.2 else lookM out q.1 from rfl, show lookM (r :: out) p = if r.1 = p then some r.2 else lookM out p from rfl, if_pos he]
        by_cases hp : p = q.1
        · rw [if_pos hp, if_pos (he.trans hp.symm)]
        · rw [if_neg hp, if_neg fun e => hp (e.symm.trans he), if_neg fun e => hp (e.symm.trans he)]
      · rename_i hne
        have hqr : ltB q.1 r.1 = true := by
          cases hb : ltB q.1 r.1 with
          | true => rfl
          | false => exact absurd (ltB_tri (by simpa using hlt) hb) hne
        have hno : lookM (r :: out) q.1 = none := lookM_none.2 fun x hx => by
          rcases List.mem_cons.1 hx with rfl | hx
          · exact hne
          · exact (ltB_ne (ltB_trans hqr (h1 x hx))).symm
        rw [show lookM (q :: r :: out) p = if q.1 = p then some q.2 else lookM (r :: out) p from rfl, hno]
        by_cases hp : p = q.1
        · rw [if_pos hp, if_pos hp.symm]
        · rw [if_neg hp, if_neg fun e => hp e.symm]
def setsAt (l : List ReqL) (p : ByteArray) : List (List (Int × Int)) := (l.filter fun q => decide (q.1 = p)).map (·.2)
def joinI : List (List (Int × Int)) → Option (List (Int × Int))
  | [] => none
  | s :: t => some (t.foldl (fun a b => interS [a, b]) s)
theorem joinI_snoc (l : List (List (Int × Int))) (b : List (Int × Int)) : joinI (l ++ [b]) = some (match joinI l with | some s => interS [s, b] | none => b) := by
  cases l with
  | nil => rfl
  | cons s t =>
    show some ((t ++ [b]).foldl _ s) = _
    rw [List.foldl_append]
    rfl
theorem merge_incr_look : ∀ (l : List ReqL), incrR (l.foldl insM []) ∧ ∀ p, lookM (l.foldl insM []) p = joinI (setsAt l p) := by
  have key : ∀ (l pre : List ReqL), (incrR (pre.foldl insM []) ∧ ∀ p, lookM (pre.foldl insM []) p = joinI (setsAt pre p)) → (incrR ((pre ++ l).foldl insM []) ∧ ∀ p, lookM ((pre ++ l).foldl insM []) p = joinI (setsAt (pre ++ l) p)) := by
    intro l
    induction l with
    | nil => intro pre h; simpa using h
    | cons q l ih =>
      intro pre h
      have := ih (pre ++ [q]) ?_
      · simpa using this
      · rw [List.foldl_append]
        refine ⟨insM_incr q h.1, fun p => ?_⟩
        show lookM (insM (pre.foldl insM []) q) p = _
        rw [insM_look q p h.1]
        unfold setsAt
        rw [List.filter_append, List.map_append]
        by_cases hp : p = q.1
        · subst hp
          rw [if_pos rfl, h.2]
          have : List.map (·.2) (List.filter (fun x : ReqL => decide (x.1 = q.1)) [q]) = [q.2] := by simp
          rw [this, joinI_snoc]
          rfl
        · rw [if_neg hp, h.2]
          have : List.map (·.2) (List.filter (fun x : ReqL => decide (x.1 = p)) [q]) = [] := by simp [Ne.symm hp]
          rw [this, List.append_nil]
          rfl
  intro l
  exact key l [] ⟨List.Pairwise.nil, fun p => rfl⟩
theorem inter_up {a b : Int} (ha : 0 ≤ a ∧ a < 1000000) (hb : 0 ≤ b ∧ b < 1000000) : interS [[(a, 1000000)], [(b, 1000000)]] = [(max a b, 1000000)] := by
  refine can_unique (inter_can _) (can_cons.2 ⟨⟨by simp; omega, by simp; omega, Int.le_refl _⟩, fun y hy => (List.not_mem_nil hy).elim, can_nil⟩) fun p => ?_
  rw [inter_in, inL_one]
  simp only [List.mem_cons, List.not_mem_nil, or_false, forall_eq_or_imp, forall_eq, inL_one]
  omega
structure GoodQ (q : ReqL) : Prop where
  line : (lineV q.1).2.2 = 0
  set : ∃ m, q.2 = [(m, 1000000)] ∧ 0 ≤ m ∧ m < 1000000
theorem UpQ.good {q : ReqL} (h : UpQ q) : GoodQ q := ⟨h.ok.line, _, h.set, h.lo, h.hi⟩
theorem GoodQ.req {q : ReqL} (h : GoodQ q) : ReqOk q ∧ upB (canon q.2) = true := by
  obtain ⟨m, e, h0, h1⟩ := h.set
  refine ⟨⟨h.line, by rw [e]; simp, by rw [e, canon_up h0 h1]⟩, by rw [e]; exact up_up h0 h1⟩
theorem insM_good {out : List ReqL} {q : ReqL} (h : ∀ x ∈ out, GoodQ x) (hq : GoodQ q) : ∀ x ∈ insM out q, GoodQ x := by
  induction out with
  | nil => intro x hx; rw [List.mem_singleton.1 hx]; exact hq
  | cons r out ih =>
    intro x hx
    unfold insM at hx
    split at hx
    · rcases List.mem_cons.1 hx with rfl | hx
      · exact h x (by simp)
      · exact ih (fun y hy => h y (by simp [hy])) x hx
    · split at hx
      · rcases List.mem_cons.1 hx with rfl | hx
        · obtain ⟨l, a, ea, ha⟩ := h r (by simp)
          obtain ⟨_, b, eb, hb⟩ := hq
          exact ⟨l, max a b, by rw [ea, eb]; exact inter_up ha hb, by omega, by omega⟩
        · exact h x (by simp [hx])
      · rcases List.mem_cons.1 hx with rfl | hx
        · exact hq
        · exact h x hx
theorem merge_good {l : List ReqL} (h : ∀ q ∈ l, GoodQ q) : ∀ q ∈ l.foldl insM [], GoodQ q := by
  have key : ∀ (l out : List ReqL), (∀ q ∈ l, GoodQ q) → (∀ q ∈ out, GoodQ q) → ∀ q ∈ l.foldl insM out, GoodQ q := by
    intro l
    induction l with
    | nil => exact fun out _ h => h
    | cons q l ih => exact fun out h1 h2 => ih _ (fun x hx => h1 x (by simp [hx])) (insM_good h2 (h1 q (by simp)))
  exact key l [] h fun q hq => (List.not_mem_nil hq).elim
theorem merge_up {ls : List (List ReqL)} {out : List ReqL} (h : mergeV ls = (out, 0)) : UpR out ∧ (∀ l ∈ ls, UpR l) ∧ out = mergeL ls := by
  unfold mergeV at h
  split at h
  · cases h
  · rename_i h1
    split at h
    · cases h
    · rename_i h2
      injection h with h
      have hu : ∀ l ∈ ls, UpR l := fun l hl => Classical.byContradiction fun e => h1 ⟨l, hl, e⟩
      have hg : ∀ q ∈ ls.flatten, GoodQ q := fun q hq => by
        obtain ⟨l, hl, hq⟩ := List.mem_flatten.1 hq
        exact ((hu l hl).q hq).good
      have g2 := merge_good hg
      subst h
      exact ⟨⟨reqs_check ⟨by omega, fun q hq => (g2 q hq).req.1, (merge_incr_look _).1⟩, fun q hq => (g2 q hq).req.2⟩, hu, rfl⟩
end Go.Proofs.YtenfkejbndifdaaGreatDoor

namespace Go.Proofs.YtenfkejbndifdaaGreatDoor
set_option linter.unusedVariables false
set_option linter.unusedSimpArgs false
open Go Go.RowKit Go.Sort Go.Lib

abbrev RawQ := ByteArray × (Option Addr × Nat × Nat)
def slV (x : Option Addr × Nat × Nat) : Value := .slice x.1 x.2.1 x.2.2
def encQ (x : RawQ) : List Value := [.string x.1, slV x.2]
def rawCells (l : List RawQ) : List Value := l.flatMap encQ
theorem rawCells_len : ∀ l : List RawQ, (rawCells l).length = l.length * 2
  | [] => rfl
  | x :: l => by
    have ih := rawCells_len l
    unfold rawCells at ih ⊢
    rw [List.flatMap_cons, List.length_append, ih, List.length_cons]
    simp [encQ]
    omega
theorem rawCells_get : ∀ {l : List RawQ} {i : Nat} {x : RawQ}, l[i]? = some x → (rawCells l)[i * 2]? = some (.string x.1) ∧ (rawCells l)[i * 2 + 1]? = some (slV x.2)
  | [], i, x, h => by simp at h
  | y :: l, 0, x, h => by
    cases h
    unfold rawCells
    rw [List.flatMap_cons]
    exact ⟨rfl, rfl⟩
  | y :: l, i + 1, x, h => by
    obtain ⟨h1, h2⟩ := rawCells_get (l := l) (i := i) (by simpa using h)
    unfold rawCells at h1 h2 ⊢
    rw [List.flatMap_cons]
    refine ⟨?_, ?_⟩
    · rw [List.getElem?_append_right (by simp [encQ]; omega), show (i + 1) * 2 - (encQ y).length = i * 2 by simp [encQ]; omega, h1]
    · rw [List.getElem?_append_right (by simp [encQ]; omega), show (i + 1) * 2 + 1 - (encQ y).length = i * 2 + 1 by simp [encQ]; omega, h2]
theorem rawCells_snoc (l : List RawQ) (x : RawQ) : rawCells (l ++ [x]) = rawCells l ++ [.string x.1, slV x.2] := by
  unfold rawCells
  rw [List.flatMap_append]
  simp [encQ]
def cfQ (x y : RawQ) : Int := if ltB x.1 y.1 = true then -1 else 1
theorem ltQ (x y : RawQ) : ltOf cfQ x y = ltB x.1 y.1 := by
  unfold ltOf cfQ
  cases ltB x.1 y.1 <;> simp
theorem ltB_irr (a : ByteArray) : ltB a a = false := by
  cases h : ltB a a with
  | false => rfl
  | true => have := ltB_asymm h; rw [h] at this; cases this
theorem swoQ : SWO (ltOf cfQ) where
  irrefl x := by rw [ltQ]; exact ltB_irr _
  trans x y z h1 h2 := by rw [ltQ] at *; exact ltB_trans h1 h2
  ntrans x y z h1 h2 := by
    rw [ltQ] at *
    cases h : ltB x.1 z.1 with
    | false => rfl
    | true =>
      cases h3 : ltB y.1 x.1 with
      | true => have := ltB_trans h3 h; rw [h2] at this; cases this
      | false => rw [ltB_tri h1 h3] at h; rw [h2] at h; cases h

set_option maxHeartbeats 1000000 in
theorem reqCmp_any (x y : RawQ) (W : World) : Calls Tryz.prog 82 #[.agg #[.string x.1, slV x.2], .agg #[.string y.1, slV y.2]] W fun e w' => e = .returned (.int .i64 (cfQ x y)) ∧ ∃ q os', w' = grow (W.drewN q) os' := by
  obtain ⟨x1, xa, xn, xc⟩ := x
  obtain ⟨y1, ya, yn, yc⟩ := y
  unfold cfQ slV
  simp only
  cases h : ltB x1 y1 with
  | true =>
    have h2 : Op.bytesLess x1.toList y1.toList = true := h
    clear h
    go_enter Tryz.func82, Tryz.ntmps82
    go_wp2_with fail
    go_ret
    exact ⟨rfl, 0, _, by rw [alloc_eq_grow, alloc_eq_grow, grow_grow]; rfl⟩
  | false =>
    have h2 : Op.bytesLess x1.toList y1.toList = false := h
    clear h
    go_enter Tryz.func82, Tryz.ntmps82
    go_wp2_with fail
    go_ret
    exact ⟨rfl, 0, _, by rw [alloc_eq_grow, alloc_eq_grow, grow_grow]; rfl⟩
theorem flat_reqs (d : Array RawQ) : flatK encQ 2 d = (rawCells d.toList).toArray := by
  apply Array.ext
  · rw [size_flatK]; simp [rawCells_len]
  · intro t h1 h2
    rw [size_flatK] at h1
    have e : (flatK encQ 2 d)[t] = (flatK encQ 2 d)[t]! := (getElem!_pos _ t (by rw [size_flatK]; exact h1)).symm
    rw [e, get_flatK _ _ _ _ h1, List.getElem_toArray]
    have ht : t / 2 < d.size := by omega
    have hx : d.toList[t / 2]? = some d[t / 2] := by simp [ht]
    obtain ⟨ha, hb⟩ := rawCells_get hx
    rw [getElem!_pos d (t / 2) ht]
    rcases Nat.mod_two_eq_zero_or_one t with hm | hm
    · rw [hm]
      have : t / 2 * 2 = t := by omega
      rw [this] at ha
      exact (List.getElem_eq_iff h2).2 ha |>.symm
    · rw [hm]
      have : t / 2 * 2 + 1 = t := by omega
      rw [this] at hb
      exact (List.getElem_eq_iff h2).2 hb |>.symm
set_option maxRecDepth 100000 in
set_option maxHeartbeats 2000000 in
theorem sortFunc_reqs (blk cap : Nat) (d : Array RawQ) (w : World) (hH : HoldsK encQ 2 w blk 0 d) (hblk : blk < w.heap.size) (hsz : d.size < 4611686018427387904) :
    Calls Tryz.prog 81 #[.slice (some ⟨blk, 0, none⟩) d.size cap, .func (.func 82) #[] #[]] w fun e w' =>
      e = .returned (.tuple #[]) ∧ ∃ d' n os, PermIn 0 d.size d d' ∧ SortedIn (ltOf cfQ) 0 d.size d' ∧ w' = sortWorldK encQ 2 w blk 0 n d' os := by
  have eg : ∀ args w, (callFunc 82 args).run Tryz.prog w = .ok (.enter 82 args) w := enters_of Tryz.func82 (by kernel_rfl) rfl
  have hcmp : CmpLays Tryz.prog 82 #[] encQ 2 cfQ blk 0 d.size w := fun _ _ _ _ x y => reqCmp_any x y _
  have hk : ∀ x : RawQ, (encQ x).length = 2 := fun _ => rfl
  have h1 : ∀ x : RawQ, ∀ v ∈ encQ x, v.oneCell' = true := fun x v hv => by
    unfold encQ slV at hv
    rcases List.mem_cons.1 hv with rfl | hv
    · rfl
    · rcases List.mem_cons.1 hv with rfl | hv
      · rfl
      · cases hv
  have hlim : Lib.bitLen d.size < 4611686018427387904 := Nat.lt_of_le_of_lt (Lib.bitLen_le d.size 62 (by omega) (by omega)) (by omega)
  have hp := AnyQ.pdqsortCmpFunc_all (P := Tryz.prog) (ρ := Tryz.pdqReq_ren) Tryz.pdqReq 2 Tryz.isAgg58 Tryz.sizeOf58 encQ cfQ 82 #[] swoQ blk 0 cap d w eg hcmp ⟨hk, h1, hH, hblk⟩ (d.size + 1) 0 d.size (Lib.bitLen d.size) d w (by omega) rfl (SWK.start hH) (Nat.zero_le _) (Nat.le_refl _) hsz hlim (Or.inl rfl)
  change Calls Tryz.prog 128 _ _ _ at hp
  have hl : Calls Tryz.prog 129 #[.int .u64 (d.size : Int)] w fun e w' => e = .returned (.int .i64 (Lib.bitLen d.size : Nat)) ∧ w' = w := by
    have h := Tryz.bits_Len (d.size : Int) w (by omega) (by omega)
    rwa [Int.toNat_natCast] at h
  have wr : IntKind.u64.wrap (d.size : Int) = d.size := by simp [IntKind.wrap, IntKind.bits, IntKind.signed]; omega
  have HP := Lib.hid hp
  have HL := Lib.hid hl
  clear hH hcmp hk h1 hp hl eg
  go_enter Tryz.func81, Tryz.ntmps81
  go_wp2_with fail
  refine HL.out.mono ?_
  rintro e w' ⟨rfl, rfl⟩
  go_wp2_with fail
  refine HP.out.mono ?_
  rintro e w' ⟨rfl, n, os, rfl⟩
  go_wp2_with fail
  go_end0
  have h := pdq_sorts (ltOf cfQ) swoQ d 0 d.size (Lib.bitLen d.size) true true (Nat.zero_le _) (Nat.le_refl _) (Or.inl rfl)
  exact ⟨rfl, _, n, os, h.1, h.2, rfl⟩
set_option maxHeartbeats 1000000 in
theorem insReq_none (p : Option Addr) (cap : Nat) (fv : Value) (w : World) :
    Calls Tryz.prog 153 #[.slice p 0 cap, .int .i64 0, .int .i64 0, fv] w fun e w' => e = .returned (.tuple #[]) ∧ w' = w := by
  go_enter Tryz.func153, Tryz.ntmps153
  go_wp2_with fail
  go_loopw [8] (fun i wr => i = .int .i64 1 ∧ wr = w) (fun _ _ => 0)
  case atStart => exact ⟨rfl, rfl⟩
  case round =>
    obtain ⟨rfl, rfl⟩ := hrel
    go_wp2_with fail
    go_end0
    exact ⟨rfl, rfl⟩
set_option maxHeartbeats 1000000 in
theorem pdqReq_none (p : Option Addr) (cap : Nat) (lim : Int) (fv : Value) (w : World) :
    Calls Tryz.prog 128 #[.slice p 0 cap, .int .i64 0, .int .i64 0, .int .i64 lim, fv] w fun e w' => e = .returned (.tuple #[]) ∧ w' = w := by
  have HI := Lib.hid (insReq_none p cap fv w)
  go_enter Tryz.func128, Tryz.ntmps128
  go_wp2_with fail
  go_loopw [1, 2, 3, 10, 11] (fun x y l b1 b2 wr => x = .int .i64 0 ∧ y = .int .i64 0 ∧ l = .int .i64 lim ∧ b1 = .bool true ∧ b2 = .bool true ∧ wr = w) (fun _ _ _ _ _ _ => 0)
  case atStart => exact ⟨rfl, rfl, rfl, rfl, rfl, rfl⟩
  case round =>
    obtain ⟨rfl, rfl, rfl, rfl, rfl, rfl⟩ := hrel
    go_wp2_with fail
    refine HI.out.mono ?_
    rintro e w' ⟨rfl, rfl⟩
    go_wp2_with fail
    refine bodyPost_ret (results_none rfl _ _ _) rfl ?_
    exact ⟨rfl, rfl⟩
theorem sort_reqs (B : Nat) (v : Value) (l : List RawQ) (w : World) (h : w.ownsRow B 58 2 v l.length (rawCells l)) (hl : l.length ≤ 1000000000) :
    Calls Tryz.prog 81 #[v, .func (.func 82) #[] #[]] w fun e w' => e = .returned (.tuple #[]) ∧
      ∃ l' : List RawQ, l'.Perm l ∧ l'.Pairwise (fun a b => ltB b.1 a.1 = false) ∧ w.grownBy w' v.ownBlock ∧ w'.ownsRow B 58 2 v l.length (rawCells l') := by
  rcases h.2 with ⟨rfl, h0⟩ | ⟨g, cap, cur, rfl, hbg, hg, hc, hcm, hcs, ht⟩
  · obtain rfl : l = [] := List.length_eq_zero_iff.1 h0
    have hl : Calls Tryz.prog 129 #[.int .u64 0] w fun e w' => e = .returned (.int .i64 ((Lib.bitLen 0 : Nat) : Int)) ∧ w' = w := Tryz.bits_Len 0 w (by omega) (by omega)
    have hp := pdqReq_none none 0 ((Lib.bitLen 0 : Nat) : Int) (.func (.func 82) #[] #[]) w
    have HL := Lib.hid hl
    have HP := Lib.hid hp
    clear hl hp h0
    go_enter Tryz.func81, Tryz.ntmps81
    go_wp2_with fail
    refine HL.out.mono ?_
    rintro e w' ⟨rfl, rfl⟩
    go_wp2_with fail
    refine HP.out.mono ?_
    rintro e w' ⟨rfl, rfl⟩
    go_wp2_with fail
    go_end0
    exact ⟨rfl, [], List.Perm.refl _, List.Pairwise.nil, World.grownBy.refl _ _, World.ownsRow_nil _ _ _ _⟩
  · have hfl : flatK encQ 2 l.toArray = (rawCells l).toArray := by rw [flat_reqs]
    have hsz : l.toArray.size = l.length := by simp
    have hH : HoldsK encQ 2 w g 0 l.toArray := by
      unfold HoldsK
      rw [hfl]
      exact holds_of_blockV hg (by rw [rawCells_len]; exact ht)
    have hcon := sortFunc_reqs g cap l.toArray w hH (Array.getElem?_eq_some_iff.1 hg).1 (by rw [hsz]; omega)
    rw [hsz] at hcon
    refine hcon.mono ?_
    rintro e w' ⟨rfl, d', n, os, hp, hs, rfl⟩
    obtain ⟨hps, _, hperm⟩ := hp
    rw [hsz] at hps
    have hpl : d'.toList.Perm l := by
      have e1 : (d'.extract 0 l.length) = d' := by rw [← hps]; exact Array.extract_size
      have e2 : (l.toArray.extract 0 l.length) = l.toArray := by rw [← hsz]; exact Array.extract_size
      rw [e1, e2, List.toList_toArray] at hperm
      exact hperm
    refine ⟨rfl, d'.toList, hpl, ?_, grownBy_putV _, ?_⟩
    · rw [List.pairwise_iff_getElem]
      intro i j hi hj hij
      rw [Array.length_toList] at hi hj
      have := hs i j (Nat.zero_le _) hij (by omega)
      rw [ltQ, getElem!_pos d' i hi, getElem!_pos d' j hj] at this
      simpa using this
    · unfold sortWorldK putRowK
      rw [flat_reqs]
      have hel : (rawCells d'.toList).length = l.length * 2 := by rw [rawCells_len, Array.length_toList, hps]
      exact ⟨hel, .inr ⟨g, cap, _, rfl, hbg, heap_putV _ hg, hc, hcm, by simp [putCells, hcs], by rw [← hel]; exact take_putV _ _ (by rw [hel]; omega)⟩⟩
end Go.Proofs.YtenfkejbndifdaaGreatDoor

namespace Go.Proofs.YtenfkejbndifdaaGreatDoor
set_option linter.unusedVariables false
set_option linter.unusedSimpArgs false
open Go Go.RowKit
theorem SpansOf.on {w w' : World} {v : Value} {es : List (Int × Int)} (h : SpansOf w.heap.size v es w) (hb : Below w.heap.size w w') : SpansOf w'.heap.size v es w' := (h.below hb (Nat.le_refl _)).mono hb.size
end Go.Proofs.YtenfkejbndifdaaGreatDoor
