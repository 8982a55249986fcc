/- The library's SortFunc at requirements, by their paths; the closure of Merge. What Merge keeps between its rounds: the sets of the paths in a map; what was collected out of it. -/
import Derived.Test.YtenfkejbndifdaaGreatDoorUF
import Derived.Test.YtenfkejbndifdaaGreatDoorVL
import Derived.Test.YtenfkejbndifdaaGreatDoorUN
import Derived.Test.YtenfkejbndifdaaGreatDoorVA
import Derived.Test.YtenfkejbndifdaaGreatDoorVI
import Derived.Test.YtenfkejbndifdaaGreatDoorVJ
namespace Go.Proofs.YtenfkejbndifdaaGreatDoor
set_option linter.unusedVariables false
set_option linter.unusedSimpArgs false
open Go Go.RowKit Go.Sort Go.Lib

abbrev RawQ := ByteArray × (Option Addr × Nat × Nat)
def slV (x : Option Addr × Nat × Nat) : Value := .slice x.1 x.2.1 x.2.2
def encQ (x : RawQ) : List Value := [.string x.1, slV x.2]
def rawCells (l : List RawQ) : List Value := l.flatMap encQ
theorem rawCells_len : ∀ l : List RawQ, (rawCells l).length = l.length * 2
  | [] => rfl
  | x :: l => by
    have ih := rawCells_len l
    unfold rawCells at ih ⊢
    rw [List.flatMap_cons, List.length_append, ih, List.length_cons]
    simp [encQ]
    omega
theorem rawCells_get : ∀ {l : List RawQ} {i : Nat} {x : RawQ}, l[i]? = some x → (rawCells l)[i * 2]? = some (.string x.1) ∧ (rawCells l)[i * 2 + 1]? = some (slV x.2)
  | [], i, x, h => by simp at h
  | y :: l, 0, x, h => by
    cases h
    unfold rawCells
    rw [List.flatMap_cons]
    exact ⟨rfl, rfl⟩
  | y :: l, i + 1, x, h => by
    obtain ⟨h1, h2⟩ := rawCells_get (l := l) (i := i) (by simpa using h)
    unfold rawCells at h1 h2 ⊢
    rw [List.flatMap_cons]
    refine ⟨?_, ?_⟩
    · rw [List.getElem?_append_right (by simp [encQ]; omega), show (i + 1) * 2 - (encQ y).length = i * 2 by simp [encQ]; omega, h1]
    · rw [List.getElem?_append_right (by simp [encQ]; omega), show (i + 1) * 2 + 1 - (encQ y).length = i * 2 + 1 by simp [encQ]; omega, h2]
theorem rawCells_snoc (l : List RawQ) (x : RawQ) : rawCells (l ++ [x]) = rawCells l ++ [.string x.1, slV x.2] := by
  unfold rawCells
  rw [List.flatMap_append]
  simp [encQ]
def cfQ (x y : RawQ) : Int := if ltB x.1 y.1 = true then -1 else 1
theorem ltQ (x y : RawQ) : ltOf cfQ x y = ltB x.1 y.1 := by
  unfold ltOf cfQ
  cases ltB x.1 y.1 <;> simp
theorem ltB_irr (a : ByteArray) : ltB a a = false := by
  cases h : ltB a a with
  | false => rfl
  | true => have := ltB_asymm h; rw [h] at this; cases this
theorem swoQ : SWO (ltOf cfQ) where
  irrefl x := by rw [ltQ]; exact ltB_irr _
  trans x y z h1 h2 := by rw [ltQ] at *; exact ltB_trans h1 h2
  ntrans x y z h1 h2 := by
    rw [ltQ] at *
    cases h : ltB x.1 z.1 with
    | false => rfl
    | true =>
      cases h3 : ltB y.1 x.1 with
      | true => have := ltB_trans h3 h; rw [h2] at this; cases this
      | false => rw [ltB_tri h1 h3] at h; rw [h2] at h; cases h

set_option maxHeartbeats 1000000 in
theorem reqCmp_any (x y : RawQ) (W : World) : Calls Tryz.prog 82 #[.agg #[.string x.1, slV x.2], .agg #[.string y.1, slV y.2]] W fun e w' => e = .returned (.int .i64 (cfQ x y)) ∧ ∃ q os', w' = grow (W.drewN q) os' := by
  obtain ⟨x1, xa, xn, xc⟩ := x
  obtain ⟨y1, ya, yn, yc⟩ := y
  unfold cfQ slV
  simp only
  cases h : ltB x1 y1 with
  | true =>
    have h2 : Op.bytesLess x1.toList y1.toList = true := h
    clear h
    go_enter Tryz.func82, Tryz.ntmps82
    go_wp2_with fail
    go_ret
    exact ⟨rfl, 0, _, by rw [alloc_eq_grow, alloc_eq_grow, grow_grow]; rfl⟩
  | false =>
    have h2 : Op.bytesLess x1.toList y1.toList = false := h
    clear h
    go_enter Tryz.func82, Tryz.ntmps82
    go_wp2_with fail
    go_ret
    exact ⟨rfl, 0, _, by rw [alloc_eq_grow, alloc_eq_grow, grow_grow]; rfl⟩
theorem flat_reqs (d : Array RawQ) : flatK encQ 2 d = (rawCells d.toList).toArray := by
  apply Array.ext
  · rw [size_flatK]; simp [rawCells_len]
  · intro t h1 h2
    rw [size_flatK] at h1
    have e : (flatK encQ 2 d)[t] = (flatK encQ 2 d)[t]! := (getElem!_pos _ t (by rw [size_flatK]; exact h1)).symm
    rw [e, get_flatK _ _ _ _ h1, List.getElem_toArray]
    have ht : t / 2 < d.size := by omega
    have hx : d.toList[t / 2]? = some d[t / 2] := by simp [ht]
    obtain ⟨ha, hb⟩ := rawCells_get hx
    rw [getElem!_pos d (t / 2) ht]
    rcases Nat.mod_two_eq_zero_or_one t with hm | hm
    · rw [hm]
      have : t / 2 * 2 = t := by omega
      rw [this] at ha
      exact (List.getElem_eq_iff h2).2 ha |>.symm
    · rw [hm]
      have : t / 2 * 2 + 1 = t := by omega
      rw [this] at hb
      exact (List.getElem_eq_iff h2).2 hb |>.symm
set_option maxRecDepth 100000 in
set_option maxHeartbeats 2000000 in
theorem sortFunc_reqs (blk cap : Nat) (d : Array RawQ) (w : World) (hH : HoldsK encQ 2 w blk 0 d) (hblk : blk < w.heap.size) (hsz : d.size < 4611686018427387904) :
    Calls Tryz.prog 81 #[.slice (some ⟨blk, 0, none⟩) d.size cap, .func (.func 82) #[] #[]] w fun e w' =>
      e = .returned (.tuple #[]) ∧ ∃ d' n os, PermIn 0 d.size d d' ∧ SortedIn (ltOf cfQ) 0 d.size d' ∧ w' = sortWorldK encQ 2 w blk 0 n d' os := by
  have eg : ∀ args w, (callFunc 82 args).run Tryz.prog w = .ok (.enter 82 args) w := enters_of Tryz.func82 (by kernel_rfl) rfl
  have hcmp : CmpLays Tryz.prog 82 #[] encQ 2 cfQ blk 0 d.size w := fun _ _ _ _ x y => reqCmp_any x y _
  have hk : ∀ x : RawQ, (encQ x).length = 2 := fun _ => rfl
  have h1 : ∀ x : RawQ, ∀ v ∈ encQ x, v.oneCell' = true := fun x v hv => by
    unfold encQ slV at hv
    rcases List.mem_cons.1 hv with rfl | hv
    · rfl
    · rcases List.mem_cons.1 hv with rfl | hv
      · rfl
      · cases hv
  have hlim : Lib.bitLen d.size < 4611686018427387904 := Nat.lt_of_le_of_lt (Lib.bitLen_le d.size 62 (by omega) (by omega)) (by omega)
  have hp := AnyQ.pdqsortCmpFunc_all (P := Tryz.prog) (ρ := Tryz.pdqReq_ren) Tryz.pdqReq 2 Tryz.isAgg58 Tryz.sizeOf58 encQ cfQ 82 #[] swoQ blk 0 cap d w eg hcmp ⟨hk, h1, hH, hblk⟩ (d.size + 1) 0 d.size (Lib.bitLen d.size) d w (by omega) rfl (SWK.start hH) (Nat.zero_le _) (Nat.le_refl _) hsz hlim (Or.inl rfl)
  change Calls Tryz.prog 128 _ _ _ at hp
  have hl : Calls Tryz.prog 129 #[.int .u64 (d.size : Int)] w fun e w' => e = .returned (.int .i64 (Lib.bitLen d.size : Nat)) ∧ w' = w := by
    have h := Tryz.bits_Len (d.size : Int) w (by omega) (by omega)
    rwa [Int.toNat_natCast] at h
  have wr : IntKind.u64.wrap (d.size : Int) = d.size := by simp [IntKind.wrap, IntKind.bits, IntKind.signed]; omega
  have HP := Lib.hid hp
  have HL := Lib.hid hl
  clear hH hcmp hk h1 hp hl eg
  go_enter Tryz.func81, Tryz.ntmps81
  go_wp2_with fail
  refine HL.out.mono ?_
  rintro e w' ⟨rfl, rfl⟩
  go_wp2_with fail
  refine HP.out.mono ?_
  rintro e w' ⟨rfl, n, os, rfl⟩
  go_wp2_with fail
  go_end0
  have h := pdq_sorts (ltOf cfQ) swoQ d 0 d.size (Lib.bitLen d.size) true true (Nat.zero_le _) (Nat.le_refl _) (Or.inl rfl)
  exact ⟨rfl, _, n, os, h.1, h.2, rfl⟩
set_option maxHeartbeats 1000000 in
theorem insReq_none (p : Option Addr) (cap : Nat) (fv : Value) (w : World) :
    Calls Tryz.prog 153 #[.slice p 0 cap, .int .i64 0, .int .i64 0, fv] w fun e w' => e = .returned (.tuple #[]) ∧ w' = w := by
  go_enter Tryz.func153, Tryz.ntmps153
  go_wp2_with fail
  go_loopw [8] (fun i wr => i = .int .i64 1 ∧ wr = w) (fun _ _ => 0)
  case atStart => exact ⟨rfl, rfl⟩
  case round =>
    obtain ⟨rfl, rfl⟩ := hrel
    go_wp2_with fail
    go_end0
    exact ⟨rfl, rfl⟩
set_option maxHeartbeats 1000000 in
theorem pdqReq_none (p : Option Addr) (cap : Nat) (lim : Int) (fv : Value) (w : World) :
    Calls Tryz.prog 128 #[.slice p 0 cap, .int .i64 0, .int .i64 0, .int .i64 lim, fv] w fun e w' => e = .returned (.tuple #[]) ∧ w' = w := by
  have HI := Lib.hid (insReq_none p cap fv w)
  go_enter Tryz.func128, Tryz.ntmps128
  go_wp2_with fail
  go_loopw [1, 2, 3, 10, 11] (fun x y l b1 b2 wr => x = .int .i64 0 ∧ y = .int .i64 0 ∧ l = .int .i64 lim ∧ b1 = .bool true ∧ b2 = .bool true ∧ wr = w) (fun _ _ _ _ _ _ => 0)
  case atStart => exact ⟨rfl, rfl, rfl, rfl, rfl, rfl⟩
  case round =>
    obtain ⟨rfl, rfl, rfl, rfl, rfl, rfl⟩ := hrel
    go_wp2_with fail
    refine HI.out.mono ?_
    rintro e w' ⟨rfl, rfl⟩
    go_wp2_with fail
    refine bodyPost_ret (results_none rfl _ _ _) rfl ?_
    exact ⟨rfl, rfl⟩
theorem sort_reqs (B : Nat) (v : Value) (l : List RawQ) (w : World) (h : w.ownsRow B 58 2 v l.length (rawCells l)) (hl : l.length ≤ 1000000000) :
    Calls Tryz.prog 81 #[v, .func (.func 82) #[] #[]] w fun e w' => e = .returned (.tuple #[]) ∧
      ∃ l' : List RawQ, l'.Perm l ∧ l'.Pairwise (fun a b => ltB b.1 a.1 = false) ∧ w.grownBy w' v.ownBlock ∧ w'.ownsRow B 58 2 v l.length (rawCells l') := by
  rcases h.2 with ⟨rfl, h0⟩ | ⟨g, cap, cur, rfl, hbg, hg, hc, hcm, hcs, ht⟩
  · obtain rfl : l = [] := List.length_eq_zero_iff.1 h0
    have hl : Calls Tryz.prog 129 #[.int .u64 0] w fun e w' => e = .returned (.int .i64 ((Lib.bitLen 0 : Nat) : Int)) ∧ w' = w := Tryz.bits_Len 0 w (by omega) (by omega)
    have hp := pdqReq_none none 0 ((Lib.bitLen 0 : Nat) : Int) (.func (.func 82) #[] #[]) w
    have HL := Lib.hid hl
    have HP := Lib.hid hp
    clear hl hp h0
    go_enter Tryz.func81, Tryz.ntmps81
    go_wp2_with fail
    refine HL.out.mono ?_
    rintro e w' ⟨rfl, rfl⟩
    go_wp2_with fail
    refine HP.out.mono ?_
    rintro e w' ⟨rfl, rfl⟩
    go_wp2_with fail
    go_end0
    exact ⟨rfl, [], List.Perm.refl _, List.Pairwise.nil, World.grownBy.refl _ _, World.ownsRow_nil _ _ _ _⟩
  · have hfl : flatK encQ 2 l.toArray = (rawCells l).toArray := by rw [flat_reqs]
    have hsz : l.toArray.size = l.length := by simp
    have hH : HoldsK encQ 2 w g 0 l.toArray := by
      unfold HoldsK
      rw [hfl]
      exact holds_of_blockV hg (by rw [rawCells_len]; exact ht)
    have hcon := sortFunc_reqs g cap l.toArray w hH (Array.getElem?_eq_some_iff.1 hg).1 (by rw [hsz]; omega)
    rw [hsz] at hcon
    refine hcon.mono ?_
    rintro e w' ⟨rfl, d', n, os, hp, hs, rfl⟩
    obtain ⟨hps, _, hperm⟩ := hp
    rw [hsz] at hps
    have hpl : d'.toList.Perm l := by
      have e1 : (d'.extract 0 l.length) = d' := by rw [← hps]; exact Array.extract_size
      have e2 : (l.toArray.extract 0 l.length) = l.toArray := by rw [← hsz]; exact Array.extract_size
      rw [e1, e2, List.toList_toArray] at hperm
      exact hperm
    refine ⟨rfl, d'.toList, hpl, ?_, grownBy_putV _, ?_⟩
    · rw [List.pairwise_iff_getElem]
      intro i j hi hj hij
      rw [Array.length_toList] at hi hj
      have := hs i j (Nat.zero_le _) hij (by omega)
      rw [ltQ, getElem!_pos d' i hi, getElem!_pos d' j hj] at this
      simpa using this
    · unfold sortWorldK putRowK
      rw [flat_reqs]
      have hel : (rawCells d'.toList).length = l.length * 2 := by rw [rawCells_len, Array.length_toList, hps]
      exact ⟨hel, .inr ⟨g, cap, _, rfl, hbg, heap_putV _ hg, hc, hcm, by simp [putCells, hcs], by rw [← hel]; exact take_putV _ _ (by rw [hel]; omega)⟩⟩
end Go.Proofs.YtenfkejbndifdaaGreatDoor

namespace Go.Proofs.YtenfkejbndifdaaGreatDoor
set_option linter.unusedVariables false
set_option linter.unusedSimpArgs false
open Go Go.RowKit Go.Maps

def SetsF (out : List ReqL) (rv : ByteArray → Value) (f : Lit → Option Value) : Prop := (∀ p : ByteArray, f (keyP p) = (lookM out p).map fun _ => rv p) ∧ ∀ q, (∀ p : ByteArray, q ≠ keyP p) → f q = none
theorem SetsF.start (rv : ByteArray → Value) : SetsF [] rv (fun _ => none) := ⟨fun _ => rfl, fun _ _ => rfl⟩
open Classical in
noncomputable def putV (rv : ByteArray → Value) (p : ByteArray) (r : Value) : ByteArray → Value := fun x => if x = p then r else rv x
theorem putV_same (rv : ByteArray → Value) (p : ByteArray) (r : Value) : putV rv p r p = r := by unfold putV; exact if_pos rfl
theorem putV_other (rv : ByteArray → Value) {p x : ByteArray} (r : Value) (h : x ≠ p) : putV rv p r x = rv x := by unfold putV; exact if_neg h
theorem SetsF.put {out : List ReqL} {rv : ByteArray → Value} {f : Lit → Option Value} (h : SetsF out rv f) (ho : incrR out) (q : ReqL) (r : Value) : SetsF (insM out q) (putV rv q.1 r) (putF f (.string q.1.data.toList) r) := by
  refine ⟨fun p => ?_, fun k hk => ?_⟩
  · rw [insM_look q p ho]
    by_cases e : p = q.1
    · subst e
      rw [if_pos rfl, show keyP q.1 = Lit.string q.1.data.toList from rfl, putF_same, putV_same]
      rfl
    · rw [if_neg e, putV_other _ _ e]
      show putF f (keyP q.1) r (keyP p) = _
      rw [putF_other _ _ (fun e2 => e (keyP_inj e2)), h.1]
  · have hne : k ≠ .string q.1.data.toList := fun e => hk q.1 e
    rw [putF_other _ _ hne]
    exact h.2 k hk
def keysM (out : List ReqL) : List Lit := out.map fun x => keyP x.1
theorem keysM_nodup {out : List ReqL} (ho : incrR out) : (keysM out).Nodup := by
  unfold keysM List.Nodup
  rw [List.pairwise_map]
  exact List.Pairwise.imp (fun {a b} h e => ltB_ne h (keyP_inj e)) ho
theorem keysM_iff {out : List ReqL} {rv : ByteArray → Value} {f : Lit → Option Value} (h : SetsF out rv f) (q : Lit) : q ∈ keysM out ↔ (f q).isSome = true := by
  unfold keysM
  rw [List.mem_map]
  constructor
  · rintro ⟨x, hx, rfl⟩
    rw [h.1, Option.isSome_map]
    cases hl : lookM out x.1 with
    | some s => rfl
    | none => exact absurd rfl (lookM_none.1 hl x hx)
  · intro hs
    by_cases e : ∃ p : ByteArray, q = keyP p
    · obtain ⟨p, rfl⟩ := e
      rw [h.1, Option.isSome_map] at hs
      apply Classical.byContradiction
      intro hn
      rw [lookM_none.2 fun x hx e => hn ⟨x, hx, by rw [e]⟩] at hs
      cases hs
    · rw [h.2 q fun p e2 => e ⟨p, e2⟩] at hs
      cases hs
def CollQ (f : Lit → Option Value) (left : Lit → Bool) (l : List RawQ) : Prop := (l.map (·.1)).Nodup ∧ (∀ x ∈ l, f (keyP x.1) = some (slV x.2) ∧ left (keyP x.1) = false) ∧ ∀ p, (f (keyP p)).isSome = true → left (keyP p) = false → ∃ x ∈ l, x.1 = p
theorem CollQ.start (f : Lit → Option Value) : CollQ f (fun q => (f q).isSome) [] := ⟨List.nodup_nil, fun x hx => (by cases hx), fun p h1 h2 => by have h2 : (f (keyP p)).isSome = false := h2; rw [h1] at h2; cases h2⟩
theorem CollQ.step {f : Lit → Option Value} {left : Lit → Bool} {l : List RawQ} (h : CollQ f left l) {x : RawQ} (hf : f (keyP x.1) = some (slV x.2)) (hl : left (keyP x.1) = true) : CollQ f (fun z => left z && !z.sameKey (keyP x.1)) (l ++ [x]) := by
  obtain ⟨h1, h2, h3⟩ := h
  have hnew : x.1 ∉ l.map (·.1) := fun hm => by
    obtain ⟨y, hy, e⟩ := List.mem_map.1 hm
    have e : y.1 = x.1 := e
    have := (h2 y hy).2
    rw [e, hl] at this
    cases this
  refine ⟨?_, fun y hy => ?_, fun p hp hq => ?_⟩
  · rw [List.map_append]
    exact List.nodup_append.2 ⟨h1, by simp, fun a ha b hb => by simp at hb; subst hb; exact fun e => hnew (e ▸ ha)⟩
  · rcases List.mem_append.1 hy with hy | hy
    · obtain ⟨a, b⟩ := h2 y hy
      exact ⟨a, by show (left (keyP y.1) && _) = false; rw [b]; rfl⟩
    · rw [List.mem_singleton.1 hy]
      exact ⟨hf, by simp [keyP, Lit.sameKey]⟩
  · by_cases e : p = x.1
    · exact ⟨x, by simp, e.symm⟩
    · have : (keyP p).sameKey (keyP x.1) = false := by
        cases hs : (keyP p).sameKey (keyP x.1) with
        | false => rfl
        | true => exact absurd (keyP_inj (WideAt.sameKey_eq hs)) e
      have hq : (left (keyP p) && !(keyP p).sameKey (keyP x.1)) = false := hq
      rw [this] at hq
      obtain ⟨y, hy, e2⟩ := h3 p hp (by simpa using hq)
      exact ⟨y, by simp [hy], e2⟩
theorem CollQ.len {out : List ReqL} {rv : ByteArray → Value} {f : Lit → Option Value} {left : Lit → Bool} {l : List RawQ} (h : CollQ f left l) (hf : SetsF out rv f) : l.length ≤ out.length := by
  have := sub_length (l := l.map (·.1)) (m := out.map (·.1)) h.1 fun p hp => by
    obtain ⟨x, hx, rfl⟩ := List.mem_map.1 hp
    have h1 := (h.2.1 x hx).1
    rw [hf.1] at h1
    obtain ⟨s, hs, _⟩ := Option.map_eq_some_iff.1 h1
    apply Classical.byContradiction
    intro hn
    rw [lookM_none.2 fun y hy e => hn (List.mem_map.2 ⟨y, hy, e⟩)] at hs
    cases hs
  simpa using this
theorem CollQ.done {out : List ReqL} {rv : ByteArray → Value} {f : Lit → Option Value} {left : Lit → Bool} {l l' : List RawQ} (h : CollQ f left l) (hf : SetsF out rv f) (ho : incrR out) (hl : ∀ q, left q = false) (hp : l'.Perm l) (hs : l'.Pairwise (fun a b => ltB b.1 a.1 = false)) :
    l'.map (·.1) = out.map (·.1) ∧ ∀ x ∈ l', rv x.1 = slV x.2 := by
  obtain ⟨h1, h2, h3⟩ := h
  have hval : ∀ x ∈ l', rv x.1 = slV x.2 := fun x hx => by
    have e := (h2 x (hp.mem_iff.1 hx)).1
    rw [hf.1] at e
    obtain ⟨s, _, e⟩ := Option.map_eq_some_iff.1 e
    exact e
  refine ⟨?_, hval⟩
  have hn : (l'.map (·.1)).Nodup := (hp.map _).nodup_iff.2 h1
  have hno : (out.map (·.1)).Nodup := by
    unfold List.Nodup
    rw [List.pairwise_map]
    exact List.Pairwise.imp (fun {a b} h e => ltB_ne h e) ho
  have hmem : ∀ p, p ∈ l'.map (·.1) ↔ p ∈ out.map (·.1) := fun p => by
    constructor
    · intro hm
      obtain ⟨x, hx, rfl⟩ := List.mem_map.1 hm
      have e := (h2 x (hp.mem_iff.1 hx)).1
      rw [hf.1] at e
      obtain ⟨s, hs2, _⟩ := Option.map_eq_some_iff.1 e
      apply Classical.byContradiction
      intro hn
      rw [lookM_none.2 fun y hy e => hn (List.mem_map.2 ⟨y, hy, e⟩)] at hs2
      cases hs2
    · intro hm
      obtain ⟨y, hy, rfl⟩ := List.mem_map.1 hm
      have hsome : (f (keyP y.1)).isSome = true := by
        rw [hf.1, Option.isSome_map]
        cases hlk : lookM out y.1 with
        | some s => rfl
        | none => exact absurd rfl (lookM_none.1 hlk y hy)
      obtain ⟨x, hx, e⟩ := h3 y.1 hsome (hl _)
      exact List.mem_map.2 ⟨x, hp.mem_iff.2 hx, e⟩
  refine List.Perm.eq_of_pairwise (le := fun a b : ByteArray => ltB b a = false) (fun a b _ _ h1 h2 => ltB_tri h2 h1) ?_ ?_ ((List.perm_ext_iff_of_nodup hn hno).2 hmem)
  · rw [List.pairwise_map]
    exact hs
  · rw [List.pairwise_map]
    exact List.Pairwise.imp (fun {a b} h => ltB_asymm h) ho
theorem CollQ.row {out : List ReqL} {rv : ByteArray → Value} {l' : List RawQ} (hm : l'.map (·.1) = out.map (·.1)) (hv : ∀ x ∈ l', rv x.1 = slV x.2) {B : Nat} {W : World} (hS : ∀ x ∈ out, SpansOf B (rv x.1) x.2 W) : ReqXs B out (rawCells l') W := fun i q hq => by
  have hlen : l'.length = out.length := by have := congrArg List.length hm; simpa using this
  have hi := (List.getElem?_eq_some_iff.1 hq).1
  obtain ⟨x, hx⟩ : ∃ x, l'[i]? = some x := ⟨_, List.getElem?_eq_getElem (by omega)⟩
  have hx1 : x.1 = q.1 := by
    have h1 := congrArg (fun z => z[i]?) hm
    simp only [List.getElem?_map, hx, hq, Option.map_some] at h1
    exact Option.some.inj h1
  obtain ⟨a, b⟩ := rawCells_get hx
  have hr := hS q (List.mem_of_getElem? hq)
  rw [← hx1, hv x (List.mem_of_getElem? hx)] at hr
  exact ⟨slV x.2, by rw [← hx1]; exact a, b, hr⟩
def ListsOf (B : Nat) (v : Value) (ls : List (List ReqL)) (W : World) : Prop :=
  ∃ ao cap, v = .slice ao ls.length cap ∧ ∀ i l, ls[i]? = some l → ∃ b off r, ao = some ⟨b, off, none⟩ ∧ b < B ∧ W.cell? ⟨b, off + i, none⟩ = some r ∧ ReqsOf B r l W
end Go.Proofs.YtenfkejbndifdaaGreatDoor
