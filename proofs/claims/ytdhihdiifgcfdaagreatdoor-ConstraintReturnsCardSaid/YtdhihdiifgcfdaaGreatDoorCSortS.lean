/- The library's SortFunc at spans. -/
import Derived.Test.YtdhihdiifgcfdaaGreatDoorCMid
import Derived.Test.YtdhihdiifgcfdaaGreatDoorMore
import Derived.Test.YtdhihdiifgcfdaaGreatDoorShelf
import Derived.Shelf.SlSortCmp.WholeK
import Derived.Shelf.SlSortCmp.NoneTotal
import Derived.Sort.OwnSorted
namespace Go.Proofs.YtdhihdiifgcfdaaGreatDoor
set_option linter.unusedVariables false
set_option linter.unusedSimpArgs false
open Go Go.RowKit Go.Sort Go.Lib

/-- spans within the places. -/
abbrev SpanP := { x : Int × Int // 0 ≤ x.1 ∧ x.1 ≤ 1000000 }
instance : Inhabited SpanP := ⟨⟨(0, 0), by decide, by decide⟩⟩
def encP (x : SpanP) : List Value := [intC x.1.1, intC x.1.2]
def cfP (x y : SpanP) : Int := x.1.1 - y.1.1
theorem ltP (x y : SpanP) : ltOf cfP x y = decide (x.1.1 < y.1.1) := by
  unfold ltOf cfP
  rw [Bool.eq_iff_iff, decide_eq_true_eq, decide_eq_true_eq]
  omega
theorem swoP : SWO (ltOf cfP) where
  irrefl x := by rw [ltP]; simp
  trans x y z h1 h2 := by rw [ltP] at *; simp at *; omega
  ntrans x y z h1 h2 := by rw [ltP] at *; simp at *; omega

set_option maxHeartbeats 1000000 in
theorem spanCmp_any (x y : SpanP) (W : World) : Calls Tryz.prog 61 #[.agg #[intC x.1.1, intC x.1.2], .agg #[intC y.1.1, intC y.1.2]] W fun e w' => e = .returned (.int .i64 (cfP x y)) ∧ ∃ q os', w' = grow (W.drewN q) os' := by
  obtain ⟨⟨x1, x2⟩, hx0, hx1⟩ := x
  obtain ⟨⟨y1, y2⟩, hy0, hy1⟩ := y
  simp only at hx0 hx1 hy0 hy1
  unfold cfP
  simp only
  go_enter Tryz.func61, Tryz.ntmps61
  go_wp2_with fail
  go_ret
  exact ⟨rfl, 0, _, by rw [alloc_eq_grow, alloc_eq_grow, grow_grow]; rfl⟩

theorem holds_of_blockV {w : World} {g : Nat} {cur : Array Value} {e : TypeId} {xs : List Value} (hb : w.heap[g]? = some (.cells cur e (0, 0))) (ht : cur.toList.take xs.length = xs) : Holds id w g 0 xs.toArray := by
  intro j hj
  have hj' : j < xs.length := by simpa using hj
  refine ⟨?_, by simp [World.frozen?, hb]⟩
  have h1 : (cur.toList.take xs.length)[j]? = xs[j]? := by rw [ht]
  rw [List.getElem?_take_of_lt hj'] at h1
  simp only [World.cell?, hb, Nat.zero_add]
  simp only [Option.isSome_none, Bool.false_eq_true, if_false]
  rw [← Array.getElem?_toList, h1]
  simp [hj']
theorem heap_putV {w : World} {g n : Nat} {os : Array Obj} {cur : Array Value} {e : TypeId} {fr : Nat × Nat} (d : Array Value) (hb : w.heap[g]? = some (.cells cur e fr)) :
    (grow (putRow id (Sort.ahead w n) g 0 d) os).heap[g]? = some (.cells (putCells id 0 d cur) e fr) := by
  have hg : g < w.heap.size := (Array.getElem?_eq_some_iff.1 hb).1
  rw [heap_grow_old _ _ (by simpa using hg)]
  simp [putRow, mapBlock, Sort.ahead, Array.getElem?_modify, hb, onCells]
theorem grownBy_putV {w : World} {g n : Nat} {os : Array Obj} (d : Array Value) : w.grownBy (grow (putRow id (Sort.ahead w n) g 0 d) os) (some g) := by
  refine ⟨rfl, rfl, rfl, by simp, fun k hk hne => ?_⟩
  rw [heap_grow_old _ _ (by simpa using hk)]
  have : g ≠ k := fun e => hne (by rw [e])
  simp [putRow, mapBlock, Sort.ahead, Array.getElem?_modify, this]
theorem take_putV (cur : Array Value) (ts : List Value) (h : ts.length ≤ cur.size) : (putCells id 0 ts.toArray cur).toList.take ts.length = ts := by
  apply List.ext_getElem?
  intro j
  by_cases hj : j < ts.length
  · rw [List.getElem?_take_of_lt hj, Array.getElem?_toList]
    simp [putCells, hj, show j < cur.size by omega]
  · rw [List.getElem?_take_eq_none (by omega), List.getElem?_eq_none (by omega)]
theorem flat_spans (d : Array SpanP) : flatK encP 2 d = (edgeCells (d.toList.map (·.1))).toArray := by
  apply Array.ext
  · rw [size_flatK]; simp [edgeCells_length]
  · intro t h1 h2
    rw [size_flatK] at h1
    have e : (flatK encP 2 d)[t] = (flatK encP 2 d)[t]! := (getElem!_pos _ t (by rw [size_flatK]; exact h1)).symm
    rw [e, get_flatK _ _ _ _ h1, List.getElem_toArray]
    have ht : t / 2 < d.size := by omega
    have hx : (d.toList.map (·.1))[t / 2]? = some (d[t / 2]).1 := by simp [ht]
    obtain ⟨ha, hb⟩ := edgeCells_get _ _ _ hx
    rw [getElem!_pos d (t / 2) ht]
    rcases Nat.mod_two_eq_zero_or_one t with hm | hm
    · rw [hm]
      have : t / 2 * 2 = t := by omega
      rw [this] at ha
      exact (List.getElem_eq_iff h2).2 ha |>.symm
    · rw [hm]
      have : t / 2 * 2 + 1 = t := by omega
      rw [this] at hb
      exact (List.getElem_eq_iff h2).2 hb |>.symm

set_option maxRecDepth 100000 in
set_option maxHeartbeats 2000000 in
/-- slices.SortFunc at a row of spans. -/
theorem sortFunc_spans (blk cap : Nat) (d : Array SpanP) (w : World) (hH : HoldsK encP 2 w blk 0 d) (hblk : blk < w.heap.size) (hsz : d.size < 4611686018427387904) :
    Calls Tryz.prog 60 #[.slice (some ⟨blk, 0, none⟩) d.size cap, .func (.func 61) #[] #[]] w fun e w' =>
      e = .returned (.tuple #[]) ∧ ∃ d' n os, PermIn 0 d.size d d' ∧ SortedIn (ltOf cfP) 0 d.size d' ∧ w' = sortWorldK encP 2 w blk 0 n d' os := by
  have eg : ∀ args w, (callFunc 61 args).run Tryz.prog w = .ok (.enter 61 args) w := enters_of Tryz.func61 (by kernel_rfl) rfl
  have hcmp : CmpLays Tryz.prog 61 #[] encP 2 cfP blk 0 d.size w := fun _ _ _ _ x y => spanCmp_any x y _
  have hk : ∀ x : SpanP, (encP x).length = 2 := fun _ => rfl
  have h1 : ∀ x : SpanP, ∀ v ∈ encP x, v.oneCell' = true := fun x v hv => by
    unfold encP at hv
    rcases List.mem_cons.1 hv with rfl | hv
    · rfl
    · rcases List.mem_cons.1 hv with rfl | hv
      · rfl
      · cases hv
  have hlim : Lib.bitLen d.size < 4611686018427387904 := Nat.lt_of_le_of_lt (Lib.bitLen_le d.size 62 (by omega) (by omega)) (by omega)
  have hp := AnyQ.pdqsortCmpFunc_all (P := Tryz.prog) (ρ := Tryz.pdqSpan_ren) Tryz.pdqSpan 2 Tryz.isAgg49 Tryz.sizeOf49 encP cfP 61 #[] swoP blk 0 cap d w eg hcmp ⟨hk, h1, hH, hblk⟩ (d.size + 1) 0 d.size (Lib.bitLen d.size) d w (by omega) rfl (SWK.start hH) (Nat.zero_le _) (Nat.le_refl _) hsz hlim (Or.inl rfl)
  change Calls Tryz.prog 91 _ _ _ at hp
  have hl : Calls Tryz.prog 92 #[.int .u64 (d.size : Int)] w fun e w' => e = .returned (.int .i64 (Lib.bitLen d.size : Nat)) ∧ w' = w := by
    have h := Tryz.bits_Len (d.size : Int) w (by omega) (by omega)
    rwa [Int.toNat_natCast] at h
  have wr : IntKind.u64.wrap (d.size : Int) = d.size := by simp [IntKind.wrap, IntKind.bits, IntKind.signed]; omega
  have HP := Lib.hid hp
  have HL := Lib.hid hl
  clear hH hcmp hk h1 hp hl eg
  go_enter Tryz.func60, Tryz.ntmps60
  go_wp2_with fail
  refine HL.out.mono ?_
  rintro e w' ⟨rfl, rfl⟩
  go_wp2_with fail
  refine HP.out.mono ?_
  rintro e w' ⟨rfl, n, os, rfl⟩
  go_wp2_with fail
  go_end0
  have h := pdq_sorts (ltOf cfP) swoP d 0 d.size (Lib.bitLen d.size) true true (Nat.zero_le _) (Nat.le_refl _) (Or.inl rfl)
  exact ⟨rfl, _, n, os, h.1, h.2, rfl⟩

def toP (x : Int × Int) : SpanP := if h : 0 ≤ x.1 ∧ x.1 ≤ 1000000 then ⟨x, h⟩ else default
theorem toP_val {x : Int × Int} (h : 0 ≤ x.1 ∧ x.1 ≤ 1000000) : (toP x).1 = x := by unfold toP; rw [dif_pos h]
theorem sort_spans (B : Nat) (v : Value) (l : List (Int × Int)) (w : World) (h : w.ownsRow B 49 2 v l.length (edgeCells l)) (hl : l.length ≤ 1000000000) (hb : ∀ x ∈ l, 0 ≤ x.1 ∧ x.1 ≤ 1000000) :
    Calls Tryz.prog 60 #[v, .func (.func 61) #[] #[]] w fun e w' => e = .returned (.tuple #[]) ∧
      ∃ l' : List (Int × Int), l'.Perm l ∧ l'.Pairwise (fun a b => a.1 ≤ b.1) ∧ w.grownBy w' v.ownBlock ∧ w'.ownsRow B 49 2 v l.length (edgeCells l') := by
  rcases h.2 with ⟨rfl, h0⟩ | ⟨g, cap, cur, rfl, hbg, hg, hc, hcm, hcs, ht⟩
  · obtain rfl : l = [] := List.length_eq_zero_iff.1 h0
    have hl : Calls Tryz.prog 92 #[.int .u64 0] w fun e w' => e = .returned (.int .i64 ((Lib.bitLen 0 : Nat) : Int)) ∧ w' = w := Tryz.bits_Len 0 w (by omega) (by omega)
    have hp := AnyF.pdqsortCmpFunc_none (P := Tryz.prog) (ρ := Tryz.pdqSpan_ren) Tryz.pdqSpan none 0 ((Lib.bitLen 0 : Nat) : Int) (.func (.func 61) #[] #[]) w
    change Calls Tryz.prog 91 _ _ _ at hp
    have HL := Lib.hid hl
    have HP := Lib.hid hp
    clear hl hp h0 hb
    go_enter Tryz.func60, Tryz.ntmps60
    go_wp2_with fail
    refine HL.out.mono ?_
    rintro e w' ⟨rfl, rfl⟩
    go_wp2_with fail
    refine HP.out.mono ?_
    rintro e w' ⟨rfl, rfl⟩
    go_wp2_with fail
    go_end0
    exact ⟨rfl, [], List.Perm.refl _, List.Pairwise.nil, World.grownBy.refl _ _, World.ownsRow_nil _ _ _ _⟩
  · have hmap : (l.map toP).map (·.1) = l := by
      rw [List.map_map]
      have : ∀ x ∈ l, ((fun y : SpanP => y.1) ∘ toP) x = x := fun x hx => toP_val (hb x hx)
      rw [List.map_congr_left this, List.map_id']
    have hfl : flatK encP 2 (l.map toP).toArray = (edgeCells l).toArray := by
      rw [flat_spans, List.toList_toArray, hmap]
    have hsz : (l.map toP).toArray.size = l.length := by simp
    have hH : HoldsK encP 2 w g 0 (l.map toP).toArray := by
      unfold HoldsK
      rw [hfl]
      exact holds_of_blockV hg (by rw [edgeCells_length]; exact ht)
    have hcon := sortFunc_spans g cap (l.map toP).toArray w hH (Array.getElem?_eq_some_iff.1 hg).1 (by rw [hsz]; omega)
    rw [hsz] at hcon
    refine hcon.mono ?_
    rintro e w' ⟨rfl, d', n, os, hp, hs, rfl⟩
    obtain ⟨hps, _, hperm⟩ := hp
    rw [hsz] at hps
    have hpl : (d'.toList.map (·.1)).Perm l := by
      have e1 : (d'.extract 0 l.length) = d' := by rw [← hps]; exact Array.extract_size
      have e2 : ((l.map toP).toArray.extract 0 l.length) = (l.map toP).toArray := by rw [← hsz]; exact Array.extract_size
      rw [e1, e2, List.toList_toArray] at hperm
      have := hperm.map (·.1)
      rwa [hmap] at this
    refine ⟨rfl, d'.toList.map (·.1), hpl, ?_, grownBy_putV _, ?_⟩
    · rw [List.pairwise_iff_getElem]
      intro i j hi hj hij
      rw [List.length_map, Array.length_toList] at hi hj
      have := hs i j (Nat.zero_le _) hij (by omega)
      rw [ltP, getElem!_pos d' i hi, getElem!_pos d' j hj] at this
      have := of_decide_eq_false this
      simp
      omega
    · unfold sortWorldK putRowK
      rw [flat_spans]
      have hel : (edgeCells (d'.toList.map (·.1))).length = l.length * 2 := by rw [edgeCells_length, List.length_map, Array.length_toList, hps]
      exact ⟨hel, .inr ⟨g, cap, _, rfl, hbg, heap_putV _ hg, hc, hcm, by simp [putCells, hcs], by rw [← hel]; exact take_putV _ _ (by rw [hel]; omega)⟩⟩
end Go.Proofs.YtdhihdiifgcfdaaGreatDoor
