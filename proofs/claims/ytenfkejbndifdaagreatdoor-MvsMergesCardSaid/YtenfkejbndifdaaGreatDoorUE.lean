/- A row of spans that is merged in place: what it holds. The library's SortFunc at spans. Contract of the constraint's Canonical. -/
import Derived.Test.YtenfkejbndifdaaGreatDoorUC
import Derived.Test.YtenfkejbndifdaaGreatDoorUA
import Derived.Test.YtenfkejbndifdaaGreatDoorQMore
import Derived.Test.YtenfkejbndifdaaGreatDoorQShelf
import Derived.Shelf.SlSortCmp.WholeK
import Derived.Sort.OwnSorted
import Derived.Test.YtenfkejbndifdaaGreatDoorUD
import Derived.StringKeys
namespace Go.Proofs.YtenfkejbndifdaaGreatDoor
set_option linter.unusedVariables false
set_option linter.unusedSimpArgs false
open Go Go.RowKit Go.Sort

def SpanAt (W : World) (g j : Nat) (x : Int × Int) : Prop := W.cell? ⟨g, j * 2, none⟩ = some (intC x.1) ∧ W.cell? ⟨g, j * 2 + 1, none⟩ = some (intC x.2)
def MidRow (g : Nat) (m d : List (Int × Int)) (i : Nat) (W : World) : Prop :=
  (∀ j x, m[j]? = some x → SpanAt W g j x) ∧ (∀ j x, i ≤ j → d[j]? = some x → SpanAt W g j x) ∧ (∀ o, W.frozen? ⟨g, o, none⟩ = false) ∧ g < W.heap.size ∧ (∀ j, j < d.length → ∃ x, SpanAt W g j x)

theorem SpanAt.alloc {W : World} {g j : Nat} {x : Int × Int} (h : SpanAt W g j x) (o : Obj) : SpanAt (W.alloc o) g j x := ⟨cellA o h.1, cellA o h.2⟩
theorem MidRow.alloc {g : Nat} {m d : List (Int × Int)} {i : Nat} {W : World} (h : MidRow g m d i W) (o : Obj) : MidRow g m d i (W.alloc o) := by
  obtain ⟨h1, h2, h3, h4, h5⟩ := h
  refine ⟨fun j x hx => (h1 j x hx).alloc o, fun j x hj hx => (h2 j x hj hx).alloc o, fun p => ?_, by simp; omega, fun j hj => ?_⟩
  · have e : (W.alloc o).heap[g]? = W.heap[g]? := Below.heap_alloc W o g h4
    have := h3 p
    unfold World.frozen? at this ⊢
    simp only [e]
    exact this
  · obtain ⟨x, hx⟩ := h5 j hj
    exact ⟨x, hx.alloc o⟩
theorem span_far {W : World} {g j k : Nat} {x : Int × Int} (h : SpanAt W g j x) {v : Value} (h1 : k ≠ j * 2) (h2 : k ≠ j * 2 + 1) : SpanAt (W.setCell ⟨g, k, none⟩ v) g j x :=
  ⟨(World.cell?_setCell_other _ _ _ _ (fun e => h1 (by injection e))).trans h.1, (World.cell?_setCell_other _ _ _ _ (fun e => h2 (by injection e))).trans h.2⟩
theorem size_setCell (W : World) (a : Addr) (v : Value) : (W.setCell a v).heap.size = W.heap.size := by simp
theorem MidRow.join {g : Nat} {pre d : List (Int × Int)} {y : Int × Int} {i : Nat} {W : World} (h : MidRow g (pre ++ [y]) d i W) (hi : pre.length < i) (z : Int) :
    MidRow g (pre ++ [(y.1, z)]) d (i + 1) (W.setCell ⟨g, pre.length * 2 + 1, none⟩ (intC z)) := by
  obtain ⟨h1, h2, h3, h4, h5⟩ := h
  have hy : SpanAt W g pre.length y := h1 _ _ (by simp)
  have hnew : SpanAt (W.setCell ⟨g, pre.length * 2 + 1, none⟩ (intC z)) g pre.length (y.1, z) :=
    ⟨(World.cell?_setCell_other _ _ _ _ (fun e => by injection e; omega)).trans hy.1, World.cell?_setCell_same _ _ _ hy.2⟩
  refine ⟨fun j x hx => ?_, fun j x hj hx => span_far (h2 j x (by omega) hx) (by omega) (by omega), fun o => by rw [World.frozen?_setCell]; exact h3 o, by rw [size_setCell]; exact h4, fun j hj => ?_⟩
  · rcases Nat.lt_trichotomy j pre.length with hj | hj | hj
    · rw [List.getElem?_append_left hj] at hx
      exact span_far (h1 j x (by rw [List.getElem?_append_left hj]; exact hx)) (by omega) (by omega)
    · subst hj
      have : x = (y.1, z) := by simpa using hx.symm
      rw [this]
      exact hnew
    · rw [List.getElem?_eq_none (by simp; omega)] at hx
      cases hx
  · by_cases hjp : j = pre.length
    · subst hjp; exact ⟨_, hnew⟩
    · obtain ⟨x, hx⟩ := h5 j hj
      exact ⟨x, span_far hx (by omega) (by omega)⟩
theorem MidRow.push {g : Nat} {m d : List (Int × Int)} {x : Int × Int} {i : Nat} {W : World} (h : MidRow g m d i W) (hi : m.length ≤ i) (hd : m.length < d.length) :
    MidRow g (m ++ [x]) d (i + 1) ((W.setCell ⟨g, m.length * 2, none⟩ (intC x.1)).setCell ⟨g, m.length * 2 + 1, none⟩ (intC x.2)) := by
  obtain ⟨h1, h2, h3, h4, h5⟩ := h
  obtain ⟨y, hy⟩ := h5 m.length hd
  have e1 : (W.setCell ⟨g, m.length * 2, none⟩ (intC x.1)).cell? ⟨g, m.length * 2, none⟩ = some (intC x.1) := World.cell?_setCell_same _ _ _ hy.1
  have e2 : (W.setCell ⟨g, m.length * 2, none⟩ (intC x.1)).cell? ⟨g, m.length * 2 + 1, none⟩ = some (intC y.2) := (World.cell?_setCell_other _ _ _ _ (fun e => by injection e; omega)).trans hy.2
  have hnew : SpanAt ((W.setCell ⟨g, m.length * 2, none⟩ (intC x.1)).setCell ⟨g, m.length * 2 + 1, none⟩ (intC x.2)) g m.length x :=
    ⟨(World.cell?_setCell_other _ _ _ _ (fun e => by injection e; omega)).trans e1, World.cell?_setCell_same _ _ _ e2⟩
  have far : ∀ j z, SpanAt W g j z → j ≠ m.length → SpanAt ((W.setCell ⟨g, m.length * 2, none⟩ (intC x.1)).setCell ⟨g, m.length * 2 + 1, none⟩ (intC x.2)) g j z :=
    fun j z hz hne => span_far (span_far hz (by omega) (by omega)) (by omega) (by omega)
  refine ⟨fun j z hz => ?_, fun j z hj hz => far j z (h2 j z (by omega) hz) (by omega), fun o => by rw [World.frozen?_setCell, World.frozen?_setCell]; exact h3 o, by rw [size_setCell, size_setCell]; exact h4, fun j hj => ?_⟩
  · rcases Nat.lt_trichotomy j m.length with hj | hj | hj
    · rw [List.getElem?_append_left hj] at hz
      exact far j z (h1 j z hz) (by omega)
    · subst hj
      have : z = x := by simpa using hz.symm
      rw [this]
      exact hnew
    · rw [List.getElem?_eq_none (by simp; omega)] at hz
      cases hz
  · by_cases hjp : j = m.length
    · subst hjp; exact ⟨_, hnew⟩
    · obtain ⟨z, hz⟩ := h5 j hj
      exact ⟨z, far j z hz hjp⟩
theorem MidRow.pushN {g : Nat} {m d : List (Int × Int)} {x : Int × Int} {i : Nat} {W : World} (h : MidRow g m d i W) (n : Nat) (hn : m.length = n) (hi : n ≤ i) (hd : n < d.length) (q : Nat) :
    MidRow g (m ++ [x]) d (i + 1) (((W.drewN q).setCell ⟨g, n * 2, none⟩ (intC x.1)).setCell ⟨g, n * 2 + 1, none⟩ (intC x.2)) := by
  subst hn
  exact MidRow.push (W := W.drewN q) h hi hd
theorem MidRow.start {B g cap n : Nat} {d : List (Int × Int)} {W : World} (h : W.ownsRow B 133 2 (.slice (some ⟨g, 0, none⟩) n cap) n (spanCells d)) : n = d.length ∧ MidRow g [] d 0 W ∧ B ≤ g ∧ n ≤ cap := by
  have hn : n = d.length := by have := h.1; rw [spanCells_length] at this; omega
  subst hn
  have hsp : ∀ j x, d[j]? = some x → SpanAt W g j x := fun j x hx => by
    have hj := (List.getElem?_eq_some_iff.1 hx).1
    exact ⟨by rw [h.cellAt (j * 2) (by omega)]; exact (spanCells_get d j x hx).1, by rw [h.cellAt (j * 2 + 1) (by omega)]; exact (spanCells_get d j x hx).2⟩
  rcases h.2 with ⟨h0, _⟩ | ⟨g', cap', cur, hv, hb, hg, hc, _⟩
  · cases h0
  · cases hv
    exact ⟨rfl, ⟨fun j x hx => by simp at hx, fun j x _ hx => hsp j x hx, fun o => by simp [World.frozen?, hg], (Array.getElem?_eq_some_iff.1 hg).1, fun j hj => ⟨d[j], hsp j _ (by simp [hj])⟩⟩, hb, hc⟩
theorem MidRow.edges {g c : Nat} {m d : List (Int × Int)} {i : Nat} {W : World} (h : MidRow g m d i W) : SpansOf W.heap.size (.slice (some ⟨g, 0, none⟩) m.length c) m W :=
  ⟨_, _, rfl, fun j x hx => ⟨g, 0, rfl, h.2.2.2.1, by rw [Nat.zero_add]; exact (h.1 j x hx).1, by rw [Nat.zero_add]; exact (h.1 j x hx).2⟩⟩
theorem mergeS_snoc (l : List (Int × Int)) (x : Int × Int) : mergeS (l ++ [x]) = joinS (mergeS l) x := by
  unfold mergeS
  rw [List.foldl_append]
  rfl
theorem mergeS_len (l : List (Int × Int)) : (mergeS l).length ≤ l.length := by
  have := foldl_len l []
  unfold mergeS
  simpa using this
theorem mergeS_pos (l : List (Int × Int)) (h : 0 < l.length) : 0 < (mergeS l).length := by
  rcases List.eq_nil_or_concat l with rfl | ⟨a, y, rfl⟩
  · simp at h
  · rw [List.concat_eq_append, mergeS_snoc]
    exact (join_len _ _).2
end Go.Proofs.YtenfkejbndifdaaGreatDoor

namespace Go.Proofs.YtenfkejbndifdaaGreatDoor
set_option linter.unusedVariables false
set_option linter.unusedSimpArgs false
open Go Go.RowKit Go.Sort Go.Lib

abbrev SpanP := { x : Int × Int // 0 ≤ x.1 ∧ x.1 ≤ 1000000 }
instance : Inhabited SpanP := ⟨⟨(0, 0), by decide, by decide⟩⟩
def encP (x : SpanP) : List Value := [intC x.1.1, intC x.1.2]
def cfP (x y : SpanP) : Int := x.1.1 - y.1.1
theorem ltP (x y : SpanP) : ltOf cfP x y = decide (x.1.1 < y.1.1) := by
  unfold ltOf cfP
  rw [Bool.eq_iff_iff, decide_eq_true_eq, decide_eq_true_eq]
  omega
theorem swoP : SWO (ltOf cfP) where
  irrefl x := by rw [ltP]; simp
  trans x y z h1 h2 := by rw [ltP] at *; simp at *; omega
  ntrans x y z h1 h2 := by rw [ltP] at *; simp at *; omega

set_option maxHeartbeats 1000000 in
theorem spanCmp_any (x y : SpanP) (W : World) : Calls Tryz.prog 138 #[.agg #[intC x.1.1, intC x.1.2], .agg #[intC y.1.1, intC y.1.2]] W fun e w' => e = .returned (.int .i64 (cfP x y)) ∧ ∃ q os', w' = grow (W.drewN q) os' := by
  obtain ⟨⟨x1, x2⟩, hx0, hx1⟩ := x
  obtain ⟨⟨y1, y2⟩, hy0, hy1⟩ := y
  simp only at hx0 hx1 hy0 hy1
  unfold cfP
  simp only
  go_enter Tryz.func138, Tryz.ntmps138
  go_wp2_with fail
  go_ret
  exact ⟨rfl, 0, _, by rw [alloc_eq_grow, alloc_eq_grow, grow_grow]; rfl⟩

theorem holds_of_blockV {w : World} {g : Nat} {cur : Array Value} {e : TypeId} {xs : List Value} (hb : w.heap[g]? = some (.cells cur e (0, 0))) (ht : cur.toList.take xs.length = xs) : Holds id w g 0 xs.toArray := by
  intro j hj
  have hj' : j < xs.length := by simpa using hj
  refine ⟨?_, by simp [World.frozen?, hb]⟩
  have h1 : (cur.toList.take xs.length)[j]? = xs[j]? := by rw [ht]
  rw [List.getElem?_take_of_lt hj'] at h1
  simp only [World.cell?, hb, Nat.zero_add]
  simp only [Option.isSome_none, Bool.false_eq_true, if_false]
  rw [← Array.getElem?_toList, h1]
  simp [hj']
theorem heap_putV {w : World} {g n : Nat} {os : Array Obj} {cur : Array Value} {e : TypeId} {fr : Nat × Nat} (d : Array Value) (hb : w.heap[g]? = some (.cells cur e fr)) :
    (grow (putRow id (Sort.ahead w n) g 0 d) os).heap[g]? = some (.cells (putCells id 0 d cur) e fr) := by
  have hg : g < w.heap.size := (Array.getElem?_eq_some_iff.1 hb).1
  rw [heap_grow_old _ _ (by simpa using hg)]
  simp [putRow, mapBlock, Sort.ahead, Array.getElem?_modify, hb, onCells]
theorem grownBy_putV {w : World} {g n : Nat} {os : Array Obj} (d : Array Value) : w.grownBy (grow (putRow id (Sort.ahead w n) g 0 d) os) (some g) := by
  refine ⟨rfl, rfl, rfl, by simp, fun k hk hne => ?_⟩
  rw [heap_grow_old _ _ (by simpa using hk)]
  have : g ≠ k := fun e => hne (by rw [e])
  simp [putRow, mapBlock, Sort.ahead, Array.getElem?_modify, this]
theorem take_putV (cur : Array Value) (ts : List Value) (h : ts.length ≤ cur.size) : (putCells id 0 ts.toArray cur).toList.take ts.length = ts := by
  apply List.ext_getElem?
  intro j
  by_cases hj : j < ts.length
  · rw [List.getElem?_take_of_lt hj, Array.getElem?_toList]
    simp [putCells, hj, show j < cur.size by omega]
  · rw [List.getElem?_take_eq_none (by omega), List.getElem?_eq_none (by omega)]
theorem flat_spans (d : Array SpanP) : flatK encP 2 d = (spanCells (d.toList.map (·.1))).toArray := by
  apply Array.ext
  · rw [size_flatK]; simp [spanCells_length]
  · intro t h1 h2
    rw [size_flatK] at h1
    have e : (flatK encP 2 d)[t] = (flatK encP 2 d)[t]! := (getElem!_pos _ t (by rw [size_flatK]; exact h1)).symm
    rw [e, get_flatK _ _ _ _ h1, List.getElem_toArray]
    have ht : t / 2 < d.size := by omega
    have hx : (d.toList.map (·.1))[t / 2]? = some (d[t / 2]).1 := by simp [ht]
    obtain ⟨ha, hb⟩ := spanCells_get _ _ _ hx
    rw [getElem!_pos d (t / 2) ht]
    rcases Nat.mod_two_eq_zero_or_one t with hm | hm
    · rw [hm]
      have : t / 2 * 2 = t := by omega
      rw [this] at ha
      exact (List.getElem_eq_iff h2).2 ha |>.symm
    · rw [hm]
      have : t / 2 * 2 + 1 = t := by omega
      rw [this] at hb
      exact (List.getElem_eq_iff h2).2 hb |>.symm

set_option maxRecDepth 100000 in
set_option maxHeartbeats 2000000 in
theorem sortFunc_spans (blk cap : Nat) (d : Array SpanP) (w : World) (hH : HoldsK encP 2 w blk 0 d) (hblk : blk < w.heap.size) (hsz : d.size < 4611686018427387904) :
    Calls Tryz.prog 137 #[.slice (some ⟨blk, 0, none⟩) d.size cap, .func (.func 138) #[] #[]] w fun e w' =>
      e = .returned (.tuple #[]) ∧ ∃ d' n os, PermIn 0 d.size d d' ∧ SortedIn (ltOf cfP) 0 d.size d' ∧ w' = sortWorldK encP 2 w blk 0 n d' os := by
  have eg : ∀ args w, (callFunc 138 args).run Tryz.prog w = .ok (.enter 138 args) w := enters_of Tryz.func138 (by kernel_rfl) rfl
  have hcmp : CmpLays Tryz.prog 138 #[] encP 2 cfP blk 0 d.size w := fun _ _ _ _ x y => spanCmp_any x y _
  have hk : ∀ x : SpanP, (encP x).length = 2 := fun _ => rfl
  have h1 : ∀ x : SpanP, ∀ v ∈ encP x, v.oneCell' = true := fun x v hv => by
    unfold encP at hv
    rcases List.mem_cons.1 hv with rfl | hv
    · rfl
    · rcases List.mem_cons.1 hv with rfl | hv
      · rfl
      · cases hv
  have hlim : Lib.bitLen d.size < 4611686018427387904 := Nat.lt_of_le_of_lt (Lib.bitLen_le d.size 62 (by omega) (by omega)) (by omega)
  have hp := AnyQ.pdqsortCmpFunc_all (P := Tryz.prog) (ρ := Tryz.pdqSpan_ren) Tryz.pdqSpan 2 Tryz.isAgg133 Tryz.sizeOf133 encP cfP 138 #[] swoP blk 0 cap d w eg hcmp ⟨hk, h1, hH, hblk⟩ (d.size + 1) 0 d.size (Lib.bitLen d.size) d w (by omega) rfl (SWK.start hH) (Nat.zero_le _) (Nat.le_refl _) hsz hlim (Or.inl rfl)
  change Calls Tryz.prog 165 _ _ _ at hp
  have hl : Calls Tryz.prog 129 #[.int .u64 (d.size : Int)] w fun e w' => e = .returned (.int .i64 (Lib.bitLen d.size : Nat)) ∧ w' = w := by
    have h := Tryz.bits_Len (d.size : Int) w (by omega) (by omega)
    rwa [Int.toNat_natCast] at h
  have wr : IntKind.u64.wrap (d.size : Int) = d.size := by simp [IntKind.wrap, IntKind.bits, IntKind.signed]; omega
  have HP := Lib.hid hp
  have HL := Lib.hid hl
  clear hH hcmp hk h1 hp hl eg
  go_enter Tryz.func137, Tryz.ntmps137
  go_wp2_with fail
  refine HL.out.mono ?_
  rintro e w' ⟨rfl, rfl⟩
  go_wp2_with fail
  refine HP.out.mono ?_
  rintro e w' ⟨rfl, n, os, rfl⟩
  go_wp2_with fail
  go_end0
  have h := pdq_sorts (ltOf cfP) swoP d 0 d.size (Lib.bitLen d.size) true true (Nat.zero_le _) (Nat.le_refl _) (Or.inl rfl)
  exact ⟨rfl, _, n, os, h.1, h.2, rfl⟩

set_option maxHeartbeats 1000000 in
theorem insSpan_none (p : Option Addr) (cap : Nat) (fv : Value) (w : World) :
    Calls Tryz.prog 190 #[.slice p 0 cap, .int .i64 0, .int .i64 0, fv] w fun e w' => e = .returned (.tuple #[]) ∧ w' = w := by
  go_enter Tryz.func190, Tryz.ntmps190
  go_wp2_with fail
  go_loopw [8] (fun i wr => i = .int .i64 1 ∧ wr = w) (fun _ _ => 0)
  case atStart => exact ⟨rfl, rfl⟩
  case round =>
    obtain ⟨rfl, rfl⟩ := hrel
    go_wp2_with fail
    go_end0
    exact ⟨rfl, rfl⟩
set_option maxHeartbeats 1000000 in
theorem pdqSpan_none (p : Option Addr) (cap : Nat) (lim : Int) (fv : Value) (w : World) :
    Calls Tryz.prog 165 #[.slice p 0 cap, .int .i64 0, .int .i64 0, .int .i64 lim, fv] w fun e w' => e = .returned (.tuple #[]) ∧ w' = w := by
  have HI := Lib.hid (insSpan_none p cap fv w)
  go_enter Tryz.func165, Tryz.ntmps165
  go_wp2_with fail
  go_loopw [1, 2, 3, 10, 11] (fun x y l b1 b2 wr => x = .int .i64 0 ∧ y = .int .i64 0 ∧ l = .int .i64 lim ∧ b1 = .bool true ∧ b2 = .bool true ∧ wr = w) (fun _ _ _ _ _ _ => 0)
  case atStart => exact ⟨rfl, rfl, rfl, rfl, rfl, rfl⟩
  case round =>
    obtain ⟨rfl, rfl, rfl, rfl, rfl, rfl⟩ := hrel
    go_wp2_with fail
    refine HI.out.mono ?_
    rintro e w' ⟨rfl, rfl⟩
    go_wp2_with fail
    refine bodyPost_ret (results_none rfl _ _ _) rfl ?_
    exact ⟨rfl, rfl⟩

def toP (x : Int × Int) : SpanP := if h : 0 ≤ x.1 ∧ x.1 ≤ 1000000 then ⟨x, h⟩ else default
theorem toP_val {x : Int × Int} (h : 0 ≤ x.1 ∧ x.1 ≤ 1000000) : (toP x).1 = x := by unfold toP; rw [dif_pos h]
theorem sort_spans (B : Nat) (v : Value) (l : List (Int × Int)) (w : World) (h : w.ownsRow B 133 2 v l.length (spanCells l)) (hl : l.length ≤ 1000000000) (hb : ∀ x ∈ l, 0 ≤ x.1 ∧ x.1 ≤ 1000000) :
    Calls Tryz.prog 137 #[v, .func (.func 138) #[] #[]] w fun e w' => e = .returned (.tuple #[]) ∧
      ∃ l' : List (Int × Int), l'.Perm l ∧ l'.Pairwise (fun a b => a.1 ≤ b.1) ∧ w.grownBy w' v.ownBlock ∧ w'.ownsRow B 133 2 v l.length (spanCells l') := by
  rcases h.2 with ⟨rfl, h0⟩ | ⟨g, cap, cur, rfl, hbg, hg, hc, hcm, hcs, ht⟩
  · obtain rfl : l = [] := List.length_eq_zero_iff.1 h0
    have hl : Calls Tryz.prog 129 #[.int .u64 0] w fun e w' => e = .returned (.int .i64 ((Lib.bitLen 0 : Nat) : Int)) ∧ w' = w := Tryz.bits_Len 0 w (by omega) (by omega)
    have hp := pdqSpan_none none 0 ((Lib.bitLen 0 : Nat) : Int) (.func (.func 138) #[] #[]) w
    have HL := Lib.hid hl
    have HP := Lib.hid hp
    clear hl hp h0 hb
    go_enter Tryz.func137, Tryz.ntmps137
    go_wp2_with fail
    refine HL.out.mono ?_
    rintro e w' ⟨rfl, rfl⟩
    go_wp2_with fail
    refine HP.out.mono ?_
    rintro e w' ⟨rfl, rfl⟩
    go_wp2_with fail
    go_end0
    exact ⟨rfl, [], List.Perm.refl _, List.Pairwise.nil, World.grownBy.refl _ _, World.ownsRow_nil _ _ _ _⟩
  · have hmap : (l.map toP).map (·.1) = l := by
      rw [List.map_map]
      have : ∀ x ∈ l, ((fun y : SpanP => y.1) ∘ toP) x = x := fun x hx => toP_val (hb x hx)
      rw [List.map_congr_left this, List.map_id']
    have hfl : flatK encP 2 (l.map toP).toArray = (spanCells l).toArray := by
      rw [flat_spans, List.toList_toArray, hmap]
    have hsz : (l.map toP).toArray.size = l.length := by simp
    have hH : HoldsK encP 2 w g 0 (l.map toP).toArray := by
      unfold HoldsK
      rw [hfl]
      exact holds_of_blockV hg (by rw [spanCells_length]; exact ht)
    have hcon := sortFunc_spans g cap (l.map toP).toArray w hH (Array.getElem?_eq_some_iff.1 hg).1 (by rw [hsz]; omega)
    rw [hsz] at hcon
    refine hcon.mono ?_
    rintro e w' ⟨rfl, d', n, os, hp, hs, rfl⟩
    obtain ⟨hps, _, hperm⟩ := hp
    rw [hsz] at hps
    have hpl : (d'.toList.map (·.1)).Perm l := by
      have e1 : (d'.extract 0 l.length) = d' := by rw [← hps]; exact Array.extract_size
      have e2 : ((l.map toP).toArray.extract 0 l.length) = (l.map toP).toArray := by rw [← hsz]; exact Array.extract_size
      rw [e1, e2, List.toList_toArray] at hperm
      have := hperm.map (·.1)
      rwa [hmap] at this
    refine ⟨rfl, d'.toList.map (·.1), hpl, ?_, grownBy_putV _, ?_⟩
    · rw [List.pairwise_iff_getElem]
      intro i j hi hj hij
      rw [List.length_map, Array.length_toList] at hi hj
      have := hs i j (Nat.zero_le _) hij (by omega)
      rw [ltP, getElem!_pos d' i hi, getElem!_pos d' j hj] at this
      have := of_decide_eq_false this
      simp
      omega
    · unfold sortWorldK putRowK
      rw [flat_spans]
      have hel : (spanCells (d'.toList.map (·.1))).length = l.length * 2 := by rw [spanCells_length, List.length_map, Array.length_toList, hps]
      exact ⟨hel, .inr ⟨g, cap, _, rfl, hbg, heap_putV _ hg, hc, hcm, by simp [putCells, hcs], by rw [← hel]; exact take_putV _ _ (by rw [hel]; omega)⟩⟩
end Go.Proofs.YtenfkejbndifdaaGreatDoor

namespace Go.Proofs.YtenfkejbndifdaaGreatDoor
set_option linter.unusedVariables false
set_option linter.unusedSimpArgs false
open Go Go.RowKit Go.Sort

theorem clampS_snoc (l : List (Int × Int)) (x : Int × Int) : clampS (l ++ [x]) = if (clamp x).1 < (clamp x).2 then clampS l ++ [clamp x] else clampS l := by
  unfold clampS
  rw [List.map_append, List.filter_append]
  by_cases h : (clamp x).1 < (clamp x).2 <;> simp [h]

set_option maxRecDepth 100000 in
set_option maxHeartbeats 4000000 in
theorem Canonical_new (v : Value) (s : List (Int × Int)) (w : World) (hs : s.length ≤ 1000000000) (hE : SpansOf w.heap.size v s w) :
    Calls Tryz.prog 96 #[v] w fun e w' => ∃ v', e = .returned v' ∧ SpansOf w'.heap.size v' (canon s) w' ∧ Below w.heap.size w w' ∧ ∀ b, v'.ownBlock = some b → w.heap.size ≤ b := by
  obtain ⟨ao, ec, rfl, hE⟩ := hE
  have HE := Lib.hid hE
  clear hE
  obtain ⟨i0, hi0', hz0, hz1, hz2⟩ := info_parts info_spans
  go_enter Tryz.func96, Tryz.ntmps96
  go_wp2_with fail
  go_loopw [3, 11] (fun o p wr => ∃ (k : Nat), k ≤ s.length ∧ p = .int .i64 k ∧ Hid (wr.ownsRow w.heap.size 133 2 o (clampS (s.take k)).length (spanCells (clampS (s.take k)))) ∧ Hid (Below w.heap.size w wr)) (fun _ p _ => s.length - (intOf p).toNat)
  case atStart => exact ⟨0, by omega, rfl, Lib.hid (World.ownsRow_nil _ _ _ _), Lib.hid (Below.refl _ _)⟩
  case round =>
    obtain ⟨k, hk, rfl, HO, HB⟩ := hrel
    have hszr := HB.out.size
    by_cases hlt : k < s.length
    · obtain ⟨b, off, rfl, hb, hc1, hc2⟩ := HE.out k s[k] (by simp [hlt])
      have hc1 := (HB.out.cell (p := ⟨b, off + k * 2, none⟩) hb).trans hc1
      have hc2 := (HB.out.cell (p := ⟨b, off + k * 2 + 1, none⟩) hb).trans hc2
      have HT : Hid (clampS (s.take (k + 1)) = if (clamp s[k]).1 < (clamp s[k]).2 then clampS (s.take k) ++ [clamp s[k]] else clampS (s.take k)) := Lib.hid (by rw [List.take_succ_eq_append_getElem hlt, clampS_snoc])
      have hlen : (clampS (s.take k)).length ≤ k := Nat.le_trans (clampS_len _) (List.length_take_le _ _)
      obtain ⟨⟨x1, x2⟩, hx⟩ : ∃ x, x = s[k] := ⟨_, rfl⟩
      rw [← hx] at hc1 hc2 HT
      clear hx
      simp only at hc1 hc2
      generalize clampS (s.take k) = cs at *
      by_cases hin : (clamp (x1, x2)).1 < (clamp (x1, x2)).2
      · have hin2 : max x1 0 < min x2 1000000 := hin
        have HB2 : Hid (∀ W1, ((wr.alloc (.cells #[intC (max x1 0), intC (min x2 1000000)] 133)).alloc (.cells #[intC (max x1 0), intC (min x2 1000000)] 133)).grownBy W1 u3.ownBlock → Below w.heap.size w W1) := Lib.hid (fun W1 hg => ((HB.out.alloc hszr _).alloc (by simp; omega) _).grown hg (by simp; omega) (fun b hb => (HO.out.lt b hb).1))
        go_wp2_with (at_builtin; refine wpList_append_own _ rfl _ _ 56 rfl w.heap.size 133 i0 _ 2 16 Tryz.underlying56 hi0' hz0 hz1 hz2 rfl (by decide) u3 cs.length _ (by rfl) ((HO.out.alloc _).alloc _) ⟨wr.heap.size + 1, 0, none⟩ 1 1 [intC (max x1 0), intC (min x2 1000000)] (by rfl) (by rfl) (World.news_of_block (cs := #[intC (max x1 0), intC (min x2 1000000)]) (t := 133) (fr := (0, 0)) (by have := heap_alloc_new (wr.alloc (.cells #[intC (max x1 0), intC (min x2 1000000)] 133)) (.cells #[intC (max x1 0), intC (min x2 1000000)] 133); rw [World.size_alloc] at this; exact this)) (by simp [Value.oneCell']) (by unfold maxLen; omega) (by omega) (by simp; omega) ?_; intro v' w3 hown' hgrow _; have HOW2 := Lib.hid hown'; have HBB2 := Lib.hid (HB2.out _ hgrow); clear hown' hgrow; obtain ⟨gg, cap, rfl⟩ := ownsRow_succ HOW2.out)
        go_roundw
        case rel =>
          refine ⟨k + 1, by omega, by go_num, Lib.hid ?_, HBB2⟩
          rw [HT.out, if_pos hin, spanCells_snoc, List.length_append]
          exact HOW2.out
        case measure => simp [intOf]; omega
      · have hin2 : ¬ max x1 0 < min x2 1000000 := hin
        go_wp2_with fail
        go_roundw
        case rel =>
          refine ⟨k + 1, by omega, by go_num, Lib.hid ?_, Lib.hid (HB.out.alloc hszr _)⟩
          rw [HT.out, if_neg hin]
          exact HO.out.alloc _
        case measure => simp [intOf]; omega
    · have hkk : k = s.length := by omega
      subst hkk
      rw [List.take_length] at HO
      have hcl : (clampS s).length ≤ s.length := clampS_len s
      have hs2 := sort_spans w.heap.size u3 (clampS s) wr HO.out (by omega) (fun x hx => by have := clampS_mem hx; omega)
      have HS2 := Lib.hid hs2
      have hvs : ∃ a n c, u3 = .slice a n c := by
        rcases HO.out.2 with ⟨rfl, _⟩ | ⟨g, cap, cur, rfl, _⟩
        · exact ⟨_, _, _, rfl⟩
        · exact ⟨_, _, _, rfl⟩
      obtain ⟨va, vn, vc, rfl⟩ := hvs
      clear hs2
      go_wp2_with fail
      refine HS2.out.mono ?_
      rintro e w4 ⟨rfl, d, hp, hsd, hg4, ho4⟩
      have HP := Lib.hid hp
      have HSD := Lib.hid hsd
      have HB4 : Hid (Below w.heap.size w w4) := Lib.hid (HB.out.grown hg4 hszr (fun b hb => (HO.out.lt b hb).1))
      have hdl : d.length = (clampS s).length := hp.length_eq
      have HDL := Lib.hid hdl
      have hdl2 : d.length ≤ s.length := by omega
      have hE5 : va = none ∧ vn = 0 ∧ vc = 0 ∧ d = [] ∨ ∃ g, va = some ⟨g, 0, none⟩ := by
        rcases ho4.2 with ⟨h1, h2⟩ | ⟨g, cap, cur, h1, _⟩
        · cases h1
          exact .inl ⟨rfl, rfl, rfl, List.length_eq_zero_iff.1 (by omega)⟩
        · cases h1
          exact .inr ⟨g, rfl⟩
      rcases hE5 with ⟨rfl, rfl, rfl, rfl⟩ | ⟨g, rfl⟩
      · have HC : Hid ([] = canon s) := Lib.hid (merge_canon HP.out List.Pairwise.nil)
        clear HO HB HS2 hp hsd hg4 ho4 hdl HDL hszr
        go_wp2_with fail
        go_loopw [6, 36] (fun n p wr => p = .int .i64 0 ∧ n = .int .i64 0 ∧ Hid (Below w.heap.size w wr)) (fun _ _ _ => 0)
        case atStart => exact ⟨rfl, rfl, HB4⟩
        case round =>
          clear HB4
          obtain ⟨rfl, rfl, HB⟩ := hrel
          go_wp2_with fail
          go_ret
          exact ⟨_, rfl, by rw [← HC.out]; exact ⟨none, 0, rfl, fun i x hx => by simp at hx⟩, HB.out, fun b hb => by simp [Value.ownBlock] at hb⟩
      · have ho5 : w4.ownsRow w.heap.size 133 2 (.slice (some ⟨g, 0, none⟩) vn vc) vn (spanCells d) := by
          have e : vn = (clampS s).length := by
            rcases ho4.2 with ⟨h1, _⟩ | ⟨g', cap', cur', h1, _⟩
            · cases h1
            · cases h1; rfl
          rw [e] at ho4 ⊢
          exact ho4
        have hst := MidRow.start ho5
        clear ho5
        obtain ⟨hvn, hmid, hgb, hcap⟩ := hst
        subst hvn
        have HM := Lib.hid hmid
        clear HO HB HS2 hp hsd hg4 ho4 hdl hszr hmid
        go_wp2_with fail
        go_loopw [6, 36] (fun n p wr => ∃ (i : Nat), i ≤ d.length ∧ p = .int .i64 i ∧ n = .int .i64 ((mergeS (d.take i)).length : Nat) ∧ Hid (MidRow g (mergeS (d.take i)) d i wr) ∧ Hid (Below w.heap.size w wr)) (fun _ p _ => d.length - (intOf p).toNat)
        case atStart => exact ⟨0, by omega, rfl, rfl, HM, HB4⟩
        case round =>
          clear HM HB4
          obtain ⟨i, hi, rfl, rfl, HM, HB⟩ := hrel
          by_cases hlt : i < d.length
          · have hml := mergeS_len (d.take i)
            have hml2 : (d.take i).length = i := by rw [List.length_take]; omega
            have HJ : Hid (mergeS (d.take (i + 1)) = joinS (mergeS (d.take i)) d[i]) := Lib.hid (by rw [List.take_succ_eq_append_getElem hlt, mergeS_snoc])
            have hpos : 0 < i → 0 < (mergeS (d.take i)).length := fun h => mergeS_pos _ (by omega)
            have hzero : i = 0 → mergeS (d.take i) = [] := fun h => by subst h; rfl
            obtain ⟨hc1, hc2⟩ := HM.out.2.1 i d[i] (Nat.le_refl _) (by simp [hlt])
            obtain ⟨⟨x1, x2⟩, hx⟩ : ∃ x, x = d[i] := ⟨_, rfl⟩
            rw [← hx] at hc1 hc2 HJ
            clear hx
            simp only at hc1 hc2
            have HM2 := Lib.hid (HM.out.alloc (.cells #[intC x1, intC x2] 133))
            have hszr := HB.out.size
            have HB2 := Lib.hid (HB.out.alloc hszr (.cells #[intC x1, intC x2] 133))
            generalize mergeS (d.take i) = m at *
            by_cases hi0 : 0 < i
            · rcases List.eq_nil_or_concat m with rfl | ⟨pre, y, rfl⟩
              · exact absurd (hpos hi0) (by simp)
              · rw [List.concat_eq_append] at *
                rw [joinS_snoc] at HJ
                simp only [List.length_append, List.length_singleton] at hml ⊢
                have hcy := (HM2.out.1 pre.length y (by simp)).2
                have hfy := HM2.out.2.2.1 (pre.length * 2 + 1)
                have hi1 : (0 : Int) < (i : Int) := by omega
                have hn1 : IntKind.i64.wrap (((pre.length + 1 : Nat) : Int) - 1) = (pre.length : Int) := by rw [IntWalk.i64_in _ (by omega)]; omega
                have hn2 : IntKind.i64.wrap ((pre.length : Int) + 1 - 1) = (pre.length : Int) := by rw [IntWalk.i64_in _ (by omega)]; omega
                have hn3 : (pre.length : Int) < (d.length : Int) := by omega
                have hn4 : (0 : Int) ≤ (pre.length : Int) := by omega
                have hi2 : decide (0 < i) = true := decide_eq_true hi0
                clear hpos hzero
                by_cases hle : x1 ≤ y.2
                · go_wp2_with fail
                  go_quiet (fail)
                  go_wp2_with fail
                  go_region
                  go_wp2_with fail
                  go_roundw
                  case rel =>
                    refine ⟨i + 1, by omega, by go_num, ?_, Lib.hid ?_, Lib.hid ?_⟩
                    · rw [HJ.out, if_pos hle]; simp
                    · rw [HJ.out, if_pos hle]
                      exact MidRow.join HM2.out (by omega) _
                    · exact (below_drewN HB2.out _).setCell hgb _
                  case measure => simp [intOf]; omega
                · have HNL := Lib.hid hle
                  obtain ⟨z, hz1, hz2⟩ := HM2.out.2.2.2.2 (pre.length + 1) (by omega)
                  have hf1 := HM2.out.2.2.1 ((pre.length + 1) * 2)
                  have hf2 := HM2.out.2.2.1 ((pre.length + 1) * 2 + 1)
                  go_wp2_with fail
                  go_quiet (fail)
                  go_wp2_with fail
                  go_roundw
                  case rel =>
                    refine ⟨i + 1, by omega, by go_num, ?_, Lib.hid ?_, Lib.hid ?_⟩
                    · rw [HJ.out, if_neg (Int.not_le.2 HNL.out)]; simp; try omega
                    · rw [HJ.out, if_neg (Int.not_le.2 HNL.out)]
                      exact HM2.out.pushN (x := (x1, x2)) (pre.length + 1) (by simp) (by omega) (by omega) _
                    · exact ((below_drewN HB2.out _).setCell hgb _).setCell hgb _
                  case measure => simp [intOf]; omega
            · obtain rfl : i = 0 := by omega
              obtain rfl : m = [] := hzero rfl
              rw [joinS_nil] at HJ
              obtain ⟨z, hz1, hz2⟩ := HM2.out.2.2.2.2 0 (by omega)
              have hf1 := HM2.out.2.2.1 (0 * 2)
              have hf2 := HM2.out.2.2.1 (0 * 2 + 1)
              simp only [Nat.zero_mul, Nat.zero_add] at hz1 hz2 hf1 hf2 hc1 hc2
              clear hpos hzero
              go_wp2_with fail
              go_quiet (fail)
              go_wp2_with fail
              go_roundw
              case rel =>
                refine ⟨1, by omega, by go_num, ?_, Lib.hid ?_, Lib.hid ?_⟩
                · rw [HJ.out]; rfl
                · rw [HJ.out]
                  exact HM2.out.pushN (x := (x1, x2)) 0 rfl (by omega) (by omega) _
                · exact ((below_drewN HB2.out _).setCell hgb _).setCell hgb _
              case measure => simp [intOf]; omega
          · have hii : i = d.length := by omega
            subst hii
            rw [List.take_length] at HM
            have HC : Hid (mergeS d = canon s) := Lib.hid (merge_canon HP.out HSD.out)
            have hml := mergeS_len d
            go_wp2_with fail
            go_ret
            exact ⟨_, rfl, by rw [← HC.out]; exact HM.out.edges, HB.out, fun b hb => by simp [Value.ownBlock] at hb; omega⟩
theorem Canonical_any (v : Value) (s : List (Int × Int)) (w : World) (hs : s.length ≤ 1000000000) (hE : SpansOf w.heap.size v s w) :
    Calls Tryz.prog 96 #[v] w fun e w' => ∃ v', e = .returned v' ∧ SpansOf w'.heap.size v' (canon s) w' ∧ Below w.heap.size w w' :=
  (Canonical_new v s w hs hE).mono fun e w' ⟨v', h1, h2, h3, _⟩ => ⟨v', h1, h2, h3⟩
end Go.Proofs.YtenfkejbndifdaaGreatDoor

namespace Go.Proofs.YtenfkejbndifdaaGreatDoor
set_option linter.unusedVariables false
set_option linter.unusedSimpArgs false
open Go Go.RowKit

def leastV (s : List (Int × Int)) : Int × Bool := match canon s with
  | [] => (0, false)
  | x :: _ => (x.1, true)
def greatV (s : List (Int × Int)) : Int × Bool := match (canon s).getLast? with
  | none => (0, false)
  | some x => (x.2 - 1, true)
def upB (c : List (Int × Int)) : Bool := match c with
  | [] => true
  | [x] => decide (x.2 = 1000000)
  | _ => false
theorem can_mem {s : List (Int × Int)} {x : Int × Int} (h : x ∈ canon s) : 0 ≤ x.1 ∧ x.1 < x.2 ∧ x.2 ≤ 1000000 := (canon_can s).2 x h
theorem edges_head {B : Nat} {ao : Option Addr} {n cap : Nat} {x : Int × Int} {t : List (Int × Int)} {W : World} (h : SpansOf B (.slice ao n cap) (x :: t) W) :
    ∃ b off, ao = some ⟨b, off, none⟩ ∧ W.cell? ⟨b, off, none⟩ = some (intC x.1) ∧ W.cell? ⟨b, off + 1, none⟩ = some (intC x.2) := by
  obtain ⟨ao', cap', hv, h⟩ := h
  cases hv
  obtain ⟨b, off, rfl, _, h1, h2⟩ := h 0 x rfl
  simp only [Nat.zero_mul, Nat.add_zero] at h1 h2
  exact ⟨b, off, rfl, h1, h2⟩
theorem edges_len {B : Nat} {v : Value} {es : List (Int × Int)} {W : World} (h : SpansOf B v es W) : ∃ ao cap, v = .slice ao es.length cap := by
  obtain ⟨ao, cap, rfl, _⟩ := h
  exact ⟨ao, cap, rfl⟩
set_option maxRecDepth 100000 in
theorem Least_any (v : Value) (s : List (Int × Int)) (w : World) (hs : s.length ≤ 1000000000) (hE : SpansOf w.heap.size v s w) :
    Calls Tryz.prog 107 #[v] w fun e w' => e = .returned (.tuple #[.int .i64 (leastV s).1, .bool (leastV s).2]) ∧ Below w.heap.size w w' := by
  have HC := Lib.hid (Canonical_any v s w hs hE)
  obtain ⟨l, hl⟩ : ∃ l, leastV s = l := ⟨_, rfl⟩
  have HL := Lib.hid hl
  rw [hl]
  unfold leastV at hl
  have hlen := canon_len s
  clear hE
  cases hc : canon s with
  | nil =>
    rw [hc] at HC hl
    subst hl
    clear hc HL
    go_enter Tryz.func107, Tryz.ntmps107
    go_wp2_with fail
    (with_reducible refine HC.out.mono ?_)
    rintro e w' ⟨v', rfl, hE', hb⟩
    obtain ⟨ao, cap, rfl⟩ := edges_len hE'
    clear hE'
    simp only [List.length_nil]
    go_wp2_with fail
    go_ret2
    exact ⟨rfl, hb⟩
  | cons x t =>
    rw [hc] at HC hl hlen
    subst hl
    clear hc HL
    go_enter Tryz.func107, Tryz.ntmps107
    go_wp2_with fail
    (with_reducible refine HC.out.mono ?_)
    rintro e w' ⟨v', rfl, hE', hb⟩
    obtain ⟨ao, cap, rfl⟩ := edges_len hE'
    obtain ⟨b, off, rfl, h1, h2⟩ := edges_head hE'
    have hn : 0 < (x :: t).length := by simp
    generalize (x :: t).length = n at *
    have hn2 : (0 : Int) < (n : Int) := by omega
    clear hE'
    go_wp2_with fail
    go_ret2
    exact ⟨rfl, hb⟩
set_option maxRecDepth 100000 in
theorem AtLeast_new (p : Int) (w : World) :
    Calls Tryz.prog 41 #[.int .i64 p] w fun e w' => ∃ v', e = .returned v' ∧ SpansOf w'.heap.size v' (canon [(p, 1000000)]) w' ∧ Below w.heap.size w w' ∧ ∀ b, v'.ownBlock = some b → w.heap.size ≤ b := by
  have HC := Lib.hid (Canonical_new (.slice (some ⟨w.heap.size, 0, none⟩) 1 1) [(p, 1000000)] (w.alloc (.cells #[intC p, intC 1000000] 133)) (by simp) ⟨_, _, rfl, fun i x hx => by
    have hi : i = 0 := by have := (List.getElem?_eq_some_iff.1 hx).1; simpa using this
    subst hi
    cases hx
    exact ⟨w.heap.size, 0, rfl, by simp, by simp [go_sem], by simp [go_sem]⟩⟩)
  go_enter Tryz.func41, Tryz.ntmps41
  go_wp2_with fail
  (with_reducible refine HC.out.mono ?_)
  rintro e w' ⟨v', rfl, hE', hb, hnb⟩
  have HNB := Lib.hid hnb
  have HE := Lib.hid hE'
  have HB := Lib.hid hb
  clear hE' hb hnb
  go_wp2_with fail
  go_ret
  exact ⟨_, rfl, HE.out, ((Below.refl _ _).alloc (Nat.le_refl _) _).trans (HB.out.mono (by simp)), fun b hb => by have := HNB.out b hb; simp at this; omega⟩
set_option maxRecDepth 100000 in
theorem Upward_any (v : Value) (s : List (Int × Int)) (w : World) (hs : s.length ≤ 1000000000) (hE : SpansOf w.heap.size v s w) :
    Calls Tryz.prog 119 #[v] w fun e w' => e = .returned (.bool (upB (canon s))) ∧ Below w.heap.size w w' := by
  have HC := Lib.hid (Canonical_any v s w hs hE)
  have hlen := canon_len s
  clear hE
  generalize canon s = c at *
  match c with
  | [] =>
    show Calls _ _ _ _ fun e w' => e = .returned (.bool true) ∧ _
    go_enter Tryz.func119, Tryz.ntmps119
    go_wp2_with fail
    (with_reducible refine HC.out.mono ?_)
    rintro e w' ⟨v', rfl, hE', hb⟩
    obtain ⟨ao, cap, rfl⟩ := edges_len hE'
    clear hE'
    simp only [List.length_nil]
    go_wp2_with fail
    go_ret
    exact ⟨rfl, hb⟩
  | [x] =>
    show Calls _ _ _ _ fun e w' => e = .returned (.bool (decide (x.2 = 1000000))) ∧ _
    obtain ⟨x1, x2⟩ := x
    go_enter Tryz.func119, Tryz.ntmps119
    go_wp2_with fail
    (with_reducible refine HC.out.mono ?_)
    rintro e w' ⟨v', rfl, hE', hb⟩
    obtain ⟨ao, cap, rfl⟩ := edges_len hE'
    obtain ⟨b, off, rfl, h1, h2⟩ := edges_head hE'
    clear hE'
    simp only [List.length_singleton]
    by_cases hx : x2 = 1000000
    · subst hx
      go_wp2_with fail
      go_ret
      exact ⟨rfl, hb⟩
    · have hx2 : (x2 == 1000000) = false := by simpa using hx
      go_wp2_with fail
      go_ret
      exact ⟨by simp [hx], hb⟩
  | x :: y :: t =>
    show Calls _ _ _ _ fun e w' => e = .returned (.bool false) ∧ _
    go_enter Tryz.func119, Tryz.ntmps119
    go_wp2_with fail
    (with_reducible refine HC.out.mono ?_)
    rintro e w' ⟨v', rfl, hE', hb⟩
    obtain ⟨ao, cap, rfl⟩ := edges_len hE'
    have hn : 1 < (x :: y :: t).length := by simp
    generalize (x :: y :: t).length = n at *
    have hn1 : ((n : Int) == 0) = false := by simp; omega
    have hn2 : ((n : Int) == 1) = false := by simp; omega
    clear hE'
    go_wp2_with fail
    go_ret
    exact ⟨rfl, hb⟩
end Go.Proofs.YtenfkejbndifdaaGreatDoor

namespace Go.Proofs.YtenfkejbndifdaaGreatDoor
set_option linter.unusedVariables false
set_option linter.unusedSimpArgs false
open Go

theorem less_tri : ∀ (l m : List UInt8), Op.bytesLess l m = false → Op.bytesLess m l = false → l = m
  | [], [], _, _ => rfl
  | [], _ :: _, h, _ => by simp [Op.bytesLess] at h
  | _ :: _, [], _, h => by simp [Op.bytesLess] at h
  | x :: l, y :: m, h1, h2 => by
    simp only [Op.bytesLess, Bool.or_eq_false_iff, Bool.and_eq_false_iff, decide_eq_false_iff_not] at h1 h2
    have e : x = y := UInt8.le_antisymm (UInt8.not_lt.1 h2.1) (UInt8.not_lt.1 h1.1)
    subst e
    have h3 : Op.bytesLess l m = false := h1.2.resolve_left (by simp)
    have h4 : Op.bytesLess m l = false := h2.2.resolve_left (by simp)
    rw [less_tri l m h3 h4]
theorem less_asymm : ∀ (l m : List UInt8), Op.bytesLess l m = true → Op.bytesLess m l = false
  | [], [], h => by simp [Op.bytesLess] at h
  | [], _ :: _, _ => by simp [Op.bytesLess]
  | _ :: _, [], h => by simp [Op.bytesLess] at h
  | x :: l, y :: m, h => by
    simp only [Op.bytesLess, Bool.or_eq_true, Bool.and_eq_true, decide_eq_true_eq, beq_iff_eq] at h
    simp only [Op.bytesLess, Bool.or_eq_false_iff, Bool.and_eq_false_iff, decide_eq_false_iff_not]
    rcases h with h | ⟨rfl, h⟩
    · exact ⟨fun k => UInt8.lt_asymm h k, .inl (by simpa using fun e => UInt8.lt_irrefl _ (e ▸ h))⟩
    · exact ⟨UInt8.lt_irrefl _, .inr (less_asymm l m h)⟩
theorem less_trans : ∀ (l m n : List UInt8), Op.bytesLess l m = true → Op.bytesLess m n = true → Op.bytesLess l n = true
  | [], [], _, h, _ => by simp [Op.bytesLess] at h
  | [], _ :: _, [], _, h => by simp [Op.bytesLess] at h
  | [], _ :: _, _ :: _, _, _ => by simp [Op.bytesLess]
  | _ :: _, [], _, h, _ => by simp [Op.bytesLess] at h
  | _ :: _, _ :: _, [], _, h => by simp [Op.bytesLess] at h
  | x :: l, y :: m, z :: n, h1, h2 => by
    simp only [Op.bytesLess, Bool.or_eq_true, Bool.and_eq_true, decide_eq_true_eq, beq_iff_eq] at h1 h2 ⊢
    rcases h1 with h1 | ⟨rfl, h1⟩
    · rcases h2 with h2 | ⟨rfl, h2⟩
      · exact .inl (UInt8.lt_trans h1 h2)
      · exact .inl h1
    · rcases h2 with h2 | ⟨rfl, h2⟩
      · exact .inl h2
      · exact .inr ⟨rfl, less_trans l m n h1 h2⟩
theorem bytes_inj {a b : ByteArray} (h : a.toList = b.toList) : a = b := by
  rw [ByteArray.toList_eq, ByteArray.toList_eq] at h
  exact ByteArray.ext (Array.toList_inj.1 h)
theorem ltB_trans {a b c : ByteArray} (h1 : ltB a b = true) (h2 : ltB b c = true) : ltB a c = true := less_trans _ _ _ h1 h2
theorem ltB_asymm {a b : ByteArray} (h : ltB a b = true) : ltB b a = false := less_asymm _ _ h
theorem ltB_tri {a b : ByteArray} (h1 : ltB a b = false) (h2 : ltB b a = false) : a = b := bytes_inj (less_tri _ _ h1 h2)
def plc (v : Int × Int × Int) : Int := 1000 * v.2.1 + v.2.2
def RelLt (a b : RelL) : Prop := ltB a.path b.path = true ∨ (a.path = b.path ∧ plc a.ver < plc b.ver)
theorem RelLt.trans {a b c : RelL} (h1 : RelLt a b) (h2 : RelLt b c) : RelLt a c := by
  rcases h1 with h1 | ⟨e1, h1⟩
  · rcases h2 with h2 | ⟨e2, h2⟩
    · exact .inl (ltB_trans h1 h2)
    · exact .inl (e2 ▸ h1)
  · rcases h2 with h2 | ⟨e2, h2⟩
    · exact .inl (e1 ▸ h2)
    · exact .inr ⟨e1.trans e2, by omega⟩
structure RelOk (r : RelL) : Prop where
  line : (lineV r.path).2.2 = 0
  val : validB r.ver.1 r.ver.2.1 r.ver.2.2 = true
  maj : r.ver.1 = (lineV r.path).2.1
  reqs : checkReqs r.reqs = 0
theorem relE_ok {r : RelL} (h : relE r = 0) : RelOk r := by
  unfold relE at h
  split at h
  · exact absurd h (by decide)
  · rename_i h1
    split at h
    · exact absurd h (by decide)
    · rename_i h2
      split at h
      · rename_i h3; exact absurd h h3
      · rename_i h3
        rw [Bool.not_eq_false, Bool.and_eq_true] at h2
        exact ⟨Classical.not_not.1 h1, h2.1, of_decide_eq_true h2.2, Classical.not_not.1 h3⟩
theorem partB_iff (a : Int) : partB a = true ↔ 0 ≤ a ∧ a ≤ 999 := by unfold partB; exact decide_eq_true_iff
theorem validB_iff (a b c : Int) : validB a b c = true ↔ (0 ≤ a ∧ a ≤ 999) ∧ (0 ≤ b ∧ b ≤ 999) ∧ 0 ≤ c ∧ c ≤ 999 := by
  unfold validB
  rw [Bool.and_eq_true, Bool.and_eq_true, partB_iff, partB_iff, partB_iff]
theorem RelOk.plc {r : RelL} (h : RelOk r) : 0 ≤ plc r.ver ∧ plc r.ver < 1000000 := by
  have := (validB_iff _ _ _).1 h.val
  unfold Go.Proofs.YtenfkejbndifdaaGreatDoor.plc
  omega
theorem ver_eq {a b : RelL} (ha : RelOk a) (hb : RelOk b) (hp : a.path = b.path) (h : Go.Proofs.YtenfkejbndifdaaGreatDoor.plc a.ver = Go.Proofs.YtenfkejbndifdaaGreatDoor.plc b.ver) : keyL a = keyL b := by
  have h1 := (validB_iff _ _ _).1 ha.val
  have h2 := (validB_iff _ _ _).1 hb.val
  have h3 := ha.maj
  have h4 := hb.maj
  rw [hp] at h3
  unfold Go.Proofs.YtenfkejbndifdaaGreatDoor.plc at h
  unfold keyL
  rw [hp]
  congr 1
  refine Prod.ext (h3.trans h4.symm) (Prod.ext ?_ ?_) <;> omega
theorem rel_step {a b : RelL} (ha : RelOk a) (hb : RelOk b) (h : relE2 a b = 0) : RelLt a b := by
  unfold relE2 at h
  split at h
  · exact absurd h (by decide)
  · rename_i hk
    split at h
    · exact absurd h (by decide)
    · rename_i hc
      by_cases h1 : ltB a.path b.path = true
      · exact .inl h1
      · have h1 : ltB a.path b.path = false := by simpa using h1
        by_cases h2 : ltB b.path a.path = true
        · exfalso
          apply hc
          have : cmpS a.path b.path = 1 := by unfold cmpS; rw [if_neg (by rw [h1]; decide), if_pos h2]
          unfold cmpR
          rw [this, if_pos (by decide)]
          decide
        · have h2 : ltB b.path a.path = false := by simpa using h2
          have hp := ltB_tri h1 h2
          refine .inr ⟨hp, ?_⟩
          have h3 : cmpS a.path b.path = 0 := by unfold cmpS; rw [if_neg (by rw [h1]; decide), if_neg (by rw [h2]; decide)]
          unfold cmpR at hc
          rw [if_neg (by rw [h3]; exact fun h => h rfl)] at hc
          have v1 := (validB_iff _ _ _).1 ha.val
          have v2 := (validB_iff _ _ _).1 hb.val
          have hm : a.ver.1 = b.ver.1 := by rw [ha.maj, hb.maj, hp]
          have hne : Go.Proofs.YtenfkejbndifdaaGreatDoor.plc a.ver ≠ Go.Proofs.YtenfkejbndifdaaGreatDoor.plc b.ver := fun e => hk (ver_eq ha hb hp e)
          unfold Go.Proofs.YtenfkejbndifdaaGreatDoor.plc at hne ⊢
          unfold cmpV cmpI at hc
          rw [if_neg (by rw [hm]; simp)] at hc
          by_cases g1 : a.ver.2.1 < b.ver.2.1
          · omega
          · by_cases g2 : b.ver.2.1 < a.ver.2.1
            · rw [if_neg g1, if_pos g2] at hc
              exact absurd (by decide : (0 : Int) < 1) (by simp at hc)
            · rw [if_neg g1, if_neg g2] at hc
              simp only [ne_eq, not_true, if_false] at hc
              by_cases g3 : a.ver.2.2 < b.ver.2.2
              · omega
              · by_cases g4 : b.ver.2.2 < a.ver.2.2
                · rw [if_neg g3, if_pos g4] at hc
                  exact absurd (by decide : (0 : Int) < 1) hc
                · omega
structure IdxOk (X : List RelL) : Prop where
  len : X.length ≤ 256
  rel : ∀ i, i < X.length → RelOk (X.getD i default)
  ord : ∀ i j, i < j → j < X.length → RelLt (X.getD i default) (X.getD j default)
theorem idx_ok {X : List RelL} (h : checkX X = 0) : IdxOk X := by
  unfold checkX at h
  split at h
  · exact absurd h (by decide)
  · rename_i hl
    have h1 := firstE_zero h
    have hr : ∀ i, i < X.length → RelOk (X.getD i default) := fun i hi => by
      have h2 := h1 i hi
      unfold idxErr at h2
      by_cases e : relE (X.getD i default) = 0
      · exact relE_ok e
      · rw [if_pos e] at h2; exact absurd h2 e
    have hs : ∀ i, i + 1 < X.length → RelLt (X.getD i default) (X.getD (i + 1) default) := fun i hi => by
      have h2 := h1 (i + 1) hi
      unfold idxErr at h2
      by_cases e : relE (X.getD (i + 1) default) = 0
      · rw [if_neg (fun h => h e), if_neg (by omega)] at h2
        exact rel_step (hr i (by omega)) (hr (i + 1) hi) h2
      · rw [if_pos e] at h2; exact absurd h2 e
    refine ⟨by omega, hr, fun i j hij => ?_⟩
    obtain ⟨d, rfl⟩ : ∃ d, j = i + d + 1 := ⟨j - i - 1, by omega⟩
    clear hij
    induction d with
    | zero => exact fun hj => hs i hj
    | succ d ih => exact fun hj => (ih (by omega)).trans (hs (i + d + 1) hj)
theorem IdxOk.mono {X : List RelL} (h : IdxOk X) {i j : Nat} (hij : i ≤ j) (hj : j < X.length) (hp : (X.getD i default).path = (X.getD j default).path) : plc (X.getD i default).ver ≤ plc (X.getD j default).ver := by
  rcases Nat.lt_or_eq_of_le hij with h1 | h1
  · rcases h.ord i j h1 hj with h2 | ⟨_, h2⟩
    · rw [hp, ltB_irrefl] at h2; cases h2
    · omega
  · subst h1; exact Int.le_refl _
theorem IdxOk.inj {X : List RelL} (h : IdxOk X) {i j : Nat} (hi : i < X.length) (hj : j < X.length) (hk : keyL (X.getD i default) = keyL (X.getD j default)) : i = j := by
  have hp : (X.getD i default).path = (X.getD j default).path := congrArg (·.1) hk
  have hv : (X.getD i default).ver = (X.getD j default).ver := congrArg (·.2) hk
  have key : ∀ a b, a < b → b < X.length → (X.getD a default).path = (X.getD b default).path → (X.getD a default).ver = (X.getD b default).ver → False := fun a b hab hb h1 h2 => by
    rcases h.ord a b hab hb with h3 | ⟨_, h3⟩
    · rw [h1, ltB_irrefl] at h3; cases h3
    · rw [h2] at h3; omega
  rcases Nat.lt_trichotomy i j with h1 | h1 | h1
  · exact (key i j h1 hj hp hv).elim
  · exact h1
  · exact (key j i h1 hi hp.symm hv.symm).elim
theorem IdxOk.between {X : List RelL} (h : IdxOk X) {i j k : Nat} (hij : i ≤ j) (hjk : j ≤ k) (hk : k < X.length) (hp : (X.getD i default).path = (X.getD k default).path) : (X.getD j default).path = (X.getD i default).path := by
  rcases Nat.lt_or_eq_of_le hij with h1 | rfl
  · rcases Nat.lt_or_eq_of_le hjk with h2 | rfl
    · rcases h.ord i j h1 (by omega) with h3 | ⟨h3, _⟩
      · rcases h.ord j k h2 hk with h4 | ⟨h4, _⟩
        · have := ltB_trans h3 h4; rw [hp, ltB_irrefl] at this; cases this
        · rw [h4, ← hp, ltB_irrefl] at h3; cases h3
      · exact h3.symm
    · exact hp.symm
  · rfl
theorem findR_at {X : List RelL} (h : IdxOk X) {i : Nat} (hi : i < X.length) : findR X (keyL (X.getD i default)) = some (X.getD i default) := by
  unfold findR
  have hm : X.getD i default ∈ X := by rw [List.getD_eq_getElem?_getD, List.getElem?_eq_getElem hi]; exact List.getElem_mem hi
  cases hf : X.find? fun r => decide (keyL r = keyL (X.getD i default)) with
  | none => have := List.find?_eq_none.1 hf _ hm; simp at this
  | some r =>
    have h1 := List.find?_some hf
    have h2 := List.mem_of_find?_eq_some hf
    obtain ⟨j, hj, rfl⟩ := List.mem_iff_getElem.1 h2
    have e : X.getD j default = X[j] := by rw [List.getD_eq_getElem?_getD, List.getElem?_eq_getElem hj]; rfl
    have h3 : keyL X[j] = keyL (X.getD i default) := of_decide_eq_true h1
    rw [← e] at h3
    rw [← e, h.inj hj hi h3]
theorem findR_some {X : List RelL} {y : SelL} {r : RelL} (h : findR X y = some r) : ∃ i, i < X.length ∧ X.getD i default = r ∧ keyL r = y := by
  unfold findR at h
  have h1 := List.find?_some h
  have h2 := List.mem_of_find?_eq_some h
  obtain ⟨j, hj, rfl⟩ := List.mem_iff_getElem.1 h2
  exact ⟨j, hj, by rw [List.getD_eq_getElem?_getD, List.getElem?_eq_getElem hj]; rfl, of_decide_eq_true h1⟩
end Go.Proofs.YtenfkejbndifdaaGreatDoor
