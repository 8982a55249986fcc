/- A row of spans that is merged in place: what it holds. The library's SortFunc at spans. Contract of the constraint's Canonical. -/
import Derived.Test.YtnjiibiafhnmgaaGreatDoorYE
import Derived.Test.YtnjiibiafhnmgaaGreatDoorYA
import Derived.Test.YtnjiibiafhnmgaaGreatDoorQMore
import Derived.Test.YtnjiibiafhnmgaaGreatDoorQShelf
import Derived.Shelf.SlSortCmp.WholeK
import Derived.Sort.OwnSorted
namespace Go.Proofs.YtnjiibiafhnmgaaGreatDoor
set_option linter.unusedVariables false
set_option linter.unusedSimpArgs false
open Go Go.RowKit Go.Sort

def SpanAt (W : World) (g j : Nat) (x : Int × Int) : Prop := W.cell? ⟨g, j * 2, none⟩ = some (intC x.1) ∧ W.cell? ⟨g, j * 2 + 1, none⟩ = some (intC x.2)
def MidRow (g : Nat) (m d : List (Int × Int)) (i : Nat) (W : World) : Prop :=
  (∀ j x, m[j]? = some x → SpanAt W g j x) ∧ (∀ j x, i ≤ j → d[j]? = some x → SpanAt W g j x) ∧ (∀ o, W.frozen? ⟨g, o, none⟩ = false) ∧ g < W.heap.size ∧ (∀ j, j < d.length → ∃ x, SpanAt W g j x)

theorem SpanAt.alloc {W : World} {g j : Nat} {x : Int × Int} (h : SpanAt W g j x) (o : Obj) : SpanAt (W.alloc o) g j x := ⟨cellA o h.1, cellA o h.2⟩
theorem MidRow.alloc {g : Nat} {m d : List (Int × Int)} {i : Nat} {W : World} (h : MidRow g m d i W) (o : Obj) : MidRow g m d i (W.alloc o) := by
  obtain ⟨h1, h2, h3, h4, h5⟩ := h
  refine ⟨fun j x hx => (h1 j x hx).alloc o, fun j x hj hx => (h2 j x hj hx).alloc o, fun p => ?_, by simp; omega, fun j hj => ?_⟩
  · have e : (W.alloc o).heap[g]? = W.heap[g]? := Below.heap_alloc W o g h4
    have := h3 p
    unfold World.frozen? at this ⊢
    simp only [e]
    exact this
  · obtain ⟨x, hx⟩ := h5 j hj
    exact ⟨x, hx.alloc o⟩
theorem span_far {W : World} {g j k : Nat} {x : Int × Int} (h : SpanAt W g j x) {v : Value} (h1 : k ≠ j * 2) (h2 : k ≠ j * 2 + 1) : SpanAt (W.setCell ⟨g, k, none⟩ v) g j x :=
  ⟨(World.cell?_setCell_other _ _ _ _ (fun e => h1 (by injection e))).trans h.1, (World.cell?_setCell_other _ _ _ _ (fun e => h2 (by injection e))).trans h.2⟩
theorem size_setCell (W : World) (a : Addr) (v : Value) : (W.setCell a v).heap.size = W.heap.size := by simp
theorem MidRow.join {g : Nat} {pre d : List (Int × Int)} {y : Int × Int} {i : Nat} {W : World} (h : MidRow g (pre ++ [y]) d i W) (hi : pre.length < i) (z : Int) :
    MidRow g (pre ++ [(y.1, z)]) d (i + 1) (W.setCell ⟨g, pre.length * 2 + 1, none⟩ (intC z)) := by
  obtain ⟨h1, h2, h3, h4, h5⟩ := h
  have hy : SpanAt W g pre.length y := h1 _ _ (by simp)
  have hnew : SpanAt (W.setCell ⟨g, pre.length * 2 + 1, none⟩ (intC z)) g pre.length (y.1, z) :=
    ⟨(World.cell?_setCell_other _ _ _ _ (fun e => by injection e; omega)).trans hy.1, World.cell?_setCell_same _ _ _ hy.2⟩
  refine ⟨fun j x hx => ?_, fun j x hj hx => span_far (h2 j x (by omega) hx) (by omega) (by omega), fun o => by rw [World.frozen?_setCell]; exact h3 o, by rw [size_setCell]; exact h4, fun j hj => ?_⟩
  · rcases Nat.lt_trichotomy j pre.length with hj | hj | hj
    · rw [List.getElem?_append_left hj] at hx
      exact span_far (h1 j x (by rw [List.getElem?_append_left hj]; exact hx)) (by omega) (by omega)
    · subst hj
      have : x = (y.1, z) := by simpa using hx.symm
      rw [this]
      exact hnew
    · rw [List.getElem?_eq_none (by simp; omega)] at hx
      cases hx
  · by_cases hjp : j = pre.length
    · subst hjp; exact ⟨_, hnew⟩
    · obtain ⟨x, hx⟩ := h5 j hj
      exact ⟨x, span_far hx (by omega) (by omega)⟩
theorem MidRow.push {g : Nat} {m d : List (Int × Int)} {x : Int × Int} {i : Nat} {W : World} (h : MidRow g m d i W) (hi : m.length ≤ i) (hd : m.length < d.length) :
    MidRow g (m ++ [x]) d (i + 1) ((W.setCell ⟨g, m.length * 2, none⟩ (intC x.1)).setCell ⟨g, m.length * 2 + 1, none⟩ (intC x.2)) := by
  obtain ⟨h1, h2, h3, h4, h5⟩ := h
  obtain ⟨y, hy⟩ := h5 m.length hd
  have e1 : (W.setCell ⟨g, m.length * 2, none⟩ (intC x.1)).cell? ⟨g, m.length * 2, none⟩ = some (intC x.1) := World.cell?_setCell_same _ _ _ hy.1
  have e2 : (W.setCell ⟨g, m.length * 2, none⟩ (intC x.1)).cell? ⟨g, m.length * 2 + 1, none⟩ = some (intC y.2) := (World.cell?_setCell_other _ _ _ _ (fun e => by injection e; omega)).trans hy.2
  have hnew : SpanAt ((W.setCell ⟨g, m.length * 2, none⟩ (intC x.1)).setCell ⟨g, m.length * 2 + 1, none⟩ (intC x.2)) g m.length x :=
    ⟨(World.cell?_setCell_other _ _ _ _ (fun e => by injection e; omega)).trans e1, World.cell?_setCell_same _ _ _ e2⟩
  have far : ∀ j z, SpanAt W g j z → j ≠ m.length → SpanAt ((W.setCell ⟨g, m.length * 2, none⟩ (intC x.1)).setCell ⟨g, m.length * 2 + 1, none⟩ (intC x.2)) g j z :=
    fun j z hz hne => span_far (span_far hz (by omega) (by omega)) (by omega) (by omega)
  refine ⟨fun j z hz => ?_, fun j z hj hz => far j z (h2 j z (by omega) hz) (by omega), fun o => by rw [World.frozen?_setCell, World.frozen?_setCell]; exact h3 o, by rw [size_setCell, size_setCell]; exact h4, fun j hj => ?_⟩
  · rcases Nat.lt_trichotomy j m.length with hj | hj | hj
    · rw [List.getElem?_append_left hj] at hz
      exact far j z (h1 j z hz) (by omega)
    · subst hj
      have : z = x := by simpa using hz.symm
      rw [this]
      exact hnew
    · rw [List.getElem?_eq_none (by simp; omega)] at hz
      cases hz
  · by_cases hjp : j = m.length
    · subst hjp; exact ⟨_, hnew⟩
    · obtain ⟨z, hz⟩ := h5 j hj
      exact ⟨z, far j z hz hjp⟩
theorem MidRow.pushN {g : Nat} {m d : List (Int × Int)} {x : Int × Int} {i : Nat} {W : World} (h : MidRow g m d i W) (n : Nat) (hn : m.length = n) (hi : n ≤ i) (hd : n < d.length) (q : Nat) :
    MidRow g (m ++ [x]) d (i + 1) (((W.drewN q).setCell ⟨g, n * 2, none⟩ (intC x.1)).setCell ⟨g, n * 2 + 1, none⟩ (intC x.2)) := by
  subst hn
  exact MidRow.push (W := W.drewN q) h hi hd
theorem MidRow.start {B g cap n : Nat} {d : List (Int × Int)} {W : World} (h : W.ownsRow B 111 2 (.slice (some ⟨g, 0, none⟩) n cap) n (spanCells d)) : n = d.length ∧ MidRow g [] d 0 W ∧ B ≤ g ∧ n ≤ cap := by
  have hn : n = d.length := by have := h.1; rw [spanCells_length] at this; omega
  subst hn
  have hsp : ∀ j x, d[j]? = some x → SpanAt W g j x := fun j x hx => by
    have hj := (List.getElem?_eq_some_iff.1 hx).1
    exact ⟨by rw [h.cellAt (j * 2) (by omega)]; exact (spanCells_get d j x hx).1, by rw [h.cellAt (j * 2 + 1) (by omega)]; exact (spanCells_get d j x hx).2⟩
  rcases h.2 with ⟨h0, _⟩ | ⟨g', cap', cur, hv, hb, hg, hc, _⟩
  · cases h0
  · cases hv
    exact ⟨rfl, ⟨fun j x hx => by simp at hx, fun j x _ hx => hsp j x hx, fun o => by simp [World.frozen?, hg], (Array.getElem?_eq_some_iff.1 hg).1, fun j hj => ⟨d[j], hsp j _ (by simp [hj])⟩⟩, hb, hc⟩
theorem MidRow.edges {g c : Nat} {m d : List (Int × Int)} {i : Nat} {W : World} (h : MidRow g m d i W) : SpansOf W.heap.size (.slice (some ⟨g, 0, none⟩) m.length c) m W :=
  ⟨_, _, rfl, fun j x hx => ⟨g, 0, rfl, h.2.2.2.1, by rw [Nat.zero_add]; exact (h.1 j x hx).1, by rw [Nat.zero_add]; exact (h.1 j x hx).2⟩⟩
theorem mergeS_snoc (l : List (Int × Int)) (x : Int × Int) : mergeS (l ++ [x]) = joinS (mergeS l) x := by
  unfold mergeS
  rw [List.foldl_append]
  rfl
theorem mergeS_len (l : List (Int × Int)) : (mergeS l).length ≤ l.length := by
  have := foldl_len l []
  unfold mergeS
  simpa using this
theorem mergeS_pos (l : List (Int × Int)) (h : 0 < l.length) : 0 < (mergeS l).length := by
  rcases List.eq_nil_or_concat l with rfl | ⟨a, y, rfl⟩
  · simp at h
  · rw [List.concat_eq_append, mergeS_snoc]
    exact (join_len _ _).2
end Go.Proofs.YtnjiibiafhnmgaaGreatDoor

namespace Go.Proofs.YtnjiibiafhnmgaaGreatDoor
set_option linter.unusedVariables false
set_option linter.unusedSimpArgs false
open Go Go.RowKit Go.Sort Go.Lib

abbrev SpanP := { x : Int × Int // 0 ≤ x.1 ∧ x.1 ≤ 1000000 }
instance : Inhabited SpanP := ⟨⟨(0, 0), by decide, by decide⟩⟩
def encP (x : SpanP) : List Value := [intC x.1.1, intC x.1.2]
def cfP (x y : SpanP) : Int := x.1.1 - y.1.1
theorem ltP (x y : SpanP) : ltOf cfP x y = decide (x.1.1 < y.1.1) := by
  unfold ltOf cfP
  rw [Bool.eq_iff_iff, decide_eq_true_eq, decide_eq_true_eq]
  omega
theorem swoP : SWO (ltOf cfP) where
  irrefl x := by rw [ltP]; simp
  trans x y z h1 h2 := by rw [ltP] at *; simp at *; omega
  ntrans x y z h1 h2 := by rw [ltP] at *; simp at *; omega

set_option maxHeartbeats 1000000 in
theorem spanCmp_any (x y : SpanP) (W : World) : Calls Tryz.prog 226 #[.agg #[intC x.1.1, intC x.1.2], .agg #[intC y.1.1, intC y.1.2]] W fun e w' => e = .returned (.int .i64 (cfP x y)) ∧ ∃ q os', w' = grow (W.drewN q) os' := by
  obtain ⟨⟨x1, x2⟩, hx0, hx1⟩ := x
  obtain ⟨⟨y1, y2⟩, hy0, hy1⟩ := y
  simp only at hx0 hx1 hy0 hy1
  unfold cfP
  simp only
  go_enter Tryz.func226, Tryz.ntmps226
  go_wp2_with fail
  go_ret
  exact ⟨rfl, 0, _, by rw [alloc_eq_grow, alloc_eq_grow, grow_grow]; rfl⟩

theorem holds_of_blockV {w : World} {g : Nat} {cur : Array Value} {e : TypeId} {xs : List Value} (hb : w.heap[g]? = some (.cells cur e (0, 0))) (ht : cur.toList.take xs.length = xs) : Holds id w g 0 xs.toArray := by
  intro j hj
  have hj' : j < xs.length := by simpa using hj
  refine ⟨?_, by simp [World.frozen?, hb]⟩
  have h1 : (cur.toList.take xs.length)[j]? = xs[j]? := by rw [ht]
  rw [List.getElem?_take_of_lt hj'] at h1
  simp only [World.cell?, hb, Nat.zero_add]
  simp only [Option.isSome_none, Bool.false_eq_true, if_false]
  rw [← Array.getElem?_toList, h1]
  simp [hj']
theorem heap_putV {w : World} {g n : Nat} {os : Array Obj} {cur : Array Value} {e : TypeId} {fr : Nat × Nat} (d : Array Value) (hb : w.heap[g]? = some (.cells cur e fr)) :
    (grow (putRow id (Sort.ahead w n) g 0 d) os).heap[g]? = some (.cells (putCells id 0 d cur) e fr) := by
  have hg : g < w.heap.size := (Array.getElem?_eq_some_iff.1 hb).1
  rw [heap_grow_old _ _ (by simpa using hg)]
  simp [putRow, mapBlock, Sort.ahead, Array.getElem?_modify, hb, onCells]
theorem grownBy_putV {w : World} {g n : Nat} {os : Array Obj} (d : Array Value) : w.grownBy (grow (putRow id (Sort.ahead w n) g 0 d) os) (some g) := by
  refine ⟨rfl, rfl, rfl, by simp, fun k hk hne => ?_⟩
  rw [heap_grow_old _ _ (by simpa using hk)]
  have : g ≠ k := fun e => hne (by rw [e])
  simp [putRow, mapBlock, Sort.ahead, Array.getElem?_modify, this]
theorem take_putV (cur : Array Value) (ts : List Value) (h : ts.length ≤ cur.size) : (putCells id 0 ts.toArray cur).toList.take ts.length = ts := by
  apply List.ext_getElem?
  intro j
  by_cases hj : j < ts.length
  · rw [List.getElem?_take_of_lt hj, Array.getElem?_toList]
    simp [putCells, hj, show j < cur.size by omega]
  · rw [List.getElem?_take_eq_none (by omega), List.getElem?_eq_none (by omega)]
theorem flat_spans (d : Array SpanP) : flatK encP 2 d = (spanCells (d.toList.map (·.1))).toArray := by
  apply Array.ext
  · rw [size_flatK]; simp [spanCells_length]
  · intro t h1 h2
    rw [size_flatK] at h1
    have e : (flatK encP 2 d)[t] = (flatK encP 2 d)[t]! := (getElem!_pos _ t (by rw [size_flatK]; exact h1)).symm
    rw [e, get_flatK _ _ _ _ h1, List.getElem_toArray]
    have ht : t / 2 < d.size := by omega
    have hx : (d.toList.map (·.1))[t / 2]? = some (d[t / 2]).1 := by simp [ht]
    obtain ⟨ha, hb⟩ := spanCells_get _ _ _ hx
    rw [getElem!_pos d (t / 2) ht]
    rcases Nat.mod_two_eq_zero_or_one t with hm | hm
    · rw [hm]
      have : t / 2 * 2 = t := by omega
      rw [this] at ha
      exact (List.getElem_eq_iff h2).2 ha |>.symm
    · rw [hm]
      have : t / 2 * 2 + 1 = t := by omega
      rw [this] at hb
      exact (List.getElem_eq_iff h2).2 hb |>.symm

set_option maxRecDepth 100000 in
set_option maxHeartbeats 2000000 in
theorem sortFunc_spans (blk cap : Nat) (d : Array SpanP) (w : World) (hH : HoldsK encP 2 w blk 0 d) (hblk : blk < w.heap.size) (hsz : d.size < 4611686018427387904) :
    Calls Tryz.prog 225 #[.slice (some ⟨blk, 0, none⟩) d.size cap, .func (.func 226) #[] #[]] w fun e w' =>
      e = .returned (.tuple #[]) ∧ ∃ d' n os, PermIn 0 d.size d d' ∧ SortedIn (ltOf cfP) 0 d.size d' ∧ w' = sortWorldK encP 2 w blk 0 n d' os := by
  have eg : ∀ args w, (callFunc 226 args).run Tryz.prog w = .ok (.enter 226 args) w := enters_of Tryz.func226 (by kernel_rfl) rfl
  have hcmp : CmpLays Tryz.prog 226 #[] encP 2 cfP blk 0 d.size w := fun _ _ _ _ x y => spanCmp_any x y _
  have hk : ∀ x : SpanP, (encP x).length = 2 := fun _ => rfl
  have h1 : ∀ x : SpanP, ∀ v ∈ encP x, v.oneCell' = true := fun x v hv => by
    unfold encP at hv
    rcases List.mem_cons.1 hv with rfl | hv
    · rfl
    · rcases List.mem_cons.1 hv with rfl | hv
      · rfl
      · cases hv
  have hlim : Lib.bitLen d.size < 4611686018427387904 := Nat.lt_of_le_of_lt (Lib.bitLen_le d.size 62 (by omega) (by omega)) (by omega)
  have hp := AnyQ.pdqsortCmpFunc_all (P := Tryz.prog) (ρ := Tryz.pdqSpan_ren) Tryz.pdqSpan 2 Tryz.isAgg111 Tryz.sizeOf111 encP cfP 226 #[] swoP blk 0 cap d w eg hcmp ⟨hk, h1, hH, hblk⟩ (d.size + 1) 0 d.size (Lib.bitLen d.size) d w (by omega) rfl (SWK.start hH) (Nat.zero_le _) (Nat.le_refl _) hsz hlim (Or.inl rfl)
  change Calls Tryz.prog 236 _ _ _ at hp
  have hl : Calls Tryz.prog 95 #[.int .u64 (d.size : Int)] w fun e w' => e = .returned (.int .i64 (Lib.bitLen d.size : Nat)) ∧ w' = w := by
    have h := Tryz.bits_Len (d.size : Int) w (by omega) (by omega)
    rwa [Int.toNat_natCast] at h
  have wr : IntKind.u64.wrap (d.size : Int) = d.size := by simp [IntKind.wrap, IntKind.bits, IntKind.signed]; omega
  have HP := Lib.hid hp
  have HL := Lib.hid hl
  clear hH hcmp hk h1 hp hl eg
  go_enter Tryz.func225, Tryz.ntmps225
  go_wp2_with fail
  refine HL.out.mono ?_
  rintro e w' ⟨rfl, rfl⟩
  go_wp2_with fail
  refine HP.out.mono ?_
  rintro e w' ⟨rfl, n, os, rfl⟩
  go_wp2_with fail
  go_end0
  have h := pdq_sorts (ltOf cfP) swoP d 0 d.size (Lib.bitLen d.size) true true (Nat.zero_le _) (Nat.le_refl _) (Or.inl rfl)
  exact ⟨rfl, _, n, os, h.1, h.2, rfl⟩

set_option maxHeartbeats 1000000 in
theorem insSpan_none (p : Option Addr) (cap : Nat) (fv : Value) (w : World) :
    Calls Tryz.prog 243 #[.slice p 0 cap, .int .i64 0, .int .i64 0, fv] w fun e w' => e = .returned (.tuple #[]) ∧ w' = w := by
  go_enter Tryz.func243, Tryz.ntmps243
  go_wp2_with fail
  go_loopw [8] (fun i wr => i = .int .i64 1 ∧ wr = w) (fun _ _ => 0)
  case atStart => exact ⟨rfl, rfl⟩
  case round =>
    obtain ⟨rfl, rfl⟩ := hrel
    go_wp2_with fail
    go_end0
    exact ⟨rfl, rfl⟩
set_option maxHeartbeats 1000000 in
theorem pdqSpan_none (p : Option Addr) (cap : Nat) (lim : Int) (fv : Value) (w : World) :
    Calls Tryz.prog 236 #[.slice p 0 cap, .int .i64 0, .int .i64 0, .int .i64 lim, fv] w fun e w' => e = .returned (.tuple #[]) ∧ w' = w := by
  have HI := Lib.hid (insSpan_none p cap fv w)
  go_enter Tryz.func236, Tryz.ntmps236
  go_wp2_with fail
  go_loopw [1, 2, 3, 10, 11] (fun x y l b1 b2 wr => x = .int .i64 0 ∧ y = .int .i64 0 ∧ l = .int .i64 lim ∧ b1 = .bool true ∧ b2 = .bool true ∧ wr = w) (fun _ _ _ _ _ _ => 0)
  case atStart => exact ⟨rfl, rfl, rfl, rfl, rfl, rfl⟩
  case round =>
    obtain ⟨rfl, rfl, rfl, rfl, rfl, rfl⟩ := hrel
    go_wp2_with fail
    refine HI.out.mono ?_
    rintro e w' ⟨rfl, rfl⟩
    go_wp2_with fail
    refine bodyPost_ret (results_none rfl _ _ _) rfl ?_
    exact ⟨rfl, rfl⟩

def toP (x : Int × Int) : SpanP := if h : 0 ≤ x.1 ∧ x.1 ≤ 1000000 then ⟨x, h⟩ else default
theorem toP_val {x : Int × Int} (h : 0 ≤ x.1 ∧ x.1 ≤ 1000000) : (toP x).1 = x := by unfold toP; rw [dif_pos h]
theorem sort_spans (B : Nat) (v : Value) (l : List (Int × Int)) (w : World) (h : w.ownsRow B 111 2 v l.length (spanCells l)) (hl : l.length ≤ 1000000000) (hb : ∀ x ∈ l, 0 ≤ x.1 ∧ x.1 ≤ 1000000) :
    Calls Tryz.prog 225 #[v, .func (.func 226) #[] #[]] w fun e w' => e = .returned (.tuple #[]) ∧
      ∃ l' : List (Int × Int), l'.Perm l ∧ l'.Pairwise (fun a b => a.1 ≤ b.1) ∧ w.grownBy w' v.ownBlock ∧ w'.ownsRow B 111 2 v l.length (spanCells l') := by
  rcases h.2 with ⟨rfl, h0⟩ | ⟨g, cap, cur, rfl, hbg, hg, hc, hcm, hcs, ht⟩
  · obtain rfl : l = [] := List.length_eq_zero_iff.1 h0
    have hl : Calls Tryz.prog 95 #[.int .u64 0] w fun e w' => e = .returned (.int .i64 ((Lib.bitLen 0 : Nat) : Int)) ∧ w' = w := Tryz.bits_Len 0 w (by omega) (by omega)
    have hp := pdqSpan_none none 0 ((Lib.bitLen 0 : Nat) : Int) (.func (.func 226) #[] #[]) w
    have HL := Lib.hid hl
    have HP := Lib.hid hp
    clear hl hp h0 hb
    go_enter Tryz.func225, Tryz.ntmps225
    go_wp2_with fail
    refine HL.out.mono ?_
    rintro e w' ⟨rfl, rfl⟩
    go_wp2_with fail
    refine HP.out.mono ?_
    rintro e w' ⟨rfl, rfl⟩
    go_wp2_with fail
    go_end0
    exact ⟨rfl, [], List.Perm.refl _, List.Pairwise.nil, World.grownBy.refl _ _, World.ownsRow_nil _ _ _ _⟩
  · have hmap : (l.map toP).map (·.1) = l := by
      rw [List.map_map]
      have : ∀ x ∈ l, ((fun y : SpanP => y.1) ∘ toP) x = x := fun x hx => toP_val (hb x hx)
      rw [List.map_congr_left this, List.map_id']
    have hfl : flatK encP 2 (l.map toP).toArray = (spanCells l).toArray := by
      rw [flat_spans, List.toList_toArray, hmap]
    have hsz : (l.map toP).toArray.size = l.length := by simp
    have hH : HoldsK encP 2 w g 0 (l.map toP).toArray := by
      unfold HoldsK
      rw [hfl]
      exact holds_of_blockV hg (by rw [spanCells_length]; exact ht)
    have hcon := sortFunc_spans g cap (l.map toP).toArray w hH (Array.getElem?_eq_some_iff.1 hg).1 (by rw [hsz]; omega)
    rw [hsz] at hcon
    refine hcon.mono ?_
    rintro e w' ⟨rfl, d', n, os, hp, hs, rfl⟩
    obtain ⟨hps, _, hperm⟩ := hp
    rw [hsz] at hps
    have hpl : (d'.toList.map (·.1)).Perm l := by
      have e1 : (d'.extract 0 l.length) = d' := by rw [← hps]; exact Array.extract_size
      have e2 : ((l.map toP).toArray.extract 0 l.length) = (l.map toP).toArray := by rw [← hsz]; exact Array.extract_size
      rw [e1, e2, List.toList_toArray] at hperm
      have := hperm.map (·.1)
      rwa [hmap] at this
    refine ⟨rfl, d'.toList.map (·.1), hpl, ?_, grownBy_putV _, ?_⟩
    · rw [List.pairwise_iff_getElem]
      intro i j hi hj hij
      rw [List.length_map, Array.length_toList] at hi hj
      have := hs i j (Nat.zero_le _) hij (by omega)
      rw [ltP, getElem!_pos d' i hi, getElem!_pos d' j hj] at this
      have := of_decide_eq_false this
      simp
      omega
    · unfold sortWorldK putRowK
      rw [flat_spans]
      have hel : (spanCells (d'.toList.map (·.1))).length = l.length * 2 := by rw [spanCells_length, List.length_map, Array.length_toList, hps]
      exact ⟨hel, .inr ⟨g, cap, _, rfl, hbg, heap_putV _ hg, hc, hcm, by simp [putCells, hcs], by rw [← hel]; exact take_putV _ _ (by rw [hel]; omega)⟩⟩
end Go.Proofs.YtnjiibiafhnmgaaGreatDoor

namespace Go.Proofs.YtnjiibiafhnmgaaGreatDoor
set_option linter.unusedVariables false
set_option linter.unusedSimpArgs false
open Go Go.RowKit Go.Sort

theorem clampS_snoc (l : List (Int × Int)) (x : Int × Int) : clampS (l ++ [x]) = if (clamp x).1 < (clamp x).2 then clampS l ++ [clamp x] else clampS l := by
  unfold clampS
  rw [List.map_append, List.filter_append]
  by_cases h : (clamp x).1 < (clamp x).2 <;> simp [h]

set_option maxRecDepth 100000 in
set_option maxHeartbeats 4000000 in
theorem Canonical_new (v : Value) (s : List (Int × Int)) (w : World) (hs : s.length ≤ 1000000000) (hE : SpansOf w.heap.size v s w) :
    Calls Tryz.prog 216 #[v] w fun e w' => ∃ v', e = .returned v' ∧ SpansOf w'.heap.size v' (canon s) w' ∧ Below w.heap.size w w' ∧ ∀ b, v'.ownBlock = some b → w.heap.size ≤ b := by
  obtain ⟨ao, ec, rfl, hE⟩ := hE
  have HE := Lib.hid hE
  clear hE
  obtain ⟨i0, hi0', hz0, hz1, hz2⟩ := info_parts info_spans
  go_enter Tryz.func216, Tryz.ntmps216
  go_wp2_with fail
  go_loopw [3, 11] (fun o p wr => ∃ (k : Nat), k ≤ s.length ∧ p = .int .i64 k ∧ Hid (wr.ownsRow w.heap.size 111 2 o (clampS (s.take k)).length (spanCells (clampS (s.take k)))) ∧ Hid (Below w.heap.size w wr)) (fun _ p _ => s.length - (intOf p).toNat)
  case atStart => exact ⟨0, by omega, rfl, Lib.hid (World.ownsRow_nil _ _ _ _), Lib.hid (Below.refl _ _)⟩
  case round =>
    obtain ⟨k, hk, rfl, HO, HB⟩ := hrel
    have hszr := HB.out.size
    by_cases hlt : k < s.length
    · obtain ⟨b, off, rfl, hb, hc1, hc2⟩ := HE.out k s[k] (by simp [hlt])
      have hc1 := (HB.out.cell (p := ⟨b, off + k * 2, none⟩) hb).trans hc1
      have hc2 := (HB.out.cell (p := ⟨b, off + k * 2 + 1, none⟩) hb).trans hc2
      have HT : Hid (clampS (s.take (k + 1)) = if (clamp s[k]).1 < (clamp s[k]).2 then clampS (s.take k) ++ [clamp s[k]] else clampS (s.take k)) := Lib.hid (by rw [List.take_succ_eq_append_getElem hlt, clampS_snoc])
      have hlen : (clampS (s.take k)).length ≤ k := Nat.le_trans (clampS_len _) (List.length_take_le _ _)
      obtain ⟨⟨x1, x2⟩, hx⟩ : ∃ x, x = s[k] := ⟨_, rfl⟩
      rw [← hx] at hc1 hc2 HT
      clear hx
      simp only at hc1 hc2
      generalize clampS (s.take k) = cs at *
      by_cases hin : (clamp (x1, x2)).1 < (clamp (x1, x2)).2
      · have hin2 : max x1 0 < min x2 1000000 := hin
        have HB2 : Hid (∀ W1, ((wr.alloc (.cells #[intC (max x1 0), intC (min x2 1000000)] 111)).alloc (.cells #[intC (max x1 0), intC (min x2 1000000)] 111)).grownBy W1 u3.ownBlock → Below w.heap.size w W1) := Lib.hid (fun W1 hg => ((HB.out.alloc hszr _).alloc (by simp; omega) _).grown hg (by simp; omega) (fun b hb => (HO.out.lt b hb).1))
        go_wp2_with (at_builtin; refine wpList_append_own _ rfl _ _ 98 rfl w.heap.size 111 i0 _ 2 16 Tryz.underlying98 hi0' hz0 hz1 hz2 rfl (by decide) u3 cs.length _ (by rfl) ((HO.out.alloc _).alloc _) ⟨wr.heap.size + 1, 0, none⟩ 1 1 [intC (max x1 0), intC (min x2 1000000)] (by rfl) (by rfl) (World.news_of_block (cs := #[intC (max x1 0), intC (min x2 1000000)]) (t := 111) (fr := (0, 0)) (by have := heap_alloc_new (wr.alloc (.cells #[intC (max x1 0), intC (min x2 1000000)] 111)) (.cells #[intC (max x1 0), intC (min x2 1000000)] 111); rw [World.size_alloc] at this; exact this)) (by simp [Value.oneCell']) (by unfold maxLen; omega) (by omega) (by simp; omega) ?_; intro v' w3 hown' hgrow _; have HOW2 := Lib.hid hown'; have HBB2 := Lib.hid (HB2.out _ hgrow); clear hown' hgrow; obtain ⟨gg, cap, rfl⟩ := ownsRow_succ HOW2.out)
        go_roundw
        case rel =>
          refine ⟨k + 1, by omega, by go_num, Lib.hid ?_, HBB2⟩
          rw [HT.out, if_pos hin, spanCells_snoc, List.length_append]
          exact HOW2.out
        case measure => simp [intOf]; omega
      · have hin2 : ¬ max x1 0 < min x2 1000000 := hin
        go_wp2_with fail
        go_roundw
        case rel =>
          refine ⟨k + 1, by omega, by go_num, Lib.hid ?_, Lib.hid (HB.out.alloc hszr _)⟩
          rw [HT.out, if_neg hin]
          exact HO.out.alloc _
        case measure => simp [intOf]; omega
    · have hkk : k = s.length := by omega
      subst hkk
      rw [List.take_length] at HO
      have hcl : (clampS s).length ≤ s.length := clampS_len s
      have hs2 := sort_spans w.heap.size u3 (clampS s) wr HO.out (by omega) (fun x hx => by have := clampS_mem hx; omega)
      have HS2 := Lib.hid hs2
      have hvs : ∃ a n c, u3 = .slice a n c := by
        rcases HO.out.2 with ⟨rfl, _⟩ | ⟨g, cap, cur, rfl, _⟩
        · exact ⟨_, _, _, rfl⟩
        · exact ⟨_, _, _, rfl⟩
      obtain ⟨va, vn, vc, rfl⟩ := hvs
      clear hs2
      go_wp2_with fail
      refine HS2.out.mono ?_
      rintro e w4 ⟨rfl, d, hp, hsd, hg4, ho4⟩
      have HP := Lib.hid hp
      have HSD := Lib.hid hsd
      have HB4 : Hid (Below w.heap.size w w4) := Lib.hid (HB.out.grown hg4 hszr (fun b hb => (HO.out.lt b hb).1))
      have hdl : d.length = (clampS s).length := hp.length_eq
      have HDL := Lib.hid hdl
      have hdl2 : d.length ≤ s.length := by omega
      have hE5 : va = none ∧ vn = 0 ∧ vc = 0 ∧ d = [] ∨ ∃ g, va = some ⟨g, 0, none⟩ := by
        rcases ho4.2 with ⟨h1, h2⟩ | ⟨g, cap, cur, h1, _⟩
        · cases h1
          exact .inl ⟨rfl, rfl, rfl, List.length_eq_zero_iff.1 (by omega)⟩
        · cases h1
          exact .inr ⟨g, rfl⟩
      rcases hE5 with ⟨rfl, rfl, rfl, rfl⟩ | ⟨g, rfl⟩
      · have HC : Hid ([] = canon s) := Lib.hid (merge_canon HP.out List.Pairwise.nil)
        clear HO HB HS2 hp hsd hg4 ho4 hdl HDL hszr
        go_wp2_with fail
        go_loopw [6, 36] (fun n p wr => p = .int .i64 0 ∧ n = .int .i64 0 ∧ Hid (Below w.heap.size w wr)) (fun _ _ _ => 0)
        case atStart => exact ⟨rfl, rfl, HB4⟩
        case round =>
          clear HB4
          obtain ⟨rfl, rfl, HB⟩ := hrel
          go_wp2_with fail
          go_ret
          exact ⟨_, rfl, by rw [← HC.out]; exact ⟨none, 0, rfl, fun i x hx => by simp at hx⟩, HB.out, fun b hb => by simp [Value.ownBlock] at hb⟩
      · have ho5 : w4.ownsRow w.heap.size 111 2 (.slice (some ⟨g, 0, none⟩) vn vc) vn (spanCells d) := by
          have e : vn = (clampS s).length := by
            rcases ho4.2 with ⟨h1, _⟩ | ⟨g', cap', cur', h1, _⟩
            · cases h1
            · cases h1; rfl
          rw [e] at ho4 ⊢
          exact ho4
        have hst := MidRow.start ho5
        clear ho5
        obtain ⟨hvn, hmid, hgb, hcap⟩ := hst
        subst hvn
        have HM := Lib.hid hmid
        clear HO HB HS2 hp hsd hg4 ho4 hdl hszr hmid
        go_wp2_with fail
        go_loopw [6, 36] (fun n p wr => ∃ (i : Nat), i ≤ d.length ∧ p = .int .i64 i ∧ n = .int .i64 ((mergeS (d.take i)).length : Nat) ∧ Hid (MidRow g (mergeS (d.take i)) d i wr) ∧ Hid (Below w.heap.size w wr)) (fun _ p _ => d.length - (intOf p).toNat)
        case atStart => exact ⟨0, by omega, rfl, rfl, HM, HB4⟩
        case round =>
          clear HM HB4
          obtain ⟨i, hi, rfl, rfl, HM, HB⟩ := hrel
          by_cases hlt : i < d.length
          · have hml := mergeS_len (d.take i)
            have hml2 : (d.take i).length = i := by rw [List.length_take]; omega
            have HJ : Hid (mergeS (d.take (i + 1)) = joinS (mergeS (d.take i)) d[i]) := Lib.hid (by rw [List.take_succ_eq_append_getElem hlt, mergeS_snoc])
            have hpos : 0 < i → 0 < (mergeS (d.take i)).length := fun h => mergeS_pos _ (by omega)
            have hzero : i = 0 → mergeS (d.take i) = [] := fun h => by subst h; rfl
            obtain ⟨hc1, hc2⟩ := HM.out.2.1 i d[i] (Nat.le_refl _) (by simp [hlt])
            obtain ⟨⟨x1, x2⟩, hx⟩ : ∃ x, x = d[i] := ⟨_, rfl⟩
            rw [← hx] at hc1 hc2 HJ
            clear hx
            simp only at hc1 hc2
            have HM2 := Lib.hid (HM.out.alloc (.cells #[intC x1, intC x2] 111))
            have hszr := HB.out.size
            have HB2 := Lib.hid (HB.out.alloc hszr (.cells #[intC x1, intC x2] 111))
            generalize mergeS (d.take i) = m at *
            by_cases hi0 : 0 < i
            · rcases List.eq_nil_or_concat m with rfl | ⟨pre, y, rfl⟩
              · exact absurd (hpos hi0) (by simp)
              · rw [List.concat_eq_append] at *
                rw [joinS_snoc] at HJ
                simp only [List.length_append, List.length_singleton] at hml ⊢
                have hcy := (HM2.out.1 pre.length y (by simp)).2
                have hfy := HM2.out.2.2.1 (pre.length * 2 + 1)
                have hi1 : (0 : Int) < (i : Int) := by omega
                have hn1 : IntKind.i64.wrap (((pre.length + 1 : Nat) : Int) - 1) = (pre.length : Int) := by rw [IntWalk.i64_in _ (by omega)]; omega
                have hn2 : IntKind.i64.wrap ((pre.length : Int) + 1 - 1) = (pre.length : Int) := by rw [IntWalk.i64_in _ (by omega)]; omega
                have hn3 : (pre.length : Int) < (d.length : Int) := by omega
                have hn4 : (0 : Int) ≤ (pre.length : Int) := by omega
                have hi2 : decide (0 < i) = true := decide_eq_true hi0
                clear hpos hzero
                by_cases hle : x1 ≤ y.2
                · go_wp2_with fail
                  go_quiet (fail)
                  go_wp2_with fail
                  go_region
                  go_wp2_with fail
                  go_roundw
                  case rel =>
                    refine ⟨i + 1, by omega, by go_num, ?_, Lib.hid ?_, Lib.hid ?_⟩
                    · rw [HJ.out, if_pos hle]; simp
                    · rw [HJ.out, if_pos hle]
                      exact MidRow.join HM2.out (by omega) _
                    · exact (below_drewN HB2.out _).setCell hgb _
                  case measure => simp [intOf]; omega
                · have HNL := Lib.hid hle
                  obtain ⟨z, hz1, hz2⟩ := HM2.out.2.2.2.2 (pre.length + 1) (by omega)
                  have hf1 := HM2.out.2.2.1 ((pre.length + 1) * 2)
                  have hf2 := HM2.out.2.2.1 ((pre.length + 1) * 2 + 1)
                  go_wp2_with fail
                  go_quiet (fail)
                  go_wp2_with fail
                  go_roundw
                  case rel =>
                    refine ⟨i + 1, by omega, by go_num, ?_, Lib.hid ?_, Lib.hid ?_⟩
                    · rw [HJ.out, if_neg (Int.not_le.2 HNL.out)]; simp; try omega
                    · rw [HJ.out, if_neg (Int.not_le.2 HNL.out)]
                      exact HM2.out.pushN (x := (x1, x2)) (pre.length + 1) (by simp) (by omega) (by omega) _
                    · exact ((below_drewN HB2.out _).setCell hgb _).setCell hgb _
                  case measure => simp [intOf]; omega
            · obtain rfl : i = 0 := by omega
              obtain rfl : m = [] := hzero rfl
              rw [joinS_nil] at HJ
              obtain ⟨z, hz1, hz2⟩ := HM2.out.2.2.2.2 0 (by omega)
              have hf1 := HM2.out.2.2.1 (0 * 2)
              have hf2 := HM2.out.2.2.1 (0 * 2 + 1)
              simp only [Nat.zero_mul, Nat.zero_add] at hz1 hz2 hf1 hf2 hc1 hc2
              clear hpos hzero
              go_wp2_with fail
              go_quiet (fail)
              go_wp2_with fail
              go_roundw
              case rel =>
                refine ⟨1, by omega, by go_num, ?_, Lib.hid ?_, Lib.hid ?_⟩
                · rw [HJ.out]; rfl
                · rw [HJ.out]
                  exact HM2.out.pushN (x := (x1, x2)) 0 rfl (by omega) (by omega) _
                · exact ((below_drewN HB2.out _).setCell hgb _).setCell hgb _
              case measure => simp [intOf]; omega
          · have hii : i = d.length := by omega
            subst hii
            rw [List.take_length] at HM
            have HC : Hid (mergeS d = canon s) := Lib.hid (merge_canon HP.out HSD.out)
            have hml := mergeS_len d
            go_wp2_with fail
            go_ret
            exact ⟨_, rfl, by rw [← HC.out]; exact HM.out.edges, HB.out, fun b hb => by simp [Value.ownBlock] at hb; omega⟩
theorem Canonical_any (v : Value) (s : List (Int × Int)) (w : World) (hs : s.length ≤ 1000000000) (hE : SpansOf w.heap.size v s w) :
    Calls Tryz.prog 216 #[v] w fun e w' => ∃ v', e = .returned v' ∧ SpansOf w'.heap.size v' (canon s) w' ∧ Below w.heap.size w w' :=
  (Canonical_new v s w hs hE).mono fun e w' ⟨v', h1, h2, h3, _⟩ => ⟨v', h1, h2, h3⟩
end Go.Proofs.YtnjiibiafhnmgaaGreatDoor

namespace Go.Proofs.YtnjiibiafhnmgaaGreatDoor
set_option linter.unusedVariables false
set_option linter.unusedSimpArgs false
open Go Go.RowKit

def leastV (s : List (Int × Int)) : Int × Bool := match canon s with
  | [] => (0, false)
  | x :: _ => (x.1, true)
def greatV (s : List (Int × Int)) : Int × Bool := match (canon s).getLast? with
  | none => (0, false)
  | some x => (x.2 - 1, true)
def upB (c : List (Int × Int)) : Bool := match c with
  | [] => true
  | [x] => decide (x.2 = 1000000)
  | _ => false
end Go.Proofs.YtnjiibiafhnmgaaGreatDoor
