/- The table of an index: its releases by what names them. Contracts of the reference's FewRequirements and FewReleases. -/
import Derived.Test.YtenfkejbndifdaaGreatDoorUH
import Derived.Test.YtenfkejbndifdaaGreatDoorUF
import Derived.DeepKeys4
import Derived.Laws.Rows
import Derived.Test.YtenfkejbndifdaaGreatDoorUE
import Derived.Test.YtenfkejbndifdaaGreatDoorUA
import Derived.Test.YtenfkejbndifdaaGreatDoorUD
namespace Go.Proofs.YtenfkejbndifdaaGreatDoor
set_option linter.unusedVariables false
set_option linter.unusedSimpArgs false
open Go Go.RowKit Go.Maps

theorem laidOutM : laidOutB Tryz.prog = true := by kernel_rfl
set_option maxRecDepth 100000 in
theorem rowSel : (43 : TypeId) < Tryz.prog.types.size := of_decide_eq_true (by kernel_rfl)
theorem wideSel : (match Tryz.prog.underlying 43 with | some (.array _ _) | some (.struct _) => true | _ => false) = true := by rw [Tryz.underlying43]
set_option maxRecDepth 100000 in
theorem lawSel : Keyed Tryz.prog 43 := Keyed.of_law (deep_law_laid laidOutM (m := 3) (by omega) rowSel (by kernel_rfl) wideSel)
def IntOk (a : Int) : Prop := -9223372036854775808 ≤ a ∧ a ≤ 9223372036854775807
structure SelBd (y : SelL) : Prop where
  path : y.1.size ≤ maxLen
  v1 : IntOk y.2.1
  v2 : IntOk y.2.2.1
  v3 : IntOk y.2.2.2
theorem wfI64 {a : Int} (h : IntOk a) : (Lit.int .i64 a).wf = true := by
  unfold IntOk at h
  simp [Lit.wf, IntKind.min, IntKind.max, IntKind.signed, IntKind.bits]
  omega
set_option maxRecDepth 100000 in
theorem key_sel (y : SelL) (h : SelBd y) : ∃ l, keyOf Tryz.prog 43 (Value.agg #[.string y.1, intC y.2.1, intC y.2.2.1, intC y.2.2.2]) = some l := by
  unfold keyOf
  have hf : (Value.agg #[.string y.1, intC y.2.1, intC y.2.2.1, intC y.2.2.2]).formed Tryz.prog 43 = true := by simp [Value.formed, Tryz.underlying43]; kernel_rfl
  have hkt : Tryz.prog.keyType 43 = true := by kernel_rfl
  simp only [Tryz.underlying43, hf, hkt, Bool.and_true, if_true]
  have : ∃ ls, Tryz.prog.keyLits (Tryz.prog.types.size + 1) 43 (Value.agg #[.string y.1, intC y.2.1, intC y.2.2.1, intC y.2.2.2]).cells.toList = some ls := by
    have h2 : 3 ≤ Tryz.prog.types.size := of_decide_eq_true (by kernel_rfl)
    obtain ⟨n, hn⟩ : ∃ n, Tryz.prog.types.size + 1 = n + 4 := ⟨Tryz.prog.types.size - 3, by omega⟩
    rw [hn]
    have c9 : Tryz.prog.cellsOf 9 = 1 := by kernel_rfl
    have c3 : Tryz.prog.cellsOf 3 = 1 := by kernel_rfl
    have c41 : Tryz.prog.cellsOf 41 = 3 := by kernel_rfl
    have c43 : Tryz.prog.cellsOf 43 = 4 := by kernel_rfl
    simp [Program.keyLits, Tryz.underlying43, Tryz.underlying41, Tryz.underlying9, Tryz.underlying3, c9, c3, c41, c43, Value.cells, wfI64 h.v1, wfI64 h.v2, wfI64 h.v3, h.path]
    rw [if_pos (by
      intro i hi
      obtain rfl | rfl | rfl : i = 0 ∨ i = 1 ∨ i = 2 := by omega
      all_goals simp)]
    exact ⟨_, rfl⟩
  obtain ⟨ls, hls⟩ := this
  rw [hls]
  exact ⟨_, rfl⟩
theorem selC_inj {a b : SelL} (h : (Value.agg (selC a).toArray) = .agg (selC b).toArray) : a = b := by
  injection h with h
  have h := congrArg Array.toList h
  simp [selC] at h
  exact Prod.ext h.1 (Prod.ext h.2.1 (Prod.ext h.2.2.1 h.2.2.2))
noncomputable def keyS (y : SelL) : Lit := (keyOf Tryz.prog 43 (.agg (selC y).toArray)).getD (.bool false)
theorem keyS_of {y : SelL} (h : SelBd y) : keyOf Tryz.prog 43 (.agg (selC y).toArray) = some (keyS y) := by
  obtain ⟨l, hl⟩ := key_sel y h
  have hl : keyOf Tryz.prog 43 (.agg (selC y).toArray) = some l := hl
  unfold keyS
  rw [hl]
  rfl
theorem keyS_inj {a b : SelL} (ha : SelBd a) (hb : SelBd b) (h : keyS a = keyS b) : a = b := by
  have h1 := keyS_of ha
  have h2 := keyS_of hb
  rw [← h] at h2
  exact selC_inj (lawSel.inj h1 h2)
def lookK (X : List RelL) (k : Nat) (y : SelL) : Option Nat := (List.range k).find? fun i => decide (keyL (X.getD i default) = y)
theorem lookK_succ {X : List RelL} (hX : IdxOk X) {k : Nat} (hk : k < X.length) (y : SelL) : lookK X (k + 1) y = if keyL (X.getD k default) = y then some k else lookK X k y := by
  unfold lookK
  rw [List.range_succ, List.find?_append]
  by_cases h : keyL (X.getD k default) = y
  · rw [if_pos h]
    have : (List.range k).find? (fun i => decide (keyL (X.getD i default) = y)) = none := List.find?_eq_none.2 fun i hi => by
      intro e
      have e := of_decide_eq_true e
      have hi := List.mem_range.1 hi
      have := hX.inj (by omega) hk (e.trans h.symm)
      omega
    have h2 : [k].find? (fun i => decide (keyL (X.getD i default) = y)) = some k := by rw [List.find?_cons_of_pos (by simpa only [decide_eq_true_eq] using h)]
    rw [this, h2]
    rfl
  · rw [if_neg h]
    have : [k].find? (fun i => decide (keyL (X.getD i default) = y)) = none := by rw [List.find?_cons_of_neg (by simpa only [decide_eq_true_eq] using h)]; rfl
    rw [this, Option.or_none]
theorem lookK_some {X : List RelL} {y : SelL} {i : Nat} (h : lookK X X.length y = some i) : i < X.length ∧ keyL (X.getD i default) = y := by
  unfold lookK at h
  have h1 := List.find?_some h
  have h2 := List.mem_of_find?_eq_some h
  exact ⟨List.mem_range.1 h2, of_decide_eq_true h1⟩
theorem lookK_find {X : List RelL} (hX : IdxOk X) (y : SelL) : findR X y = (lookK X X.length y).map fun i => X.getD i default := by
  cases h : lookK X X.length y with
  | some i =>
    obtain ⟨hi, e⟩ := lookK_some h
    rw [← e, findR_at hX hi]
    rfl
  | none =>
    cases hf : findR X y with
    | none => rfl
    | some r =>
      obtain ⟨i, hi, e0, e⟩ := findR_some hf
      unfold lookK at h
      have := List.find?_eq_none.1 h i (List.mem_range.2 hi)
      exfalso
      apply this
      rw [e0]
      exact decide_eq_true e
def TabF (X : List RelL) (rv : Nat → Value) (k : Nat) (f : Lit → Option Value) : Prop := ∀ y, SelBd y → f (keyS y) = (lookK X k y).map fun i => .agg (relC (X.getD i default) (rv i))
theorem TabF.start (X : List RelL) (rv : Nat → Value) : TabF X rv 0 (fun _ => none) := fun _ _ => rfl
theorem TabF.step {X : List RelL} {rv : Nat → Value} {k : Nat} {f : Lit → Option Value} (h : TabF X rv k f) (hX : IdxOk X) (hk : k < X.length) (hb : SelBd (keyL (X.getD k default))) :
    TabF X rv (k + 1) (putF f (keyS (keyL (X.getD k default))) (.agg (relC (X.getD k default) (rv k)))) := fun y hy => by
  rw [lookK_succ hX hk]
  by_cases e : keyL (X.getD k default) = y
  · subst e
    rw [putF_same, if_pos rfl]
    rfl
  · rw [putF_other _ _ (fun e2 => e (keyS_inj hb hy e2.symm)), if_neg e]
    exact h y hy
structure PathsI (W : World) (B c k : Nat) (f : Lit → Option Value) : Prop where
  seg : ∀ q v, f q = some v → ∃ n xs, SegC W B c v n xs ∧ n ≤ k
  inj : ∀ q1 q2 v1 v2 g, f q1 = some v1 → f q2 = some v2 → segK v1 = some g → segK v2 = some g → q1 = q2
theorem PathsI.start (W : World) (B c : Nat) : PathsI W B c 0 (fun _ => none) := ⟨fun _ _ h => (by cases h), fun _ _ _ _ _ h => (by cases h)⟩
theorem PathsI.far {W W' : World} {B c k : Nat} {f : Lit → Option Value} (h : PathsI W B c k f) (hs : W.heap.size ≤ W'.heap.size) (hk : ∀ g, B ≤ g → g < W.heap.size → W'.heap[g]? = W.heap[g]?) : PathsI W' B c k f :=
  ⟨fun q v hv => by
    obtain ⟨n, xs, h1, h2⟩ := h.seg q v hv
    exact ⟨n, xs, h1.far hs fun g hg => hk g (h1.lt g hg).1 (h1.lt g hg).2, h2⟩, h.inj⟩
theorem PathsI.below {W W' : World} {B c k : Nat} {f : Lit → Option Value} (h : PathsI W B c k f) (hb : RowKit.Below W.heap.size W W') : PathsI W' B c k f := h.far hb.size fun g _ hg => hb.block g hg
theorem PathsI.get {W : World} {B c k : Nat} {f : Lit → Option Value} (h : PathsI W B c k f) (q : Lit) : ∃ n xs, SegC W B c ((f q).getD (.slice none 0 0)) n xs ∧ n ≤ k := by
  cases e : f q with
  | some v => exact h.seg q v e
  | none => exact ⟨0, [], SegC.nil W B c none, Nat.zero_le _⟩
theorem PathsI.put {W W' : World} {B c k n : Nat} {f : Lit → Option Value} {q : Lit} {v' : Value} {xs : List Value} (h : PathsI W B c k f) (hs : SegC W' B c v' (n + 1) xs) (hn : n ≤ k) (hg : W.grownBy W' (segK ((f q).getD (.slice none 0 0))))
    (hb : segK v' = segK ((f q).getD (.slice none 0 0)) ∨ ∀ g, segK v' = some g → W.heap.size ≤ g) : PathsI W' B c (k + 1) (putF f q v') := by
  have old : ∀ g, segK ((f q).getD (.slice none 0 0)) = some g → ∃ v, f q = some v ∧ segK v = some g := fun g h => by
    cases e : f q with
    | some v => rw [e] at h; exact ⟨v, rfl, h⟩
    | none => rw [e] at h; simp [segK] at h
  have lt : ∀ q2 v2 g, f q2 = some v2 → segK v2 = some g → g < W.heap.size := fun q2 v2 g h1 h2 => by
    obtain ⟨m, ys, h3, _⟩ := h.seg q2 v2 h1
    exact (h3.lt g h2).2
  refine ⟨fun q2 v2 h2 => ?_, fun q1 q2 v1 v2 g h1 h2 g1 g2 => ?_⟩
  · by_cases e : q2 = q
    · subst e
      rw [putF_same] at h2
      cases h2
      exact ⟨n + 1, xs, hs, by omega⟩
    · rw [putF_other f v' e] at h2
      obtain ⟨m, ys, h3, h4⟩ := h.seg q2 v2 h2
      refine ⟨m, ys, h3.far hg.size fun g hgb => hg.block g (h3.lt g hgb).2 fun e2 => ?_, by omega⟩
      obtain ⟨v, hv, hvb⟩ := old g e2.symm
      exact e (h.inj q2 q v2 v g h2 hv hgb hvb)
  · by_cases e1 : q1 = q
    · by_cases e2 : q2 = q
      · rw [e1, e2]
      · subst e1
        rw [putF_same] at h1
        cases h1
        rw [putF_other f _ e2] at h2
        rcases hb with hb | hb
        · rw [hb] at g1
          obtain ⟨v, hv, hvb⟩ := old g g1
          exact h.inj q1 q2 v v2 g hv h2 hvb g2
        · have := hb g g1
          have := lt q2 v2 g h2 g2
          omega
    · rw [putF_other f _ e1] at h1
      by_cases e2 : q2 = q
      · subst e2
        rw [putF_same] at h2
        cases h2
        rcases hb with hb | hb
        · rw [hb] at g2
          obtain ⟨v, hv, hvb⟩ := old g g2
          exact h.inj q1 q2 v1 v g h1 hv g1 hvb
        · have := hb g g2
          have := lt q1 v1 g h1 g1
          omega
      · rw [putF_other f _ e2] at h2
        exact h.inj q1 q2 v1 v2 g h1 h2 g1 g2
def TabOf (W : World) (B m : Nat) (X : List RelL) : Prop := ∃ (f : Lit → Option Value) (rv : Nat → Value) (n : Nat), MapF Tryz.prog 43 W m n f ∧ TabF X rv X.length f ∧ ∀ i, i < X.length → ReqsOf B (rv i) (X.getD i default).reqs W
theorem TabOf.below {W W' : World} {B m : Nat} {X : List RelL} (h : TabOf W B m X) (hb : RowKit.Below W.heap.size W W') (hB : B ≤ W.heap.size) : TabOf W' B m X := by
  obtain ⟨f, rv, n, h1, h2, h3⟩ := h
  exact ⟨f, rv, n, h1.below hb, h2, fun i hi => (h3 i hi).below hb hB⟩
theorem results_cell_tmp {P : Program} {fn : Func} {p q : Tmp} {ty : TypeId} (h : fn.results = #[.cell p ty, .tmp q]) (tmps : Array Value) (w : World) (g : Nat) (t : TypeId) (cs : Array Value) (fr : Nat × Nat) (d : TypeDesc)
    (hp : tmps.getD p undef = .pointer (some ⟨g, 0, none⟩)) (hg : w.heap[g]? = some (.cells cs t fr))
    (hu : P.underlying ty = some d) (hd : (match d with | .struct _ | .array _ _ => true | _ => false) = true) (hi : (P.info? ty).map (·.size) = some cs.size) :
    (results fn tmps).run P w = .ok (.tuple #[.agg cs, tmps.getD q undef]) w := by
  have hp' : tmps[p]?.getD undef = .pointer (some ⟨g, 0, none⟩) := by simpa using hp
  simp [results, h, hp', asAddr, run_loadVar_row w g t ty cs fr d hg hu hd hi]
theorem setTwo (W : World) (g : Nat) (x y : Value) (t : TypeId) (x' y' : Value) (h : W.heap[g]? = some (.cells #[x, y] t (0, 0))) : ((W.setCell ⟨g, 0, none⟩ x').setCell ⟨g, 1, none⟩ y').heap[g]? = some (.cells #[x', y'] t (0, 0)) := by
  have h1 := heap_setCell_same W g 0 #[x, y] t x' h
  exact heap_setCell_same _ g 1 _ t y' h1
theorem step_append_segC {P : Program} {w : World} {ops : Array Oper} {o : Oper} {a : Act} {K : Act → World → Prop} {Q : Exit → Act → World → Prop} {E : Prop}
    (hgd : o.guard = none) (s x : Operand) (t tx : TypeId) (hop : o.op = Op.call { callee := Callee.builtin Builtin.append, args := #[s, x], argTypes := #[t, tx] })
    (e : TypeId) (i : TypeInfo) (z : Value) (bytes c : Nat) (ht : P.underlying t = some (.slice e)) (hi : P.info? e = some i) (hz : i.zero = some z) (hsize : i.size = c) (hby : i.bytes = bytes) (hzs : z.cells.size = c)
    (B : Nat) (v : Value) (n : Nat) (xs : List Value) (hv : a.eval s = v) (h : SegC w B c v n xs) (hB : B ≤ w.heap.size) (m : Nat) (news : List Value) (hs : Src P c tx (a.eval x) m news w) (h63 : n + m ≤ maxLen) (hbytes : (n + m) * bytes ≤ 140737488355328)
    (hK : ∀ v' w', SegC w' B c v' (n + m) (xs ++ news) → w.grownBy w' (segK v) → (segK v' = segK v ∨ ∀ k, segK v' = some k → w.heap.size ≤ k) → K (a.put o.dst v') w') :
    if Region.wanted o (yielded ops a.tmps) = true then Oper.wp P o a w K Q else E := by
  have hw : Region.wanted o (yielded ops a.tmps) = true := by simp [Region.wanted, hgd]
  rw [if_pos hw]
  obtain ⟨v', w', hrun, r1, r2, r3⟩ := run_append_segC (P := P) w t tx o.type e i z bytes c ht hi hz hsize hby hzs B v n xs h hB (a.eval x) m news hs h63 hbytes
  unfold Oper.wp
  simp [execOp, hop, resolve, invoke, builtin, hv, hrun, Result.andThen]
  exact hK v' w' r1 r2 r3
theorem yields_look_F {P : Program} {S : World → Prop} {ops : Array Oper} {o : Oper} {a : Act} (hg : o.guard = none) (m x : Operand) (t : TypeId) (hop : o.op = Op.lookup t m x false)
    (k e : TypeId) (K : Keyed P k) (ht : P.underlying t = some (.map k e)) {z : Value} (hz : ∀ W, (zeroValue e).run P W = .ok z W) (b n : Nat) (f : Lit → Option Value)
    (hm : a.eval m = .map (some b)) (hown : ∀ W, S W → MapF P k W b n f) (key : Value) (kl : Lit) (hx : a.eval x = key) (hkey : keyOf P k key = some kl) : YieldsIf P ops S o ((f kl).getD z) a := by
  refine .inl ⟨by simp [Region.wanted, hg], fun W hW => ?_⟩
  obtain ⟨D, h1, h2, h3, h4⟩ := hown W hW
  obtain ⟨v, ps, hrun, hv⟩ := h1.lookup K ht (hz W) (zd := .held z) (zp := []) rfl hkey
  rw [h4] at hv
  have e : v = (f kl).getD z := by
    unfold RV at hv
    cases hf : f kl with
    | none => rw [hf] at hv; injection hv with hv; injection hv with hv _; injection hv
    | some u => rw [hf] at hv; injection hv with hv; injection hv with hv _; injection hv
  subst e
  simp [execOp, hop, hm, hx, hrun, Result.andThen]
theorem lawStr : Keyed Tryz.prog 9 := string_keyed Tryz.underlying9
theorem keyStr {p : ByteArray} (h : p.size ≤ maxLen) : keyOf Tryz.prog 9 (.string p) = some (.string p.data.toList) := Go.WideMaps.keyOf_string_mk Tryz.underlying9 h
theorem info_rels : (Tryz.prog.info? 71).map (fun i => (i.zero, i.size, i.bytes)) = some (some (.agg #[.string ⟨#[]⟩, .int .i64 0, .int .i64 0, .int .i64 0, .slice none 0 0, .string ⟨#[]⟩, .string ⟨#[]⟩, .string ⟨#[]⟩, .bool false]), 9, 120) := by kernel_rfl
def CellsAt (W : World) (b o : Nat) (x : RelL) (r : Value) : Prop :=
  W.cell? ⟨b, o, none⟩ = some (.string x.path) ∧ W.cell? ⟨b, o + 1, none⟩ = some (intC x.ver.1) ∧ W.cell? ⟨b, o + 2, none⟩ = some (intC x.ver.2.1) ∧ W.cell? ⟨b, o + 3, none⟩ = some (intC x.ver.2.2) ∧ W.cell? ⟨b, o + 4, none⟩ = some r ∧
    W.cell? ⟨b, o + 5, none⟩ = some (.string x.ar) ∧ W.cell? ⟨b, o + 6, none⟩ = some (.string x.ifc) ∧ W.cell? ⟨b, o + 7, none⟩ = some (.string x.cert) ∧ W.cell? ⟨b, o + 8, none⟩ = some (.bool x.yk)
theorem CellsAt.below {W W' : World} {B b o : Nat} {x : RelL} {r : Value} (h : CellsAt W b o x r) (hb : RowKit.Below B W W') (hlt : b < B) : CellsAt W' b o x r := by
  obtain ⟨h0, h1, h2, h3, h4, h5, h6, h7, h8⟩ := h
  have key : ∀ j, W'.cell? ⟨b, j, none⟩ = W.cell? ⟨b, j, none⟩ := fun j => hb.cell (p := ⟨b, j, none⟩) hlt
  exact ⟨(key _).trans h0, (key _).trans h1, (key _).trans h2, (key _).trans h3, (key _).trans h4, (key _).trans h5, (key _).trans h6, (key _).trans h7, (key _).trans h8⟩
theorem RelsOf.rv {B : Nat} {v : Value} {X : List RelL} {w : World} (h : RelsOf B v X w) : ∃ ao cap, ∃ rv : Nat → Value, v = .slice ao X.length cap ∧ ∀ i x, X[i]? = some x → ∃ b off, ao = some ⟨b, off, none⟩ ∧ b < B ∧ CellsAt w b (off + i * 9) x (rv i) ∧ ReqsOf B (rv i) x.reqs w := by
  obtain ⟨ao, cap, rfl, h⟩ := h
  refine ⟨ao, cap, fun i => match ao with | some a => (w.cell? ⟨a.block, a.off + i * 9 + 4, none⟩).getD undef | none => undef, rfl, fun i x hx => ?_⟩
  obtain ⟨b, off, rfl, hb, r, h0, h1, h2, h3, h4, h5, h6, h7, h8, h9⟩ := h i x hx
  simp only
  rw [h4]
  exact ⟨b, off, rfl, hb, ⟨h0, h1, h2, h3, h4, h5, h6, h7, h8⟩, h9⟩
end Go.Proofs.YtenfkejbndifdaaGreatDoor

namespace Go.Proofs.YtenfkejbndifdaaGreatDoor
set_option linter.unusedVariables false
set_option linter.unusedSimpArgs false
open Go Go.RowKit

def BoolR (w : World) (P : Prop) (e : Ending) (w' : World) : Prop := ∃ b : Bool, e = .returned (.bool b) ∧ (b = true → P) ∧ w' = w
structure FewQ (l : List ReqL) : Prop where
  len : l.length ≤ 20
  all : ∀ q ∈ l, q.1.size ≤ 100 ∧ q.2.length ≤ 8
structure FewR (X : List RelL) (most : Nat) : Prop where
  len : X.length ≤ most
  all : ∀ x ∈ X, x.path.size ≤ 100 ∧ x.ar.size ≤ 100 ∧ x.ifc.size ≤ 100 ∧ x.cert.size ≤ 100 ∧ FewQ x.reqs
set_option maxRecDepth 100000 in
set_option maxHeartbeats 4000000 in
theorem FewQ_any (v : Value) (l : List ReqL) (w : World) (hl : l.length ≤ 9223372036854775807) (hR : ReqsOf w.heap.size v l w) :
    Calls Tryz.prog 27 #[v] w (BoolR w (FewQ l)) := by
  obtain ⟨ao, cap, rfl, hR⟩ := hR
  have HR := Lib.hid hR
  clear hR
  go_enter Tryz.func27, Tryz.ntmps27
  go_wp2_with fail
  go_loopw [3] (fun p wr => Hid (∃ k : Nat, k ≤ l.length ∧ p = .int .i64 k ∧ ∀ q ∈ l.take k, q.1.size ≤ 100 ∧ q.2.length ≤ 8) ∧ wr = w) (fun p _ => l.length - (intOf p).toNat)
  case atStart => exact ⟨Lib.hid ⟨0, Nat.zero_le _, rfl, by simp⟩, rfl⟩
  case round =>
    obtain ⟨hr, rfl⟩ := hrel
    obtain ⟨k, hk, rfl, ha⟩ := hr.out
    have HA := Lib.hid ha
    clear hr ha
    by_cases hlt : k < l.length
    case neg =>
      have hk2 : k = l.length := by omega
      subst hk2
      rw [List.take_length] at HA
      by_cases h20 : l.length ≤ 20
      · have h20a : (l.length : Int) ≤ 20 := by omega
        have h20b : decide ((l.length : Int) ≤ 20) = true := decide_eq_true h20a
        go_wp2_with fail
        go_ret
        exact ⟨_, rfl, fun _ => ⟨h20, HA.out⟩, rfl⟩
      · have h20a : ¬ (l.length : Int) ≤ 20 := by omega
        have h20b : decide ((l.length : Int) ≤ 20) = false := decide_eq_false h20a
        go_wp2_with fail
        go_ret
        exact ⟨_, rfl, fun h => (by simp at h), rfl⟩
    case pos =>
      obtain ⟨b, off, r, rfl, hbl, d0, d1, hsp⟩ := HR.out k l[k] (by simp [hlt])
      have HT : Hid (l.take (k + 1) = l.take k ++ [l[k]]) := Lib.hid (List.take_succ_eq_append_getElem hlt)
      generalize l[k] = q at *
      obtain ⟨sa, sc, rfl, _⟩ := hsp
      by_cases h1 : q.1.size ≤ 100
      case neg =>
        have h1a : (100 : Int) < (q.1.size : Int) := by omega
        have h1b : decide ((100 : Int) < (q.1.size : Int)) = true := decide_eq_true h1a
        go_wp2_with fail
        go_ret
        exact ⟨false, rfl, fun h => (by cases h), rfl⟩
      have h1a : ¬ (100 : Int) < (q.1.size : Int) := by omega
      have h1b : decide ((100 : Int) < (q.1.size : Int)) = false := decide_eq_false h1a
      by_cases h2 : q.2.length ≤ 8
      case neg =>
        have h2a : (8 : Int) < (q.2.length : Int) := by omega
        have h2b : decide ((8 : Int) < (q.2.length : Int)) = true := decide_eq_true h2a
        go_wp2_with fail
        go_ret
        exact ⟨false, rfl, fun h => (by cases h), rfl⟩
      have h2a : ¬ (8 : Int) < (q.2.length : Int) := by omega
      have h2b : decide ((8 : Int) < (q.2.length : Int)) = false := decide_eq_false h2a
      have HA2 := Lib.hid (show ∀ x ∈ l.take (k + 1), x.1.size ≤ 100 ∧ x.2.length ≤ 8 from fun x hx => by
        rw [HT.out] at hx
        rcases List.mem_append.1 hx with hx | hx
        · exact HA.out x hx
        · rw [List.mem_singleton.1 hx]; exact ⟨h1, h2⟩)
      go_wp2_with fail
      all_goals
        refine ⟨⟨Lib.hid ⟨k + 1, by omega, by go_num, HA2.out⟩, by trivial⟩, ?_⟩
        simp [intOf]; omega
set_option maxRecDepth 100000 in
set_option maxHeartbeats 8000000 in
theorem FewR_any (v : Value) (X : List RelL) (most : Nat) (w : World) (hm : most ≤ 1000) (hl : X.length ≤ 9223372036854775807) (hq : ∀ x ∈ X, x.reqs.length ≤ 9223372036854775807) (hR : RelsOf w.heap.size v X w) :
    Calls Tryz.prog 48 #[v, .int .i64 (most : Int)] w (BoolR w (FewR X most)) := by
  obtain ⟨ao, cap, rfl, hR⟩ := hR
  have HR := Lib.hid hR
  have HQ := Lib.hid hq
  clear hR hq
  go_enter Tryz.func48, Tryz.ntmps48
  go_wp2_with fail
  go_loopw [5] (fun p wr => Hid (∃ k : Nat, k ≤ X.length ∧ p = .int .i64 k ∧ ∀ x ∈ X.take k, x.path.size ≤ 100 ∧ x.ar.size ≤ 100 ∧ x.ifc.size ≤ 100 ∧ x.cert.size ≤ 100 ∧ FewQ x.reqs) ∧ wr = w) (fun p _ => X.length - (intOf p).toNat)
  case atStart => exact ⟨Lib.hid ⟨0, Nat.zero_le _, rfl, by simp⟩, rfl⟩
  case round =>
    obtain ⟨hr, rfl⟩ := hrel
    obtain ⟨k, hk, rfl, ha⟩ := hr.out
    have HA := Lib.hid ha
    clear hr ha
    by_cases hlt : k < X.length
    case neg =>
      have hk2 : k = X.length := by omega
      subst hk2
      rw [List.take_length] at HA
      by_cases h20 : X.length ≤ most
      · have h20a : (X.length : Int) ≤ (most : Int) := by omega
        have h20b : decide ((X.length : Int) ≤ (most : Int)) = true := decide_eq_true h20a
        go_wp2_with fail
        go_ret
        exact ⟨_, rfl, fun _ => ⟨h20, HA.out⟩, rfl⟩
      · have h20a : ¬ (X.length : Int) ≤ (most : Int) := by omega
        have h20b : decide ((X.length : Int) ≤ (most : Int)) = false := decide_eq_false h20a
        go_wp2_with fail
        go_ret
        exact ⟨_, rfl, fun h => (by simp at h), rfl⟩
    case pos =>
      obtain ⟨b, off, rfl, hbl, hra⟩ := HR.out k X[k] (by simp [hlt])
      obtain ⟨r, hr, d0, d1, d2, d3, d4, d5, d6, d7, d8⟩ := hra.box
      have hql := HQ.out X[k] (List.getElem_mem hlt)
      have HT : Hid (X.take (k + 1) = X.take k ++ [X[k]]) := Lib.hid (List.take_succ_eq_append_getElem hlt)
      generalize X[k] = x at *
      have HF := Lib.hid (FewQ_any r x.reqs wr hql hr)
      obtain ⟨ra, rc, rfl, _⟩ := hr
      clear hra
      by_cases h1 : x.path.size ≤ 100
      case neg =>
        have h1a : (100 : Int) < (x.path.size : Int) := by omega
        have h1b : decide ((100 : Int) < (x.path.size : Int)) = true := decide_eq_true h1a
        go_wp2_with fail
        go_ret
        exact ⟨false, rfl, fun h => (by cases h), rfl⟩
      have h1a : ¬ (100 : Int) < (x.path.size : Int) := by omega
      have h1b : decide ((100 : Int) < (x.path.size : Int)) = false := decide_eq_false h1a
      by_cases h2 : x.ar.size ≤ 100
      case neg =>
        have h2a : (100 : Int) < (x.ar.size : Int) := by omega
        have h2b : decide ((100 : Int) < (x.ar.size : Int)) = true := decide_eq_true h2a
        go_wp2_with fail
        go_ret
        exact ⟨false, rfl, fun h => (by cases h), rfl⟩
      have h2a : ¬ (100 : Int) < (x.ar.size : Int) := by omega
      have h2b : decide ((100 : Int) < (x.ar.size : Int)) = false := decide_eq_false h2a
      by_cases h3 : x.ifc.size ≤ 100
      case neg =>
        have h3a : (100 : Int) < (x.ifc.size : Int) := by omega
        have h3b : decide ((100 : Int) < (x.ifc.size : Int)) = true := decide_eq_true h3a
        go_wp2_with fail
        go_ret
        exact ⟨false, rfl, fun h => (by cases h), rfl⟩
      have h3a : ¬ (100 : Int) < (x.ifc.size : Int) := by omega
      have h3b : decide ((100 : Int) < (x.ifc.size : Int)) = false := decide_eq_false h3a
      by_cases h4 : x.cert.size ≤ 100
      case neg =>
        have h4a : (100 : Int) < (x.cert.size : Int) := by omega
        have h4b : decide ((100 : Int) < (x.cert.size : Int)) = true := decide_eq_true h4a
        go_wp2_with fail
        go_ret
        exact ⟨false, rfl, fun h => (by cases h), rfl⟩
      have h4a : ¬ (100 : Int) < (x.cert.size : Int) := by omega
      have h4b : decide ((100 : Int) < (x.cert.size : Int)) = false := decide_eq_false h4a
      go_wp2_with fail
      refine HF.out.mono ?_
      rintro e w1 ⟨fb, rfl, hfb, rfl⟩
      have HFB := Lib.hid hfb
      clear hfb
      cases fb with
      | false =>
        go_wp2_with fail
        go_ret
        exact ⟨false, rfl, fun h => (by cases h), rfl⟩
      | true =>
        have HA2 := Lib.hid (show ∀ y ∈ X.take (k + 1), y.path.size ≤ 100 ∧ y.ar.size ≤ 100 ∧ y.ifc.size ≤ 100 ∧ y.cert.size ≤ 100 ∧ FewQ y.reqs from fun y hy => by
          rw [HT.out] at hy
          rcases List.mem_append.1 hy with hy | hy
          · exact HA.out y hy
          · rw [List.mem_singleton.1 hy]; exact ⟨h1, h2, h3, h4, HFB.out rfl⟩)
        go_wp2_with fail
        all_goals
          refine ⟨⟨Lib.hid ⟨k + 1, by omega, by go_num, HA2.out⟩, by trivial⟩, ?_⟩
          simp [intOf]; omega
end Go.Proofs.YtenfkejbndifdaaGreatDoor

namespace Go.Proofs.YtenfkejbndifdaaGreatDoor
set_option linter.unusedVariables false
set_option linter.unusedSimpArgs false
open Go

theorem up_shape {s : List (Int × Int)} (h : upB (canon s) = true) (hn : s ≠ []) (hc : s = canon s) : s = [((leastV s).1, 1000000)] ∧ 0 ≤ (leastV s).1 ∧ (leastV s).1 < 1000000 := by
  have hm := fun x (hx : x ∈ canon s) => can_mem hx
  unfold leastV
  rw [← hc] at h hm ⊢
  match s, hn, h, hm with
  | [x], _, h, hm =>
    have hx := hm x (by simp)
    have h2 : x.2 = 1000000 := of_decide_eq_true h
    exact ⟨by show [x] = [(x.1, 1000000)]; rw [← h2], hx.1, by show x.1 < 1000000; omega⟩
  | _ :: _ :: _, _, h, _ => cases h
theorem up_has {m p : Int} (h0 : 0 ≤ p) (h1 : p < 1000000) : hasB [(m, 1000000)] p = decide (m ≤ p) := by
  unfold hasB
  simp [h0, h1]
def UpR (l : List ReqL) : Prop := checkReqs l = 0 ∧ ∀ q ∈ l, upB (canon q.2) = true
structure ReqOk (q : ReqL) : Prop where
  line : (lineV q.1).2.2 = 0
  ne : q.2 ≠ []
  can : q.2 = canon q.2
theorem reqE_ok {q : ReqL} {b : Option ByteArray} (h : reqE q b = 0) : ReqOk q ∧ ∀ p, b = some p → ltB p q.1 = true := by
  unfold reqE at h
  split at h
  · exact absurd h (by decide)
  · rename_i h1
    split at h
    · exact absurd h (by decide)
    · rename_i h2
      refine ⟨⟨Classical.not_not.1 h1, fun e => h2 (.inl e), Classical.byContradiction fun e => h2 (.inr e)⟩, ?_⟩
      rintro p rfl
      by_cases e : ltB p q.1 = true
      · exact e
      · simp only [if_neg e] at h
        exact absurd h (by decide)
structure ReqsOk (l : List ReqL) : Prop where
  len : l.length ≤ 16
  ok : ∀ q ∈ l, ReqOk q
  incr : l.Pairwise fun a b => ltB a.1 b.1 = true
theorem reqs_ok {l : List ReqL} (h : checkReqs l = 0) : ReqsOk l := by
  unfold checkReqs at h
  split at h
  · exact absurd h (by decide)
  · rename_i hl
    have h1 := firstE_zero h
    have hg : ∀ i (hi : i < l.length), l.getD i default = l[i] := fun i hi => by rw [List.getD_eq_getElem?_getD, List.getElem?_eq_getElem hi]; rfl
    have hs : ∀ i, (hi : i + 1 < l.length) → ltB l[i].1 l[i + 1].1 = true := fun i hi => by
      have h2 := (reqE_ok (h1 (i + 1) hi)).2 (l.getD i default).1 (by simp [beforeQ])
      rwa [hg i (by omega), hg (i + 1) hi] at h2
    refine ⟨by omega, fun q hq => ?_, ?_⟩
    · obtain ⟨i, hi, rfl⟩ := List.mem_iff_getElem.1 hq
      rw [← hg i hi]
      exact (reqE_ok (h1 i hi)).1
    · rw [List.pairwise_iff_getElem]
      intro i j hi hj hij
      obtain ⟨d, rfl⟩ : ∃ d, j = i + d + 1 := ⟨j - i - 1, by omega⟩
      clear hij
      induction d with
      | zero => exact hs i hj
      | succ d ih => exact ltB_trans (ih (by omega)) (hs (i + d + 1) hj)
theorem reqs_check {l : List ReqL} (h : ReqsOk l) : checkReqs l = 0 := by
  unfold checkReqs
  rw [if_neg (by have := h.len; omega)]
  refine firstE_none fun j hj => ?_
  have hg : ∀ i (hi : i < l.length), l.getD i default = l[i] := fun i hi => by rw [List.getD_eq_getElem?_getD, List.getElem?_eq_getElem hi]; rfl
  obtain ⟨h1, h2, h3⟩ := h.ok l[j] (List.getElem_mem hj)
  unfold reqE
  rw [hg j hj, if_neg (fun e => e h1), if_neg (fun e => e.elim h2 (fun e => e h3))]
  unfold beforeQ
  by_cases hz : j = 0
  · rw [if_pos hz]
  · rw [if_neg hz]
    simp only
    rw [hg (j - 1) (by omega), if_pos (List.pairwise_iff_getElem.1 h.incr (j - 1) j (by omega) hj (by omega))]
structure UpQ (q : ReqL) : Prop where
  ok : ReqOk q
  set : q.2 = [((leastV q.2).1, 1000000)]
  lo : 0 ≤ (leastV q.2).1
  hi : (leastV q.2).1 < 1000000
theorem UpR.q {l : List ReqL} (h : UpR l) {q : ReqL} (hq : q ∈ l) : UpQ q := by
  have h1 := (reqs_ok h.1).ok q hq
  obtain ⟨a, b, c⟩ := up_shape (h.2 q hq) h1.ne h1.can
  exact ⟨h1, a, b, c⟩
theorem UpQ.has {q : ReqL} (h : UpQ q) {p : Int} (h0 : 0 ≤ p) (h1 : p < 1000000) : hasB q.2 p = decide ((leastV q.2).1 ≤ p) := by
  have := up_has (m := (leastV q.2).1) h0 h1
  rwa [← h.set] at this
structure PlainP (X : List RelL) (roots : List ReqL) : Prop where
  idx : checkX X = 0
  roots : UpR roots
  own : ∀ i, i < X.length → ∀ q ∈ (X.getD i default).reqs, upB (canon q.2) = true
theorem PlainP.up {X : List RelL} {roots : List ReqL} (h : PlainP X roots) {i : Nat} (hi : i < X.length) : UpR (X.getD i default).reqs := ⟨((idx_ok h.idx).rel i hi).reqs, h.own i hi⟩
def reachB (q : ReqL) (r : RelL) : Bool := decide (q.1 = r.path) && hasB q.2 (plc r.ver)
def candI (X : List RelL) (q : ReqL) : List Nat := (List.range X.length).filter fun i => reachB q (X.getD i default) && !(X.getD i default).yk
def availI (X : List RelL) (p : ByteArray) : List Nat := (List.range X.length).filter fun i => decide (p = (X.getD i default).path) && !(X.getD i default).yk
def namedI (nw : Bool) (X : List RelL) (q : ReqL) : Option Nat := if nw = true then (candI X q).getLast? else (candI X q).head?
theorem candI_mem {X : List RelL} {q : ReqL} {i : Nat} : i ∈ candI X q ↔ i < X.length ∧ q.1 = (X.getD i default).path ∧ hasB q.2 (plc (X.getD i default).ver) = true ∧ (X.getD i default).yk = false := by
  unfold candI reachB
  rw [List.mem_filter, List.mem_range, Bool.and_eq_true, Bool.and_eq_true, decide_eq_true_iff, Bool.not_eq_true']
  exact ⟨fun ⟨a, ⟨b, c⟩, d⟩ => ⟨a, b, c, d⟩, fun ⟨a, b, c, d⟩ => ⟨a, ⟨b, c⟩, d⟩⟩
theorem range_sorted (n : Nat) : (List.range n).Pairwise (· < ·) := by
  rw [List.pairwise_iff_getElem]
  intro i j hi hj hij
  simpa using hij
theorem candI_sorted (X : List RelL) (q : ReqL) : (candI X q).Pairwise (· < ·) := (range_sorted _).filter _
theorem availI_sorted (X : List RelL) (p : ByteArray) : (availI X p).Pairwise (· < ·) := (range_sorted _).filter _
theorem named_mem {nw : Bool} {X : List RelL} {q : ReqL} {i : Nat} (h : namedI nw X q = some i) : i ∈ candI X q := by
  unfold namedI at h
  split at h
  · exact List.mem_of_getLast? h
  · exact List.mem_of_head? h
theorem named_none {nw : Bool} {X : List RelL} {q : ReqL} (h : namedI nw X q = none) : candI X q = [] := by
  unfold namedI at h
  split at h
  · exact List.getLast?_eq_none_iff.1 h
  · exact List.head?_eq_none_iff.1 h
theorem named_some {nw : Bool} {X : List RelL} {q : ReqL} {i : Nat} (h : i ∈ candI X q) : ∃ j, namedI nw X q = some j := by
  cases hn : namedI nw X q with
  | some j => exact ⟨j, rfl⟩
  | none => rw [named_none hn] at h; cases h
theorem named_least {X : List RelL} {q : ReqL} {i j : Nat} (h : namedI false X q = some i) (hj : j ∈ candI X q) : i ≤ j := by
  unfold namedI at h
  rw [if_neg (by decide)] at h
  have hs := candI_sorted X q
  cases hc : candI X q with
  | nil => rw [hc] at hj; cases hj
  | cons a t =>
    rw [hc] at h hj hs
    cases h
    rcases List.mem_cons.1 hj with rfl | hj
    · exact Nat.le_refl _
    · exact Nat.le_of_lt ((List.pairwise_cons.1 hs).1 j hj)
inductive RchM (nw : Bool) (X : List RelL) (roots : List ReqL) : Nat → Prop
  | root {q : ReqL} {i : Nat} (hq : q ∈ roots) (h : namedI nw X q = some i) : RchM nw X roots i
  | step {k : Nat} {q : ReqL} {i : Nat} (hk : RchM nw X roots k) (hq : q ∈ (X.getD k default).reqs) (h : namedI nw X q = some i) : RchM nw X roots i
theorem RchM.lt {nw : Bool} {X : List RelL} {roots : List ReqL} {i : Nat} (h : RchM nw X roots i) : i < X.length ∧ (X.getD i default).yk = false := by
  cases h with
  | root hq h => have := candI_mem.1 (named_mem h); exact ⟨this.1, this.2.2.2⟩
  | step hk hq h => have := candI_mem.1 (named_mem h); exact ⟨this.1, this.2.2.2⟩
def AllM (nw : Bool) (X : List RelL) (roots : List ReqL) : Prop :=
  (∀ q ∈ roots, ∃ i, namedI nw X q = some i) ∧ ∀ k, RchM nw X roots k → ∀ q ∈ (X.getD k default).reqs, ∃ i, namedI nw X q = some i
open Classical in
noncomputable def topM (nw : Bool) (X : List RelL) (roots : List ReqL) : List Nat :=
  (List.range X.length).filter fun i => decide (RchM nw X roots i ∧ ∀ j, RchM nw X roots j → (X.getD j default).path = (X.getD i default).path → j ≤ i)
open Classical in
noncomputable def selM (nw : Bool) (X : List RelL) (roots : List ReqL) : List SelL × Int :=
  if ¬ PlainP X roots then ([], 1) else if ¬ AllM nw X roots then ([], 6) else ((topM nw X roots).map fun i => keyL (X.getD i default), 0)
theorem topM_mem {nw : Bool} {X : List RelL} {roots : List ReqL} {i : Nat} : i ∈ topM nw X roots ↔ RchM nw X roots i ∧ ∀ j, RchM nw X roots j → (X.getD j default).path = (X.getD i default).path → j ≤ i := by
  unfold topM
  simp only [List.mem_filter, List.mem_range, decide_eq_true_eq]
  exact ⟨fun h => h.2, fun h => ⟨h.1.lt.1, h⟩⟩
theorem topM_sorted (nw : Bool) (X : List RelL) (roots : List ReqL) : (topM nw X roots).Pairwise (· < ·) := (range_sorted _).filter _
theorem top_of {nw : Bool} {X : List RelL} {roots : List ReqL} {i : Nat} (h : RchM nw X roots i) : ∃ j, j ∈ topM nw X roots ∧ i ≤ j ∧ (X.getD j default).path = (X.getD i default).path := by
  have key : ∀ d i, RchM nw X roots i → X.length - i ≤ d → ∃ j, j ∈ topM nw X roots ∧ i ≤ j ∧ (X.getD j default).path = (X.getD i default).path := by
    intro d
    induction d with
    | zero => exact fun i h hd => absurd h.lt.1 (by omega)
    | succ d ih =>
      intro i h hd
      by_cases ht : i ∈ topM nw X roots
      · exact ⟨i, ht, Nat.le_refl _, rfl⟩
      · rw [topM_mem] at ht
        have : ∃ j, RchM nw X roots j ∧ (X.getD j default).path = (X.getD i default).path ∧ i < j := by
          apply Classical.byContradiction
          intro hn
          exact ht ⟨h, fun j hj e => Classical.byContradiction fun hlt => hn ⟨j, hj, e, by omega⟩⟩
        obtain ⟨j, hj, e, hlt⟩ := this
        obtain ⟨k, hk, h1, h2⟩ := ih j hj (by omega)
        exact ⟨k, hk, by omega, h2.trans e⟩
  exact key _ i h (Nat.le_refl _)
theorem top_one {nw : Bool} {X : List RelL} {roots : List ReqL} {i j : Nat} (hi : i ∈ topM nw X roots) (hj : j ∈ topM nw X roots) (e : (X.getD i default).path = (X.getD j default).path) : i = j := by
  rw [topM_mem] at hi hj
  have h1 := hi.2 j hj.1 e.symm
  have h2 := hj.2 i hi.1 e
  omega
theorem selM_incr {nw : Bool} {X : List RelL} {roots : List ReqL} (hX : IdxOk X) : incrS ((topM nw X roots).map fun i => keyL (X.getD i default)) := by
  unfold incrS
  rw [List.pairwise_map]
  refine List.Pairwise.imp_of_mem (fun {a b} ha hb hab => ?_) (topM_sorted nw X roots)
  rcases hX.ord a b hab (topM_mem.1 hb).1.lt.1 with h | ⟨h, _⟩
  · exact h
  · have := top_one ha hb h; omega
end Go.Proofs.YtenfkejbndifdaaGreatDoor

namespace Go.Proofs.YtenfkejbndifdaaGreatDoor
set_option linter.unusedVariables false
set_option linter.unusedSimpArgs false
open Go

noncomputable def selL (nw : Bool) (X : List RelL) (roots : List ReqL) : List SelL := (topM nw X roots).map fun i => keyL (X.getD i default)
theorem selL_mem {nw : Bool} {X : List RelL} {roots : List ReqL} {y : SelL} : y ∈ selL nw X roots ↔ ∃ i, i ∈ topM nw X roots ∧ keyL (X.getD i default) = y := by
  unfold selL
  rw [List.mem_map]
theorem selL_incr {nw : Bool} {X : List RelL} {roots : List ReqL} (hX : IdxOk X) : incrS (selL nw X roots) := selM_incr hX
theorem RchM.more {nw : Bool} {X : List RelL} {r1 r2 : List ReqL} (h : ∀ q ∈ r1, q ∈ r2) {i : Nat} (hi : RchM nw X r1 i) : RchM nw X r2 i := by
  induction hi with
  | root hq hn => exact .root (h _ hq) hn
  | step _ hq hn ih => exact .step ih hq hn
def leastS (s : List SelL) (p : ByteArray) : Int := match s.find? fun y => decide (y.1 = p) with
  | some y => plc y.2
  | none => -1
def GrowP (X : List RelL) : Prop := ∀ i, i + 1 < X.length → (X.getD i default).path = (X.getD (i + 1) default).path → ∀ q ∈ (X.getD i default).reqs, ∃ p ∈ (X.getD (i + 1) default).reqs, p.1 = q.1 ∧ subB p.2 q.2 = true
end Go.Proofs.YtenfkejbndifdaaGreatDoor

namespace Go.Proofs.YtenfkejbndifdaaGreatDoor
set_option linter.unusedVariables false
set_option linter.unusedSimpArgs false

def cstep (far : List Int) (st : Int × Int) (k : Nat) : Int × Int := if 0 ≤ gD far k ∧ (st.1 < 0 ∨ gD far k < st.2) then ((k : Int), gD far k) else st
def cfar (N : Nat) (es : List (Int × Int)) (first : Nat) : List Int := bfsD (sucs N (es.map swapE)) first first
def cycStep (N : Nat) (es : List (Int × Int)) (best : List Nat) (first : Nat) : List Nat :=
  let st := (ofP (sucs N es) first first).foldl (cstep (cfar N es first)) (-1, 0)
  if st.1 < 0 ∨ (best ≠ [] ∧ (best.length : Int) ≤ st.2 + 1) then best
  else if st.1 = (first : Int) then [first] else first :: (descP (sucs N es) (cfar N es first) (gD (cfar N es first) st.1.toNat).toNat st.1.toNat).dropLast
def cycF (N : Nat) (es : List (Int × Int)) (k : Nat) : List Nat := (List.range k).foldl (cycStep N es) []
end Go.Proofs.YtenfkejbndifdaaGreatDoor

namespace Go.Proofs.YtenfkejbndifdaaGreatDoor
set_option linter.unusedVariables false
set_option linter.unusedSimpArgs false

inductive Walk (S : List (List Nat)) : Nat → Nat → Nat → Prop
  | nil (a : Nat) : Walk S a a 0
  | cons {a b c m : Nat} : b ∈ S.getD a [] → Walk S b c m → Walk S a c (m + 1)
theorem Rch.walk {S : List (List Nat)} {a b : Nat} (h : Rch S a b) : ∃ m, Walk S a b m := by
  induction h with
  | refl a => exact ⟨0, .nil a⟩
  | step hb _ ih => obtain ⟨m, hm⟩ := ih; exact ⟨m + 1, .cons hb hm⟩
theorem walk_dist {N : Nat} {es : List (Int × Int)} {tgt a m : Nat} {d : List Int} (h : DistR (sucs N (es.map swapE)) 0 tgt d) (hw : Walk (sucs N es) a tgt m) : 0 ≤ gD d a ∧ gD d a ≤ m := by
  induction hw with
  | nil a => rw [h.t0]; simp
  | @cons a b c m hb _ ih =>
    obtain ⟨h1, h2⟩ := ih h
    obtain ⟨m1, m2, m3⟩ := mem_sucs.1 hb
    obtain ⟨h3, h4⟩ := h.near b h1 a (by unfold ofP; exact List.mem_filter.2 ⟨mem_sucs.2 ⟨m2, m1, mem_swap.2 m3⟩, by simp⟩)
    refine ⟨h3, ?_⟩
    have : ((m + 1 : Nat) : Int) = (m : Int) + 1 := by simp
    omega
def IsWay (S : List (List Nat)) (l : List Nat) (a b : Nat) : Prop := l.head? = some a ∧ l.getLast? = some b ∧ ∀ i x y, l[i]? = some x → l[i + 1]? = some y → y ∈ S.getD x []
theorem swap_dist (N : Nat) (es : List (Int × Int)) (b : Nat) (hb : b < N) : DistR (sucs N (es.map swapE)) 0 b (bfsD (sucs N (es.map swapE)) 0 b) := bfsD_dist sucs_lt (by rw [sucs_length]; exact hb)
end Go.Proofs.YtenfkejbndifdaaGreatDoor
