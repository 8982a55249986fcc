/- Contract of the lexer's Lex. -/
import Derived.RangeFuncNested
import Derived.RangeFuncBound
import Derived.RangeFuncCalls
import Derived.RangeFuncLeaves
import Derived.Shelf.Abstract
import Derived.Shelf.RegionOpen
import Derived.OwnWalkIn
import Derived.TacticsInMore
import Derived.LoopNIn
import Derived.LoopIn
import Derived.Test.YtmlfoffahfbalaaDoorTokens
namespace Go.Proofs.YtmlfoffahfbalaaDoor
open Go Go.RowKit

attribute [local go_sem] Oper.semAt_some

set_option maxHeartbeats 1000000 in
/-- tokens: its source is boxed; the function value holds the box. -/
theorem tokens_in (n : Nat) (s : ByteArray) (w : World) :
    CallsIn Fence.wide n Tryd.prog 33 #[.string s] w fun e w' => e = .returned (.func (.func 60) #[] #[.pointer (some ⟨w.heap.size, 0, none⟩)]) ∧ w' = w.alloc (.cells #[.string s] 9) := by
  refine callsIn_of_wp Tryd.func33 rfl trivial ?_ rfl
  simp only [Tryd.ntmps33, List.size_toArray, List.length_cons, List.length_nil, Nat.reduceAdd, Nat.reduceSub, Array.replicate_succ, Array.replicate_zero, List.push_toArray, List.append_toArray, List.nil_append, List.cons_append]
  gi_wp2
  go_ret
  exact ⟨rfl, rfl⟩

theorem tokens_stops (n : Nat) (hn : 1 ≤ n) (Bn B0 : Nat) (s : ByteArray) (hs : s.size ≤ 65536) (hB0 : 0 < B0) (w : World) (hBn : Boxed w Bn 9 (.string s)) (hm : MaxOk w) :
    SeqStopsK Fence.wide n Tryd.prog 60 #[.pointer (some ⟨Bn, 0, none⟩)] encY (KpB Bn B0) (AllY s) (PartY s) (s.size + 1) w := fun l J Jx W hW hJ _ hY h0 =>
  tokens1_in n hn l Bn B0 s hs hB0 J Jx W hJ hY ((hW.block Bn hBn.lt).trans hBn) (hm.below hW hm.pos) h0

theorem kpB_t {Bn B0 : Nat} {A B C : World} (h : KpB Bn B0 A B) (k : KpB Bn B0 B C) : KpB Bn B0 A C := ⟨k.1.trans h.1, h.2.trans k.2⟩
theorem kpB_b {Bn B0 : Nat} {w : World} (hn : B0 ≤ w.heap.size) (hBn : Bn < w.heap.size) (W : World) (l : Nat) (o o' : Obj) (hl : w.heap.size ≤ l) (h : W.heap[l]? = some o) (h1 : o.isCells = false) (h2 : o.isWalk = false) : KpB Bn B0 W (W.putObj l o') :=
  ⟨World.putObj_heap_other (by omega), belowK_b hn W l o o' hl h h1 h2⟩

/-- the cells of tokens. -/
def tokCells (l : List (Int × List UInt8 × Nat)) : List Value := l.flatMap fun x => [.int .i64 x.1, .string ⟨x.2.1.toArray⟩, .int .i64 (x.2.2 : Int)]
/-- what Lex leaves. -/
def LexR (s : ByteArray) (w : World) (e : Ending) (w' : World) : Prop :=
  ∃ v, e = .returned (.tuple #[v, .int .i64 (lexS s).off, .int .i64 (lexS s).err]) ∧ Mine 36 3 w.heap.size v (lexS s).toks.length (tokCells (lexS s).toks) w' ∧ ((lexS s).err ≠ 0 → v = .slice none 0 0) ∧ Below w.heap.size w w'

theorem tokCells_snoc (l : List (Int × List UInt8 × Nat)) (x : Int × List UInt8 × Nat) : tokCells (l ++ [x]) = tokCells l ++ [.int .i64 x.1, .string ⟨x.2.1.toArray⟩, .int .i64 (x.2.2 : Int)] := by
  unfold tokCells; rw [List.flatMap_append]; rfl
theorem tokCells_y (l : List Yld) (y : Yld) : tokCells ((l ++ [y]).map keyY) = tokCells (l.map keyY) ++ [.int .i64 y.kind, .string y.text, .int .i64 (y.off : Int)] := by
  rw [List.map_append, List.map_singleton, tokCells_snoc]
  rfl
theorem cells_own {β : Type} (B : Nat) (cs : Array Value) (t : TypeId) : Own (fun (_ : β) W => W.heap[B]? = some (.cells cs t (0, 0))) := fun s X Y row hs hg hrow => by
  refine (hg.block B (Array.getElem?_eq_some_iff.1 hs).1 (fun e' => ?_)).trans hs
  obtain ⟨o, ho, hc⟩ := hrow B e'.symm
  rw [hs] at ho; cases ho; cases hc
theorem kept_append {W w1 : World} {n0 Bo Bx : Nat} {t e : TypeId} {size : Nat} {u v v' : Value} {k : Nat} {xs : List Value} {tmp : Obj} (hb : Boxed W Bx t u) (hte : t ≠ e) (hrow : W.ownsRow n0 e size v k xs)
    (hgrow : (W.alloc tmp).grownBy w1 v.ownBlock) (hne : Bx ≠ Bo) : Boxed (w1.setCell ⟨Bo, 0, none⟩ v') Bx t u := ((hb.alloc tmp).kept hgrow (hb.not_row hte hrow)).other hne v'
/-- what a round of Lex finds and leaves. -/
def LexI (s : ByteArray) (w : World) (pre : List Yld) (W : World) : Prop :=
  (∃ v, Boxed W (w.heap.size + 1 + 1 + 1) 23 v ∧ W.ownsRow w.heap.size 36 3 v pre.length (tokCells (pre.map keyY)) ∧ True) ∧
  Boxed W w.heap.size 23 (.slice none 0 0) ∧ Boxed W (w.heap.size + 1) 3 (.int .i64 0) ∧ Boxed W (w.heap.size + 1 + 1) 24 (.int .i64 0) ∧
  Boxed W (w.heap.size + 1 + 1 + 1 + 1) 9 (.string s) ∧ Below w.heap.size w W ∧ (∀ y ∈ pre, y.err = 0)
theorem LexI.own (s : ByteArray) (w : World) (B : Nat) (hB : w.heap.size ≤ B) : OwnFrom B (LexI s w) :=
  OwnFrom.and (Own.from (holdsRow_own w.heap.size _ _ _ 3 (fun pre : List Yld => pre.length) (fun pre => tokCells (pre.map keyY)) (fun _ _ => True)) _)
    (OwnFrom.and (Own.from (boxed_own _ _ _) _) (OwnFrom.and (Own.from (boxed_own _ _ _) _) (OwnFrom.and (Own.from (boxed_own _ _ _) _) (OwnFrom.and (Own.from (boxed_own _ _ _) _)
      (OwnFrom.and (ownFrom_below (Nat.le_refl _) hB) (ownFrom_pure _ _))))))
/-- what a round that ends it leaves. -/
def LexX (w : World) (c : Code) (pre : List Yld) (W : World) : Prop :=
  c = .ret ∧ ∃ zs y, pre = zs ++ [y] ∧ y.err ≠ 0 ∧ Boxed W w.heap.size 23 (.slice none 0 0) ∧ Boxed W (w.heap.size + 1) 3 (.int .i64 y.off) ∧ Boxed W (w.heap.size + 1 + 1) 24 (.int .i64 y.err) ∧ Below w.heap.size w W
theorem LexX.own (w : World) (B : Nat) (hB : w.heap.size ≤ B) (c : Code) : OwnFrom B (LexX w c) := fun pre W W' row hs hg hr => by
  obtain ⟨h0, zs, y, h1, h2, h3, h4, h5, h6⟩ := hs
  exact ⟨h0, zs, y, h1, h2, Own.from (boxed_own _ _ (fun _ : Unit => _)) B () W W' row h3 hg hr, Own.from (boxed_own _ _ (fun _ : Unit => _)) B () W W' row h4 hg hr, Own.from (boxed_own _ _ (fun _ : Unit => _)) B () W W' row h5 hg hr,
    ownFrom_below (β := Unit) (Nat.le_refl _) hB () W W' row h6 hg hr⟩
def lexAct (s : ByteArray) (B Bx : Nat) (y : Yld) : Act :=
  { tmps := #[.string s, undef, .pointer (some ⟨B, 0, none⟩), .pointer (some ⟨B + 1, 0, none⟩), .pointer (some ⟨B + 1 + 1, 0, none⟩), .pointer (some ⟨B + 1 + 1 + 1, 0, none⟩), .pointer (some ⟨Bx, 0, none⟩), .int .i64 y.err,
      .string s, .int .i64 s.size, .bool false, .string s, .func (.func 60) #[] #[.pointer (some ⟨B + 1 + 1 + 1 + 1, 0, none⟩)], .agg #[.int .i64 y.kind, .string y.text, .int .i64 y.off], .int .i64 y.err,
      undef, undef, undef, undef, undef, undef, undef, undef, undef, undef], defers := [] }

set_option maxRecDepth 100000 in
set_option maxHeartbeats 4000000 in
theorem Lex_any (s : ByteArray) (w : World) (hm : MaxOk w) : Calls Tryd.prog 12 #[.string s] w (LexR s w) := by
  refine (callsIn_wide (n := 6)).1 ?_
  refine callsIn_of_wp_marks Tryd.func12 rfl trivial ?_ rfl
  simp only [Tryd.ntmps12, List.size_toArray, List.length_cons, List.length_nil, Nat.reduceAdd, Nat.reduceSub, Array.replicate_succ, Array.replicate_zero, List.push_toArray, List.append_toArray, List.nil_append, List.cons_append]
  by_cases h : 65536 < s.size
  · have HE := Lib.hid (lexS_big s h)
    have h2 : 65536 < (s.size : Int) := by omega
    gi_wp2_with fail
    refine ⟨.tuple #[.slice none 0 0, .int .i64 0, .int .i64 7], by simp [results, Tryd.results12, go_sem], ?_⟩
    exact ⟨_, by rw [HE.out]; rfl, by rw [HE.out]; exact (Mine.nil _ _ _ _ (by simp; omega)).out, fun _ => rfl, (((Below.refl _ w).alloc (Nat.le_refl _) _).alloc (by simp) _).alloc (by simp; omega) _⟩
  · have h2 : ¬ 65536 < (s.size : Int) := by omega
    have h3 : s.size ≤ 65536 := by omega
    gi_wp2_with fail
    refine ⟨trivial, ?_⟩
    refine (tokens_in _ _ _).mono ?_
    rintro e w' ⟨rfl, rfl⟩
    gi_wp2_with fail
    have b0 := ((((Boxed.new w 23 (.slice none 0 0)).alloc (.cells #[.int .i64 0] 3)).alloc (.cells #[.int .i64 0] 24)).alloc (.cells #[.slice none 0 0] 23)).alloc (.cells #[.string s] 9)
    have b1 := (((Boxed.new (w.alloc (.cells #[.slice none 0 0] 23)) 3 (.int .i64 0)).alloc (.cells #[.int .i64 0] 24)).alloc (.cells #[.slice none 0 0] 23)).alloc (.cells #[.string s] 9)
    have b2 := ((Boxed.new ((w.alloc (.cells #[.slice none 0 0] 23)).alloc (.cells #[.int .i64 0] 3)) 24 (.int .i64 0)).alloc (.cells #[.slice none 0 0] 23)).alloc (.cells #[.string s] 9)
    have b3 := (Boxed.new (((w.alloc (.cells #[.slice none 0 0] 23)).alloc (.cells #[.int .i64 0] 3)).alloc (.cells #[.int .i64 0] 24)) 23 (.slice none 0 0)).alloc (.cells #[.string s] 9)
    have b4 := Boxed.new ((((w.alloc (.cells #[.slice none 0 0] 23)).alloc (.cells #[.int .i64 0] 3)).alloc (.cells #[.int .i64 0] 24)).alloc (.cells #[.slice none 0 0] 23)) 9 (.string s)
    simp only [World.size_alloc] at b1 b2 b3 b4
    have hB0 : Below w.heap.size w (((((w.alloc (.cells #[.slice none 0 0] 23)).alloc (.cells #[.int .i64 0] 3)).alloc (.cells #[.int .i64 0] 24)).alloc (.cells #[.slice none 0 0] 23)).alloc (.cells #[.string s] 9)) :=
      (((((Below.refl _ w).alloc (Nat.le_refl _) _).alloc (by simp) _).alloc (by simp; omega) _).alloc (by simp; omega) _).alloc (by simp; omega) _
    have hsz : (((((w.alloc (.cells #[.slice none 0 0] 23)).alloc (.cells #[.int .i64 0] 3)).alloc (.cells #[.int .i64 0] 24)).alloc (.cells #[.slice none 0 0] 23)).alloc (.cells #[.string s] 9)).heap.size = w.heap.size + 5 := by simp
    obtain ⟨W0, hW0⟩ : ∃ W0, (((((w.alloc (.cells #[.slice none 0 0] 23)).alloc (.cells #[.int .i64 0] 3)).alloc (.cells #[.int .i64 0] 24)).alloc (.cells #[.slice none 0 0] 23)).alloc (.cells #[.string s] 9)) = W0 := ⟨_, rfl⟩
    rw [hW0] at b0 b1 b2 b3 b4 hB0 hsz ⊢
    clear hW0
    have hpos := hm.pos
    have hm0 := hm.below hB0 hpos
    obtain ⟨i0, hi, hz0, hz1, hz2⟩ := info_parts info_toks
    refine wpIn_rangeFunc_ownH rfl (by decide) (gf := 60) (lb := #[.pointer (some ⟨w.heap.size + 1 + 1 + 1 + 1, 0, none⟩)]) rfl trivial (enters_of Tryd.func60 (by kernel_rfl) rfl)
      (tokens_stops 5 (by decide) (w.heap.size + 1 + 1 + 1 + 1) w.heap.size s h3 hpos W0 b4 hm0) kpB_t (kpB_b (by omega) (by omega)) (Below.refl _ _) (fun _ => rfl)
      (LexI s w) (LexX w) (LexI.own s w _ (by omega)) (LexX.own w _ (by omega)) ⟨⟨_, b3, World.ownsRow_nil _ _ _ _, trivial⟩, b0, b1, b2, b4, hB0, by simp⟩
      (fun y a' W => ∃ Bx, w.heap.size + 5 ≤ Bx ∧ W.heap[Bx]? = some (.cells #[.int .i64 y.kind, .string y.text, .int .i64 y.off] 36 (0, 0)) ∧ a' = lexAct s w.heap.size Bx y)
      (fun y a' _ X Y row hs hg hr => by obtain ⟨Bx, h1, h2, h3⟩ := hs; exact ⟨Bx, h1, cells_own Bx _ _ () X Y row h2 hg (fun r e => (hr r e).2), h3⟩)
      ?assign ?body ?done ?stop
    case assign =>
      rintro l pre ⟨kd, tx, off, er⟩ W K hI hK
      simp only [encY]
      gi_wp2
      have h4 := hI.2.2.2.2.1
      have hB := hI.2.2.2.2.2.1
      have hlt := h4.lt
      exact hK _ _ ((KeepsOthers.alloc _ _).from _) ⟨Below.heap_alloc _ _ _ hlt, (Below.refl _ W).alloc hB.size _⟩ ((LexI.own s w _ (Nat.le_refl _)).alloc _ hI) ⟨W.heap.size, by omega, World.alloc_heap_new W _, rfl⟩
    case body =>
      rintro l pre ⟨kd, tx, off, er⟩ a' W hl ⟨r, hr⟩ ⟨⟨v, hv, hrow, _⟩, h0, h1, h2, h4, hB, he⟩ ⟨Bx, hBx, bX, rfl⟩ hlt
      unfold lexAct
      have hsW := hB.size
      have cO := hv.cell
      have cX0 : W.cell? ⟨Bx, 0, none⟩ = some (.int .i64 kd) := by simp [World.cell?, bX]
      have cX1 : W.cell? ⟨Bx, 1, none⟩ = some (.string tx) := by simp [World.cell?, bX]
      have cX2 : W.cell? ⟨Bx, 2, none⟩ = some (.int .i64 off) := by simp [World.cell?, bX]
      by_cases h : er = 0
      · subst h
        have HE := Lib.hid he
        clear he
        gi_wp2_with (gi_at_builtin; refine wpListIn_append_own _ rfl _ _ 23 rfl w.heap.size 36 i0 _ 3 32 Tryd.underlying23 hi hz0 hz1 hz2 rfl (by decide) _ _ _ (by rfl) (hrow.alloc _) ⟨W.heap.size, 0, none⟩ 1 1 [.int .i64 kd, .string tx, .int .i64 off] (by rfl) (by rfl) (news_at W _ _) (by simp [Value.oneCell']) (by unfold maxLen; omega) (by omega) (by simp; omega) ?_; intro v' w1 hown' hgrow _; obtain ⟨g', cap', rfl⟩ := ownsRow_succ hown'; obtain ⟨hv1, hv2, hr2, hk2, hb2⟩ := hv.appended (by decide) hrow hsW (by omega) hown' hgrow; have hc1 := hv1.cell; have hf1 := hv1.frozen)
        refine ⟨hk2.from _, ⟨?_, hb2⟩, ⟨⟨_, hv2, ?_, trivial⟩, kept_append h0 (by decide) hrow hgrow (by omega), kept_append h1 (by decide) hrow hgrow (by omega), kept_append h2 (by decide) hrow hgrow (by omega), kept_append h4 (by decide) hrow hgrow (by omega), hB.trans hb2, ?_⟩⟩
        · exact (kept_append h4 (by decide) hrow hgrow (by omega)).trans h4.symm
        · rw [tokCells_y, List.length_append]; exact hr2
        · intro y hy
          rcases List.mem_append.1 hy with h | h
          · exact HE.out y h
          · rw [List.mem_singleton] at h; rw [h]
      · have h5 : (er == 0) = false := by rw [beq_eq_false_iff_ne]; exact h
        have H0 := Lib.hid h
        clear h
        have c0 := h0.cell
        have f0 := h0.frozen
        have c1 := h1.cell
        have f1 := h1.frozen
        have c2 := h2.cell
        have f2 := h2.frozen
        obtain ⟨W3, hW3⟩ : ∃ W3, (((W.setCell ⟨w.heap.size, 0, none⟩ (.slice none 0 0)).setCell ⟨w.heap.size + 1, 0, none⟩ (.int .i64 off)).setCell ⟨w.heap.size + 1 + 1, 0, none⟩ (.int .i64 er)).drew = W3 := ⟨_, rfl⟩
        have hk : KeepsFrom W0.heap.size W W3 := by
          rw [← hW3]
          exact ((((KeepsOthers.setCell _ _ _).trans (KeepsOthers.setCell _ _ _)).trans (KeepsOthers.setCell _ _ _)).trans (KeepsOthers.drew _)).from _
        have hx : LexX w .ret (pre ++ [⟨kd, tx, off, er⟩]) W3 := by
          rw [← hW3]
          refine ⟨rfl, pre, _, rfl, H0.out, ?_, ?_, ?_, hB.trans (((((Below.refl _ W).setCell (p := ⟨w.heap.size, 0, none⟩) (Nat.le_refl _) _).setCell (p := ⟨w.heap.size + 1, 0, none⟩) (by simp) _).setCell (p := ⟨w.heap.size + 1 + 1, 0, none⟩) (by simp; omega) _).drew)⟩
          · exact ((h0.set _).other (by omega) _).other (by omega) _
          · exact ((h1.other (by omega) _).set _).other (by omega) _
          · exact ((h2.other (by omega) _).other (by omega) _).set _
        have HK := Lib.hid hk
        have HX := Lib.hid hx
        clear hk hx
        gi_wp2
        gi_region
        all_goals
          gi_wp2
          exact ⟨HK.out, HX.out⟩
    case done =>
      rintro D ys W hD hys ⟨⟨v, hv, hrow, _⟩, h0, h1, h2, h4, hB, he⟩ hK
      have hOK : ∃ zs e, ys = zs ++ [e] ∧ Runs s (startS s) zs s.size ∧ e.kind = 0 ∧ e.text = ⟨#[]⟩ ∧ e.off = s.size := by
        rcases hys with ⟨zs, e, h5, h6, h7, h8, h9, _⟩ | ⟨zs, e, b, h5, h6, h7, h8, h9, h10⟩
        · exact ⟨zs, e, h5, h6, h7, h8, h9⟩
        · exact absurd (h10.symm.trans (he e (by rw [h5]; simp))) h8
      obtain ⟨zs, e, rfl, hR, h5, h6, h7⟩ := hOK
      have HX : Hid (lexS s = ⟨(zs ++ [e]).map keyY, 0, 0⟩) := Lib.hid (by rw [lex_done s h3 zs hR, List.map_append, List.map_singleton, keyY_eq e 0 [] s.size h5 h6 h7])
      rw [List.length_append] at hrow
      obtain ⟨g, cap, rfl⟩ := ownsRow_succ hrow
      clear he hys h5 h6 h7
      have c0 := h0.cell
      have f0 := h0.frozen
      have c1 := h1.cell
      have f1 := h1.frozen
      have c2 := h2.cell
      have f2 := h2.frozen
      have cO := hv.cell
      have hlt := h2.lt
      obtain ⟨v, hv⟩ : ∃ v, Value.slice (some ⟨g, 0, none⟩) (zs.length + 1) cap = v := ⟨_, rfl⟩
      obtain ⟨W3, hW3⟩ : ∃ W3, ((W.setCell ⟨w.heap.size, 0, none⟩ v).setCell ⟨w.heap.size + 1, 0, none⟩ (.int .i64 0)).setCell ⟨w.heap.size + 1 + 1, 0, none⟩ (.int .i64 0) = W3 := ⟨_, rfl⟩
      have g0 : Boxed W3 w.heap.size 23 v := by rw [← hW3]; exact ((h0.set _).other (by omega) _).other (by omega) _
      have g1 : Boxed W3 (w.heap.size + 1) 3 (.int .i64 0) := by rw [← hW3]; exact ((h1.other (by omega) _).set _).other (by omega) _
      have g2 : Boxed W3 (w.heap.size + 1 + 1) 24 (.int .i64 0) := by rw [← hW3]; exact ((h2.other (by omega) _).other (by omega) _).set _
      have gK : W3.heap[D]? = some (.deferred (some [])) := by
        rw [← hW3, Below.heap_setCell _ _ _ _ (by simp; omega), Below.heap_setCell _ _ _ _ (by simp; omega), Below.heap_setCell _ _ _ _ (by simp; omega)]; exact hK
      have gB : Below w.heap.size W W3 := by
        rw [← hW3]
        exact (((Below.refl _ W).setCell (p := ⟨w.heap.size, 0, none⟩) (Nat.le_refl _) _).setCell (p := ⟨w.heap.size + 1, 0, none⟩) (by simp) _).setCell (p := ⟨w.heap.size + 1 + 1, 0, none⟩) (by simp; omega) _
      have gR : W3.ownsRow w.heap.size 36 3 v (zs.length + 1) (tokCells ((zs ++ [e]).map keyY)) := by
        rw [← hW3]
        rw [hv] at hrow
        have r1 := hrow.kept (grownBy_setCell' W w.heap.size v) (.inr (h0.not_row (by decide) hrow).symm)
        have r2 := r1.kept (grownBy_setCell' _ (w.heap.size + 1) (.int .i64 0)) (.inr ((h1.other (by omega) v).not_row (by decide) r1).symm)
        exact r2.kept (grownBy_setCell' _ (w.heap.size + 1 + 1) (.int .i64 0)) (.inr (((h2.other (by omega) v).other (by omega) _).not_row (by decide) r2).symm)
      have gO := ownsRow_putObj gR (.deferred none) gK rfl
      have k0 := (g0.kept (grownBy_putObj' W3 D (.deferred none)) (by intro e; cases e; omega)).cell
      have k1 := (g1.kept (grownBy_putObj' W3 D (.deferred none)) (by intro e; cases e; omega)).cell
      have k2 := (g2.kept (grownBy_putObj' W3 D (.deferred none)) (by intro e; cases e; omega)).cell
      have hb2 := (hB.trans gB).trans (belowK_b (w := w) (Nat.le_refl _) W3 D _ (.deferred none) (by omega) gK rfl rfl)
      have HF := Lib.hid (And.intro gO (And.intro gK (And.intro k0 (And.intro k1 (And.intro k2 hb2)))))
      have HW := Lib.hid hW3
      have HV := Lib.hid hv
      clear gR gO gK k0 k1 k2 hb2 g0 g1 g2 gB hW3 hv
      gi_wp2
      rw [HV.out, HW.out]
      refine ⟨by simp, .inl ⟨_, _, rfl, run_takeDeferred HF.out.2.1, ?_⟩⟩
      obtain ⟨gO, -, k0, k1, k2, hb2⟩ := HF.out
      refine ⟨.tuple #[v, .int .i64 0, .int .i64 0], by simp [results, Tryd.results12, go_sem, k0, k1, k2], ?_⟩
      exact ⟨_, by rw [HX.out]; rfl, by rw [HX.out]; exact ⟨by simpa using gO, hb2.size⟩, fun h => absurd (by rw [HX.out]) h, hb2⟩
    case stop =>
      rintro D c pre W hD hpre ⟨rfl, zs, y, rfl, hy, h0, h1, h2, hB⟩ hK
      have hlt := h2.lt
      have k0 := (h0.kept (grownBy_putObj' W D (.deferred none)) (by intro e; cases e; omega)).cell
      have k1 := (h1.kept (grownBy_putObj' W D (.deferred none)) (by intro e; cases e; omega)).cell
      have k2 := (h2.kept (grownBy_putObj' W D (.deferred none)) (by intro e; cases e; omega)).cell
      have HX : lexS s = ⟨[], y.off, y.err⟩ := by
        rcases hpre with ⟨zs', e, h5, h6, h7, h8, h9, h10⟩ | ⟨zs', e, b, h5, h6, h7, h8, h9⟩
        · obtain ⟨-, h5⟩ := List.append_inj' h5 rfl
          cases h5
          exact absurd h10 hy
        · obtain ⟨h11, h12⟩ := List.append_inj' h5 rfl
          clear h5
          subst h11
          cases h12
          rw [h8, h9]
          exact lex_stop s h3 _ _ h6 h7 (by rw [← h9]; exact hy)
      gi_wp2
      refine ⟨by simp, .inl ⟨_, _, rfl, run_takeDeferred hK, ?_⟩⟩
      refine ⟨.tuple #[.slice none 0 0, .int .i64 y.off, .int .i64 y.err], by simp [results, Tryd.results12, go_sem, k0, k1, k2], ?_⟩
      have hb2 := hB.trans (belowK_b (w := w) (Nat.le_refl _) W D _ (.deferred none) (by omega) hK rfl rfl)
      exact ⟨_, by rw [HX], by rw [HX]; exact (Mine.nil _ _ _ _ hb2.size).out, fun _ => rfl, hb2⟩
end Go.Proofs.YtmlfoffahfbalaaDoor
