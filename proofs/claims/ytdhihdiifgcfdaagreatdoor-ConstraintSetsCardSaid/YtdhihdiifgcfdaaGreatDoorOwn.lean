/- Slices that a call makes itself: what is owned, and what an append to it leaves. -/
import Derived.Test.YtdhihdiifgcfdaaGreatDoorChars
import Derived.Maps.AppendAt
import Derived.Lib.Bytes
import Derived.Lib.Builder
namespace Go.Proofs.YtdhihdiifgcfdaaGreatDoor
open Go Go.RowKit

/-- a slice value of the call's own (in blocks from B on): its elements' cells. -/
def Mine (e size B : Nat) (v : Value) (n : Nat) (xs : List Value) (w : World) : Prop := w.ownsRow B e size v n xs ∧ B ≤ w.heap.size
theorem Mine.nil (e size B : Nat) (w : World) (h : B ≤ w.heap.size) : Hid (Mine e size B (.slice none 0 0) 0 [] w) := Lib.hid ⟨World.ownsRow_nil _ _ _ _, h⟩
theorem Mine.new (e size B : Nat) (n : Nat) (xs : List Value) (cs : Array Value) (w : World) (h : B ≤ w.heap.size) (hc : cs = xs.toArray) (hx : xs.length = n * size) (hn : n ≤ maxLen) :
    Hid (Mine e size B (.slice (some ⟨w.heap.size, 0, none⟩) n n) n xs (w.alloc (.cells cs e))) := by
  subst hc
  refine Lib.hid ⟨?_, by simp; omega⟩
  have := World.ownsRow_made (base := B) (e := e) (size := size) w xs.toArray n h hn (by simpa using hx)
  refine ⟨hx, .inr ⟨w.heap.size, n, xs.toArray, rfl, h, heap_alloc_new w _, Nat.le_refl _, hn, by simpa using hx, ?_⟩⟩
  rw [← hx]; simp
theorem Mine.below {e size B : Nat} {v : Value} {n : Nat} {xs : List Value} {w w' : World} (h : Hid (Mine e size B v n xs w)) (hb : Below w.heap.size w w') : Hid (Mine e size B v n xs w') := by
  obtain ⟨⟨h1, h2⟩, h3⟩ := h.out
  refine Lib.hid ⟨⟨h1, ?_⟩, by have := hb.size; omega⟩
  rcases h2 with h2 | ⟨g, cap, cur, hv, hg, hh, r⟩
  · exact .inl h2
  · exact .inr ⟨g, cap, cur, hv, hg, by rw [hb.block g (lt_of_block hh)]; exact hh, r⟩
theorem Mine.shape {e size B : Nat} {v : Value} {n : Nat} {xs : List Value} {w : World} (h : Mine e size B v n xs w) (hn : 0 < n) : ∃ g cap, v = .slice (some ⟨g, 0, none⟩) n cap := by
  obtain ⟨⟨h1, h2⟩, h3⟩ := h
  rcases h2 with ⟨_, h2⟩ | ⟨g, cap, cur, hv, _⟩
  · omega
  · exact ⟨g, cap, hv⟩
theorem Mine.ge {e size B g cap : Nat} {n : Nat} {xs : List Value} {w : World} (h : Mine e size B (.slice (some ⟨g, 0, none⟩) n cap) n xs w) : B ≤ g ∧ g < w.heap.size := h.1.lt g rfl
theorem Mine.cell {e size B g cap : Nat} {n : Nat} {xs : List Value} {w : World} (h : Mine e size B (.slice (some ⟨g, 0, none⟩) n cap) n xs w) (j : Nat) (hj : j < n * size) : w.cell? ⟨g, j, none⟩ = xs[j]? := h.1.cellAt j hj

theorem news_at (w : World) (news : List Value) (e : TypeId) : ∀ j u, news[j]? = some u → (w.alloc (.cells news.toArray e)).cell? ((⟨w.heap.size, 0, none⟩ : Addr).add j) = some u := by
  intro j u h
  have : ((⟨w.heap.size, 0, none⟩ : Addr).add j) = ⟨w.heap.size, j, none⟩ := by
    unfold Addr.add
    split
    · rename_i h; subst h; rfl
    · simp
  rw [this, World.cell?_alloc_at _ _ _ _ rfl]
  simpa using h

theorem info_bytes : (Tryz.prog.info? 5).map (fun i => (i.zero, i.size, i.bytes)) = some (some (.int .u8 0), 1, 1) := by kernel_rfl
/-- an append of new elements to a slice of the call's own. -/
theorem app_bytes {ops : Array Oper} {rest : List Oper} {o : Oper} {a : Act} {Q : Exit → Act → World → Prop} (w : World) (hgd : o.guard = none) (s x : Operand)
    (ho : o.op = .call { callee := .builtin .append, args := #[s, x], argTypes := #[100, 100] }) (B : Nat) (v : Value) (n : Nat) (xs : List Value) (hs : a.eval s = v) (hown : Hid (Mine 5 1 B v n xs w))
    (m : Nat) (news : List Value) (cs : Array Value) (hcs : cs = news.toArray) (hx : a.eval x = .slice (some ⟨w.heap.size, 0, none⟩) m m) (hl : news.length = m * 1) (h1 : ∀ u ∈ news, u.oneCell' = true) (hm : 0 < m) (hb : n + m ≤ 4000000000)
    (h : ∀ g cap w', Hid (Mine 5 1 B (.slice (some ⟨g, 0, none⟩) (n + m) cap) (n + m) (xs ++ news) w') → Below B w w' → wpList Tryz.prog ops Q rest (a.put o.dst (.slice (some ⟨g, 0, none⟩) (n + m) cap)) w') :
    wpList Tryz.prog ops Q (o :: rest) a (w.alloc (.cells cs 5)) := by
  subst hcs
  obtain ⟨i0, hi, hz0, hz1, hz2⟩ := info_parts info_bytes
  obtain ⟨ho1, hB⟩ := hown.out
  refine wpList_append_own _ hgd s x 100 ho B 5 i0 (.int .u8 0) 1 1 Tryz.underlying100 hi hz0 hz1 hz2 rfl (by decide) v n xs hs (ho1.alloc _) ⟨w.heap.size, 0, none⟩ m m news hx hl (news_at w news _) h1 (by unfold maxLen; omega) (by omega) (by simp; omega) ?_
  intro v' w' hown' hgrow _
  have hbel : Below B w w' := ((Below.refl B w).alloc hB _).grown hgrow (by simp; omega) (fun k hk => (ho1.lt k hk).1)
  have hO : Mine 5 1 B v' (n + m) (xs ++ news) w' := ⟨hown', by have := hbel.size; omega⟩
  obtain ⟨g, cap, rfl⟩ := hO.shape (by omega)
  exact h g cap w' (Lib.hid hO) hbel
theorem info_strs : (Tryz.prog.info? 9).map (fun i => (i.zero, i.size, i.bytes)) = some (some (.string ⟨#[]⟩), 1, 16) := by kernel_rfl
/-- an append of new elements to a slice of the call's own. -/
theorem app_strs {ops : Array Oper} {rest : List Oper} {o : Oper} {a : Act} {Q : Exit → Act → World → Prop} (w : World) (hgd : o.guard = none) (s x : Operand)
    (ho : o.op = .call { callee := .builtin .append, args := #[s, x], argTypes := #[61, 61] }) (B : Nat) (v : Value) (n : Nat) (xs : List Value) (hs : a.eval s = v) (hown : Hid (Mine 9 1 B v n xs w))
    (m : Nat) (news : List Value) (cs : Array Value) (hcs : cs = news.toArray) (hx : a.eval x = .slice (some ⟨w.heap.size, 0, none⟩) m m) (hl : news.length = m * 1) (h1 : ∀ u ∈ news, u.oneCell' = true) (hm : 0 < m) (hb : n + m ≤ 4000000000)
    (h : ∀ g cap w', Hid (Mine 9 1 B (.slice (some ⟨g, 0, none⟩) (n + m) cap) (n + m) (xs ++ news) w') → Below B w w' → wpList Tryz.prog ops Q rest (a.put o.dst (.slice (some ⟨g, 0, none⟩) (n + m) cap)) w') :
    wpList Tryz.prog ops Q (o :: rest) a (w.alloc (.cells cs 9)) := by
  subst hcs
  obtain ⟨i0, hi, hz0, hz1, hz2⟩ := info_parts info_strs
  obtain ⟨ho1, hB⟩ := hown.out
  refine wpList_append_own _ hgd s x 61 ho B 9 i0 (.string ⟨#[]⟩) 1 16 Tryz.underlying61 hi hz0 hz1 hz2 rfl (by decide) v n xs hs (ho1.alloc _) ⟨w.heap.size, 0, none⟩ m m news hx hl (news_at w news _) h1 (by unfold maxLen; omega) (by omega) (by simp; omega) ?_
  intro v' w' hown' hgrow _
  have hbel : Below B w w' := ((Below.refl B w).alloc hB _).grown hgrow (by simp; omega) (fun k hk => (ho1.lt k hk).1)
  have hO : Mine 9 1 B v' (n + m) (xs ++ news) w' := ⟨hown', by have := hbel.size; omega⟩
  obtain ⟨g, cap, rfl⟩ := hO.shape (by omega)
  exact h g cap w' (Lib.hid hO) hbel
/-- the bytes of a slice of the call's own, as a string. -/
theorem conv_own (B : Nat) (v : Value) (l : List UInt8) (w : World) (h : Hid (Mine 5 1 B v l.length (Lib.byteCells l) w)) :
    (convert 100 9 v).run Tryz.prog w = .ok (.string ⟨l.toArray⟩) w := by
  obtain ⟨⟨h1, h2⟩, h3⟩ := h.out
  rcases h2 with ⟨rfl, h2⟩ | ⟨g, cap, cur, rfl, hg, hh, hn, hm, hs, ht⟩
  · have : l = [] := List.length_eq_zero_iff.1 h2
    subst this
    rw [run_convert_bytes_string w 100 9 5 none 0 0 Tryz.underlying100 Tryz.underlying5 Tryz.underlying9]
    rfl
  · refine run_convert_bytes_back w 100 9 5 ⟨g, 0, none⟩ cap l Tryz.underlying100 Tryz.underlying5 Tryz.underlying9 (fun j hj => ?_)
    have ho : Mine 5 1 B (.slice (some ⟨g, 0, none⟩) l.length cap) l.length (Lib.byteCells l) w := ⟨⟨h1, .inr ⟨g, cap, cur, rfl, hg, hh, hn, hm, hs, ht⟩⟩, h3⟩
    have := ho.cell j (by omega)
    have e : ((⟨g, 0, none⟩ : Addr).add j) = ⟨g, j, none⟩ := by
      unfold Addr.add
      split
      · rename_i h; subst h; rfl
      · simp
    rw [e, this]
    simp [Lib.byteCells, hj]
end Go.Proofs.YtdhihdiifgcfdaaGreatDoor
