/- Insertion into a sorted list of spans, plain. Contract of the reference's Canonical. -/
import Derived.Test.YtenfkejbndifdaaGreatDoorUA
import Derived.Test.YtenfkejbndifdaaGreatDoorUE
import Derived.Test.YtenfkejbndifdaaGreatDoorUC
import Derived.Test.YtenfkejbndifdaaGreatDoorUF
import Derived.Deep.RegionLawGrows
import Derived.Lib.SmallJoins
import Derived.Laws.OwnMore
namespace Go.Proofs.YtenfkejbndifdaaGreatDoor
set_option linter.unusedVariables false
set_option linter.unusedSimpArgs false

def backK (l : List (Int × Int)) (a : Int) : Nat → Nat
  | 0 => 0
  | k + 1 => if a < (l.getD k (0, 0)).1 then backK l a k else k + 1
def insS (l : List (Int × Int)) (x : Int × Int) : List (Int × Int) := l.take (backK l x.1 l.length) ++ ([x] ++ l.drop (backK l x.1 l.length))
def insAll (l : List (Int × Int)) : List (Int × Int) := l.foldl insS []
theorem insAll_snoc (l : List (Int × Int)) (x : Int × Int) : insAll (l ++ [x]) = insS (insAll l) x := by
  unfold insAll
  rw [List.foldl_append]
  rfl
theorem backK_le (l : List (Int × Int)) (a : Int) : ∀ k, backK l a k ≤ k
  | 0 => Nat.le_refl _
  | k + 1 => by
    have := backK_le l a k
    unfold backK
    split <;> omega
theorem backK_above (l : List (Int × Int)) (a : Int) : ∀ k i, backK l a k ≤ i → i < k → a < (l.getD i (0, 0)).1
  | 0, i, _, h => by omega
  | k + 1, i, h1, h2 => by
    unfold backK at h1
    split at h1
    · rename_i hc
      rcases Nat.lt_or_ge i k with h | h
      · exact backK_above l a k i h1 h
      · obtain rfl : i = k := by omega
        exact hc
    · omega
theorem backK_at (l : List (Int × Int)) (a : Int) : ∀ k j, backK l a k = j + 1 → (l.getD j (0, 0)).1 ≤ a
  | 0, j, h => by cases h
  | k + 1, j, h => by
    unfold backK at h
    split at h
    · exact backK_at l a k j h
    · rename_i hc
      obtain rfl : k = j := by omega
      omega
theorem insS_perm (l : List (Int × Int)) (x : Int × Int) : (insS l x).Perm (l ++ [x]) := by
  unfold insS
  generalize backK l x.1 l.length = k
  have h1 : ([x] ++ l.drop k).Perm (l.drop k ++ [x]) := List.perm_append_comm
  have h2 := h1.append_left (l.take k)
  have e : l.take k ++ (l.drop k ++ [x]) = l ++ [x] := by rw [← List.append_assoc, List.take_append_drop]
  rwa [e] at h2
theorem insS_len (l : List (Int × Int)) (x : Int × Int) : (insS l x).length = l.length + 1 := by
  have := (insS_perm l x).length_eq
  simpa using this
theorem insS_sorted (l : List (Int × Int)) (x : Int × Int) (h : l.Pairwise (fun a b => a.1 ≤ b.1)) : (insS l x).Pairwise (fun a b => a.1 ≤ b.1) := by
  have ha := backK_above l x.1 l.length
  have hat := backK_at l x.1 l.length
  have hle := backK_le l x.1 l.length
  unfold insS
  generalize backK l x.1 l.length = k at *
  have hg : ∀ i (hi : i < l.length), l.getD i (0, 0) = l[i] := fun i hi => by simp [hi]
  have hd : ∀ b ∈ l.drop k, x.1 ≤ b.1 := fun b hb => by
    obtain ⟨i, hi, rfl⟩ := List.getElem_of_mem hb
    have hi2 : k + i < l.length := by rw [List.length_drop] at hi; omega
    have := ha (k + i) (by omega) hi2
    rw [hg _ hi2] at this
    rw [List.getElem_drop]
    omega
  have ht : ∀ a ∈ l.take k, a.1 ≤ x.1 := fun a hm => by
    obtain ⟨i, hi, rfl⟩ := List.getElem_of_mem hm
    rw [List.length_take] at hi
    rw [List.getElem_take]
    obtain ⟨k', rfl⟩ : ∃ k', k = k' + 1 := ⟨k - 1, by omega⟩
    have h2 := hat k' rfl
    rw [hg k' (by omega)] at h2
    rcases Nat.lt_or_ge i k' with h3 | h3
    · have := List.pairwise_iff_getElem.1 h i k' (by omega) (by omega) h3
      omega
    · obtain rfl : i = k' := by omega
      exact h2
  refine List.pairwise_append.2 ⟨h.sublist (List.take_sublist _ _), ?_, fun a hm b hb => ?_⟩
  · rw [List.singleton_append, List.pairwise_cons]
    exact ⟨hd, h.sublist (List.drop_sublist _ _)⟩
  · rw [List.singleton_append] at hb
    rcases List.mem_cons.1 hb with rfl | hb
    · exact ht a hm
    · have := ht a hm
      have := hd b hb
      omega
theorem foldl_ins : ∀ (l acc : List (Int × Int)), acc.Pairwise (fun a b => a.1 ≤ b.1) → (l.foldl insS acc).Perm (acc ++ l) ∧ (l.foldl insS acc).Pairwise (fun a b => a.1 ≤ b.1)
  | [], acc, h => ⟨by simp, h⟩
  | x :: l, acc, h => by
    obtain ⟨h1, h2⟩ := foldl_ins l (insS acc x) (insS_sorted acc x h)
    refine ⟨h1.trans ?_, h2⟩
    have := (insS_perm acc x).append_right l
    simpa using this
theorem insAll_perm (l : List (Int × Int)) : (insAll l).Perm l := by
  have := (foldl_ins l [] List.Pairwise.nil).1
  rwa [List.nil_append] at this
theorem insAll_sorted (l : List (Int × Int)) : (insAll l).Pairwise (fun a b => a.1 ≤ b.1) := (foldl_ins l [] List.Pairwise.nil).2
theorem insAll_len (l : List (Int × Int)) : (insAll l).length = l.length := (insAll_perm l).length_eq
theorem ins_canon (s : List (Int × Int)) : mergeS (insAll (clampS s)) = canon s := merge_canon (insAll_perm _) (insAll_sorted _)
theorem clamp_snoc (l : List (Int × Int)) (x : Int × Int) : clampS (l ++ [x]) = if (clamp x).1 < (clamp x).2 then clampS l ++ [clamp x] else clampS l := by
  unfold clampS
  rw [List.map_append, List.filter_append]
  by_cases h : (clamp x).1 < (clamp x).2 <;> simp [h]
theorem mergeS_take (l : List (Int × Int)) (x : Int × Int) : mergeS (l ++ [x]) = joinS (mergeS l) x := by
  unfold mergeS
  rw [List.foldl_append]
  rfl
end Go.Proofs.YtenfkejbndifdaaGreatDoor

namespace Go.Proofs.YtenfkejbndifdaaGreatDoor
set_option linter.unusedVariables false
set_option linter.unusedSimpArgs false
open Go Go.RowKit Go.Sort

theorem step_append_own {P : Program} {ops : Array Oper} {o : Oper} {a : Act} {w : World} {K : Act → World → Prop} {Q : Exit → Act → World → Prop} {E : Prop} (hgd : o.guard = none) (s x : Operand) (t : TypeId)
    (ho : o.op = .call { callee := .builtin .append, args := #[s, x], argTypes := #[t, t] })
    (base : Nat) (e : TypeId) (i : TypeInfo) (z : Value) (size bytes : Nat) (ht : P.underlying t = some (.slice e)) (hi : P.info? e = some i) (hz : i.zero = some z)
    (hsize : i.size = size) (hby : i.bytes = bytes) (hzs : z.cells.size = size) (hsz : 0 < size)
    (v : Value) (n : Nat) (xs : List Value) (hs : a.eval s = v) (hown : w.ownsRow base e size v n xs)
    (ad : Addr) (m c : Nat) (news : List Value) (hx : a.eval x = .slice (some ad) m c) (hl : news.length = m * size) (hnews : ∀ j u, news[j]? = some u → w.cell? (ad.add j) = some u) (h1 : ∀ u ∈ news, u.oneCell' = true)
    (h63 : n + m ≤ maxLen) (hbytes : (n + m) * bytes ≤ 140737488355328) (hbase : base ≤ w.heap.size)
    (h : ∀ v' w', w'.ownsRow base e size v' (n + m) (xs ++ news) → w.grownBy w' v.ownBlock → K (a.put o.dst v') w') :
    if Region.wanted o (yielded ops a.tmps) = true then Oper.wp P o a w K Q else E := by
  have hw : Region.wanted o (yielded ops a.tmps) = true := by simp [Region.wanted, hgd]
  rw [if_pos hw]
  exact wp_append_own w s x t ho base e i z size bytes ht hi hz hsize hby hzs hsz v n xs hs hown ad m c news hx hl hnews h1 h63 hbytes hbase fun v' w' h2 h3 _ => h v' w' h2 h3
theorem spanCells_append (a b : List (Int × Int)) : spanCells (a ++ b) = spanCells a ++ spanCells b := by unfold spanCells; rw [List.flatMap_append]
theorem spanCells_one (es : List (Int × Int)) : ∀ u ∈ spanCells es, u.oneCell' = true := fun u hu => by
  unfold spanCells at hu
  obtain ⟨x, _, hx⟩ := List.mem_flatMap.1 hu
  simp at hx
  rcases hx with rfl | rfl <;> rfl
theorem own_news {W : World} {B n g cap : Nat} {l : List (Int × Int)} (h : W.ownsRow B 133 2 (.slice (some ⟨g, 0, none⟩) n cap) n (spanCells l)) (k : Nat) :
    ∀ j u, (spanCells (l.drop k))[j]? = some u → W.cell? ((⟨g, k * 2, none⟩ : Addr).add j) = some u := fun j u hu => by
  have hk : k ≤ l.length := by
    rcases Nat.lt_or_ge l.length k with h1 | h1
    · rw [List.drop_eq_nil_of_le (by omega)] at hu
      simp [spanCells] at hu
    · exact h1
  have e : spanCells l = spanCells (l.take k) ++ spanCells (l.drop k) := by rw [← spanCells_append, List.take_append_drop]
  have hl : (spanCells (l.take k)).length = k * 2 := by rw [spanCells_length, List.length_take, Nat.min_eq_left hk]
  have := h.cells rfl (k * 2 + j) u (by rw [e, List.getElem?_append_right (by omega), hl, Nat.add_sub_cancel_left]; exact hu)
  have e0 : ∀ o i, (⟨g, o, none⟩ : Addr).add i = ⟨g, o + i, none⟩ := fun o i => by unfold Addr.add; split <;> simp_all
  rw [e0, Nat.zero_add] at this
  rw [e0]
  exact this
theorem own_olds {W : World} {B n g cap : Nat} {l : List (Int × Int)} (h : W.ownsRow B 133 2 (.slice (some ⟨g, 0, none⟩) n cap) n (spanCells l)) (k : Nat) :
    ∀ j u, (spanCells (l.take k))[j]? = some u → W.cell? ((⟨g, 0, none⟩ : Addr).add j) = some u := fun j u hu => by
  have e : spanCells l = spanCells (l.take k) ++ spanCells (l.drop k) := by rw [← spanCells_append, List.take_append_drop]
  exact h.cells rfl j u (by rw [e, List.getElem?_append_left (List.getElem?_eq_some_iff.1 hu).1]; exact hu)
theorem own_at {W : World} {B n g cap : Nat} {l : List (Int × Int)} (h : W.ownsRow B 133 2 (.slice (some ⟨g, 0, none⟩) n cap) n (spanCells l)) (i : Nat) (x : Int × Int) (hx : l[i]? = some x) :
    W.cell? ⟨g, i * 2, none⟩ = some (intC x.1) ∧ W.cell? ⟨g, i * 2 + 1, none⟩ = some (intC x.2) := by
  obtain ⟨h1, h2⟩ := spanCells_get l i x hx
  have e : ∀ j, (⟨g, 0, none⟩ : Addr).add j = ⟨g, j, none⟩ := fun j => by unfold Addr.add; split <;> simp_all
  have c1 := h.cells rfl _ _ h1
  have c2 := h.cells rfl _ _ h2
  rw [e] at c1 c2
  exact ⟨c1, c2⟩
theorem own_news_if {W : World} {B n g cap : Nat} {l : List (Int × Int)} (h : W.ownsRow B 133 2 (.slice (some ⟨g, 0, none⟩) n cap) n (spanCells l)) (hn : n = l.length) (hc : n ≤ cap) (k : Nat) :
    ∃ ad : Addr, (if cap = k then some (⟨g, 0, none⟩ : Addr) else some ⟨g, k * 2, none⟩) = some ad ∧ ∀ j u, (spanCells (l.drop k))[j]? = some u → W.cell? (ad.add j) = some u := by
  by_cases hk : cap = k
  · refine ⟨_, if_pos hk, fun j u hu => ?_⟩
    rw [List.drop_eq_nil_of_le (by omega)] at hu
    simp [spanCells] at hu
  · exact ⟨_, if_neg hk, own_news h k⟩
theorem drop_len {l : List (Int × Int)} {k : Nat} : (spanCells (l.drop k)).length = (l.length - k) * 2 := by rw [spanCells_length, List.length_drop]
theorem take_len {l : List (Int × Int)} {k : Nat} (h : k ≤ l.length) : (spanCells (l.take k)).length = k * 2 := by rw [spanCells_length, List.length_take, Nat.min_eq_left h]
theorem news_one (a b : Int) (es : List (Int × Int)) : ∀ u ∈ [intC a, intC b] ++ spanCells es, u.oneCell' = true := fun u hu => by
  rcases List.mem_append.1 hu with hu | hu
  · simp at hu
    rcases hu with rfl | rfl <;> rfl
  · exact spanCells_one es u hu
theorem join_set (pre : List (Int × Int)) (y : Int × Int) (z : Int) : (spanCells (pre ++ [y])).set (pre.length * 2 + 1) (intC z) = spanCells (pre ++ [(y.1, z)]) := by
  rw [spanCells_snoc, spanCells_snoc, List.set_append_right _ _ (by rw [spanCells_length]; omega), spanCells_length, Nat.add_sub_cancel_left]
  rfl

theorem own_low {W : World} {B B' e s n : Nat} {v : Value} {xs : List Value} (h : W.ownsRow B e s v n xs) (hB : B' ≤ B) : W.ownsRow B' e s v n xs := by
  refine ⟨h.1, ?_⟩
  rcases h.2 with h2 | ⟨g, cap, cur, rfl, hb, r⟩
  · exact .inl h2
  · exact .inr ⟨g, cap, cur, rfl, Nat.le_trans hB hb, r⟩
set_option maxRecDepth 100000 in
set_option maxHeartbeats 16000000 in
theorem rCanonical_own (v : Value) (s : List (Int × Int)) (w : World) (hs : s.length ≤ 1000000) (hE : SpansOf w.heap.size v s w) :
    Calls Tryz.prog 124 #[v] w fun e w' => ∃ v', e = .returned v' ∧ w'.ownsRow w.heap.size 133 2 v' (canon s).length (spanCells (canon s)) ∧ Below w.heap.size w w' := by
  obtain ⟨ao, ec, rfl, hE⟩ := hE
  have HE := Lib.hid hE
  clear hE
  obtain ⟨i0, hi0', hz0, hz1, hz2⟩ := info_parts info_spans
  go_enter Tryz.func124, Tryz.ntmps124
  go_wp2_with fail
  go_loopw [3, 4] (fun o p wr => ∃ (k : Nat), k ≤ s.length ∧ p = .int .i64 k ∧ Hid (∃ g c, o = .slice (some ⟨g, 0, none⟩) (insAll (clampS (s.take k))).length c) ∧ Hid (wr.ownsRow w.heap.size 133 2 o (insAll (clampS (s.take k))).length (spanCells (insAll (clampS (s.take k))))) ∧ Hid (Below w.heap.size w wr)) (fun _ p _ => s.length - (intOf p).toNat)
  case atStart => exact ⟨0, by omega, rfl, Lib.hid ⟨_, _, rfl⟩, Lib.hid (World.ownsRow_made w #[] 0 (Nat.le_refl _) (by decide) rfl), Lib.hid ((Below.refl _ _).alloc (Nat.le_refl _) _)⟩
  case round =>
    obtain ⟨k, hk, rfl, HSH, HO, HB⟩ := hrel
    have hszr := HB.out.size
    by_cases hlt : k < s.length
    · obtain ⟨b, off, rfl, hb, hc1, hc2⟩ := HE.out k s[k] (by simp [hlt])
      have hbne : b ≠ wr.heap.size := by omega
      have hc1 := (HB.out.cell (p := ⟨b, off + k * 2, none⟩) hb).trans hc1
      have hc2 := (HB.out.cell (p := ⟨b, off + k * 2 + 1, none⟩) hb).trans hc2
      have HT : Hid (clampS (s.take (k + 1)) = if (clamp s[k]).1 < (clamp s[k]).2 then clampS (s.take k) ++ [clamp s[k]] else clampS (s.take k)) := Lib.hid (by rw [List.take_succ_eq_append_getElem hlt, clamp_snoc])
      have hlen : (insAll (clampS (s.take k))).length ≤ k := by rw [insAll_len]; exact Nat.le_trans (clampS_len _) (List.length_take_le _ _)
      obtain ⟨⟨x1, x2⟩, hx⟩ : ∃ x, x = s[k] := ⟨_, rfl⟩
      rw [← hx] at hc1 hc2 HT
      clear hx
      simp only at hc1 hc2
      have hcl : clamp (x1, x2) = (max 0 x1, min 1000000 x2) := by unfold clamp; rw [Int.max_comm, Int.min_comm]
      rw [hcl] at HT
      simp only at HT
      clear hcl
      have hd1 := cellA (.cells #[.int .i64 0, .int .i64 0] 133) hc1
      have hd2 := cellA (.cells #[.int .i64 0, .int .i64 0] 133) hc2
      by_cases hin : max 0 x1 < min 1000000 x2
      · have hin2 : ¬ min 1000000 x2 ≤ max 0 x1 := by omega
        have HT2 := Lib.hid (show insAll (clampS (s.take (k + 1))) = insS (insAll (clampS (s.take k))) (max 0 x1, min 1000000 x2) by rw [HT.out, if_pos hin, insAll_snoc])
        obtain ⟨g, c, rfl⟩ := HSH.out
        have hgl := (HO.out.lt g rfl).2
        have HCP : Hid ((insAll (clampS (s.take k))).length ≤ c) := Lib.hid (by
          rcases HO.out.2 with ⟨h1, _⟩ | ⟨g', c', cur, h1, _, _, h2, _⟩
          · cases h1
          · cases h1; exact h2)
        generalize insAll (clampS (s.take k)) = L at *
        clear HT HSH
        go_wp2_with fail
        go_region
        go_wp2_with fail
        obtain ⟨W, hW⟩ : ∃ W, (wr.alloc (.cells #[.int .i64 (max 0 x1), .int .i64 (min 1000000 x2)] 133)).drew = W := ⟨_, rfl⟩
        rw [hW]
        have HOW : Hid (W.ownsRow w.heap.size 133 2 (.slice (some ⟨g, 0, none⟩) L.length c) L.length (spanCells L)) := Lib.hid (by rw [← hW]; exact HO.out.alloc _)
        have HBW : Hid (Below w.heap.size w W) := Lib.hid (by rw [← hW]; exact (HB.out.alloc hszr _).drew)
        obtain ⟨B0, hB0⟩ : ∃ B0, wr.heap.size = B0 := ⟨_, rfl⟩
        have b0 : W.cell? ⟨B0, 0, none⟩ = some (intC (max 0 x1)) := by rw [← hW, ← hB0]; simp [go_sem]
        have b1 : W.cell? ⟨B0, 1, none⟩ = some (intC (min 1000000 x2)) := by rw [← hW, ← hB0]; simp [go_sem]
        rw [hB0] at *
        clear hc1 hc2 hd1 hd2 hW HO HB hin hB0
        go_loopw [6] (fun kv wq => ∃ j : Nat, j ≤ L.length ∧ kv = .int .i64 j ∧ Hid (backK L (max 0 x1) j = backK L (max 0 x1) L.length) ∧ Hid (∃ n, wq = W.drewN n)) (fun kv _ => (intOf kv).toNat)
        case atStart => exact ⟨L.length, Nat.le_refl _, rfl, Lib.hid rfl, Lib.hid ⟨0, rfl⟩⟩
        case round =>
          obtain ⟨j, hj, rfl, HK, HW⟩ := hrel
          obtain ⟨n, hn⟩ := HW.out
          subst hn
          have hjc : j ≤ c := Nat.le_trans hj HCP.out
          have hjc2 : (j : Int) ≤ (c : Int) := by omega
          have hjl : (j : Int) ≤ (L.length : Int) := by omega
          have hj1 : (0 : Int) ≤ (j : Int) := by omega
          by_cases hj0 : 0 < j
          · obtain ⟨i, hi⟩ : ∃ i, j = i + 1 := ⟨j - 1, by omega⟩
            have hil : i < L.length := by omega
            have hy := own_at HOW.out i L[i] (by simp [hil])
            have HG : Hid (L.getD i (0, 0) = L[i]) := Lib.hid (by simp [hil])
            obtain ⟨⟨y1, y2⟩, hyx⟩ : ∃ y, y = L[i] := ⟨_, rfl⟩
            rw [← hyx] at hy HG
            obtain ⟨y0, _⟩ := hy
            clear hyx
            have hn1 : IntKind.i64.wrap ((j : Int) - 1) = (i : Int) := by rw [IntWalk.i64_in _ (by omega)]; omega
            have hn4 : (0 : Int) ≤ (i : Int) := by omega
            have hn3 : (i : Int) < (L.length : Int) := by omega
            have hn5 : (0 : Int) < (j : Int) := by omega
            have HJ := Lib.hid hi
            clear hi
            by_cases hgt : max 0 x1 < y1
            · go_wp2_with fail
              go_quiet (fail)
              go_wp2_with fail
              go_roundw
              case rel =>
                refine ⟨i, by omega, rfl, Lib.hid ?_, Lib.hid ⟨_, rfl⟩⟩
                rw [← HK.out, HJ.out]
                conv => rhs; unfold backK
                rw [if_pos (by rw [HG.out]; exact hgt)]
              case measure => have := HJ.out; simp [intOf]; omega
            · have HINS : Hid (backK L (max 0 x1) L.length = j) := Lib.hid (by
                rw [← HK.out, HJ.out]
                unfold backK
                rw [if_neg (by rw [HG.out]; exact hgt)])
              clear HG HK
              go_wp2_with fail
              go_quiet (fail)
              go_wp2_with fail
              clear y0
              rw [World.drewN_drewN]
              obtain ⟨V, hV⟩ : ∃ V, W.drewN (n + nq) = V := ⟨_, rfl⟩
              rw [hV]
              have HOV : Hid (V.ownsRow w.heap.size 133 2 (.slice (some ⟨g, 0, none⟩) L.length c) L.length (spanCells L)) := Lib.hid (by rw [← hV]; exact HOW.out)
              have HBV : Hid (Below w.heap.size w V) := Lib.hid (by rw [← hV]; exact below_drewN HBW.out _)
              have v0 : V.cell? ⟨B0, 0, none⟩ = some (intC (max 0 x1)) := by rw [← hV]; exact b0
              have v1 : V.cell? ⟨B0, 1, none⟩ = some (intC (min 1000000 x2)) := by rw [← hV]; exact b1
              clear b0 b1 hV HOW HBW
              have HS0 : Hid (HeldC ⟨B0, 0, none⟩ ⟨B0, 1, none⟩ (intC (max 0 x1)) (intC (min 1000000 x2)) V.drew) := Lib.hid ⟨v0, v1⟩
              have HS1 : Hid (HeldC ⟨B0, 0, none⟩ ⟨B0, 1, none⟩ (intC (max 0 x1)) (intC (min 1000000 x2)) (V.drew.alloc (.cells #[intC (max 0 x1), intC (min 1000000 x2)] 133))) := Lib.hid ⟨cellA _ v0, cellA _ v1⟩
              have hv1 := HBV.out.size
              have hbl : B0 < V.heap.size := World.block_lt_of_cell? _ _ v0
              have HXO : Hid (((V.alloc (.cells #[intC (max 0 x1), intC (min 1000000 x2)] 133)).drew).ownsRow V.heap.size 133 2 (.slice (some ⟨V.heap.size, 0, none⟩) 1 1) 1 [intC (max 0 x1), intC (min 1000000 x2)]) := Lib.hid (World.ownsRow_lit (base := V.heap.size) V #[intC (max 0 x1), intC (min 1000000 x2)] 1 (Nat.le_refl _) (by decide) rfl).drew
              obtain ⟨ad, had, hadc⟩ := own_news_if ((HOV.out.alloc (.cells #[intC (max 0 x1), intC (min 1000000 x2)] 133)).drew) rfl HCP.out j
              have HAD := Lib.hid hadc
              have HSG : Hid (∀ w5, ((V.alloc (.cells #[intC (max 0 x1), intC (min 1000000 x2)] 133)).drew).grownBy w5 (Value.slice (some ⟨V.heap.size, 0, none⟩) 1 1).ownBlock → HeldC ⟨B0, 0, none⟩ ⟨B0, 1, none⟩ (intC (max 0 x1)) (intC (min 1000000 x2)) w5) := Lib.hid fun w5 hg => ⟨hg.cell (cellA _ v0) (by simp [Value.ownBlock]; omega), hg.cell (cellA _ v1) (by simp [Value.ownBlock]; omega)⟩
              have HLG : Hid (∀ w5, ((V.alloc (.cells #[intC (max 0 x1), intC (min 1000000 x2)] 133)).drew).grownBy w5 (Value.slice (some ⟨V.heap.size, 0, none⟩) 1 1).ownBlock → w5.ownsRow w.heap.size 133 2 (.slice (some ⟨g, 0, none⟩) L.length c) L.length (spanCells L)) := Lib.hid fun w5 hg => ((HOV.out.alloc _).drew).kept hg (by have := (HOV.out.lt g rfl).2; simp [Value.ownBlock]; omega)
              have HBG : Hid (∀ w5, ((V.alloc (.cells #[intC (max 0 x1), intC (min 1000000 x2)] 133)).drew).grownBy w5 (Value.slice (some ⟨V.heap.size, 0, none⟩) 1 1).ownBlock → Below w.heap.size w w5) := Lib.hid fun w5 hg => ((HBV.out.alloc hv1 _).drew).grown hg (by simp; omega) (fun j hj => by simp [Value.ownBlock] at hj; omega)
              clear hadc v0 v1
              refine wp_region_noPanic ?_
              refine region_plain_split (S := HeldC ⟨B0, 0, none⟩ ⟨B0, 1, none⟩ (intC (max 0 x1)) (intC (min 1000000 x2))) 11 (by kernel_rfl) (by kernel_rfl) ?_
              simp only [List.take_succ_cons, List.take_zero]
              have hS0 := HS0.out
              (refine zl3 0 ?_ rfl ?_ ?_; rotate_left; (· (rintro w ⟨c0, c1⟩; go_simp; try with_reducible rfl)); (try simp only [zl1]))
              (refine zl3 1 ?_ rfl ?_ ?_; rotate_left; (· (rintro w ⟨c0, c1⟩; go_simp; try with_reducible rfl)); (try simp only [zl1]))
              (refine zl3 2 ?_ rfl ?_ ?_; rotate_left; (· (rintro w ⟨c0, c1⟩; go_simp; try with_reducible rfl)); (try simp only [zl1]))
              (refine zl3 3 ?_ rfl ?_ ?_; rotate_left; (· (rintro w ⟨c0, c1⟩; go_simp; try with_reducible rfl)); (try simp only [zl1]))
              (refine zl3 4 ?_ rfl ?_ ?_; rotate_left; (· (rintro w ⟨c0, c1⟩; go_simp; try with_reducible rfl)); (try simp only [zl1]))
              (refine zl3 6 ?_ rfl ?_ ?_; rotate_left; (· (rintro w ⟨c0, c1⟩; go_simp; try with_reducible rfl)); (try simp only [zl1]))
              (refine zl3 7 ?_ rfl ?_ ?_; rotate_left; (· (rintro w ⟨c0, c1⟩; go_simp; try with_reducible rfl)); (try simp only [zl1]))
              (refine zl3 8 ?_ rfl ?_ ?_; rotate_left; (· (rintro w ⟨c0, c1⟩; go_simp; try with_reducible rfl)); (try simp only [zl1]))
              refine wpAnyH_ready (rs := [5]) (by kernel_rfl) (by simp) (AllReadyH.cons rfl (fun K hK => ?_) AllReadyH.nil)
              go_simp
              refine hK.out _ _ HS1.out (fun _ => ?_)
              clear hK K hS0
              (try simp only [zl1])
              refine wpAnyH_ready (rs := [9]) (by kernel_rfl) (by simp) (AllReadyH.cons rfl (fun K hK => ?_) AllReadyH.nil)
              refine step_append_own (by rfl) _ _ _ (by rfl) V.heap.size 133 i0 _ 2 16 Tryz.underlying56 hi0' hz0 hz1 hz2 rfl (by decide) _ 1 [intC (max 0 x1), intC (min 1000000 x2)] (by rfl) HXO.out ad (L.length - j) (c - j) (spanCells (L.drop j)) (by rfl) drop_len HAD.out (spanCells_one _) (by unfold maxLen; omega) (by omega) (by simp) ?_
              intro v5 w5 hown5 hgrow5
              obtain ⟨g5, c5, rfl⟩ := Go.Joins.ownsRow_form hown5 (by omega)
              have hS5 : HeldC ⟨B0, 0, none⟩ ⟨B0, 1, none⟩ (intC (max 0 x1)) (intC (min 1000000 x2)) w5 := HSG.out w5 hgrow5
              have HS5 := Lib.hid hS5
              have HO5 := Lib.hid (HLG.out w5 hgrow5)
              have HB5 := Lib.hid (HBG.out w5 hgrow5)
              have HN5 := Lib.hid hown5
              refine hK.out _ _ hS5 (fun _ => ?_)
              clear hK K hS5 hown5 hgrow5
              (try simp only [zl1])
              refine wpAnyH_ready (rs := [10]) (by kernel_rfl) (by simp) (AllReadyH.cons rfl (fun K hK => ?_) AllReadyH.nil)
              refine step_append_grows (by rfl) _ _ _ (by rfl) 133 i0 _ 2 16 Tryz.underlying56 hi0' hz0 hz1 hz2 rfl (by decide) (some ⟨g, 0, none⟩) j j (spanCells (L.take j)) (by rfl) (fun h => by cases h) (take_len hj) (fun b hb => by cases hb; exact own_olds HO5.out j) ⟨g5, 0, none⟩ (1 + (L.length - j)) c5 _ (by rfl) HN5.out.1 (HN5.out.cells rfl) (news_one _ _ _) (by omega) (by unfold maxLen; omega) (by omega) ?_
              intro v6 w6 hown6 hgrow6
              obtain ⟨g6, c6, rfl⟩ := Go.Joins.ownsRow_form hown6 (by omega)
              have HO6 := Lib.hid hown6
              have HB6 : Hid (Below w.heap.size w w6) := Lib.hid (HB5.out.grown hgrow6 HB5.out.size (fun j hj => by cases hj))
              have hS6 : HeldC ⟨B0, 0, none⟩ ⟨B0, 1, none⟩ (intC (max 0 x1)) (intC (min 1000000 x2)) w6 := ⟨hgrow6.cell (HS5.out).1 (by simp), hgrow6.cell (HS5.out).2 (by simp)⟩
              refine hK.out _ _ hS6 (fun _ => ?_)
              clear hK K hS6 hown6 hgrow6
              (try simp only [zl1])
              refine wpAnyH_done (by kernel_rfl) ?_ _
              show wpList _ _ _ _ _ _
              simp only [List.drop_succ_cons, List.drop_zero]
              go_wp2_with fail
              refine NoPanic.normal ?_
              all_goals go_wp2_with fail
              all_goals
                go_roundw
                case rel =>
                  have e1 : j + (1 + (L.length - j)) = (insS L (max 0 x1, min 1000000 x2)).length := by rw [insS_len]; omega
                  have e2 : spanCells (L.take j) ++ ([intC (max 0 x1), intC (min 1000000 x2)] ++ spanCells (L.drop j)) = spanCells (insS L (max 0 x1, min 1000000 x2)) := by
                    unfold insS
                    rw [HINS.out, spanCells_append, spanCells_append]
                    rfl
                  refine ⟨k + 1, by omega, by go_num, Lib.hid ?_, Lib.hid ?_, HB6⟩
                  · rw [HT2.out]; exact ⟨g6, c6, by rw [e1]⟩
                  · rw [HT2.out, ← e1, ← e2]; exact Go.Joins.ownsRow_le HO6.out HB5.out.size
                case measure => simp [intOf]; omega
          · have HINS : Hid (backK L (max 0 x1) L.length = j) := Lib.hid (by
              obtain rfl : j = 0 := by omega
              rw [← HK.out]; rfl)
            have hn5 : ¬ (0 : Int) < (j : Int) := by omega
            clear HK
            go_wp2_with fail
            go_quiet (fail)
            go_wp2_with fail
            rw [World.drewN_drewN]
            obtain ⟨V, hV⟩ : ∃ V, W.drewN (n + nq) = V := ⟨_, rfl⟩
            rw [hV]
            have HOV : Hid (V.ownsRow w.heap.size 133 2 (.slice (some ⟨g, 0, none⟩) L.length c) L.length (spanCells L)) := Lib.hid (by rw [← hV]; exact HOW.out)
            have HBV : Hid (Below w.heap.size w V) := Lib.hid (by rw [← hV]; exact below_drewN HBW.out _)
            have v0 : V.cell? ⟨B0, 0, none⟩ = some (intC (max 0 x1)) := by rw [← hV]; exact b0
            have v1 : V.cell? ⟨B0, 1, none⟩ = some (intC (min 1000000 x2)) := by rw [← hV]; exact b1
            clear b0 b1 hV HOW HBW
            have HS0 : Hid (HeldC ⟨B0, 0, none⟩ ⟨B0, 1, none⟩ (intC (max 0 x1)) (intC (min 1000000 x2)) V.drew) := Lib.hid ⟨v0, v1⟩
            have HS1 : Hid (HeldC ⟨B0, 0, none⟩ ⟨B0, 1, none⟩ (intC (max 0 x1)) (intC (min 1000000 x2)) (V.drew.alloc (.cells #[intC (max 0 x1), intC (min 1000000 x2)] 133))) := Lib.hid ⟨cellA _ v0, cellA _ v1⟩
            have hv1 := HBV.out.size
            have hbl : B0 < V.heap.size := World.block_lt_of_cell? _ _ v0
            have HXO : Hid (((V.alloc (.cells #[intC (max 0 x1), intC (min 1000000 x2)] 133)).drew).ownsRow V.heap.size 133 2 (.slice (some ⟨V.heap.size, 0, none⟩) 1 1) 1 [intC (max 0 x1), intC (min 1000000 x2)]) := Lib.hid (World.ownsRow_lit (base := V.heap.size) V #[intC (max 0 x1), intC (min 1000000 x2)] 1 (Nat.le_refl _) (by decide) rfl).drew
            obtain ⟨ad, had, hadc⟩ := own_news_if ((HOV.out.alloc (.cells #[intC (max 0 x1), intC (min 1000000 x2)] 133)).drew) rfl HCP.out j
            have HAD := Lib.hid hadc
            have HSG : Hid (∀ w5, ((V.alloc (.cells #[intC (max 0 x1), intC (min 1000000 x2)] 133)).drew).grownBy w5 (Value.slice (some ⟨V.heap.size, 0, none⟩) 1 1).ownBlock → HeldC ⟨B0, 0, none⟩ ⟨B0, 1, none⟩ (intC (max 0 x1)) (intC (min 1000000 x2)) w5) := Lib.hid fun w5 hg => ⟨hg.cell (cellA _ v0) (by simp [Value.ownBlock]; omega), hg.cell (cellA _ v1) (by simp [Value.ownBlock]; omega)⟩
            have HLG : Hid (∀ w5, ((V.alloc (.cells #[intC (max 0 x1), intC (min 1000000 x2)] 133)).drew).grownBy w5 (Value.slice (some ⟨V.heap.size, 0, none⟩) 1 1).ownBlock → w5.ownsRow w.heap.size 133 2 (.slice (some ⟨g, 0, none⟩) L.length c) L.length (spanCells L)) := Lib.hid fun w5 hg => ((HOV.out.alloc _).drew).kept hg (by have := (HOV.out.lt g rfl).2; simp [Value.ownBlock]; omega)
            have HBG : Hid (∀ w5, ((V.alloc (.cells #[intC (max 0 x1), intC (min 1000000 x2)] 133)).drew).grownBy w5 (Value.slice (some ⟨V.heap.size, 0, none⟩) 1 1).ownBlock → Below w.heap.size w w5) := Lib.hid fun w5 hg => ((HBV.out.alloc hv1 _).drew).grown hg (by simp; omega) (fun j hj => by simp [Value.ownBlock] at hj; omega)
            clear hadc v0 v1
            refine wp_region_noPanic ?_
            refine region_plain_split (S := HeldC ⟨B0, 0, none⟩ ⟨B0, 1, none⟩ (intC (max 0 x1)) (intC (min 1000000 x2))) 11 (by kernel_rfl) (by kernel_rfl) ?_
            simp only [List.take_succ_cons, List.take_zero]
            have hS0 := HS0.out
            (refine zl3 0 ?_ rfl ?_ ?_; rotate_left; (· (rintro w ⟨c0, c1⟩; go_simp; try with_reducible rfl)); (try simp only [zl1]))
            (refine zl3 1 ?_ rfl ?_ ?_; rotate_left; (· (rintro w ⟨c0, c1⟩; go_simp; try with_reducible rfl)); (try simp only [zl1]))
            (refine zl3 2 ?_ rfl ?_ ?_; rotate_left; (· (rintro w ⟨c0, c1⟩; go_simp; try with_reducible rfl)); (try simp only [zl1]))
            (refine zl3 3 ?_ rfl ?_ ?_; rotate_left; (· (rintro w ⟨c0, c1⟩; go_simp; try with_reducible rfl)); (try simp only [zl1]))
            (refine zl3 4 ?_ rfl ?_ ?_; rotate_left; (· (rintro w ⟨c0, c1⟩; go_simp; try with_reducible rfl)); (try simp only [zl1]))
            (refine zl3 6 ?_ rfl ?_ ?_; rotate_left; (· (rintro w ⟨c0, c1⟩; go_simp; try with_reducible rfl)); (try simp only [zl1]))
            (refine zl3 7 ?_ rfl ?_ ?_; rotate_left; (· (rintro w ⟨c0, c1⟩; go_simp; try with_reducible rfl)); (try simp only [zl1]))
            (refine zl3 8 ?_ rfl ?_ ?_; rotate_left; (· (rintro w ⟨c0, c1⟩; go_simp; try with_reducible rfl)); (try simp only [zl1]))
            refine wpAnyH_ready (rs := [5]) (by kernel_rfl) (by simp) (AllReadyH.cons rfl (fun K hK => ?_) AllReadyH.nil)
            go_simp
            refine hK.out _ _ HS1.out (fun _ => ?_)
            clear hK K hS0
            (try simp only [zl1])
            refine wpAnyH_ready (rs := [9]) (by kernel_rfl) (by simp) (AllReadyH.cons rfl (fun K hK => ?_) AllReadyH.nil)
            refine step_append_own (by rfl) _ _ _ (by rfl) V.heap.size 133 i0 _ 2 16 Tryz.underlying56 hi0' hz0 hz1 hz2 rfl (by decide) _ 1 [intC (max 0 x1), intC (min 1000000 x2)] (by rfl) HXO.out ad (L.length - j) (c - j) (spanCells (L.drop j)) (by rfl) drop_len HAD.out (spanCells_one _) (by unfold maxLen; omega) (by omega) (by simp) ?_
            intro v5 w5 hown5 hgrow5
            obtain ⟨g5, c5, rfl⟩ := Go.Joins.ownsRow_form hown5 (by omega)
            have hS5 : HeldC ⟨B0, 0, none⟩ ⟨B0, 1, none⟩ (intC (max 0 x1)) (intC (min 1000000 x2)) w5 := HSG.out w5 hgrow5
            have HS5 := Lib.hid hS5
            have HO5 := Lib.hid (HLG.out w5 hgrow5)
            have HB5 := Lib.hid (HBG.out w5 hgrow5)
            have HN5 := Lib.hid hown5
            refine hK.out _ _ hS5 (fun _ => ?_)
            clear hK K hS5 hown5 hgrow5
            (try simp only [zl1])
            refine wpAnyH_ready (rs := [10]) (by kernel_rfl) (by simp) (AllReadyH.cons rfl (fun K hK => ?_) AllReadyH.nil)
            refine step_append_grows (by rfl) _ _ _ (by rfl) 133 i0 _ 2 16 Tryz.underlying56 hi0' hz0 hz1 hz2 rfl (by decide) (some ⟨g, 0, none⟩) j j (spanCells (L.take j)) (by rfl) (fun h => by cases h) (take_len hj) (fun b hb => by cases hb; exact own_olds HO5.out j) ⟨g5, 0, none⟩ (1 + (L.length - j)) c5 _ (by rfl) HN5.out.1 (HN5.out.cells rfl) (news_one _ _ _) (by omega) (by unfold maxLen; omega) (by omega) ?_
            intro v6 w6 hown6 hgrow6
            obtain ⟨g6, c6, rfl⟩ := Go.Joins.ownsRow_form hown6 (by omega)
            have HO6 := Lib.hid hown6
            have HB6 : Hid (Below w.heap.size w w6) := Lib.hid (HB5.out.grown hgrow6 HB5.out.size (fun j hj => by cases hj))
            have hS6 : HeldC ⟨B0, 0, none⟩ ⟨B0, 1, none⟩ (intC (max 0 x1)) (intC (min 1000000 x2)) w6 := ⟨hgrow6.cell (HS5.out).1 (by simp), hgrow6.cell (HS5.out).2 (by simp)⟩
            refine hK.out _ _ hS6 (fun _ => ?_)
            clear hK K hS6 hown6 hgrow6
            (try simp only [zl1])
            refine wpAnyH_done (by kernel_rfl) ?_ _
            show wpList _ _ _ _ _ _
            simp only [List.drop_succ_cons, List.drop_zero]
            go_wp2_with fail
            refine NoPanic.normal ?_
            all_goals go_wp2_with fail
            all_goals
              go_roundw
              case rel =>
                have e1 : j + (1 + (L.length - j)) = (insS L (max 0 x1, min 1000000 x2)).length := by rw [insS_len]; omega
                have e2 : spanCells (L.take j) ++ ([intC (max 0 x1), intC (min 1000000 x2)] ++ spanCells (L.drop j)) = spanCells (insS L (max 0 x1, min 1000000 x2)) := by
                  unfold insS
                  rw [HINS.out, spanCells_append, spanCells_append]
                  rfl
                refine ⟨k + 1, by omega, by go_num, Lib.hid ?_, Lib.hid ?_, HB6⟩
                · rw [HT2.out]; exact ⟨g6, c6, by rw [e1]⟩
                · rw [HT2.out, ← e1, ← e2]; exact Go.Joins.ownsRow_le HO6.out HB5.out.size
              case measure => simp [intOf]; omega
      · have hin2 : min 1000000 x2 ≤ max 0 x1 := by omega
        go_wp2_with fail
        go_region
        go_wp2_with fail
        go_roundw
        case rel =>
          refine ⟨k + 1, by omega, by go_num, ?_, ?_, Lib.hid ?_⟩
          · rw [HT.out, if_neg (Int.not_lt.2 hin)]; exact HSH
          · rw [HT.out, if_neg (Int.not_lt.2 hin)]
            exact Lib.hid (HO.out.alloc _)
          · exact (HB.out.alloc hszr _).drew
        case measure => simp [intOf]; omega
    · have hkk : k = s.length := by omega
      subst hkk
      rw [List.take_length] at HO HSH
      have hic := ins_canon s
      have hdl : (insAll (clampS s)).length ≤ s.length := by rw [insAll_len]; exact clampS_len s
      obtain ⟨d, hd⟩ : ∃ d, insAll (clampS s) = d := ⟨_, rfl⟩
      rw [hd] at HO HSH hic hdl
      have HC := Lib.hid hic
      obtain ⟨g, c, rfl⟩ := HSH.out
      have hgl := (HO.out.lt g rfl).2
      clear hd hic HSH
      obtain ⟨wo, rfl⟩ : ∃ wo : World, wo = wr := ⟨_, rfl⟩
      go_wp2_with fail
      go_loopw [7, 8] (fun o p wq => ∃ i : Nat, i ≤ d.length ∧ p = .int .i64 i ∧ Hid (∃ g2 c2, o = .slice (some ⟨g2, 0, none⟩) (mergeS (d.take i)).length c2) ∧ Hid (wq.ownsRow wo.heap.size 133 2 o (mergeS (d.take i)).length (spanCells (mergeS (d.take i)))) ∧ Hid (Below wo.heap.size wo wq)) (fun _ p _ => d.length - (intOf p).toNat)
      case atStart => exact ⟨0, by omega, rfl, Lib.hid ⟨_, _, rfl⟩, Lib.hid (World.ownsRow_made wo #[] 0 (Nat.le_refl _) (by decide) rfl), Lib.hid ((Below.refl _ _).alloc (Nat.le_refl _) _)⟩
      case round =>
        obtain ⟨i, hi, rfl, HSH, HM, HB2⟩ := hrel
        have hszq := HB2.out.size
        by_cases hlt : i < d.length
        · have hml := mergeS_len (d.take i)
          have hml2 : (d.take i).length = i := by rw [List.length_take]; omega
          have HJ : Hid (mergeS (d.take (i + 1)) = joinS (mergeS (d.take i)) d[i]) := Lib.hid (by rw [List.take_succ_eq_append_getElem hlt, mergeS_take])
          obtain ⟨hc1, hc2⟩ := own_at HO.out i d[i] (by simp [hlt])
          have hc1 := (HB2.out.cell (p := ⟨g, i * 2, none⟩) hgl).trans hc1
          have hc2 := (HB2.out.cell (p := ⟨g, i * 2 + 1, none⟩) hgl).trans hc2
          obtain ⟨⟨x1, x2⟩, hx⟩ : ∃ x, x = d[i] := ⟨_, rfl⟩
          rw [← hx] at hc1 hc2 HJ
          clear hx
          simp only at hc1 hc2
          generalize mergeS (d.take i) = m at *
          have hmi : m.length ≤ i := by omega
          clear hml hml2
          have HBA : Hid (∀ n W1, ((wr.alloc (.cells #[intC x1, intC x2] 133)).drewN n).grownBy W1 u7.ownBlock → Below wo.heap.size wo W1) := Lib.hid (fun n W1 hg => (below_drewN (HB2.out.alloc hszq _) n).grown hg (by show _ ≤ (wr.alloc _).heap.size; simp; omega) (fun b hb => (HM.out.lt b hb).1))
          rcases List.eq_nil_or_concat m with hm0 | ⟨pre, y, hm0⟩
          · subst hm0
            rw [joinS_nil] at HJ
            obtain ⟨g2, c2, rfl⟩ := HSH.out
            clear HSH
            simp only [List.length_nil] at HM ⊢
            go_wp2_with fail
            go_quiet (fail)
            have HMA : Hid (∀ n, ((wr.alloc (.cells #[intC x1, intC x2] 133)).drewN n).ownsRow wo.heap.size 133 2 (.slice (some ⟨g2, 0, none⟩) 0 c2) 0 (spanCells ([]))) := Lib.hid fun n => HM.out.alloc _
            go_wp2_with (at_builtin; refine wpList_append_own _ rfl _ _ 56 rfl wo.heap.size 133 i0 _ 2 16 Tryz.underlying56 hi0' hz0 hz1 hz2 rfl (by decide) (.slice (some ⟨g2, 0, none⟩) 0 c2) (0) _ (by rfl) (HMA.out _) ⟨wr.heap.size, 0, none⟩ 1 1 [intC x1, intC x2] (by rfl) (by rfl) (World.news_of_block (cs := #[intC x1, intC x2]) (t := 133) (fr := (0, 0)) (heap_alloc_new wr _)) (by simp [Value.oneCell']) (by unfold maxLen; omega) (by omega) (by show _ ≤ (wr.alloc _).heap.size; simp; omega) ?_; intro v' w3 hown' hgrow _; have HOW3 := Lib.hid hown'; have HBB3 := Lib.hid (HBA.out _ _ hgrow); clear hown' hgrow; obtain ⟨gg, cap, rfl⟩ := ownsRow_succ HOW3.out)
            go_roundw
            case rel =>
              refine ⟨i + 1, by omega, by go_num, ?_, Lib.hid ?_, HBB3⟩
              · rw [HJ.out]; exact Lib.hid ⟨gg, cap, rfl⟩
              · rw [HJ.out]; exact HOW3.out
            case measure => simp [intOf]; omega
          · rw [List.concat_eq_append] at hm0
            subst hm0
            rw [joinS_snoc] at HJ
            obtain ⟨g2, c2, rfl⟩ := HSH.out
            obtain ⟨hy1, hy2⟩ := own_at HM.out pre.length y (by simp)
            have hyf := HM.out.frozenAt (pre.length * 2 + 1)
            rw [List.length_append, List.length_singleton] at HM hmi
            rw [List.length_append, List.length_singleton]
            obtain ⟨y1, y2⟩ := y
            simp only at hy1 hy2 HJ
            have hn1 : IntKind.i64.wrap (((pre.length + 1 : Nat) : Int) - 1) = (pre.length : Int) := by rw [IntWalk.i64_in _ (by omega)]; omega
            have hn2 : IntKind.i64.wrap ((pre.length : Int) + 1 - 1) = (pre.length : Int) := by rw [IntWalk.i64_in _ (by omega)]; omega
            have hn6 : IntKind.i64.wrap (pre.length : Int) = (pre.length : Int) := IntWalk.i64_in _ (by omega)
            have hn4 : (0 : Int) ≤ (pre.length : Int) := by omega
            have hn5 : (0 : Int) < (pre.length : Int) + 1 := by omega
            have hn3 : (pre.length : Int) < (pre.length : Int) + 1 := by omega
            clear HSH
            by_cases hle : x1 ≤ y2
            · go_wp2_with fail
              go_quiet (fail)
              go_wp2_with fail
              go_region
              go_wp2_with fail
              go_roundw
              case rel =>
                have hgb := (HM.out.lt g2 rfl).1
                refine ⟨i + 1, by omega, by go_num, ?_, Lib.hid ?_, Lib.hid ?_⟩
                · rw [HJ.out, if_pos hle]; exact Lib.hid ⟨g2, c2, by simp⟩
                · rw [HJ.out, if_pos hle]
                  show World.ownsRow _ _ _ _ _ _ (spanCells (pre ++ [((y1, y2).1, max y2 x2)]))
                  rw [← join_set]
                  simp only [List.length_append, List.length_singleton]
                  exact (World.ownsRow.stored HM.out _ _).1
                · exact (below_drewN HB2.out _).setCell hgb _
              case measure => simp [intOf]; omega
            · have HNL := Lib.hid hle
              go_wp2_with fail
              go_quiet (fail)
              have HMA : Hid (∀ n, ((wr.alloc (.cells #[intC x1, intC x2] 133)).drewN n).ownsRow wo.heap.size 133 2 (.slice (some ⟨g2, 0, none⟩) (pre.length + 1) c2) (pre.length + 1) (spanCells (pre ++ [(y1, y2)]))) := Lib.hid fun n => HM.out.alloc _
              go_wp2_with (at_builtin; refine wpList_append_own _ rfl _ _ 56 rfl wo.heap.size 133 i0 _ 2 16 Tryz.underlying56 hi0' hz0 hz1 hz2 rfl (by decide) (.slice (some ⟨g2, 0, none⟩) (pre.length + 1) c2) ((pre.length + 1)) _ (by rfl) (HMA.out _) ⟨wr.heap.size, 0, none⟩ 1 1 [intC x1, intC x2] (by rfl) (by rfl) (World.news_of_block (cs := #[intC x1, intC x2]) (t := 133) (fr := (0, 0)) (heap_alloc_new wr _)) (by simp [Value.oneCell']) (by unfold maxLen; omega) (by omega) (by show _ ≤ (wr.alloc _).heap.size; simp; omega) ?_; intro v' w3 hown' hgrow _; have HOW3 := Lib.hid hown'; have HBB3 := Lib.hid (HBA.out _ _ hgrow); clear hown' hgrow; obtain ⟨gg, cap, rfl⟩ := ownsRow_succ HOW3.out)
              go_roundw
              case rel =>
                refine ⟨i + 1, by omega, by go_num, ?_, Lib.hid ?_, HBB3⟩
                · rw [HJ.out]; rw [if_neg (Int.not_le.2 HNL.out)]; exact Lib.hid ⟨gg, cap, by simp⟩
                · rw [HJ.out]; rw [if_neg (Int.not_le.2 HNL.out)]; rw [spanCells_snoc]; simp only [List.length_append, List.length_singleton]
                  exact HOW3.out
              case measure => simp [intOf]; omega
        · have hii : i = d.length := by omega
          subst hii
          rw [List.take_length] at HM HSH
          obtain ⟨g2, c2, rfl⟩ := HSH.out
          have hml := mergeS_len d
          rw [HC.out] at HM hml ⊢
          clear HSH
          go_wp2_with fail
          go_ret
          exact ⟨_, rfl, own_low HM.out hszr, HB.out.trans (HB2.out.mono hszr)⟩
theorem rCanonical_any (v : Value) (s : List (Int × Int)) (w : World) (hs : s.length ≤ 1000000) (hE : SpansOf w.heap.size v s w) :
    Calls Tryz.prog 124 #[v] w fun e w' => ∃ v', e = .returned v' ∧ SpansOf w'.heap.size v' (canon s) w' ∧ Below w.heap.size w w' :=
  (rCanonical_own v s w hs hE).mono fun e w' ⟨v', h1, h2, h3⟩ => ⟨v', h1, own_spans h2, h3⟩
end Go.Proofs.YtenfkejbndifdaaGreatDoor
