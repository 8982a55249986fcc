/- The statement on offsets: its walk. -/
import Derived.Test.YtmlfoffahfbalaaDoorAwake
import Derived.Test.YtmlfoffahfbalaaDoorPlainOffs
import Derived.BigQuiet
namespace Go.Proofs.YtmlfoffahfbalaaDoor
open Go Go.RowKit

theorem below_drewN {B : Nat} {a w : World} (h : Below B a w) : ∀ n, Below B a (w.drewN n)
  | 0 => h
  | n + 1 => (below_drewN h n).drew

set_option maxRecDepth 100000 in
set_option maxHeartbeats 4000000 in
theorem LexerOffsets_any (s : ByteArray) (w : World) (hm : MaxOk w) : Calls Tryd.prog 8 #[.string s] w fun e w' => e = .returned (.bool true) ∧ Below w.heap.size w w' := by
  have HA := Lib.hid (awake_any w hm)
  by_cases h : 1000 < s.size
  · have h2 : 1000 < (s.size : Int) := by omega
    go_enter Tryd.func8, Tryd.ntmps8
    go_wp2_with fail
    refine HA.out.mono ?_
    rintro e w1 ⟨rfl, hb⟩
    go_wp2_with fail
    go_ret
    exact ⟨rfl, hb⟩
  · have h2 : ¬ 1000 < (s.size : Int) := by omega
    rcases lex_cases s (by omega) with ⟨ys, h3, h4⟩ | ⟨ys, b, h3, h4, h5, h6⟩
    · have HE := Lib.hid h4
      have HR := Lib.hid h3
      have HLN := Lib.hid (Runs.len h3)
      clear h3 h4
      go_enter Tryd.func8, Tryd.ntmps8
      go_wp2_with fail
      refine HA.out.mono ?_
      rintro e w1 ⟨rfl, hb⟩
      have hm1 := hm.below hb hm.pos
      have HB := Lib.hid hb
      clear hb
      go_wp2_with fail
      refine (Lex_any s w1 hm1).mono ?_
      rintro e w2 ⟨v, rfl, hv, -, hb2⟩
      have HB2 := Lib.hid (HB.out.trans (hb2.mono HB.out.size))
      clear hb2
      rw [HE.out] at hv ⊢
      simp only at hv ⊢
      have e1 : (ys.map keyY ++ [((0 : Int), ([] : List UInt8), s.size)]).length = ys.length + 1 := by simp
      obtain ⟨g, cap, rfl⟩ := hv.shape (by rw [e1]; exact Nat.succ_pos _)
      have HG := Lib.hid hv.ge.2
      have HT := Lib.hid (fun i x hx => hv.tok i x hx)
      rw [e1]
      clear hv e1
      go_wp2_with fail
      go_loopw [6, 37] (fun en i wr => ∃ (zs rest : List Yld) (a e0 : Nat), ys = zs ++ rest ∧ i = .int .i64 zs.length ∧ en = .int .i64 e0 ∧ e0 ≤ a ∧ Hid (Runs s a rest s.size) ∧ Hid (Below w2.heap.size w2 wr)) (fun _ i _ => ys.length + 1 - (intOf i).toNat)
      case atStart => exact ⟨[], ys, startS s, 0, rfl, rfl, rfl, Nat.zero_le _, HR, Lib.hid (Below.refl _ _)⟩
      case round =>
        obtain ⟨zs, rest, a, e0, hys, rfl, rfl, he0, hru, hbr⟩ := hrel
        have HBR := Lib.hid (HB2.out.trans (hbr.out.mono HB2.out.size))
        cases rest with
        | nil =>
          have ha : a = s.size := hru.out
          have hz : ys = zs := by rw [hys, List.append_nil]
          obtain ⟨c1, c2, c3⟩ := HT.out ys.length _ (toks_last ys _)
          rw [← hz] at *
          obtain ⟨m, hmm⟩ : ∃ m, ys.length = m := ⟨_, rfl⟩
          have hml : m ≤ 1000 := by have := HLN.out; omega
          rw [hmm] at c1 c2 c3 ⊢
          rw [Nat.mul_comm, ← hbr.out.cell HG.out] at c1 c2 c3
          rw [show (⟨([] : List UInt8).toArray⟩ : ByteArray) = ⟨#[]⟩ from rfl] at c2
          have h7 : ¬ (s.size : Int) < e0 := by omega
          have h8 : ((m : Int) == m) = true := beq_self_eq_true _
          clear hys hz he0 ha hru hmm
          go_wp2_with fail
          go_ret
          exact ⟨rfl, HBR.out.alloc HBR.out.size _⟩
        | cons y rest =>
          obtain ⟨hy1, hy2, hy3, hy4⟩ := run_head s y rest a s.size hru.out
          have hap : ys = (zs ++ [y]) ++ rest := by rw [hys, List.append_assoc]; rfl
          have hlt : zs.length < ys.length := by rw [hys]; simp
          have hcell := toks_at zs rest y [((0 : Int), ([] : List UInt8), s.size)]
          rw [← hys] at hcell
          obtain ⟨c1, c2, c3⟩ := HT.out zs.length _ hcell
          unfold keyY at c1 c2 c3
          simp only at c1 c2 c3
          rw [hy1] at c3
          rw [show (⟨y.text.data.toList.toArray⟩ : ByteArray) = y.text by cases y.text; simp] at c2
          rw [Nat.mul_comm, ← hbr.out.cell HG.out] at c1 c2 c3
          have HAP := Lib.hid hap
          have HLZ : Hid ((zs ++ [y]).length = zs.length + 1) := Lib.hid (by simp)
          have HY3 := Lib.hid hy3
          obtain ⟨kd, hkd⟩ : ∃ kd, y.kind = kd := ⟨_, rfl⟩
          obtain ⟨tx, htx⟩ : ∃ tx, y.text = tx := ⟨_, rfl⟩
          rw [hkd] at c1 hy4
          rw [htx] at c2 hy4
          obtain ⟨k, hk⟩ : ∃ k, zs.length = k := ⟨_, rfl⟩
          obtain ⟨m, hmm⟩ : ∃ m, ys.length = m := ⟨_, rfl⟩
          have hml : m ≤ 1000 := by have := HLN.out; omega
          have HK := Lib.hid hk
          have HM := Lib.hid hmm
          rw [hk, hmm] at hlt
          rw [hk] at c1 c2 c3 ⊢
          rw [hmm] at ⊢
          obtain ⟨nx, hnx⟩ : ∃ nx, nextAt s a = nx := ⟨_, rfl⟩
          rw [hnx] at hy4
          have HNX := Lib.hid hnx
          have HNL : Hid (nx ≤ s.size) := Lib.hid (by rw [← hnx]; exact Runs.le_start hy3)
          have h7 : ¬ (a : Int) < e0 := by omega
          have h9 : ¬ (s.size : Int) < a := by omega
          have h8 : ((k : Int) == m) = false := by rw [beq_eq_false_iff_ne]; omega
          obtain ⟨sf, hsf⟩ : ∃ sf, s.extract a s.size = sf := ⟨_, rfl⟩
          have hsd : sf.data.toList = s.data.toList.drop a := by rw [← hsf]; exact Lib.extract_to_end s a
          rw [← hsd] at hy4
          have HSF := Lib.hid hsf
          have HE0 := Lib.hid he0
          clear hys he0 hru hkd htx hk hmm hy1 hy3 hap hcell hnx hsf hsd
          rcases hy4 with ⟨rfl, g1, g2⟩ | ⟨g0, g1, g2, g3, g4⟩
          · have G1 := Lib.hid g1
            clear g1
            have hnl := HNL.out
            have g3 : (nx : Int) ≤ 1000 := by omega
            go_wp2_with fail
            rw [HSF.out]
            refine (HasPrefix_any sf ⟨#[34]⟩ _).mono ?_
            rintro e w3 ⟨rfl, rfl⟩
            rw [show (⟨#[34]⟩ : ByteArray).data.toList = [34] from rfl, G1.out]
            go_wp2_with fail
            refine ⟨?_, ?measure⟩
            iterate 20 apply Exists.intro
            iterate 20 apply Exists.intro
            iterate 20 apply Exists.intro
            repeat apply Exists.intro
            refine ⟨?rel, rfl⟩
            case rel => exact ⟨zs ++ [y], rest, nx, a + tx.size + 2, HAP.out, by rw [HLZ.out, HK.out]; go_num, by go_num, g2, by rw [← HNX.out]; exact HY3, Lib.hid (hbr.out.alloc hbr.out.size _)⟩
            case measure => simp [intOf]; omega
          · have G1 := Lib.hid g3
            have g5 : (kd == 4) = false := by rw [beq_eq_false_iff_ne]; exact g0
            have g6 : (kd == 0) = false := by rw [beq_eq_false_iff_ne]; exact g1
            have he1 : ¬ tx.data.toList = [] := g2
            have he2 : tx.data.toList.isEmpty = false := by cases h : tx.data.toList with | nil => exact absurd h g2 | cons c r => rfl
            have he3 : ¬ tx.toList = [] := by rw [ByteArray.toList_eq]; exact g2
            have he4 : tx.toList.isEmpty = false := by rw [ByteArray.toList_eq]; exact he2
            have hnl := HNL.out
            have g7 : (nx : Int) ≤ 1000 := by omega
            clear g0 g1 g2 g3
            have HPX : Hid (∀ w, Calls Tryd.prog 30 #[.string (s.extract a s.size), .string tx] w fun e w' => e = .returned (.bool true) ∧ w' = w) := Lib.hid (fun w => by
              have := Tryd.strings_HasPrefix (s.extract a s.size) tx w
              rw [HSF.out, G1.out] at this
              rw [HSF.out]
              exact this)
            go_wp2_with fail
            go_quiet (first | (go_at_call 30; refine Calls.quiet_of_same (HPX.out _)))
            go_wp2_with fail
            refine ⟨?_, ?measure⟩
            iterate 20 apply Exists.intro
            iterate 20 apply Exists.intro
            iterate 20 apply Exists.intro
            repeat apply Exists.intro
            refine ⟨?rel, rfl⟩
            case rel => exact ⟨zs ++ [y], rest, nx, a + tx.size, HAP.out, by rw [HLZ.out, HK.out]; go_num, by go_num, g4, by rw [← HNX.out]; exact HY3, Lib.hid (below_drewN (hbr.out.alloc hbr.out.size _) _)⟩
            case measure => simp [intOf]; omega
    · have HE := Lib.hid h6
      have HZ := Lib.hid h5
      obtain ⟨er, her⟩ : ∃ er, (tokS s b).err = er := ⟨_, rfl⟩
      rw [her] at HE h5
      have h7 : (er == 0) = false := by rw [beq_eq_false_iff_ne]; exact h5
      have H5 := Lib.hid h5
      have h8 : (b : Int) < s.size := by omega
      clear h6 h5 h3 her HZ
      go_enter Tryd.func8, Tryd.ntmps8
      go_wp2_with fail
      refine HA.out.mono ?_
      rintro e w1 ⟨rfl, hb⟩
      have hm1 := hm.below hb hm.pos
      have HB := Lib.hid hb
      clear hb
      go_wp2_with fail
      refine (Lex_any s w1 hm1).mono ?_
      rintro e w2 ⟨v, rfl, -, hv, hb2⟩
      have HB2 := Lib.hid (HB.out.trans (hb2.mono HB.out.size))
      clear hb2
      rw [HE.out] at hv ⊢
      obtain rfl := hv H5.out
      clear hv
      simp only
      go_wp2_with fail
      go_ret
      exact ⟨rfl, HB2.out⟩
end Go.Proofs.YtmlfoffahfbalaaDoor
