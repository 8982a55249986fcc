/- The library's contracts, with the world's equation the other way round. -/
import Derived.Test.YtdhihdiifgcfdaaGreatDoorLoops
import Derived.Test.YtdhihdiifgcfdaaGreatDoorShelf
namespace Go.Proofs.YtdhihdiifgcfdaaGreatDoor
open Go Go.RowKit

/-- the library's variable MaxLen reads as some number. -/
def MaxOk (w : World) : Prop := ∃ m : Int, w.cell? ⟨0, 0, none⟩ = some (.int .i64 m)
theorem MaxOk.below {B : Nat} {w w' : World} (h : MaxOk w) (hb : Below B w w') (hB : 0 < B) : MaxOk w' := by
  obtain ⟨m, hm⟩ := h
  exact ⟨m, (hb.cell (p := ⟨0, 0, none⟩) hB).trans hm⟩

theorem MaxOk.pos {w : World} (h : MaxOk w) : 0 < w.heap.size := by
  obtain ⟨m, h⟩ := h
  unfold World.cell? at h
  rcases Nat.lt_or_ge 0 w.heap.size with hp | hp
  · exact hp
  · rw [Array.getElem?_eq_none hp] at h; exact absurd h (by simp)
theorem MaxOk.alloc {w : World} (h : MaxOk w) (o : Obj) : MaxOk (w.alloc o) := h.below (B := w.heap.size) ((Below.refl _ w).alloc (Nat.le_refl _) o) h.pos

theorem flip {P : Program} {f : FuncId} {a : Array Value} {w : World} {v : Value} (h : Calls P f a w fun e w' => e = .returned v ∧ w' = w) : Calls P f a w fun e w' => e = .returned v ∧ w = w' :=
  h.mono fun _ _ ⟨h1, h2⟩ => ⟨h1, h2.symm⟩
theorem IndexByte_any (s : ByteArray) (c : Int) (w : World) :
    Calls Tryz.prog 154 #[.string s, .int .u8 c] w fun e w' => e = .returned (.int .i64 (Lib.indexByte s.data.toList c.toNat.toUInt8)) ∧ w = w' := flip (Tryz.strings_IndexByte s c w)
theorem CutPrefix_any (s p : ByteArray) (w : World) :
    Calls Tryz.prog 81 #[.string s, .string p] w fun e w' => e = .returned (.tuple #[.string ⟨(Lib.trimPrefix s.data.toList p.data.toList).toArray⟩, .bool (Lib.hasPrefix s.data.toList p.data.toList)]) ∧ w = w' := flip (Tryz.strings_CutPrefix s p w)
theorem Count_any (s : ByteArray) (c : UInt8) (w : World) :
    Calls Tryz.prog 48 #[.string s, .string ⟨#[c]⟩] w fun e w' => e = .returned (.int .i64 (Lib.countByte s.data.toList c)) ∧ w = w' := flip (Tryz.strings_Count_one s c w)
theorem ret_ii {j k : IntKind} {a b c d : Int} (h : a = b) (h' : c = d) : Ending.returned (.tuple #[.int j a, .int k c]) = Ending.returned (.tuple #[.int j b, .int k d]) := by rw [h, h']
theorem ret_ib {j : IntKind} {a b : Int} {c d : Bool} (h : a = b) (h' : c = d) : Ending.returned (.tuple #[.int j a, .bool c]) = Ending.returned (.tuple #[.int j b, .bool d]) := by rw [h, h']
theorem ret_string {a b : ByteArray} (h : a = b) : Ending.returned (.string a) = Ending.returned (.string b) := by rw [h]
end Go.Proofs.YtdhihdiifgcfdaaGreatDoor
