/- Constraints as texts, plain. Plain facts: the text of a number is read as this number, and back; the path of a line. Constraints as texts, plain: trimming, joining; the text of a set is read as this set. The text of a set, plain; it is read as this set. -/
import Derived.Test.YtenfkejbndifdaaGreatDoorWU
import Derived.Test.YtenfkejbndifdaaGreatDoorWA
import Derived.Lib.IndexMore
import Derived.Lib.TrimByte
import Derived.Test.YtenfkejbndifdaaGreatDoorWB
import Derived.Test.YtenfkejbndifdaaGreatDoorWP
import Derived.Lib.Join
namespace Go.Proofs.YtenfkejbndifdaaGreatDoor
set_option linter.unusedVariables false
set_option linter.unusedSimpArgs false
open Go

def plV (l : List UInt8) : Int := 1000 * (parseV l).1.2.1 + (parseV l).1.2.2
def synB (l : List UInt8) : Bool := decide ((parseV l).2 ≠ 0)
def othB (m : Int) (l : List UInt8) : Bool := decide ((parseV l).1.1 ≠ m)
def spanP (m : Int) (l : List UInt8) : (Int × Int) × Bool × Bool :=
  if l.head? = some 94 then ((plV l.tail, 1000000), synB l.tail, othB m l.tail)
  else if l.head? = some 126 then ((plV l.tail, plV l.tail / 1000 * 1000 + 1000), synB l.tail, othB m l.tail)
  else if 0 ≤ Lib.index l [46, 46] then
    let a := l.take (Lib.index l [46, 46]).toNat
    let b := l.drop ((Lib.index l [46, 46]).toNat + 2)
    ((if a = [] then 0 else plV a, if b = [] then 1000000 else plV b),
      (decide (a = []) && decide (b = [])) || ((!decide (a = []) && synB a) || (!decide (b = []) && synB b)), (!decide (a = []) && othB m a) || (!decide (b = []) && othB m b))
  else ((plV l, plV l + 1), synB l, othB m l)
def altV (m : Int) (l : List UInt8) : (Int × Int) × Int :=
  if l = [110, 111, 110, 101] then ((0, 0), 0)
  else if l = [42] then ((0, 1000000), 0)
  else if (spanP m l).2.1 = true then ((0, 0), 3)
  else if (spanP m l).2.2 = true ∨ (spanP m l).1.2 ≤ (spanP m l).1.1 then ((0, 0), 1)
  else ((spanP m l).1, 0)
def altsL (l : List UInt8) : List (List UInt8) := (barsL l).map fun a => Lib.trimB a 32
def errL (m : Int) (ps : List (List UInt8)) : Int := match ps.find? (fun a => decide ((altV m a).2 ≠ 0)) with
  | some a => (altV m a).2
  | none => 0
def parseC (m : Int) (l : List UInt8) : List (Int × Int) × Int :=
  if 65536 < l.length ∨ 1024 ≤ l.count 124 then ([], 7)
  else if ¬ (0 ≤ m ∧ m ≤ 999) then ([], 2)
  else if errL m (altsL l) ≠ 0 then ([], errL m (altsL l))
  else (canon ((altsL l).map fun a => (altV m a).1), 0)
def collP (m : Int) (ps : List (List UInt8)) : List (Int × Int) := (ps.filter fun a => !decide (a = [110, 111, 110, 101])).map fun a => (altV m a).1
end Go.Proofs.YtenfkejbndifdaaGreatDoor

namespace Go.Proofs.YtenfkejbndifdaaGreatDoor
open Go

def joinD : List (List UInt8) → List UInt8
  | [] => []
  | [x] => x
  | x :: r => x ++ 46 :: joinD r
end Go.Proofs.YtenfkejbndifdaaGreatDoor

namespace Go.Proofs.YtenfkejbndifdaaGreatDoor
set_option linter.unusedVariables false
set_option linter.unusedSimpArgs false
open Go

def PieceOk (x : List UInt8) : Prop := (∀ b ∈ x, b ≠ 124) ∧ x.head? ≠ some 32 ∧ x.getLast? ≠ some 32
def shI (i : Int) (n : Nat) : Int := if i = -1 then -1 else i + n
end Go.Proofs.YtenfkejbndifdaaGreatDoor

namespace Go.Proofs.YtenfkejbndifdaaGreatDoor
set_option linter.unusedVariables false
set_option linter.unusedSimpArgs false
open Go

def textV (m p : Int) : List UInt8 := (formatV (atV m p).1.1 (atV m p).1.2.1 (atV m p).1.2.2).1
def textB (m p : Int) : ByteArray := ⟨(textV m p).toArray⟩
def spanB (m : Int) (x : Int × Int) : ByteArray :=
  if x = (0, 1000000) then ⟨#[42]⟩ else if x.2 = x.1 + 1 then textB m x.1 else if x.2 = 1000000 then textB m x.1 ++ ⟨#[46, 46]⟩
  else if x.1 = 0 then ⟨#[46, 46]⟩ ++ textB m x.2 else textB m x.1 ++ ⟨#[46, 46]⟩ ++ textB m x.2
def spanT (m : Int) (x : Int × Int) : List UInt8 := (spanB m x).data.toList
def formatC (m : Int) (s : List (Int × Int)) : List UInt8 × Int :=
  if ¬ (0 ≤ m ∧ m ≤ 999) then ([], 2) else if canon s = [] then ([110, 111, 110, 101], 0) else (Lib.join ((canon s).map (spanT m)) [32, 124, 32], 0)
theorem canon_one {x : Int × Int} (h0 : 0 ≤ x.1) (h1 : x.1 < x.2) (h2 : x.2 ≤ 1000000) : canon [x] = [x] := canon_of_can (can_cons.2 ⟨⟨h0, h1, h2⟩, fun y hy => (List.not_mem_nil hy).elim, can_nil⟩)
end Go.Proofs.YtenfkejbndifdaaGreatDoor
