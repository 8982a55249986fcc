/- Insertion into a sorted list of spans, plain. -/
import Derived.Test.YtenfkejbndifdaaGreatDoorUA
namespace Go.Proofs.YtenfkejbndifdaaGreatDoor
set_option linter.unusedVariables false
set_option linter.unusedSimpArgs false

def backK (l : List (Int × Int)) (a : Int) : Nat → Nat
  | 0 => 0
  | k + 1 => if a < (l.getD k (0, 0)).1 then backK l a k else k + 1
def insS (l : List (Int × Int)) (x : Int × Int) : List (Int × Int) := l.take (backK l x.1 l.length) ++ ([x] ++ l.drop (backK l x.1 l.length))
def insAll (l : List (Int × Int)) : List (Int × Int) := l.foldl insS []
end Go.Proofs.YtenfkejbndifdaaGreatDoor
