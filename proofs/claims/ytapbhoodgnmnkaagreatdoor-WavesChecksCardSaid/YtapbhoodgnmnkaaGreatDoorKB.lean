/- Laws and contracts. -/
import Derived.Test.YtapbhoodgnmnkaaGreatDoorKA
set_option linter.unusedVariables false
set_option linter.unusedSimpArgs false
set_option maxRecDepth 100000
set_option maxHeartbeats 32000000
namespace Go.Proofs.YtapbhoodgnmnkaaGreatDoor
open Go.Proofs.Tryz Go Go.RowKit
structure Rowed (B:Nat)(v:Value)(vs:List Value)(L:List (List Nat))(W:World):Prop where
 top:W.ownsRow B 109 1 v L.length vs
 row:∀ (i:Nat) (u:Value) (l:List Nat),vs[i]? = some u→L[i]? = some l→W.ownsRow B 3 1 u l.length (l.map natC)
def rdyP (N:Nat)(es:List (Int×Int))(fl:List Bool)(i:Nat)(x:Int×Int):Bool:=decide (grpN N es x.1.toNat≠i)||(decide (grpN N es x.2.toNat=i)||bD fl (grpN N es x.2.toNat))
def nxtK (N:Nat)(es:List (Int×Int))(fl:List Bool)(j:Nat):Option Nat:=(List.range' j (N - j)).find? (rdyN N es fl)
def nxtV:Option Nat→Value
 | none=>.int .i64 (-1)
 | some n=>.int .i64 (n:Int)
def lenOf:Value→Nat
 | .slice _ n _=>n
 | _=>0
section
open Go.Proofs.Tryz
def lmStep (N:Nat)(es:List (Int×Int))(L:Nat→Nat)(h:Nat)(n:Nat)(x:Int×Int):Nat:=if grpN N es x.1.toNat=h∧grpN N es x.2.toNat≠h then max n (L x.2.toNat+1) else n
def lmax (N:Nat)(es:List (Int×Int))(L:Nat→Nat)(h:Nat)(l:List (Int×Int)):Nat:=l.foldl (lmStep N es L h) 0
def LvR (N:Nat)(es:List (Int×Int))(lv:Nat→Nat)(i:Nat)(d:List Int):Prop:=d.length=N∧∀ n,n<N→clG N es n∈(listF (condG N es)).take i→gD d n=(lv (clG N es n):Int)
def SetR (d:List Int)(row:List Nat)(k:Nat)(v:Int)(d':List Int):Prop:=d'.length=d.length∧∀ n,n<d.length→gD d' n=if n∈row.take k then v else gD d n
def mostL (lv:Nat→Nat)(l:List Nat):Int:=l.foldl (fun m c=>max m (lv c:Int)) (-1)
end
structure LevJ (N:Nat)(es:List (Int×Int))(B:Nat)(w0 W:World)(l1 l3 l4 l5:Bool)(s3 s4 s20 s22:Value):Prop where
 bel:Below B w0 W
 hB:B≤W.heap.size
 m1:l1=true→RowOf natC W.heap.size s20 ((List.range N).map (grpN N es)) W
 m3:l3=true→RowsOf W.heap.size s22 (compsG N es) W
 m4:l4=true→l1=true∧s3=s20
 m5:l5=true→l3=true∧s4=s22
end Go.Proofs.YtapbhoodgnmnkaaGreatDoor
