/- Laws and contracts. -/
import Derived.Test.YtapbhoodgnmnkaaGreatDoorJZ
set_option linter.unusedVariables false
set_option linter.unusedSimpArgs false
set_option maxRecDepth 100000
set_option maxHeartbeats 32000000
namespace Go.Proofs.YtapbhoodgnmnkaaGreatDoor
open Go.Proofs.Tryz Go Go.RowKit

noncomputable def rchB (N:Nat)(es:List (Int×Int))(a b:Nat):Bool:=@decide (b<N∧Rch (sucs N es) a b) (Classical.propDecidable _)
def grpN (N:Nat)(es:List (Int×Int))(i:Nat):Nat:=((List.range' 0 N).find? fun k=>clG N es k == clG N es i).getD i
def grpK (N:Nat)(es:List (Int×Int))(i j:Nat):Nat:=((List.range' j (N - j)).find? fun k=>clG N es k == clG N es i).getD i
def FlagV (N:Nat)(es:List (Int×Int))(i:Nat)(s:Value)(W:World):Prop:=∃ g f,s=.slice (some ⟨g,0,none⟩) N N∧Flags W g f∧MarkS N es [i] f
structure GrpJ (N:Nat)(es:List (Int×Int))(i B:Nat)(w0 W:World)(l2 l3 l5 l7 l8 l9 l10:Bool)(s5 s6 s19 s20 s22 s24 s25:Value):Prop where
 bel:Below B w0 W
 hB:B≤W.heap.size
 m2:l2=true→RowOf intC W.heap.size s19 ([i].map Int.ofNat) W
 m3:l3=true→FlagV N es i s20 W
 m5:l5=true→∃ a c v',s22=.agg #[.slice a N c,v']∧EdgesOf W.heap.size v' (es.map swapE) W
 m7:l7=true→RowOf intC W.heap.size s24 ([i].map Int.ofNat) W
 m8:l8=true→FlagV N (es.map swapE) i s25 W
 m9:l9=true→l3=true∧s5=s20
 m10:l10=true→l8=true∧s6=s25
section
open Go.Proofs.Tryz
def hdG (N:Nat)(es:List (Int×Int))(p:Nat):Nat:=((List.range N).find? fun k=>clG N es k == p).getD 0
def rdyN (N:Nat)(es:List (Int×Int))(fl:List Bool)(i:Nat):Bool:=(grpN N es i == i&&!bD fl i)&&es.all fun x=>decide (grpN N es x.1.toNat≠i)||(decide (grpN N es x.2.toNat=i)||bD fl (grpN N es x.2.toNat))
def rcStepN (N:Nat)(es:List (Int×Int))(st:List Bool×List (List Nat)):List Bool×List (List Nat) :=
 match (List.range N).find? (rdyN N es st.1)with
 | some n=>(st.1.set n true,st.2++[(List.range N).filter fun i=>grpN N es i == n])
 | none=>st
def rcRunN (N:Nat)(es:List (Int×Int)):Nat→List Bool×List (List Nat)
 | 0=>(List.replicate N false,[])
 | k+1=>rcStepN N es (rcRunN N es k)
end
end Go.Proofs.YtapbhoodgnmnkaaGreatDoor
