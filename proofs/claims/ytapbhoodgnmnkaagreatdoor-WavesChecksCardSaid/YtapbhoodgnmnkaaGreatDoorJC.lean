/- Laws and contracts. -/
import Derived.Test.YtapbhoodgnmnkaaGreatDoorJB
import Derived.Shelf.SlicesQ.Equal
import Derived.Test.YtapbhoodgnmnkaaGreatDoorRMore
set_option linter.unusedVariables false
set_option linter.unusedSimpArgs false
set_option maxRecDepth 100000
set_option maxHeartbeats 32000000
namespace Go.Proofs.YtapbhoodgnmnkaaGreatDoor
open Go.Proofs.Tryz Go Go.RowKit
def ReqsOf (B:Nat)(v:Value)(l:List ReqL)(W:World):Prop :=
 ∃ ao cap,v=.slice ao l.length cap∧∀ i q,l[i]? = some q→∃ b off r,ao=some ⟨b,off,none⟩∧b<B∧W.cell? ⟨b,off+i*2,none⟩=some (.string q.1)∧W.cell? ⟨b,off+i*2+1,none⟩=some r∧SpansOf B r q.2 W
theorem ReqsOf.below {B B':Nat}{v:Value}{l:List ReqL}{W W':World}(h:ReqsOf B v l W)(hb:Below B' W W')(hB:B≤B'):ReqsOf B v l W':=by
 obtain⟨ao,cap,rfl,h⟩:=h
 refine⟨ao,cap,rfl,fun i q hq=>?_⟩
 obtain⟨b,off,r,rfl,hlt,h1,h2,h3⟩:=h i q hq
 exact⟨b,off,r,rfl,hlt,(hb.cell (p:=⟨b,off+i*2,none⟩) (by simp;omega)).trans h1,(hb.cell (p:=⟨b,off+i*2+1,none⟩) (by simp;omega)).trans h2,h3.below hb hB⟩
theorem ReqsOf.mono {B B':Nat}{v:Value}{l:List ReqL}{W:World}(h:ReqsOf B v l W)(hB:B≤B'):ReqsOf B' v l W:=by
 obtain⟨ao,cap,rfl,h⟩:=h
 refine⟨ao,cap,rfl,fun i q hq=>?_⟩
 obtain⟨b,off,r,rfl,hlt,h1,h2,h3⟩:=h i q hq
 exact⟨b,off,r,rfl,by omega,h1,h2,h3.mono hB⟩
theorem ReqsOf.on {w w':World}{v:Value}{l:List ReqL}(h:ReqsOf w.heap.size v l w)(hb:Below w.heap.size w w'):ReqsOf w'.heap.size v l w':=(h.below hb (zq _)).mono hb.size
def SelsOf (B:Nat)(v:Value)(l:List SelL)(W:World):Prop :=
 ∃ ao cap,v=.slice ao l.length cap∧∀ i y,l[i]? = some y→∃ b off,ao=some ⟨b,off,none⟩∧b<B∧W.cell? ⟨b,off+i*4,none⟩=some (.string y.1)∧W.cell? ⟨b,off+i*4+1,none⟩=some (intC y.2.1)∧W.cell? ⟨b,off+i*4+2,none⟩=some (intC y.2.2.1)∧W.cell? ⟨b,off+i*4+3,none⟩=some (intC y.2.2.2)
theorem SelsOf.below {B B':Nat}{v:Value}{l:List SelL}{W W':World}(h:SelsOf B v l W)(hb:Below B' W W')(hB:B≤B'):SelsOf B v l W':=by
 obtain⟨ao,cap,rfl,h⟩:=h
 refine⟨ao,cap,rfl,fun i q hq=>?_⟩
 obtain⟨b,off,rfl,hlt,h1,h2,h3,h4⟩:=h i q hq
 have key:∀ j,W'.cell? ⟨b,j,none⟩=W.cell? ⟨b,j,none⟩:=fun j=>hb.cell (p:=⟨b,j,none⟩) (by simp;omega)
 exact⟨b,off,rfl,hlt,(key _).trans h1,(key _).trans h2,(key _).trans h3,(key _).trans h4⟩
theorem SelsOf.mono {B B':Nat}{v:Value}{l:List SelL}{W:World}(h:SelsOf B v l W)(hB:B≤B'):SelsOf B' v l W:=by
 obtain⟨ao,cap,rfl,h⟩:=h
 refine⟨ao,cap,rfl,fun i q hq=>?_⟩
 obtain⟨b,off,rfl,hlt,h1⟩:=h i q hq
 exact⟨b,off,rfl,by omega,h1⟩
theorem SelsOf.on {w w':World}{v:Value}{l:List SelL}(h:SelsOf w.heap.size v l w)(hb:Below w.heap.size w w'):SelsOf w'.heap.size v l w':=(h.below hb (zq _)).mono hb.size
def RelAt (B:Nat)(b o:Nat)(x:RelL)(W:World):Prop :=
 ∃ r,W.cell? ⟨b,o,none⟩=some (.string x.path)∧W.cell? ⟨b,o+1,none⟩=some (intC x.ver.1)∧W.cell? ⟨b,o+2,none⟩=some (intC x.ver.2.1)∧W.cell? ⟨b,o+3,none⟩=some (intC x.ver.2.2)∧W.cell? ⟨b,o+4,none⟩=some r ∧
  W.cell? ⟨b,o+5,none⟩=some (.string x.ar)∧W.cell? ⟨b,o+6,none⟩=some (.string x.ifc)∧W.cell? ⟨b,o+7,none⟩=some (.string x.cert)∧W.cell? ⟨b,o+8,none⟩=some (.bool x.yk)∧ReqsOf B r x.reqs W
theorem RelAt.below {B B' b o:Nat}{x:RelL}{W W':World}(h:RelAt B b o x W)(hb:Below B' W W')(hB:B≤B')(hlt:b<B'):RelAt B b o x W':=by
 obtain⟨r,h0,h1,h2,h3,h4,h5,h6,h7,h8,h9⟩:=h
 have key:∀ j,W'.cell? ⟨b,j,none⟩=W.cell? ⟨b,j,none⟩:=fun j=>hb.cell (p:=⟨b,j,none⟩) hlt
 exact⟨r,(key _).trans h0,(key _).trans h1,(key _).trans h2,(key _).trans h3,(key _).trans h4,(key _).trans h5,(key _).trans h6,(key _).trans h7,(key _).trans h8,h9.below hb hB⟩
theorem RelAt.mono {B B' b o:Nat}{x:RelL}{W:World}(h:RelAt B b o x W)(hB:B≤B'):RelAt B' b o x W:=by
 obtain⟨r,h0,h1,h2,h3,h4,h5,h6,h7,h8,h9⟩:=h
 exact⟨r,h0,h1,h2,h3,h4,h5,h6,h7,h8,h9.mono hB⟩
def RelsOf (B:Nat)(v:Value)(l:List RelL)(W:World):Prop :=
 ∃ ao cap,v=.slice ao l.length cap∧∀ i x,l[i]? = some x→∃ b off,ao=some ⟨b,off,none⟩∧b<B∧RelAt B b (off+i*9) x W
theorem RelsOf.below {B B':Nat}{v:Value}{l:List RelL}{W W':World}(h:RelsOf B v l W)(hb:Below B' W W')(hB:B≤B'):RelsOf B v l W':=by
 obtain⟨ao,cap,rfl,h⟩:=h
 refine⟨ao,cap,rfl,fun i q hq=>?_⟩
 obtain⟨b,off,rfl,hlt,h1⟩:=h i q hq
 exact⟨b,off,rfl,hlt,h1.below hb hB (by omega)⟩
theorem RelsOf.mono {B B':Nat}{v:Value}{l:List RelL}{W:World}(h:RelsOf B v l W)(hB:B≤B'):RelsOf B' v l W:=by
 obtain⟨ao,cap,rfl,h⟩:=h
 refine⟨ao,cap,rfl,fun i q hq=>?_⟩
 obtain⟨b,off,rfl,hlt,h1⟩:=h i q hq
 exact⟨b,off,rfl,by omega,h1.mono hB⟩
theorem RelsOf.on {w w':World}{v:Value}{l:List RelL}(h:RelsOf w.heap.size v l w)(hb:Below w.heap.size w w'):RelsOf w'.heap.size v l w':=(h.below hb (zq _)).mono hb.size
section
open Go.Proofs.Tryz Go Go.RowKit Go.Shelf Go.Lib
def spanRen:Ren:=⟨fun _=>200,fun x=>if x=0 then 0 else if x=3 then 3 else if x=4 then 4 else if x=22 then 87 else 100,fun x=>x⟩
theorem spanLays8:SlLaysQ.n8 prog spanRen:={
 mixed:=by kernel_rfl
 f8:=⟨Tryz.f200.name,by decide,func200.trans (congrArg some (by kernel_rfl))⟩
 t0:=underlying0
 a0:=isAgg0
 z0:=sizeOf0
 v0:=zeroValue0
 t3:=underlying3
 a3:=isAgg3
 z3:=sizeOf3
 v3:=zeroValue3
 t4:=underlying4
 a4:=isAgg4
 z4:=sizeOf4
 v4:=zeroValue4
 t22:=underlying87
 a22:=isAgg87
 z22:=sizeOf87
 v22:=zeroValue87 }
def spanC (x:Int×Int):List Value:=[.int .i64 x.1,.int .i64 x.2]
theorem zl5:NeqAt prog 100 (fun x=>.agg (spanC x).toArray) (fun x y=>x.1 == y.1&&x.2 == y.2):=by
 refine⟨fun x y w=>?_,GuardAt.agg _ (by kernel_rfl)⟩
 have u3:=underlying3
 have a3:=isAgg3
 have z3:=sizeOf3
 have hS:prog.underlying 100=some (.struct (prog.fieldsOf 100)):=by kernel_rfl
 have hp:prog.stoodInHeld 100=false:=by kernel_rfl
 simp only [spanC]
 rw [run_neq_struct,show(10000:Nat)=9999+1 from rfl,run_equalIn_agg w 9999 100 _ _ hS hp]
 simp only [Program.fieldsOf,underlying100]
 go_simp
 by_cases h1:x.fst=y.fst<;>by_cases h2:x.snd=y.snd<;>simp [h1,h2]
theorem zci:∀ (xs ys:List (Int×Int)),Lib.allEq (fun x y:Int×Int=>x.1 == y.1&&x.2 == y.2) xs ys=decide (xs=ys)
 | [],[]=>rfl
 | [],_::_=>rfl
 | _::_,[]=>rfl
 | (a,b)::xs,(c,d)::ys=>by
  simp only [Lib.allEq,zci xs ys]
  by_cases h1:a=c<;>by_cases h2:b=d<;>by_cases h3:xs=ys<;>simp [h1,h2,h3]
theorem z7o {B b off cap:Nat}{es:List (Int×Int)}{w:World}(h:SpansOf B (.slice (some ⟨b,off,none⟩) es.length cap) es w):∀ j,j<es.length→∀ i v,(spanC es[j]!)[i]? = some v→w.cell? ⟨b,off+j*2+i,none⟩=some v:=by
 obtain⟨ao,c,e,h⟩:=h
 cases e
 intro j hj i v hv
 rw [getElem!_pos es j hj]at hv
 obtain⟨b',off',e,_,h1,h2⟩:=h j es[j] (by simp [hj])
 cases e
 match i,hv with
 | 0,hv=>cases hv;exact h1
 | 1,hv=>cases hv;exact h2
 | i+2,hv=>simp [spanC]at hv
theorem zcs (v u:Value)(B:Nat)(xs ys:List (Int×Int))(w:World)(hxl:xs.length≤1000000000)(hyl:ys.length≤1000000000)(h1:SpansOf B v xs w)(h2:SpansOf B u ys w) :
  Calls prog 200 #[v,u] w fun e w'=>e=.returned (.bool (decide (xs=ys)))∧∃ q,w'=w.drewN q:=by
 have g1:=h1
 have g2:=h2
 obtain⟨a1,c1,rfl,k1⟩:=h1
 obtain⟨a2,c2,rfl,k2⟩:=h2
 by_cases hl:xs.length=ys.length
 ·by_cases hp:0<xs.length
  ·obtain⟨b1,o1,rfl,_⟩:=k1 0 xs[0] (by simp [hp])
   obtain⟨b2,o2,rfl,_⟩:=k2 0 (ys[0]'(by omega)) (by simp)
   refine(AnyQ.slices_Equal spanLays8 2 isAgg100 sizeOf100 spanC (fun _=>rfl) _ zl5 b1 o1 xs.length c1 b2 o2 ys.length c2 xs ys w (zq _) (zq _) (by omega) (by omega) (z7o g1) (z7o g2)).mono ?_
   rintro e w' ⟨rfl,q,rfl⟩
   exact⟨by rw [List.take_length,List.take_length,zci],q,rfl⟩
  ·have e1:xs=[]:=List.length_eq_zero_iff.1 (by omega)
   subst e1
   have e2:ys=[]:=List.length_eq_zero_iff.1 (by simpa using hl.symm)
   subst e2
   clear g1 g2 k1 k2 hxl hyl hp hl
   go_enter func200,ntmps200
   go_wp2_with fail
   go_loopw [13] (fun q wr=>q=.int .i64 0∧wr=w) (fun _ _=>0)
   case atStart=>exact⟨rfl,rfl⟩
   case round =>
    obtain⟨rfl,rfl⟩:=hrel
    go_wp2_with fail
    go_ret
    exact⟨rfl,0,rfl⟩
 ·have hne:decide (xs=ys)=false:=decide_eq_false fun e=>hl (by rw [e])
  rw [hne]
  clear g1 g2 k1 k2 hne
  have hl2:¬ ((xs.length:Int)=(ys.length:Int)):=by omega
  have hl3:decide ((xs.length:Int)=(ys.length:Int))=false:=decide_eq_false hl2
  go_enter func200,ntmps200
  go_wp2_with fail
  go_ret
  exact⟨rfl,0,rfl⟩
end
section
open Go.Proofs.Tryz Go
theorem z0c (a:ByteArray):ltB a a=false:=by
 unfold ltB
 generalize a.toList=l
 induction l with
 | nil=>rfl
 | cons c l ih=>simp [Op.bytesLess,ih]
def pathIx (s:List SelL)(p:ByteArray):Option Nat:=s.findIdx? fun z=>decide (z.1=p)
def nodeE (s:List SelL)(i:Nat)(l:List ReqL):List (Int×Int):=l.filterMap fun q=>(pathIx s q.1).map fun k=>((i:Int),(k:Int))
def reqsOf (X:List RelL)(y:SelL):List ReqL:=match findR X y with
 | some r=>r.reqs
 | none=>[]
def edgesK (X:List RelL)(s:List SelL)(k:Nat):List (Int×Int):=(List.range k).flatMap fun i=>nodeE s i (reqsOf X (s.getD i default))
noncomputable def ofV (X:List RelL)(s:List SelL):(List ByteArray×List (Int×Int))×Int:=open Classical in
 if checkX X≠0∨¬ incrS s then(([],[]),1)
 else if (s.all fun y=>(findR X y).isSome)=true then((s.map (·.1),edgesK X s s.length),0)
 else(([],[]),6)
inductive Need (X:List RelL) (roots:List ReqL) (s:List SelL):ByteArray→Prop
 | root {q:ReqL} (h:q∈roots):Need X roots s q.1
 | step {y:SelL} {q:ReqL} (hy:y∈s) (h:Need X roots s y.1) (hq:q∈reqsOf X y):Need X roots s q.1
def metB (s:List SelL)(q:ReqL):Bool:=s.any fun y=>decide (y.1=q.1)&&hasB q.2 (1000*y.2.2.1+y.2.2.2)
end
section
open Go.Proofs.Tryz
open Go.Lib
def sucL (n:Nat)(es:List (Int×Int))(i:Nat):List Nat:=(List.range n).filter fun k=>es.contains ((i:Int),(k:Int))
def sucs (n:Nat)(es:List (Int×Int)):List (List Nat):=(List.range n).map (sucL n es)
def rawL (es:List (Int×Int))(i:Nat):List Int:=(es.filter fun e=>e.1 == (i:Int)).map (·.2)
def validG (n:Nat)(es:List (Int×Int)):Bool:=decide (n≤1024)&&decide (es.length≤4096)&&es.all fun e=>decide (0≤e.1∧e.1<n∧0≤e.2∧e.2<n)
theorem z08 (n:Nat)(es:List (Int×Int)):(sucs n es).length=n:=by simp [sucs]
theorem zl6 (n:Nat)(es:List (Int×Int))(i:Nat)(h:i<n):(sucs n es)[i]? = some (sucL n es i):=by simp [sucs,h]
theorem z4z (n:Nat)(es:List (Int×Int))(i:Nat)(h:i<n):(sucs n es).getD i []=sucL n es i:=by rw [zg,zl6 n es i h];rfl
theorem z4r {n:Nat}{es:List (Int×Int)}{i k:Nat}:k∈sucL n es i ↔ k<n∧((i:Int),(k:Int))∈es:=by simp [sucL]
theorem zdx (n:Nat)(es:List (Int×Int))(i:Nat):(sucL n es i).length≤n:=by
 unfold sucL
 have:=List.length_filter_le (fun k:Nat=>es.contains ((i:Int),(k:Int))) (List.range n)
 simpa using this
theorem zdy (n:Nat)(es:List (Int×Int))(i:Nat):(sucL n es i).Pairwise (· < ·):=List.Pairwise.filter _ List.pairwise_lt_range
theorem zil (es:List (Int×Int))(e:Int×Int)(i:Nat):rawL (es++[e]) i=if e.1=(i:Int) then rawL es i++[e.2] else rawL es i:=by
 unfold rawL
 rw [List.filter_append]
 by_cases h:e.1=(i:Int)<;>simp [h]
theorem zkj {es:List (Int×Int)}{i:Nat}{x:Int}:x∈rawL es i ↔ ((i:Int),x)∈es:=by
 unfold rawL
 rw [List.mem_map]
 constructor
 ·rintro⟨⟨a,b⟩,h,rfl⟩
  rw [List.mem_filter]at h
  have:a=(i:Int):=by simpa using h.2
  subst this
  exact h.1
 ·intro h
  exact⟨((i:Int),x),List.mem_filter.2 ⟨h,by simp⟩,rfl⟩
theorem zek:∀ {a b:List Int},a.Pairwise (· < ·)→b.Pairwise (· < ·)→(∀ x,x∈a ↔ x∈b)→a=b
 | [],[],_,_,_=>rfl
 | [],y::b,_,_,h=>by have:=(h y).2 (by simp);simp at this
 | x::a,[],_,_,h=>by have:=(h x).1 (by simp);simp at this
 | x::a,y::b,ha,hb,h=>by
  rw [List.pairwise_cons]at ha hb
  have hxy:x=y:=by
   have h1:=(h x).1 (by simp)
   have h2:=(h y).2 (by simp)
   rcases List.mem_cons.1 h1 with h1 | h1
   ·exact h1
   ·rcases List.mem_cons.1 h2 with h2 | h2
    ·exact h2.symm
    ·have:=hb.1 x h1
     have:=ha.1 y h2
     omega
  subst hxy
  congr 1
  refine zek ha.2 hb.2 fun z=>?_
  have:=h z
  constructor
  ·intro hz
   rcases List.mem_cons.1 (this.1 (by simp [hz]))with e | e
   ·have:=ha.1 z hz;omega
   ·exact e
  ·intro hz
   rcases List.mem_cons.1 (this.2 (by simp [hz]))with e | e
   ·have:=hb.1 z hz;omega
   ·exact e
theorem z3c (d:Array Int)(hs:∀ i j,i≤j→j<d.size→d[i]!≤d[j]!):∀ m,m≤d.size →
  (compactUpTo d m).Pairwise (· < ·)∧(∀ x∈compactUpTo d m,∃ j,j<m∧d[j]! = x)∧(∀ j,j<m→d[j]!∈compactUpTo d m)
 | 0,_=>by simp [compactUpTo]
 | m+1,hm=>by
  obtain⟨h1,h2,h3⟩:=z3c d hs m (by omega)
  rw [compactUpTo_succ]
  by_cases hk:keeps d m=true
  ·rw [if_pos hk]
   refine⟨?_,?_,?_⟩
   ·rw [List.pairwise_append]
    refine⟨h1,by simp,fun x hx y hy=>?_⟩
    obtain⟨j,hj,rfl⟩:=h2 x hx
    rw [List.mem_singleton]at hy
    subst hy
    unfold keeps at hk
    simp only [decide_eq_true_eq]at hk
    have h0:d[m]!≠d[m - 1]!:=by
      rcases hk with hk | hk
      ·omega
      ·exact hk
    have ha:=hs j (m - 1) (by omega) (by omega)
    have hb:=hs (m - 1) m (by omega) (by omega)
    omega
   ·intro x hx
    rcases List.mem_append.1 hx with hx | hx
    ·obtain⟨j,hj,e⟩:=h2 x hx;exact⟨j,by omega,e⟩
    ·rw [List.mem_singleton]at hx;exact⟨m,by omega,hx.symm⟩
   ·intro j hj
    by_cases e:j=m
    ·subst e;simp
    ·exact List.mem_append_left _ (h3 j (by omega))
  ·rw [if_neg hk,List.append_nil]
   refine⟨h1,fun x hx=>?_,fun j hj=>?_⟩
   ·obtain⟨j,hj,e⟩:=h2 x hx;exact⟨j,by omega,e⟩
   ·by_cases e:j=m
    ·subst e
     unfold keeps at hk
     simp only [decide_eq_true_eq,not_or,ne_eq,Decidable.not_not]at hk
     rw [hk.2]
     exact h3 (j - 1) (by omega)
    ·exact h3 j (by omega)
theorem zay (l:List Int)(t:List Int)(ht:t.Pairwise (· < ·))(hm:∀ x,x∈t ↔ x∈l):compact (l.mergeSort fun x y=>decide (x≤y))=t:=by
 have hp:=List.mergeSort_perm l (fun x y=>decide (x≤y))
 have hs:=List.pairwise_mergeSort (le:=fun(x y:Int)=>decide (x≤y)) (fun a b c h1 h2=>by simp at *;omega) (fun a b=>by simp;omega) l
 generalize l.mergeSort (fun x y=>decide (x≤y))=s at *
 have hsz:s.toArray.size=s.length:=by simp
 have key:=z3c s.toArray (fun i j hij hj=>by
  have hj':j<s.length:=by simpa using hj
  rw [getElem!_pos s.toArray i (by simp;omega),getElem!_pos s.toArray j (by simpa using hj')]
  simp only [List.getElem_toArray]
  by_cases e:i=j
  ·subst e;exact Int.le_refl _
  ·have:=List.pairwise_iff_getElem.1 hs i j (by omega) hj' (by omega)
   simpa using this) s.length (by simp)
 unfold compact
 refine zek key.1 ht fun x=>?_
 rw [hm,← hp.mem_iff]
 constructor
 ·intro hx
  obtain⟨j,hj,e⟩:=key.2.1 x hx
  rw [getElem!_pos s.toArray j (by simpa using hj)]at e
  simp only [List.getElem_toArray]at e
  rw [← e]
  exact List.getElem_mem hj
 ·intro hx
  obtain⟨j,hj,e⟩:=List.getElem_of_mem hx
  have:=key.2.2 j hj
  rw [getElem!_pos s.toArray j (by simpa using hj)]at this
  simp only [List.getElem_toArray]at this
  rwa [e]at this
theorem z7r {n:Nat}{es:List (Int×Int)}(h:validG n es=true){e:Int×Int}(he:e∈es):0≤e.1∧e.1<n∧0≤e.2∧e.2<n:=by
 unfold validG at h
 simp only [Bool.and_eq_true,List.all_eq_true,decide_eq_true_eq]at h
 exact h.2 e he
theorem z6f {n:Nat}{es:List (Int×Int)}(h:validG n es=true):n≤1024∧es.length≤4096:=by
 unfold validG at h
 simp only [Bool.and_eq_true,decide_eq_true_eq]at h
 exact h.1
theorem zcz {n:Nat}{es:List (Int×Int)}(h:validG n es=true)(i:Nat):compact ((rawL es i).mergeSort fun x y=>decide (x≤y))=((sucL n es i).map Int.ofNat):=by
 refine zay _ _ ?_ fun x=>?_
 ·rw [List.pairwise_map]
  exact(zdy n es i).imp fun h=>Int.ofNat_lt.2 h
 ·rw [zkj,List.mem_map]
  constructor
  ·rintro⟨k,hk,rfl⟩
   exact(z4r.1 hk).2
  ·intro hx
   have:=z7r h hx
   have e:((x.toNat:Nat):Int)=x:=by omega
   refine⟨x.toNat,z4r.2 ⟨by omega,?_⟩,e⟩
   rw [e]
   exact hx
end
section
open Go.Proofs.Tryz
inductive Rch (S:List (List Nat)):Nat→Nat→Prop
 | refl (a:Nat):Rch S a a
 | step {a b c:Nat}:b∈S.getD a []→Rch S b c→Rch S a c
theorem Rch.trans {S:List (List Nat)}{a b c:Nat}(h:Rch S a b)(k:Rch S b c):Rch S a c:=by
 induction h with
 | refl=>exact k
 | step hb _ ih=>exact .step hb (ih k)
def Mono (a b:List Bool):Prop:=a.length=b.length∧∀ i:Nat,a[i]? = some true→b[i]? = some true
def VisR (S:List (List Nat))(seen:List Bool)(n:Nat)(seen':List Bool):Prop :=
 Mono seen seen'∧seen'[n]? = some true∧∀ a:Nat,seen'[a]? = some true→seen[a]?≠some true→Rch S n a∧∀ k∈S.getD a [],seen'[k]? = some true
def VisL (S:List (List Nat))(s0:List Bool)(pre:List Nat)(sn:List Bool):Prop :=
 Mono s0 sn∧(∀ k∈pre,sn[k]? = some true)∧∀ a:Nat,sn[a]? = some true→s0[a]?≠some true→(∃ k∈pre,Rch S k a)∧∀ k∈S.getD a [],sn[k]? = some true
def unseen (l:List Bool):Nat:=l.count false
theorem z5l:∀ (l:List Bool)(n:Nat),l[n]? = some false→unseen (l.set n true)+1=unseen l
 | [],n,h=>by simp at h
 | x::l,0,h=>by
  simp at h
  subst h
  simp [unseen]
 | x::l,n+1,h=>by
  have:=z5l l n (by simpa using h)
  unfold unseen at *
  rw [List.set_cons_succ,List.count_cons,List.count_cons]
  omega
end
section
open Go.Proofs.Tryz
def ofP (S:List (List Nat))(node least:Nat):List Nat:=(S.getD node []).filter (fun k=>decide (least≤k))
abbrev gD (d:List Int)(a:Nat):Int:=d.getD a (-1)
structure DistR (S:List (List Nat))(least tgt:Nat)(d:List Int):Prop where
 len:d.length=S.length
 lo:∀ a,-1≤gD d a
 t0:gD d tgt=0
 zero:∀ a,gD d a=0→a=tgt
 pred:∀ (a m:Nat),gD d a=(m:Int)+1→∃ b,a∈ofP S b least∧gD d b=m
 near:∀ b,0≤gD d b→∀ a∈ofP S b least,0≤gD d a∧gD d a≤gD d b+1
def bstep (n:Nat)(st:List Int×List Nat)(k:Nat):List Int×List Nat:=if gD st.1 k<0 then(st.1.set k (gD st.1 n+1),st.2++[k]) else st
def unass (d:List Int):Nat:=d.countP (fun x=>decide (x<0))
theorem zeh (d:List Int)(k:Nat)(x:Int)(a:Nat)(hk:k<d.length):gD (d.set k x) a=if a=k then x else gD d a:=by
 unfold gD
 rw [zg,zg]
 by_cases h:a=k
 ·subst h;rw [if_pos rfl,List.getElem?_set_self hk];rfl
 ·rw [if_neg h,List.getElem?_set_ne (Ne.symm h)]
theorem gD_lt {d:List Int}{a:Nat}(h:0≤gD d a):a<d.length:=by
 unfold gD at h
 rw [zg]at h
 cases e:d[a]? with
 | none=>rw [e]at h;simp at h
 | some x=>exact(zc e)
structure BfsI (S:List (List Nat))(least tgt:Nat)(d:List Int)(q:List Nat):Prop where
 len:d.length=S.length
 lo:∀ a,-1≤gD d a
 t0:gD d tgt=0
 zero:∀ a,gD d a=0→a=tgt
 pred:∀ (a m:Nat),gD d a=(m:Int)+1→∃ b,a∈ofP S b least∧gD d b=m
 bound:∀ a,gD d a+unass d<S.length
 qok:∀ k∈q,0≤gD d k
 mono:q.Pairwise fun x y=>gD d x≤gD d y
 near:∀ a h,q.head? = some h→gD d a≤gD d h+1
 done:∀ b,0≤gD d b→b ∉ q→∀ a∈ofP S b least,0≤gD d a∧gD d a≤gD d b+1
structure BfsJ (S:List (List Nat))(least tgt n:Nat)(pre:List Nat)(d:List Int)(q:List Nat):Prop where
 len:d.length=S.length
 lo:∀ a,-1≤gD d a
 t0:gD d tgt=0
 zero:∀ a,gD d a=0→a=tgt
 pred:∀ (a m:Nat),gD d a=(m:Int)+1→∃ b,a∈ofP S b least∧gD d b=m
 bound:∀ a,gD d a+unass d<S.length
 n0:0≤gD d n
 qok:∀ k∈q,gD d n≤gD d k
 mono:q.Pairwise fun x y=>gD d x≤gD d y
 near:∀ a,gD d a≤gD d n+1
 done:∀ b,0≤gD d b→b ∉ q→b≠n→∀ a∈ofP S b least,0≤gD d a∧gD d a≤gD d b+1
 row:∀ a∈pre,0≤gD d a∧gD d a≤gD d n+1
theorem zll (N a:Nat):gD (List.replicate N (-1)) a=-1:=by
 unfold gD
 rw [zg,List.getElem?_replicate]
 split<;>rfl
end
section
open Go.Proofs.Tryz
def bfsRun (S:List (List Nat))(least:Nat):Nat→List Int→List Nat→List Int
 | 0,d,_=>d
 | _+1,d,[]=>d
 | m+1,d,n::q=>let st:=(ofP S n least).foldl (bstep n) (d,q);bfsRun S least m st.1 st.2
def bfsD (S:List (List Nat))(least tgt:Nat):List Int:=bfsRun S least (S.length+1) ((List.replicate S.length (-1)).set tgt 0) [tgt]
def swapE (x:Int×Int):Int×Int:=(x.2,x.1)
theorem z2c {N:Nat}{es:List (Int×Int)}:∀ a,∀ k∈(sucs N es).getD a [],k<(sucs N es).length:=fun a k hk=>by
 rw [z08]
 by_cases ha:a<N
 ·rw [z4z _ _ _ ha]at hk;exact(z4r.1 hk).1
 ·rw [zg,List.getElem?_eq_none (by rw [z08];omega)]at hk;simp at hk
theorem z50 {N:Nat}{es:List (Int×Int)}(a:Nat):((sucs N es).getD a []).length≤N:=by
 by_cases ha:a<N
 ·rw [z4z _ _ _ ha];exact zdx N es a
 ·rw [zg,List.getElem?_eq_none (by rw [z08];omega)];simp
theorem zew {N:Nat}{es:List (Int×Int)}{a k:Nat}:k∈(sucs N es).getD a [] ↔ a<N∧k<N∧((a:Int),(k:Int))∈es:=by
 constructor
 ·intro h
  by_cases ha:a<N
  ·rw [z4z _ _ _ ha]at h;exact⟨ha,z4r.1 h⟩
  ·rw [zg,List.getElem?_eq_none (by rw [z08];omega)]at h;simp at h
 ·rintro⟨ha,h⟩
  rw [z4z _ _ _ ha]
  exact z4r.2 h
def descP (S:List (List Nat))(far:List Int):Nat→Nat→List Nat
 | 0,n=>[n]
 | m+1,n=>n::(match (S.getD n []).find? (fun k=>gD far k == (m:Int))with | some k=>descP S far m k | none=>[])
def pathF (N:Nat)(es:List (Int×Int))(a b:Nat):List Nat:=let far:=bfsD (sucs N (es.map swapE)) 0 b;if gD far a<0 then [] else descP (sucs N es) far (gD far a).toNat a
end
section
open Go.Proofs.Tryz Go

end
section
open Go.Proofs.Tryz Go
theorem z1i {α:Type} [DecidableEq α]:∀ {l m:List α},l.Nodup→(∀ a∈l,a∈m)→l.length≤m.length
 | [],m,_,_=>Nat.zero_le _
 | a::l,m,hn,hs=>by
  rw [List.nodup_cons]at hn
  have h1:=hs a (by simp)
  have h2:l.length≤(m.erase a).length:=z1i hn.2 fun b hb=>(List.mem_erase_of_ne (fun e=>by subst e;exact hn.1 hb)).2 (hs b (by simp [hb]))
  have h3:=List.length_erase_of_mem h1
  have h4:=List.length_pos_of_mem h1
  rw [List.length_cons]
  omega
theorem z2z {s:List SelL}(h:incrS s):(s.map (·.1)).Nodup:=by
 unfold List.Nodup
 rw [List.pairwise_map]
 exact h.imp fun {a b} hab e=>by rw [e,z0c]at hab;cases hab
structure SatP (X:List RelL)(roots:List ReqL)(s:List SelL):Prop where
 ok:checkX X=0
 incr:incrS s
 found:∀ y∈s,(findR X y).isSome=true
 own:∀ y∈s,∀ q∈reqsOf X y,metB s q=true
 root:∀ q∈roots,metB s q=true
structure NeedI (X:List RelL)(roots:List ReqL)(s:List SelL)(seen:List ByteArray)(todo:List ReqL):Prop where
 nodup:seen.Nodup
 seen:∀ p∈seen,Need X roots s p∧p∈s.map (·.1)
 todo:∀ q∈todo,Need X roots s q.1∧q.1∈s.map (·.1)
theorem z8x {X:List RelL}(h:checkX X=0)(y:SelL):(reqsOf X y).length≤16:=by
 unfold reqsOf
 cases hf:findR X y with
 | none=>simp
 | some r =>
  have hm:r∈X:=List.mem_of_find?_eq_some hf
  obtain⟨k,hk,rfl⟩:=List.mem_iff_getElem.1 hm
  unfold checkX at h
  split at h
  ·exact absurd h (by decide)
  ·have h1:=z47 h k hk
   unfold idxErr at h1
   have h2:relE (X.getD k default)=0:=by
    by_cases e:relE (X.getD k default)=0
    ·exact e
    ·rw [if_pos e]at h1;exact absurd h1 e
   rw [zg,ze hk]at h2
   simp only [Option.getD_some]at h2
   unfold relE at h2
   split at h2
   ·exact absurd h2 (by decide)
   ·split at h2
    ·exact absurd h2 (by decide)
    ·split at h2
     ·rename_i h3;exact absurd h2 h3
     ·rename_i h3
      have h4:checkReqs X[k].reqs=0:=Classical.not_not.1 h3
      unfold checkReqs at h4
      split at h4
      ·exact absurd h4 (by decide)
      ·simp only
       omega
end
section
open Go.Proofs.Tryz Go Go.RowKit Go.Sort
def SpanAt (W:World)(g j:Nat)(x:Int×Int):Prop:=W.cell? ⟨g,j*2,none⟩=some (intC x.1)∧W.cell? ⟨g,j*2+1,none⟩=some (intC x.2)
def MidRow (g:Nat)(m d:List (Int×Int))(i:Nat)(W:World):Prop :=
 (∀ j x,m[j]? = some x→SpanAt W g j x)∧(∀ j x,i≤j→d[j]? = some x→SpanAt W g j x)∧(∀ o,W.frozen? ⟨g,o,none⟩=false)∧g<W.heap.size∧(∀ j,j<d.length→∃ x,SpanAt W g j x)
theorem SpanAt.alloc {W:World}{g j:Nat}{x:Int×Int}(h:SpanAt W g j x)(o:Obj):SpanAt (W.alloc o) g j x:=⟨cellA o h.1,cellA o h.2⟩
theorem MidRow.alloc {g:Nat}{m d:List (Int×Int)}{i:Nat}{W:World}(h:MidRow g m d i W)(o:Obj):MidRow g m d i (W.alloc o):=by
 obtain⟨h1,h2,h3,h4,h5⟩:=h
 refine⟨fun j x hx=>(h1 j x hx).alloc o,fun j x hj hx=>(h2 j x hj hx).alloc o,fun p=>?_,by simp;omega,fun j hj=>?_⟩
 ·have e:(W.alloc o).heap[g]? = W.heap[g]?:=Below.heap_alloc W o g h4
  have:=h3 p
  unfold World.frozen? at this ⊢
  simp only [e]
  exact this
 ·obtain⟨x,hx⟩:=h5 j hj
  exact⟨x,hx.alloc o⟩
theorem z4y {W:World}{g j k:Nat}{x:Int×Int}(h:SpanAt W g j x){v:Value}(h1:k≠j*2)(h2:k≠j*2+1):SpanAt (W.setCell ⟨g,k,none⟩ v) g j x :=
 ⟨(World.cell?_setCell_other _ _ _ _ (fun e=>h1 (by injection e))).trans h.1,(World.cell?_setCell_other _ _ _ _ (fun e=>h2 (by injection e))).trans h.2⟩
theorem z3p (W:World)(a:Addr)(v:Value):(W.setCell a v).heap.size=W.heap.size:=by simp
theorem MidRow.join {g:Nat}{pre d:List (Int×Int)}{y:Int×Int}{i:Nat}{W:World}(h:MidRow g (pre++[y]) d i W)(hi:pre.length<i)(z:Int) :
  MidRow g (pre++[(y.1,z)]) d (i+1) (W.setCell ⟨g,pre.length*2+1,none⟩ (intC z)):=by
 obtain⟨h1,h2,h3,h4,h5⟩:=h
 have hy:SpanAt W g pre.length y:=h1 _ _ (by simp)
 have hnew:SpanAt (W.setCell ⟨g,pre.length*2+1,none⟩ (intC z)) g pre.length (y.1,z) :=
  ⟨(World.cell?_setCell_other _ _ _ _ (fun e=>by injection e;omega)).trans hy.1,World.cell?_setCell_same _ _ _ hy.2⟩
 refine⟨fun j x hx=>?_,fun j x hj hx=>z4y (h2 j x (by omega) hx) (by omega) (by omega),fun o=>by rw [World.frozen?_setCell];exact h3 o,by rw [z3p];exact h4,fun j hj=>?_⟩
 ·rcases Nat.lt_trichotomy j pre.length with hj | hj | hj
  ·rw [List.getElem?_append_left hj]at hx
   exact z4y (h1 j x (by rw [List.getElem?_append_left hj];exact hx)) (by omega) (by omega)
  ·subst hj
   have:x=(y.1,z):=by simpa using hx.symm
   rw [this]
   exact hnew
  ·rw [List.getElem?_eq_none (by simp;omega)]at hx
   cases hx
 ·by_cases hjp:j=pre.length
  ·subst hjp;exact⟨_,hnew⟩
  ·obtain⟨x,hx⟩:=h5 j hj
   exact⟨x,z4y hx (by omega) (by omega)⟩
theorem MidRow.push {g:Nat}{m d:List (Int×Int)}{x:Int×Int}{i:Nat}{W:World}(h:MidRow g m d i W)(hi:m.length≤i)(hd:m.length<d.length) :
  MidRow g (m++[x]) d (i+1) ((W.setCell ⟨g,m.length*2,none⟩ (intC x.1)).setCell ⟨g,m.length*2+1,none⟩ (intC x.2)):=by
 obtain⟨h1,h2,h3,h4,h5⟩:=h
 obtain⟨y,hy⟩:=h5 m.length hd
 have e1:(W.setCell ⟨g,m.length*2,none⟩ (intC x.1)).cell? ⟨g,m.length*2,none⟩=some (intC x.1):=World.cell?_setCell_same _ _ _ hy.1
 have e2:(W.setCell ⟨g,m.length*2,none⟩ (intC x.1)).cell? ⟨g,m.length*2+1,none⟩=some (intC y.2):=(World.cell?_setCell_other _ _ _ _ (fun e=>by injection e;omega)).trans hy.2
 have hnew:SpanAt ((W.setCell ⟨g,m.length*2,none⟩ (intC x.1)).setCell ⟨g,m.length*2+1,none⟩ (intC x.2)) g m.length x :=
  ⟨(World.cell?_setCell_other _ _ _ _ (fun e=>by injection e;omega)).trans e1,World.cell?_setCell_same _ _ _ e2⟩
 have far:∀ j z,SpanAt W g j z→j≠m.length→SpanAt ((W.setCell ⟨g,m.length*2,none⟩ (intC x.1)).setCell ⟨g,m.length*2+1,none⟩ (intC x.2)) g j z :=
  fun j z hz hne=>z4y (z4y hz (by omega) (by omega)) (by omega) (by omega)
 refine⟨fun j z hz=>?_,fun j z hj hz=>far j z (h2 j z (by omega) hz) (by omega),fun o=>by rw [World.frozen?_setCell,World.frozen?_setCell];exact h3 o,by rw [z3p,z3p];exact h4,fun j hj=>?_⟩
 ·rcases Nat.lt_trichotomy j m.length with hj | hj | hj
  ·rw [List.getElem?_append_left hj]at hz
   exact far j z (h1 j z hz) (by omega)
  ·subst hj
   have:z=x:=by simpa using hz.symm
   rw [this]
   exact hnew
  ·rw [List.getElem?_eq_none (by simp;omega)]at hz
   cases hz
 ·by_cases hjp:j=m.length
  ·subst hjp;exact⟨_,hnew⟩
  ·obtain⟨z,hz⟩:=h5 j hj
   exact⟨z,far j z hz hjp⟩
theorem MidRow.pushN {g:Nat}{m d:List (Int×Int)}{x:Int×Int}{i:Nat}{W:World}(h:MidRow g m d i W)(n:Nat)(hn:m.length=n)(hi:n≤i)(hd:n<d.length)(q:Nat) :
  MidRow g (m++[x]) d (i+1) (((W.drewN q).setCell ⟨g,n*2,none⟩ (intC x.1)).setCell ⟨g,n*2+1,none⟩ (intC x.2)):=by
 subst hn
 exact MidRow.push (W:=W.drewN q) h hi hd
theorem MidRow.start {B g cap n:Nat}{d:List (Int×Int)}{W:World}(h:W.ownsRow B 100 2 (.slice (some ⟨g,0,none⟩) n cap) n (spanCells d)):n=d.length∧MidRow g [] d 0 W∧B≤g∧n≤cap:=by
 have hn:n=d.length:=by have:=h.1;rw [z0a]at this;omega
 subst hn
 have hsp:∀ j x,d[j]? = some x→SpanAt W g j x:=fun j x hx=>by
  have hj:=(zc hx)
  exact⟨by rw [h.cellAt (j*2) (by omega)];exact(z0u d j x hx).1,by rw [h.cellAt (j*2+1) (by omega)];exact(z0u d j x hx).2⟩
 rcases h.2 with ⟨h0,_⟩ | ⟨g',cap',cur,hv,hb,hg,hc,_⟩
 ·cases h0
 ·cases hv
  exact⟨rfl,⟨fun j x hx=>by simp at hx,fun j x _ hx=>hsp j x hx,fun o=>by simp [World.frozen?,hg],(zb hg),fun j hj=>⟨d[j],hsp j _ (by simp [hj])⟩⟩,hb,hc⟩
theorem MidRow.edges {g c:Nat}{m d:List (Int×Int)}{i:Nat}{W:World}(h:MidRow g m d i W):SpansOf W.heap.size (.slice (some ⟨g,0,none⟩) m.length c) m W :=
 ⟨_,_,rfl,fun j x hx=>⟨g,0,rfl,h.2.2.2.1,by rw [Nat.zero_add];exact(h.1 j x hx).1,by rw [Nat.zero_add];exact(h.1 j x hx).2⟩⟩
theorem z7a (l:List (Int×Int))(x:Int×Int):mergeS (l++[x])=joinS (mergeS l) x:=by
 unfold mergeS
 rw [List.foldl_append]
 rfl
theorem z3z (l:List (Int×Int)):(mergeS l).length≤l.length:=by
 have:=z70 l []
 unfold mergeS
 simpa using this
theorem zg2 (l:List (Int×Int))(h:0<l.length):0<(mergeS l).length:=by
 rcases List.eq_nil_or_concat l with rfl | ⟨a,y,rfl⟩
 ·simp at h
 ·rw [List.concat_eq_append,z7a]
  exact(zeo _ _).2
end
section
open Go.Proofs.Tryz Go Go.RowKit Go.Sort Go.Lib
abbrev SpanP:={ x:Int×Int // 0≤x.1∧x.1≤1000000 }
instance:Inhabited SpanP:=⟨⟨(0,0),by decide,by decide⟩⟩
def encP (x:SpanP):List Value:=[intC x.1.1,intC x.1.2]
def cfP (x y:SpanP):Int:=x.1.1 - y.1.1
theorem ltP (x y:SpanP):ltOf cfP x y=decide (x.1.1<y.1.1):=by
 unfold ltOf cfP
 rw [Bool.eq_iff_iff,decide_eq_true_eq,decide_eq_true_eq]
 omega
theorem swoP:SWO (ltOf cfP) where
 irrefl x:=by rw [ltP];simp
 trans x y z h1 h2:=by rw [ltP]at *;simp at *;omega
 ntrans x y z h1 h2:=by rw [ltP]at *;simp at *;omega
theorem zdw (x y:SpanP)(W:World):Calls prog 211 #[.agg #[intC x.1.1,intC x.1.2],.agg #[intC y.1.1,intC y.1.2]] W fun e w'=>e=.returned (.int .i64 (cfP x y))∧∃ q os',w'=grow (W.drewN q) os':=by
 obtain⟨⟨x1,x2⟩,hx0,hx1⟩:=x
 obtain⟨⟨y1,y2⟩,hy0,hy1⟩:=y
 simp only at hx0 hx1 hy0 hy1
 unfold cfP
 simp only
 go_enter func211,ntmps211
 go_wp2_with fail
 go_ret
 exact⟨rfl,0,_,by rw [alloc_eq_grow,alloc_eq_grow,grow_grow];rfl⟩
theorem z3j {w:World}{g:Nat}{cur:Array Value}{e:TypeId}{xs:List Value}(hb:w.heap[g]? = some (.cells cur e (0,0)))(ht:cur.toList.take xs.length=xs):Holds id w g 0 xs.toArray:=by
 intro j hj
 have hj':j<xs.length:=by simpa using hj
 refine⟨?_,by simp [World.frozen?,hb]⟩
 have h1:(cur.toList.take xs.length)[j]? = xs[j]?:=by rw [ht]
 rw [List.getElem?_take_of_lt hj']at h1
 simp only [World.cell?,hb,Nat.zero_add]
 simp only [Option.isSome_none,Bool.false_eq_true,if_false]
 rw [← Array.getElem?_toList,h1]
 simp [hj']
theorem zb9 {w:World}{g n:Nat}{os:Array Obj}{cur:Array Value}{e:TypeId}{fr:Nat×Nat}(d:Array Value)(hb:w.heap[g]? = some (.cells cur e fr)) :
  (grow (putRow id (Sort.ahead w n) g 0 d) os).heap[g]? = some (.cells (putCells id 0 d cur) e fr):=by
 have hg:g<w.heap.size:=(zb hb)
 rw [heap_grow_old _ _ (by simpa using hg)]
 simp [putRow,mapBlock,Sort.ahead,Array.getElem?_modify,hb,onCells]
theorem z5p {w:World}{g n:Nat}{os:Array Obj}(d:Array Value):w.grownBy (grow (putRow id (Sort.ahead w n) g 0 d) os) (some g):=by
 refine⟨rfl,rfl,rfl,by simp,fun k hk hne=>?_⟩
 rw [heap_grow_old _ _ (by simpa using hk)]
 have:g≠k:=fun e=>hne (by rw [e])
 simp [putRow,mapBlock,Sort.ahead,Array.getElem?_modify,this]
theorem zcl (cur:Array Value)(ts:List Value)(h:ts.length≤cur.size):(putCells id 0 ts.toArray cur).toList.take ts.length=ts:=by
 apply List.ext_getElem?
 intro j
 by_cases hj:j<ts.length
 ·rw [List.getElem?_take_of_lt hj,Array.getElem?_toList]
  simp [putCells,hj,show j<cur.size by omega]
 ·rw [List.getElem?_take_eq_none (by omega),List.getElem?_eq_none (by omega)]
theorem z8e (d:Array SpanP):flatK encP 2 d=(spanCells (d.toList.map (·.1))).toArray:=by
 apply Array.ext
 ·rw [size_flatK];simp [z0a]
 ·intro t h1 h2
  rw [size_flatK]at h1
  have e:(flatK encP 2 d)[t]=(flatK encP 2 d)[t]!:=(getElem!_pos _ t (by rw [size_flatK];exact h1)).symm
  rw [e,get_flatK _ _ _ _ h1,List.getElem_toArray]
  have ht:t / 2<d.size:=by omega
  have hx:(d.toList.map (·.1))[t / 2]? = some (d[t / 2]).1:=by simp [ht]
  obtain⟨ha,hb⟩:=z0u _ _ _ hx
  rw [getElem!_pos d (t / 2) ht]
  rcases Nat.mod_two_eq_zero_or_one t with hm | hm
  ·rw [hm]
   have:t / 2*2=t:=by omega
   rw [this]at ha
   exact(List.getElem_eq_iff h2).2 ha |>.symm
  ·rw [hm]
   have:t / 2*2+1=t:=by omega
   rw [this]at hb
   exact(List.getElem_eq_iff h2).2 hb |>.symm
theorem z7y (blk cap:Nat)(d:Array SpanP)(w:World)(hH:HoldsK encP 2 w blk 0 d)(hblk:blk<w.heap.size)(hsz:d.size<4611686018427387904) :
  Calls prog 210 #[.slice (some ⟨blk,0,none⟩) d.size cap,.func (.func 211) #[] #[]] w fun e w' =>
   e=.returned (.tuple #[])∧∃ d' n os,PermIn 0 d.size d d'∧SortedIn (ltOf cfP) 0 d.size d'∧w'=sortWorldK encP 2 w blk 0 n d' os:=by
 have eg:∀ args w,(callFunc 211 args).run prog w=.ok (.enter 211 args) w:=enters_of func211 (by kernel_rfl) rfl
 have hcmp:CmpLays prog 211 #[] encP 2 cfP blk 0 d.size w:=fun _ _ _ _ x y=>zdw x y _
 have hk:∀ x:SpanP,(encP x).length=2:=fun _=>rfl
 have h1:∀ x:SpanP,∀ v∈encP x,v.oneCell'=true:=fun x v hv=>by
  unfold encP at hv
  rcases List.mem_cons.1 hv with rfl | hv
  ·rfl
  ·rcases List.mem_cons.1 hv with rfl | hv
   ·rfl
   ·cases hv
 have hlim:Lib.bitLen d.size<4611686018427387904:=Nat.lt_of_le_of_lt (Lib.bitLen_le d.size 62 (by omega) (by omega)) (by omega)
 have hp:=AnyQ.pdqsortCmpFunc_all (P:=prog) (ρ:=Tryz.pdqSpan_ren) Tryz.pdqSpan 2 isAgg100 sizeOf100 encP cfP 211 #[] swoP blk 0 cap d w eg hcmp ⟨hk,h1,hH,hblk⟩ (d.size+1) 0 d.size (Lib.bitLen d.size) d w (by omega) rfl (SWK.start hH) (Nat.zero_le _) (zq _) hsz hlim (Or.inl rfl)
 change Calls prog 221 _ _ _ at hp
 have hl:Calls prog 80 #[.int .u64 (d.size:Int)] w fun e w'=>e=.returned (.int .i64 (Lib.bitLen d.size:Nat))∧w'=w:=by
  have h:=Tryz.bits_Len (d.size:Int) w (by omega) (by omega)
  rwa [Int.toNat_natCast]at h
 have wr:IntKind.u64.wrap (d.size:Int)=d.size:=by simp [IntKind.wrap,IntKind.bits,IntKind.signed];omega
 have HP:=zh hp
 have HL:=zh hl
 clear hH hcmp hk h1 hp hl eg
 go_enter func210,ntmps210
 go_wp2_with fail
 refine HL.out.mono ?_
 rintro e w' ⟨rfl,rfl⟩
 go_wp2_with fail
 refine HP.out.mono ?_
 rintro e w' ⟨rfl,n,os,rfl⟩
 go_wp2_with fail
 go_end0
 have h:=pdq_sorts (ltOf cfP) swoP d 0 d.size (Lib.bitLen d.size) true true (Nat.zero_le _) (zq _) (Or.inl rfl)
 exact⟨rfl,_,n,os,h.1,h.2,rfl⟩
theorem zbd (p:Option Addr)(cap:Nat)(fv:Value)(w:World) :
  Calls prog 228 #[.slice p 0 cap,.int .i64 0,.int .i64 0,fv] w fun e w'=>e=.returned (.tuple #[])∧w'=w:=by
 go_enter func228,ntmps228
 go_wp2_with fail
 go_loopw [8] (fun i wr=>i=.int .i64 1∧wr=w) (fun _ _=>0)
 case atStart=>exact⟨rfl,rfl⟩
 case round =>
  obtain⟨rfl,rfl⟩:=hrel
  go_wp2_with fail
  go_end0
  exact⟨rfl,rfl⟩
theorem zc2 (p:Option Addr)(cap:Nat)(lim:Int)(fv:Value)(w:World) :
  Calls prog 221 #[.slice p 0 cap,.int .i64 0,.int .i64 0,.int .i64 lim,fv] w fun e w'=>e=.returned (.tuple #[])∧w'=w:=by
 have HI:=zh (zbd p cap fv w)
 go_enter func221,ntmps221
 go_wp2_with fail
 go_loopw [1,2,3,10,11] (fun x y l b1 b2 wr=>x=.int .i64 0∧y=.int .i64 0∧l=.int .i64 lim∧b1=.bool true∧b2=.bool true∧wr=w) (fun _ _ _ _ _ _=>0)
 case atStart=>exact⟨rfl,rfl,rfl,rfl,rfl,rfl⟩
 case round =>
  obtain⟨rfl,rfl,rfl,rfl,rfl,rfl⟩:=hrel
  go_wp2_with fail
  refine HI.out.mono ?_
  rintro e w' ⟨rfl,rfl⟩
  go_wp2_with fail
  refine bodyPost_ret (results_none rfl _ _ _) rfl ?_
  exact⟨rfl,rfl⟩
def toP (x:Int×Int):SpanP:=if h:0≤x.1∧x.1≤1000000 then⟨x,h⟩ else default
theorem zml {x:Int×Int}(h:0≤x.1∧x.1≤1000000):(toP x).1=x:=by unfold toP;rw [dif_pos h]
theorem zgo (B:Nat)(v:Value)(l:List (Int×Int))(w:World)(h:w.ownsRow B 100 2 v l.length (spanCells l))(hl:l.length≤1000000000)(hb:∀ x∈l,0≤x.1∧x.1≤1000000) :
  Calls prog 210 #[v,.func (.func 211) #[] #[]] w fun e w'=>e=.returned (.tuple #[]) ∧
   ∃ l':List (Int×Int),l'.Perm l∧l'.Pairwise (fun a b=>a.1≤b.1)∧w.grownBy w' v.ownBlock∧w'.ownsRow B 100 2 v l.length (spanCells l'):=by
 rcases h.2 with ⟨rfl,h0⟩ | ⟨g,cap,cur,rfl,hbg,hg,hc,hcm,hcs,ht⟩
 ·obtain rfl:l=[]:=List.length_eq_zero_iff.1 h0
  have hl:Calls prog 80 #[.int .u64 0] w fun e w'=>e=.returned (.int .i64 ((Lib.bitLen 0:Nat):Int))∧w'=w:=Tryz.bits_Len 0 w (by omega) (by omega)
  have hp:=zc2 none 0 ((Lib.bitLen 0:Nat):Int) (.func (.func 211) #[] #[]) w
  have HL:=zh hl
  have HP:=zh hp
  clear hl hp h0 hb
  go_enter func210,ntmps210
  go_wp2_with fail
  refine HL.out.mono ?_
  rintro e w' ⟨rfl,rfl⟩
  go_wp2_with fail
  refine HP.out.mono ?_
  rintro e w' ⟨rfl,rfl⟩
  go_wp2_with fail
  go_end0
  exact⟨rfl,[],List.Perm.refl _,List.Pairwise.nil,World.grownBy.refl _ _,World.ownsRow_nil _ _ _ _⟩
 ·have hmap:(l.map toP).map (·.1)=l:=by
   rw [List.map_map]
   have:∀ x∈l,((fun y:SpanP=>y.1) ∘ toP) x=x:=fun x hx=>zml (hb x hx)
   rw [List.map_congr_left this,List.map_id']
  have hfl:flatK encP 2 (l.map toP).toArray=(spanCells l).toArray:=by
   rw [z8e,List.toList_toArray,hmap]
  have hsz:(l.map toP).toArray.size=l.length:=by simp
  have hH:HoldsK encP 2 w g 0 (l.map toP).toArray:=by
   unfold HoldsK
   rw [hfl]
   exact z3j hg (by rw [z0a];exact ht)
  have hcon:=z7y g cap (l.map toP).toArray w hH (zb hg) (by rw [hsz];omega)
  rw [hsz]at hcon
  refine hcon.mono ?_
  rintro e w' ⟨rfl,d',n,os,hp,hs,rfl⟩
  obtain⟨hps,_,hperm⟩:=hp
  rw [hsz]at hps
  have hpl:(d'.toList.map (·.1)).Perm l:=by
   have e1:(d'.extract 0 l.length)=d':=by rw [← hps];exact Array.extract_size
   have e2:((l.map toP).toArray.extract 0 l.length)=(l.map toP).toArray:=by rw [← hsz];exact Array.extract_size
   rw [e1,e2,List.toList_toArray]at hperm
   have:=hperm.map (·.1)
   rwa [hmap]at this
  refine⟨rfl,d'.toList.map (·.1),hpl,?_,z5p _,?_⟩
  ·rw [List.pairwise_iff_getElem]
   intro i j hi hj hij
   rw [List.length_map,Array.length_toList]at hi hj
   have:=hs i j (Nat.zero_le _) hij (by omega)
   rw [ltP,getElem!_pos d' i hi,getElem!_pos d' j hj]at this
   have:=of_decide_eq_false this
   simp
   omega
  ·unfold sortWorldK putRowK
   rw [z8e]
   have hel:(spanCells (d'.toList.map (·.1))).length=l.length*2:=by rw [z0a,List.length_map,Array.length_toList,hps]
   exact⟨hel,.inr ⟨g,cap,_,rfl,hbg,zb9 _ hg,hc,hcm,by simp [putCells,hcs],by rw [← hel];exact zcl _ _ (by rw [hel];omega)⟩⟩
end
section
open Go.Proofs.Tryz Go Go.RowKit Go.Sort
theorem zcw (l:List (Int×Int))(x:Int×Int):clampS (l++[x])=if (clamp x).1<(clamp x).2 then clampS l++[clamp x] else clampS l:=by
 unfold clampS
 rw [List.map_append,List.filter_append]
 by_cases h:(clamp x).1<(clamp x).2<;>simp [h]
theorem z9e (v:Value)(s:List (Int×Int))(w:World)(hs:s.length≤1000000000)(hE:SpansOf w.heap.size v s w) :
  Calls prog 201 #[v] w fun e w'=>∃ v',e=.returned v'∧SpansOf w'.heap.size v' (canon s) w'∧Below w.heap.size w w'∧∀ b,v'.ownBlock=some b→w.heap.size≤b:=by
 obtain⟨ao,ec,rfl,hE⟩:=hE
 have HE:=zh hE
 clear hE
 obtain⟨i0,hi0',hz0,hz1,hz2⟩:=info_parts z5e
 go_enter func201,ntmps201
 go_wp2_with fail
 go_loopw [3,11] (fun o p wr=>∃ (k:Nat),k≤s.length∧p=.int .i64 k∧Hid (wr.ownsRow w.heap.size 100 2 o (clampS (s.take k)).length (spanCells (clampS (s.take k))))∧Hid (Below w.heap.size w wr)) (fun _ p _=>s.length - (intOf p).toNat)
 case atStart=>exact⟨0,by omega,rfl,zh (World.ownsRow_nil _ _ _ _),zh (Below.refl _ _)⟩
 case round =>
  obtain⟨k,hk,rfl,HO,HB⟩:=hrel
  have hszr:=HB.out.size
  by_cases hlt:k<s.length
  ·obtain⟨b,off,rfl,hb,hc1,hc2⟩:=HE.out k s[k] (by simp [hlt])
   have hc1:=(HB.out.cell (p:=⟨b,off+k*2,none⟩) hb).trans hc1
   have hc2:=(HB.out.cell (p:=⟨b,off+k*2+1,none⟩) hb).trans hc2
   have HT:Hid (clampS (s.take (k+1))=if (clamp s[k]).1<(clamp s[k]).2 then clampS (s.take k)++[clamp s[k]] else clampS (s.take k)):=zh (by rw [zs hlt,zcw])
   have hlen:(clampS (s.take k)).length≤k:=Nat.le_trans (z2m _) (List.length_take_le _ _)
   obtain⟨⟨x1,x2⟩,hx⟩:∃ x,x=s[k]:=⟨_,rfl⟩
   rw [← hx]at hc1 hc2 HT
   clear hx
   simp only at hc1 hc2
   generalize clampS (s.take k)=cs at *
   by_cases hin:(clamp (x1,x2)).1<(clamp (x1,x2)).2
   ·have hin2:max x1 0<min x2 1000000:=hin
    have HB2:Hid (∀ W1,((wr.alloc (.cells #[intC (max x1 0),intC (min x2 1000000)] 100)).alloc (.cells #[intC (max x1 0),intC (min x2 1000000)] 100)).grownBy W1 u3.ownBlock→Below w.heap.size w W1):=zh (fun W1 hg=>((HB.out.alloc hszr _).alloc (by simp;omega) _).grown hg (by simp;omega) (fun b hb=>(HO.out.lt b hb).1))
    go_wp2_with (at_builtin;refine wpList_append_own _ rfl _ _ 87 rfl w.heap.size 100 i0 _ 2 16 underlying87 hi0' hz0 hz1 hz2 rfl (by decide) u3 cs.length _ (by rfl) ((HO.out.alloc _).alloc _) ⟨wr.heap.size+1,0,none⟩ 1 1 [intC (max x1 0),intC (min x2 1000000)] (by rfl) (by rfl) (World.news_of_block (cs:=#[intC (max x1 0),intC (min x2 1000000)]) (t:=100) (fr:=(0,0)) (by have:=heap_alloc_new (wr.alloc (.cells #[intC (max x1 0),intC (min x2 1000000)] 100)) (.cells #[intC (max x1 0),intC (min x2 1000000)] 100);rw [World.size_alloc]at this;exact this)) (by simp [Value.oneCell']) (by unfold maxLen;omega) (by omega) (by simp;omega) ?_;intro v' w3 hown' hgrow _;have HOW2:=zh hown';have HBB2:=zh (HB2.out _ hgrow);clear hown' hgrow;obtain⟨gg,cap,rfl⟩:=ownsRow_succ HOW2.out)
    go_roundw
    case rel =>
     refine⟨k+1,by omega,by go_num,zh ?_,HBB2⟩
     rw [HT.out,if_pos hin,z1j,List.length_append]
     exact HOW2.out
    case measure=>simp [intOf];omega
   ·have hin2:¬ max x1 0<min x2 1000000:=hin
    go_wp2_with fail
    go_roundw
    case rel =>
     refine⟨k+1,by omega,by go_num,zh ?_,zh (HB.out.alloc hszr _)⟩
     rw [HT.out,if_neg hin]
     exact HO.out.alloc _
    case measure=>simp [intOf];omega
  ·have hkk:k=s.length:=by omega
   subst hkk
   rw [List.take_length]at HO
   have hcl:(clampS s).length≤s.length:=z2m s
   have hs2:=zgo w.heap.size u3 (clampS s) wr HO.out (by omega) (fun x hx=>by have:=z58 hx;omega)
   have HS2:=zh hs2
   have hvs:∃ a n c,u3=.slice a n c:=by
    rcases HO.out.2 with ⟨rfl,_⟩ | ⟨g,cap,cur,rfl,_⟩
    ·exact⟨_,_,_,rfl⟩
    ·exact⟨_,_,_,rfl⟩
   obtain⟨va,vn,vc,rfl⟩:=hvs
   clear hs2
   go_wp2_with fail
   refine HS2.out.mono ?_
   rintro e w4 ⟨rfl,d,hp,hsd,hg4,ho4⟩
   have HP:=zh hp
   have HSD:=zh hsd
   have HB4:Hid (Below w.heap.size w w4):=zh (HB.out.grown hg4 hszr (fun b hb=>(HO.out.lt b hb).1))
   have hdl:d.length=(clampS s).length:=hp.length_eq
   have HDL:=zh hdl
   have hdl2:d.length≤s.length:=by omega
   have hE5:va=none∧vn=0∧vc=0∧d=[]∨∃ g,va=some ⟨g,0,none⟩:=by
    rcases ho4.2 with ⟨h1,h2⟩ | ⟨g,cap,cur,h1,_⟩
    ·cases h1
     exact .inl ⟨rfl,rfl,rfl,List.length_eq_zero_iff.1 (by omega)⟩
    ·cases h1
     exact .inr ⟨g,rfl⟩
   rcases hE5 with ⟨rfl,rfl,rfl,rfl⟩ | ⟨g,rfl⟩
   ·have HC:Hid ([]=canon s):=zh (z49 HP.out List.Pairwise.nil)
    clear HO HB HS2 hp hsd hg4 ho4 hdl HDL hszr
    go_wp2_with fail
    go_loopw [6,36] (fun n p wr=>p=.int .i64 0∧n=.int .i64 0∧Hid (Below w.heap.size w wr)) (fun _ _ _=>0)
    case atStart=>exact⟨rfl,rfl,HB4⟩
    case round =>
     clear HB4
     obtain⟨rfl,rfl,HB⟩:=hrel
     go_wp2_with fail
     go_ret
     exact⟨_,rfl,by rw [← HC.out];exact⟨none,0,rfl,fun i x hx=>by simp at hx⟩,HB.out,fun b hb=>by simp [Value.ownBlock]at hb⟩
   ·have ho5:w4.ownsRow w.heap.size 100 2 (.slice (some ⟨g,0,none⟩) vn vc) vn (spanCells d):=by
     have e:vn=(clampS s).length:=by
      rcases ho4.2 with ⟨h1,_⟩ | ⟨g',cap',cur',h1,_⟩
      ·cases h1
      ·cases h1;rfl
     rw [e]at ho4 ⊢
     exact ho4
    have hst:=MidRow.start ho5
    clear ho5
    obtain⟨hvn,hmid,hgb,hcap⟩:=hst
    subst hvn
    have HM:=zh hmid
    clear HO HB HS2 hp hsd hg4 ho4 hdl hszr hmid
    go_wp2_with fail
    go_loopw [6,36] (fun n p wr=>∃ (i:Nat),i≤d.length∧p=.int .i64 i∧n=.int .i64 ((mergeS (d.take i)).length:Nat)∧Hid (MidRow g (mergeS (d.take i)) d i wr)∧Hid (Below w.heap.size w wr)) (fun _ p _=>d.length - (intOf p).toNat)
    case atStart=>exact⟨0,by omega,rfl,rfl,HM,HB4⟩
    case round =>
     clear HM HB4
     obtain⟨i,hi,rfl,rfl,HM,HB⟩:=hrel
     by_cases hlt:i<d.length
     ·have hml:=z3z (d.take i)
      have hml2:(d.take i).length=i:=by rw [List.length_take];omega
      have HJ:Hid (mergeS (d.take (i+1))=joinS (mergeS (d.take i)) d[i]):=zh (by rw [zs hlt,z7a])
      have hpos:0<i→0<(mergeS (d.take i)).length:=fun h=>zg2 _ (by omega)
      have hzero:i=0→mergeS (d.take i)=[]:=fun h=>by subst h;rfl
      obtain⟨hc1,hc2⟩:=HM.out.2.1 i d[i] (zq _) (by simp [hlt])
      obtain⟨⟨x1,x2⟩,hx⟩:∃ x,x=d[i]:=⟨_,rfl⟩
      rw [← hx]at hc1 hc2 HJ
      clear hx
      simp only at hc1 hc2
      have HM2:=zh (HM.out.alloc (.cells #[intC x1,intC x2] 100))
      have hszr:=HB.out.size
      have HB2:=zh (HB.out.alloc hszr (.cells #[intC x1,intC x2] 100))
      generalize mergeS (d.take i)=m at *
      by_cases hi0:0<i
      ·rcases List.eq_nil_or_concat m with rfl | ⟨pre,y,rfl⟩
       ·exact absurd (hpos hi0) (by simp)
       ·rw [List.concat_eq_append]at *
        rw [z3w]at HJ
        simp only [List.length_append,List.length_singleton]at hml ⊢
        have hcy:=(HM2.out.1 pre.length y (by simp)).2
        have hfy:=HM2.out.2.2.1 (pre.length*2+1)
        have hi1:(0:Int)<(i:Int):=by omega
        have hn1:IntKind.i64.wrap (((pre.length+1:Nat):Int) - 1)=(pre.length:Int):=by rw [IntWalk.i64_in _ (by omega)];omega
        have hn2:IntKind.i64.wrap ((pre.length:Int)+1 - 1)=(pre.length:Int):=by rw [IntWalk.i64_in _ (by omega)];omega
        have hn3:(pre.length:Int)<(d.length:Int):=by omega
        have hn4:(0:Int)≤(pre.length:Int):=by omega
        have hi2:decide (0<i)=true:=decide_eq_true hi0
        clear hpos hzero
        by_cases hle:x1≤y.2
        ·go_wp2_with fail
         go_quiet (fail)
         go_wp2_with fail
         go_region
         go_wp2_with fail
         go_roundw
         case rel =>
          refine⟨i+1,by omega,by go_num,?_,zh ?_,zh ?_⟩
          ·rw [HJ.out,if_pos hle];simp
          ·rw [HJ.out,if_pos hle]
           exact MidRow.join HM2.out (by omega) _
          ·exact(below_drewN HB2.out _).setCell hgb _
         case measure=>simp [intOf];omega
        ·have HNL:=zh hle
         obtain⟨z,hz1,hz2⟩:=HM2.out.2.2.2.2 (pre.length+1) (by omega)
         have hf1:=HM2.out.2.2.1 ((pre.length+1)*2)
         have hf2:=HM2.out.2.2.1 ((pre.length+1)*2+1)
         go_wp2_with fail
         go_quiet (fail)
         go_wp2_with fail
         go_roundw
         case rel =>
          refine⟨i+1,by omega,by go_num,?_,zh ?_,zh ?_⟩
          ·rw [HJ.out,if_neg (Int.not_le.2 HNL.out)];simp;try omega
          ·rw [HJ.out,if_neg (Int.not_le.2 HNL.out)]
           exact HM2.out.pushN (x:=(x1,x2)) (pre.length+1) (by simp) (by omega) (by omega) _
          ·exact((below_drewN HB2.out _).setCell hgb _).setCell hgb _
         case measure=>simp [intOf];omega
      ·obtain rfl:i=0:=by omega
       obtain rfl:m=[]:=hzero rfl
       rw [z4o]at HJ
       obtain⟨z,hz1,hz2⟩:=HM2.out.2.2.2.2 0 (by omega)
       have hf1:=HM2.out.2.2.1 (0*2)
       have hf2:=HM2.out.2.2.1 (0*2+1)
       simp only [Nat.zero_mul,Nat.zero_add]at hz1 hz2 hf1 hf2 hc1 hc2
       clear hpos hzero
       go_wp2_with fail
       go_quiet (fail)
       go_wp2_with fail
       go_roundw
       case rel =>
        refine⟨1,by omega,by go_num,?_,zh ?_,zh ?_⟩
        ·rw [HJ.out];rfl
        ·rw [HJ.out]
         exact HM2.out.pushN (x:=(x1,x2)) 0 rfl (by omega) (by omega) _
        ·exact((below_drewN HB2.out _).setCell hgb _).setCell hgb _
       case measure=>simp [intOf];omega
     ·have hii:i=d.length:=by omega
      subst hii
      rw [List.take_length]at HM
      have HC:Hid (mergeS d=canon s):=zh (z49 HP.out HSD.out)
      have hml:=z3z d
      go_wp2_with fail
      go_ret
      exact⟨_,rfl,by rw [← HC.out];exact HM.out.edges,HB.out,fun b hb=>by simp [Value.ownBlock]at hb;omega⟩
theorem z9d (v:Value)(s:List (Int×Int))(w:World)(hs:s.length≤1000000000)(hE:SpansOf w.heap.size v s w) :
  Calls prog 201 #[v] w fun e w'=>∃ v',e=.returned v'∧SpansOf w'.heap.size v' (canon s) w'∧Below w.heap.size w w' :=
 (z9e v s w hs hE).mono fun e w' ⟨v',h1,h2,h3,_⟩=>⟨v',h1,h2,h3⟩
end
def leastV (s:List (Int×Int)):Int×Bool:=match canon s with
 | []=>(0,false)
 | x::_=>(x.1,true)
def greatV (s:List (Int×Int)):Int×Bool:=match (canon s).getLast? with
 | none=>(0,false)
 | some x=>(x.2 - 1,true)
def upB (c:List (Int×Int)):Bool:=match c with
 | []=>true
 | [x]=>decide (x.2=1000000)
 | _=>false
end Go.Proofs.YtapbhoodgnmnkaaGreatDoor
