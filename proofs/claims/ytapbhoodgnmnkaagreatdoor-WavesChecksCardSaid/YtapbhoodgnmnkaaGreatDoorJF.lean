/- Laws and contracts. -/
import Derived.Test.YtapbhoodgnmnkaaGreatDoorJE
import Derived.Deep.DeepHandedRow
import Derived.Deep.SlicePairs
import Derived.Lay
import Derived.Lib.SmallJoins
set_option linter.unusedVariables false
set_option linter.unusedSimpArgs false
set_option maxRecDepth 100000
set_option maxHeartbeats 32000000
namespace Go.Proofs.YtapbhoodgnmnkaaGreatDoor
open Go.Proofs.Tryz
open Go.ChangeShapes Go.WideShapes Go.ChangeAt Go.RowKit
open Go.ChangeMaps (open_string shut_string)
theorem own:ownKnob prog.godebug=none:=by kernel_rfl
theorem laidOut:laidOutB prog=true:=by kernel_rfl
theorem maxOk {W:World}(h:W.ShapedOpen prog):MaxOk W :=
 cell_of_shapedOpen_int (g:=0) (t:=3) (zero:=#[.int .i64 0]) h (of_decide_eq_true (by kernel_rfl)) (by kernel_rfl) rfl (by kernel_rfl) (by kernel_rfl) underlying3
theorem z7z {P:Program}(laidOut:laidOutB P=true){H:Type}{enc:TypeId×Value→H}{W W':World}(hb:Below W.heap.size W W'):∀ {ts:List TypeId}{vs:List Value}{ds:List (DataW H)}{ps:List MemPlace},
  (ts.all fun t=>P.readableRec t&&decide (t<P.types.size))=true→DataW.TrodAll enc P W 0 (fun _=>true) true ts vs ds ps→(∀ x∈ps,x.block<W.heap.size) →
  DataW.TrodAll enc P W' 0 (fun b=>decide (b<W.heap.size)) true ts vs ds ps
 | [],vs,ds,ps,_,h,_=>by
  obtain⟨rfl,rfl,rfl⟩:=trodAll_nil h
  exact trodAll_mk0
 | t::ts,vs,ds,ps,hr,h,hlt=>by
  obtain⟨v,vs',d,ds',p,q,rfl,rfl,rfl,hd,hrest⟩:=trodAll_cons h
  simp only [List.all_cons,Bool.and_eq_true,decide_eq_true_eq]at hr
  exact⟨p,q,Below.trod laidOut hr.1.1 hr.1.2 hd hb (fun x hx=>hlt x (by simp [hx])),z7z laidOut hb hr.2 hrest (fun x hx=>hlt x (by simp [hx])),rfl⟩
theorem zj2 {W:World}{a:Addr}{v:Value}(h:W.cell? a=some v):a.spot=none:=by
 unfold World.cell? at h
 cases e:a.spot with
 | none=>rfl
 | some j =>
  exfalso
  rw [e]at h
  revert h
  split<;>simp
theorem ze5 (b o i:Nat):Addr.add ⟨b,o,none⟩ i=⟨b,o+i,none⟩:=by unfold Addr.add;split<;>simp_all
theorem z2q {α:Type} [Inhabited α] (Q:α→List Value→Prop){H:Type}{enc:TypeId×Value→H}{W:World}{fuel:Nat}{v:Value}{x:DataW H×List MemPlace}{t e:TypeId}{c:Nat}(ht:prog.underlying t=some (.slice e))(hc:prog.cellsOf e=c)(hc0:0<c)
  (hel:∀ (n:Nat) (cs:List Value) (y:DataW H×List MemPlace),DataW.trod enc prog W 0 (fun _=>true) true n e cs=some y→(∀ p∈y.2,p.block<W.heap.size)→∃ z:α,Q z cs)
  (h:DataW.trod enc prog W 0 (fun _=>true) true fuel t [v]=some x) (hlt:∀ y∈x.2,y.block<W.heap.size) :
  ∃ (ao:Option Addr) (cap:Nat) (l:List α),v=.slice ao l.length cap∧l.length≤maxLen∧∀ i z,l[i]? = some z→∃ b off cs,ao=some ⟨b,off,none⟩∧b<W.heap.size∧Q z cs∧∀ j,j<c→W.cell? ⟨b,off+i*c+j,none⟩=cs[j]?:=by
 rcases Go.Deep.open_slice ht h with ⟨h2,_⟩ | ⟨a,len,cap,m,n2,D,Pl,h2,_,h3,h4,h5,h6,h7⟩
 ·cases h2
  exact⟨none,0,[],rfl,Nat.zero_le _,fun i s hs=>by simp at hs⟩
 ·cases h2
  rw [if_pos rfl]at h5
  subst h5
  rw [hc]at h6 h7
  have hp:∀ i,i<m→∀ y∈Pl i,y.block<W.heap.size:=fun i hi y hy=>hlt y (by
   rw [h6]
   exact List.mem_append.2 (.inr (List.mem_flatMap.2 ⟨i,List.mem_range.2 hi,hy⟩)))
  have key:∀ i,i<m→∃ z:α×List Value,Q z.1 z.2∧z.2.length=c∧∀ j,j<c→W.cell? ((a.add (i*c)).add j)=z.2[j]?:=fun i hi=>by
   obtain⟨cs,g1,g2⟩:=h7 i hi
   obtain⟨_,hcl,g3⟩:=World.cells?_some g1
   obtain⟨z,hz⟩:=hel n2 cs (D i,Pl i) g2 (hp i hi)
   exact⟨(z,cs),hz,hcl,g3⟩
  haveI:Inhabited (α×List Value):=⟨(default,[])⟩
  obtain⟨F,hF⟩:=Go.Deep.choose_lt key
  have hlen:((List.range len).map fun i=>(F i).1).length=len:=by simp
  refine⟨some a,m,(List.range len).map fun i=>(F i).1,by rw [hlen],by rw [hlen];omega,fun i s hs=>?_⟩
  have hi:i<len:=by have:=(zc hs);rw [hlen]at this;exact this
  rw [List.getElem?_map,List.getElem?_range hi]at hs
  cases hs
  obtain⟨hQ,hcl,c0⟩:=hF i (by omega)
  obtain⟨ab,ao,aq⟩:=a
  have hq:aq=none:=by
   obtain⟨_,g2,g3⟩:=hF 0 (by omega)
   have g4:=g3 0 hc0
   rw [ze (by omega)]at g4
   have:=zj2 g4
   simpa [Addr.add]using this
  subst hq
  refine⟨ab,ao,(F i).2,rfl,?_,hQ,fun j hj=>?_⟩
  ·exact hlt (.cell ab ao) (by
    rw [h6]
    exact List.mem_append.2 (.inl (MemPlace.mem_row.2 ⟨0,Nat.mul_pos (by omega) hc0,by simp⟩)))
  ·have:=c0 j hj
   rwa [ze5,ze5]at this
theorem zkt {H:Type}{enc:TypeId×Value→H}{W:World}{fuel:Nat}{v:Value}{x:DataW H×List MemPlace}(h:DataW.trod enc prog W 0 (fun _=>true) true fuel 87 [v]=some x)
  (hlt:∀ y∈x.2,y.block<W.heap.size):∃ es:List (Int×Int),SpansOf W.heap.size v es W:=by
 obtain⟨ao,cap,l,rfl,_,hl⟩:=z2q (fun(z:Int×Int) cs=>cs=[intC z.1,intC z.2]) underlying87 (c:=2) (by as_aux_lemma=>kernel_rfl) (by omega) (fun n cs y hy _=>by
  obtain⟨y0,y1,m,_,hl,h0,h1⟩:=trod_struct2 underlying100 hy
  have hl:cs.length=2:=hl.trans (by as_aux_lemma=>kernel_rfl)
  have hc:prog.cellsOf 3=1:=by as_aux_lemma=>kernel_rfl
  match cs,hl with
  | [c0,c1],_ =>
   simp only [hc]at h0 h1
   obtain⟨z0,e0,_⟩:=DataW.trod_int underlying3 h0
   obtain⟨z1,e1,_⟩:=DataW.trod_int underlying3 h1
   have e0:c0=.int .i64 z0:=(List.cons.inj (show [c0]=[.int .i64 z0]from e0)).1
   have e1:c1=.int .i64 z1:=(List.cons.inj (show [c1]=[.int .i64 z1]from e1)).1
   exact⟨(z0,z1),by rw [e0,e1]⟩) h hlt
 refine⟨l,ao,cap,rfl,fun i x hx=>?_⟩
 obtain⟨b,off,cs,rfl,hb,rfl,hj⟩:=hl i x hx
 exact⟨b,off,rfl,hb,hj 0 (by omega),hj 1 (by omega)⟩
theorem zif {H:Type}{enc:TypeId×Value→H}{W:World}{fuel:Nat}{v:Value}{x:DataW H×List MemPlace}(h:DataW.trod enc prog W 0 (fun _=>true) true fuel 80 [v]=some x)
  (hlt:∀ y∈x.2,y.block<W.heap.size):∃ l:List ReqL,ReqsOf W.heap.size v l W∧l.length≤maxLen:=by
 obtain⟨ao,cap,l,rfl,hm,hl⟩:=z2q (fun(q:ReqL) cs=>∃ r,cs=[.string q.1,r]∧SpansOf W.heap.size r q.2 W) underlying80 (c:=2) (by as_aux_lemma=>kernel_rfl) (by omega) (fun n cs y hy hp=>by
  obtain⟨y0,y1,m,rfl,hl,h0,h1⟩:=trod_struct2 underlying89 hy
  have hl:cs.length=2:=hl.trans (by as_aux_lemma=>kernel_rfl)
  have hc:prog.cellsOf 9=1:=by as_aux_lemma=>kernel_rfl
  have hc2:prog.cellsOf 87=1:=by as_aux_lemma=>kernel_rfl
  match cs,hl with
  | [c0,c1],_ =>
   simp only [hc,hc2]at h0 h1
   obtain⟨z0,e0,_⟩:=DataW.trod_string underlying9 h0
   obtain⟨es,hs⟩:=zkt (show DataW.trod enc prog W 0 (fun _=>true) true m 87 [c1]=some y1 from h1) (fun y hy=>hp y (List.mem_append.2 (.inr hy)))
   have e0:c0=.string z0:=(List.cons.inj (show [c0]=[.string z0]from e0)).1
   exact⟨(z0,es),c1,by rw [e0],hs⟩) h hlt
 refine⟨l,⟨ao,cap,rfl,fun i x hx=>?_⟩,hm⟩
 obtain⟨b,off,cs,rfl,hb,⟨r,rfl,hs⟩,hj⟩:=hl i x hx
 exact⟨b,off,r,rfl,hb,hj 0 (by omega),hj 1 (by omega),hs⟩
theorem z9w {z:Int}(h:(Lit.int .i64 z).wf=true):IntOk z:=by
 unfold IntOk
 simp [Lit.wf,IntKind.min,IntKind.max,IntKind.signed,IntKind.bits]at h
 omega
theorem zcn {H:Type}{enc:TypeId×Value→H}{W:World}{sp:Nat→Bool}{n:Nat}{cs:List Value}{x:DataW H×List MemPlace}(h:DataW.trod enc prog W 0 sp true n 51 cs=some x) :
  ∃ a b c:Int,cs=[.int .i64 a,.int .i64 b,.int .i64 c]∧IntOk a∧IntOk b∧IntOk c:=by
 obtain⟨y0,y1,y2,m,_,hl,h0,h1,h2⟩:=Go.Deep.trod_struct3 underlying51 h
 have hl:cs.length=3:=hl.trans (by as_aux_lemma=>kernel_rfl)
 have hc:prog.cellsOf 3=1:=by as_aux_lemma=>kernel_rfl
 match cs,hl with
 | [c0,c1,c2],_ =>
  simp only [hc]at h0 h1 h2
  obtain⟨z0,e0,_,w0⟩:=DataW.trod_int underlying3 h0
  obtain⟨z1,e1,_,w1⟩:=DataW.trod_int underlying3 h1
  obtain⟨z2,e2,_,w2⟩:=DataW.trod_int underlying3 h2
  have e0:c0=.int .i64 z0:=(List.cons.inj (show [c0]=[.int .i64 z0]from e0)).1
  have e1:c1=.int .i64 z1:=(List.cons.inj (show [c1]=[.int .i64 z1]from e1)).1
  have e2:c2=.int .i64 z2:=(List.cons.inj (show [c2]=[.int .i64 z2]from e2)).1
  exact⟨z0,z1,z2,by rw [e0,e1,e2],z9w w0,z9w w1,z9w w2⟩
theorem ziv {H:Type}{enc:TypeId×Value→H}{W:World}{sp:Nat→Bool}{n:Nat}{cs:List Value}{x:DataW H×List MemPlace}(h:DataW.trod enc prog W 0 sp true n 53 cs=some x) :
  ∃ y:SelL,cs=selC y∧SelBd y:=by
 obtain⟨y0,y1,m,_,hl,h0,h1⟩:=trod_struct2 underlying53 h
 have hl:cs.length=4:=hl.trans (by as_aux_lemma=>kernel_rfl)
 have hc:prog.cellsOf 9=1:=by as_aux_lemma=>kernel_rfl
 have hc2:prog.cellsOf 51=3:=by as_aux_lemma=>kernel_rfl
 match cs,hl with
 | [c0,c1,c2,c3],_ =>
  simp only [hc,hc2]at h0 h1
  obtain⟨z0,e0,_,w0⟩:=DataW.trod_string underlying9 h0
  obtain⟨a,b,c,e1,w1,w2,w3⟩:=zcn (show DataW.trod enc prog W 0 sp true m 51 [c1,c2,c3]=some y1 from h1)
  have e0:c0=.string z0:=(List.cons.inj (show [c0]=[.string z0]from e0)).1
  injection e1 with e1 e2
  injection e2 with e2 e3
  injection e3 with e3 _
  exact⟨(z0,(a,b,c)),by rw [e0,e1,e2,e3];rfl,⟨w0,w1,w2,w3⟩⟩
theorem open_sels {H:Type}{enc:TypeId×Value→H}{W:World}{fuel:Nat}{v:Value}{x:DataW H×List MemPlace}(h:DataW.trod enc prog W 0 (fun _=>true) true fuel 26 [v]=some x)
  (hlt:∀ y∈x.2,y.block<W.heap.size):∃ l:List SelL,SelsOf W.heap.size v l W∧l.length≤maxLen∧∀ y∈l,SelBd y:=by
 obtain⟨ao,cap,l,rfl,hm,hl⟩:=z2q (fun(q:SelL) cs=>cs=selC q∧SelBd q) underlying26 (c:=4) (by as_aux_lemma=>kernel_rfl) (by omega) (fun n cs y hy hp=>ziv hy) h hlt
 refine⟨l,⟨ao,cap,rfl,fun i x hx=>?_⟩,hm,fun y hy=>?_⟩
 ·obtain⟨b,off,cs,rfl,hb,⟨rfl,hs⟩,hj⟩:=hl i x hx
  exact⟨b,off,rfl,hb,hj 0 (by omega),hj 1 (by omega),hj 2 (by omega),hj 3 (by omega)⟩
 ·obtain⟨i,hi,rfl⟩:=List.mem_iff_getElem.1 hy
  obtain⟨b,off,cs,_,_,⟨_,hs⟩,_⟩:=hl i l[i] (ze hi)
  exact hs
theorem zcm {P:Program}{H:Type}{enc:TypeId×Value→H}{w:World}{base:Nat}{spare:Nat→Bool}{held:Bool}{t:TypeId}{f0 f1 f2 f3 f4 f5 f6:Field}{fuel:Nat}{cs:List Value}{x:DataW H×List MemPlace}(ht:P.underlying t=some (.struct #[f0,f1,f2,f3,f4,f5,f6]))(h:DataW.trod enc P w base spare held fuel t cs=some x) :
  ∃ y0 y1 y2 y3 y4 y5 y6 n,x=(.agg [y0.1,y1.1,y2.1,y3.1,y4.1,y5.1,y6.1],y0.2++(y1.2++(y2.2++(y3.2++(y4.2++(y5.2++y6.2))))))∧cs.length=P.cellsOf t∧DataW.trod enc P w base spare held n f0.type ((cs.drop f0.offset).take (P.cellsOf f0.type))=some y0∧DataW.trod enc P w base spare held n f1.type ((cs.drop f1.offset).take (P.cellsOf f1.type))=some y1∧DataW.trod enc P w base spare held n f2.type ((cs.drop f2.offset).take (P.cellsOf f2.type))=some y2∧DataW.trod enc P w base spare held n f3.type ((cs.drop f3.offset).take (P.cellsOf f3.type))=some y3∧DataW.trod enc P w base spare held n f4.type ((cs.drop f4.offset).take (P.cellsOf f4.type))=some y4∧DataW.trod enc P w base spare held n f5.type ((cs.drop f5.offset).take (P.cellsOf f5.type))=some y5∧DataW.trod enc P w base spare held n f6.type ((cs.drop f6.offset).take (P.cellsOf f6.type))=some y6:=by
 obtain⟨xs,n,_,rfl,hl,hlen,hf⟩:=DataW.trod_struct ht h
 match xs,hlen with
 | [y0,y1,y2,y3,y4,y5,y6],_=>exact⟨y0,y1,y2,y3,y4,y5,y6,n,by simp,hl,by simpa using hf 0 f0 rfl,by simpa using hf 1 f1 rfl,by simpa using hf 2 f2 rfl,by simpa using hf 3 f3 rfl,by simpa using hf 4 f4 rfl,by simpa using hf 5 f5 rfl,by simpa using hf 6 f6 rfl⟩
theorem zim {H:Type}{enc:TypeId×Value→H}{W:World}{n:Nat}{cs:List Value}{x:DataW H×List MemPlace}(h:DataW.trod enc prog W 0 (fun _=>true) true n 82 cs=some x)(hp:∀ y∈x.2,y.block<W.heap.size) :
  ∃ (z:RelL) (r:Value),cs=(relC z r).toList∧ReqsOf W.heap.size r z.reqs W∧z.reqs.length≤maxLen:=by
 obtain⟨y0,y1,y2,y3,y4,y5,y6,m,rfl,hl,h0,h1,h2,h3,h4,h5,h6⟩:=zcm underlying82 h
 have hl:cs.length=9:=hl.trans (by as_aux_lemma=>kernel_rfl)
 have hc:prog.cellsOf 9=1:=by as_aux_lemma=>kernel_rfl
 have hc2:prog.cellsOf 51=3:=by as_aux_lemma=>kernel_rfl
 have hc3:prog.cellsOf 80=1:=by as_aux_lemma=>kernel_rfl
 have hc4:prog.cellsOf 4=1:=by as_aux_lemma=>kernel_rfl
 match cs,hl with
 | [c0,c1,c2,c3,c4,c5,c6,c7,c8],_ =>
  simp only [hc,hc2,hc3,hc4]at h0 h1 h2 h3 h4 h5 h6
  obtain⟨z0,e0,_⟩:=DataW.trod_string underlying9 h0
  obtain⟨a,b,c,e1,_⟩:=zcn (show DataW.trod enc prog W 0 (fun _=>true) true m 51 [c1,c2,c3]=some y1 from h1)
  obtain⟨l,hr,hll⟩:=zif (show DataW.trod enc prog W 0 (fun _=>true) true m 80 [c4]=some y2 from h2) (fun y hy=>hp y (by simp [hy]))
  obtain⟨z3,e3,_⟩:=DataW.trod_string underlying9 h3
  obtain⟨z4,e4,_⟩:=DataW.trod_string underlying9 h4
  obtain⟨z5,e5,_⟩:=DataW.trod_string underlying9 h5
  obtain⟨z6,e6,_⟩:=DataW.trod_bool underlying4 h6
  have e0:c0=.string z0:=(List.cons.inj (show [c0]=[.string z0]from e0)).1
  have e3:c5=.string z3:=(List.cons.inj (show [c5]=[.string z3]from e3)).1
  have e4:c6=.string z4:=(List.cons.inj (show [c6]=[.string z4]from e4)).1
  have e5:c7=.string z5:=(List.cons.inj (show [c7]=[.string z5]from e5)).1
  have e6:c8=.bool z6:=(List.cons.inj (show [c8]=[.bool z6]from e6)).1
  injection e1 with e1 e2
  injection e2 with e2 e7
  injection e7 with e7 _
  exact⟨⟨z0,(a,b,c),l,z3,z4,z5,z6⟩,c4,by rw [e0,e1,e2,e7,e3,e4,e5,e6];rfl,hr,hll⟩
theorem zie {H:Type}{enc:TypeId×Value→H}{W:World}{fuel:Nat}{v:Value}{x:DataW H×List MemPlace}(h:DataW.trod enc prog W 0 (fun _=>true) true fuel 22 [v]=some x)
  (hlt:∀ y∈x.2,y.block<W.heap.size):∃ X:List RelL,RelsOf W.heap.size v X W∧X.length≤maxLen∧∀ x∈X,x.reqs.length≤maxLen:=by
 obtain⟨ao,cap,l,rfl,hm,hl⟩:=z2q (fun(z:RelL) cs=>∃ r,cs=(relC z r).toList∧ReqsOf W.heap.size r z.reqs W∧z.reqs.length≤maxLen) underlying22 (c:=9) (by as_aux_lemma=>kernel_rfl) (by omega) (fun n cs y hy hp=>zim hy hp) h hlt
 refine⟨l,⟨ao,cap,rfl,fun i x hx=>?_⟩,hm,fun y hy=>?_⟩
 ·obtain⟨b,off,cs,rfl,hb,⟨r,rfl,hs,_⟩,hj⟩:=hl i x hx
  exact⟨b,off,rfl,hb,r,hj 0 (by omega),hj 1 (by omega),hj 2 (by omega),hj 3 (by omega),hj 4 (by omega),hj 5 (by omega),hj 6 (by omega),hj 7 (by omega),hj 8 (by omega),hs⟩
 ·obtain⟨i,hi,rfl⟩:=List.mem_iff_getElem.1 hy
  obtain⟨b,off,cs,_,_,⟨_,_,_,hs⟩,_⟩:=hl i l[i] (ze hi)
  exact hs
theorem zms {H:Type}{enc:TypeId×Value→H}{W:World}{r:Reach}{b0:Nat}{v:Value}{d:DataW H}{p:List MemPlace}(hv:Value.okWide prog W r b0 25 v)(h:DataW.Trod enc prog W 0 (fun _=>true) true 25 v d p)
  (hlt:∀ y∈p,y.block<W.heap.size):∃ (a:Option Addr) (c:Nat) (iv:Value) (X:List RelL),v=.agg #[.slice a X.length c,iv]∧RelsOf W.heap.size (.slice a X.length c) X W∧X.length≤maxLen∧∀ x∈X,x.reqs.length≤maxLen:=by
 obtain⟨v0,v1,y0,y1,n,rfl,_,rfl,h0,h1⟩:=Go.Joins.open_agg2 underlying25 (by as_aux_lemma=>kernel_rfl) (by as_aux_lemma=>kernel_rfl) hv h
 obtain⟨X,hR,h2,h3⟩:=zie h0 (fun y hy=>hlt y (List.mem_append.2 (.inl hy)))
 obtain⟨a,c,rfl,h4⟩:=hR
 exact⟨a,c,v1,X,rfl,⟨a,c,rfl,h4⟩,h2,h3⟩
section
open Go.Proofs.Tryz Go
abbrev ConsP (X:List RelL)(s:List SelL):Prop:=SatP X [] s
open Classical in
noncomputable def consV (X:List RelL)(s:List SelL):Int :=
 if checkX X≠0∨¬ incrS s then 1
 else if ∃ y∈s,findR X y=none then 6
 else if ∃ y∈s,∃ q∈reqsOf X y,metB s q=false then 17 else 0
theorem z0b {X:List RelL}{s:List SelL}:consV X s=0 ↔ ConsP X s:=by
 unfold consV
 by_cases h1:checkX X≠0∨¬ incrS s
 ·rw [if_pos h1]
  exact⟨fun h=>absurd h (by decide),fun h=>h1.elim (fun e=>absurd h.ok e) (fun e=>absurd h.incr e)⟩
 ·rw [if_neg h1]
  have hc:checkX X=0:=Classical.byContradiction fun e=>h1 (.inl e)
  have hi:incrS s:=Classical.byContradiction fun e=>h1 (.inr e)
  by_cases h2:∃ y∈s,findR X y=none
  ·rw [if_pos h2]
   obtain⟨y,hy,e⟩:=h2
   exact⟨fun h=>absurd h (by decide),fun h=>by have:=h.found y hy;rw [e]at this;cases this⟩
  ·rw [if_neg h2]
   have hf:∀ y∈s,(findR X y).isSome=true:=fun y hy=>by
    cases e:findR X y with
    | none=>exact absurd ⟨y,hy,e⟩ h2
    | some r=>rfl
   by_cases h3:∃ y∈s,∃ q∈reqsOf X y,metB s q=false
   ·rw [if_pos h3]
    obtain⟨y,hy,q,hq,e⟩:=h3
    exact⟨fun h=>absurd h (by decide),fun h=>by have:=h.own y hy q hq;rw [e]at this;cases this⟩
   ·rw [if_neg h3]
    refine⟨fun _=>⟨hc,hi,hf,fun y hy q hq=>?_,fun q hq=>by cases hq⟩,fun _=>rfl⟩
    cases e:metB s q with
    | true=>rfl
    | false=>exact absurd ⟨y,hy,q,hq,e⟩ h3
def atS (s:List SelL)(p:ByteArray):Option SelL:=s.find? fun y=>decide (y.1=p)
theorem z02 {s:List SelL}{p:ByteArray}{y:SelL}(h:atS s p=some y):y∈s∧y.1=p:=⟨List.mem_of_find?_eq_some h,of_decide_eq_true (List.find?_some (p:=fun y:SelL=>decide (y.1=p)) h)⟩
theorem z2w {s:List SelL}{p:ByteArray}:atS s p=none ↔ ∀ y∈s,y.1≠p:=by
 unfold atS
 rw [List.find?_eq_none]
 exact⟨fun h y hy e=>h y hy (decide_eq_true e),fun h y hy e=>h y hy (of_decide_eq_true e)⟩
theorem z4m {s:List SelL}(hs:incrS s){y z:SelL}(hy:y∈s)(hz:z∈s)(e:y.1=z.1):y=z:=by
 obtain⟨i,hi,rfl⟩:=List.mem_iff_getElem.1 hy
 obtain⟨j,hj,rfl⟩:=List.mem_iff_getElem.1 hz
 rcases Nat.lt_trichotomy i j with h | h | h
 ·have:=List.pairwise_iff_getElem.1 hs i j hi hj h
  rw [e,z0c]at this;cases this
 ·subst h;rfl
 ·have:=List.pairwise_iff_getElem.1 hs j i hj hi h
  rw [e,z0c]at this;cases this
theorem z6n {s:List SelL}(hs:incrS s){y:SelL}(hy:y∈s):atS s y.1=some y:=by
 cases h:atS s y.1 with
 | none=>exact absurd rfl (z2w.1 h y hy)
 | some z =>
  obtain⟨hz,e⟩:=z02 h
  rw [z4m hs hz hy e]
def plcS (s:List SelL)(p:ByteArray):Int:=match atS s p with
 | some y=>plc y.2
 | none=>-1
theorem zdg {s:List SelL}(hs:incrS s){q:ReqL}:metB s q=match atS s q.1 with
  | some y=>hasB q.2 (plc y.2)
  | none=>false:=by
 cases h:atS s q.1 with
 | none =>
  unfold metB
  rw [List.any_eq_false]
  intro y hy e
  rw [Bool.and_eq_true]at e
  exact z2w.1 h y hy (of_decide_eq_true e.1)
 | some y =>
  obtain⟨hy,e⟩:=z02 h
  show metB s q=hasB q.2 (plc y.2)
  unfold metB
  rw [Bool.eq_iff_iff,List.any_eq_true]
  constructor
  ·rintro⟨z,hz,h1⟩
   rw [Bool.and_eq_true]at h1
   have:=z4m hs hz hy ((of_decide_eq_true h1.1).trans e.symm)
   subst this
   exact h1.2
  ·intro h1
   exact⟨y,hy,by rw [Bool.and_eq_true];exact⟨decide_eq_true e,h1⟩⟩
theorem za1 {s t:List SelL}(hs:incrS s)(ht:incrS t){q:ReqL}(h:atS s q.1=atS t q.1):metB s q=metB t q:=by rw [zdg hs,zdg ht,h]
instance decMemB (p:ByteArray) (m:List ByteArray):Decidable (p∈m):=decidable_of_iff ((m.any fun x=>decide (x=p))=true) (by
 rw [List.any_eq_true]
 exact⟨fun⟨x,hx,e⟩=>of_decide_eq_true e ▸ hx,fun h=>⟨p,h,decide_eq_true rfl⟩⟩)
def IncB (l:List ByteArray):Prop:=l.Pairwise fun a b=>ltB a b=true
theorem IncB.unique:∀ {a b:List ByteArray},IncB a→IncB b→(∀ p,p∈a ↔ p∈b)→a=b
 | [],[],_,_,_=>rfl
 | [],x::b,_,_,h=>by have:=(h x).2 (by simp);cases this
 | x::a,[],_,_,h=>by have:=(h x).1 (by simp);cases this
 | x::a,y::b,ha,hb,h=>by
  obtain⟨h1,h2⟩:=List.pairwise_cons.1 ha
  obtain⟨h3,h4⟩:=List.pairwise_cons.1 hb
  have e:x=y:=by
   rcases List.mem_cons.1 ((h x).1 (by simp))with e | hx
   ·exact e
   ·rcases List.mem_cons.1 ((h y).2 (by simp))with e | hy
    ·exact e.symm
    ·have g1:=h1 y hy
     have g2:=h3 x hx
     rw [z1n g1]at g2;cases g2
  subst e
  rw [IncB.unique h2 h4 fun p=>?_]
  have hp:=h p
  simp only [List.mem_cons]at hp
  constructor
  ·intro hm
   rcases hp.1 (.inr hm)with e | hm'
   ·subst e;have:=h1 p hm;rw [z0c]at this;cases this
   ·exact hm'
  ·intro hm
   rcases hp.2 (.inr hm)with e | hm'
   ·subst e;have:=h3 p hm;rw [z0c]at this;cases this
   ·exact hm'
def mergeU:List ByteArray→List ByteArray→List ByteArray
 | [],m=>m
 | a::l,[]=>a::l
 | a::l,b::m=>if a=b then a::mergeU l m else if ltB a b=true then a::mergeU l (b::m) else b::mergeU (a::l) m
 termination_by l m=>l.length+m.length
theorem z1e (m:List ByteArray):mergeU [] m=m:=by rw [mergeU]
theorem z23 (l:List ByteArray):mergeU l []=l:=by cases l<;>rw [mergeU]
theorem z10 (a b:ByteArray)(l m:List ByteArray):mergeU (a::l) (b::m)=if a=b then a::mergeU l m else if ltB a b=true then a::mergeU l (b::m) else b::mergeU (a::l) m:=by rw [mergeU]
theorem z16 {p:ByteArray}:∀ (l m:List ByteArray),p∈mergeU l m ↔ p∈l∨p∈m
 | [],m=>by rw [z1e];simp
 | a::l,[]=>by rw [z23];simp
 | a::l,b::m=>by
  rw [z10]
  by_cases h:a=b
  ·subst h
   rw [if_pos rfl,List.mem_cons,z16 l m]
   simp only [List.mem_cons]
   constructor
   ·rintro(h | h | h)
    ·exact .inl (.inl h)
    ·exact .inl (.inr h)
    ·exact .inr (.inr h)
   ·rintro((h | h) | (h | h))
    ·exact .inl h
    ·exact .inr (.inl h)
    ·exact .inl h
    ·exact .inr (.inr h)
  ·rw [if_neg h]
   split
   ·rw [List.mem_cons,z16 l (b::m)]
    simp only [List.mem_cons]
    constructor
    ·rintro(h | h | h)
     ·exact .inl (.inl h)
     ·exact .inl (.inr h)
     ·exact .inr h
    ·rintro((h | h) | h)
     ·exact .inl h
     ·exact .inr (.inl h)
     ·exact .inr (.inr h)
   ·rw [List.mem_cons,z16 (a::l) m]
    simp only [List.mem_cons]
    constructor
    ·rintro(h | h | h)
     ·exact .inr (.inl h)
     ·exact .inl h
     ·exact .inr (.inr h)
    ·rintro(h | (h | h))
     ·exact .inr (.inl h)
     ·exact .inl h
     ·exact .inr (.inr h)
 termination_by l m=>l.length+m.length
theorem z40:∀ {l m:List ByteArray},IncB l→IncB m→IncB (mergeU l m)
 | [],m,_,hm=>by rw [z1e];exact hm
 | a::l,[],hl,_=>by rw [z23];exact hl
 | a::l,b::m,hl,hm=>by
  obtain⟨h1,h2⟩:=List.pairwise_cons.1 hl
  obtain⟨h3,h4⟩:=List.pairwise_cons.1 hm
  rw [z10]
  by_cases h:a=b
  ·subst h
   rw [if_pos rfl]
   refine List.pairwise_cons.2 ⟨fun x hx=>?_,z40 h2 h4⟩
   rcases(z16 l m).1 hx with hx | hx
   ·exact h1 x hx
   ·exact h3 x hx
  ·rw [if_neg h]
   split
   ·rename_i hab
    refine List.pairwise_cons.2 ⟨fun x hx=>?_,z40 h2 hm⟩
    rcases(z16 l (b::m)).1 hx with hx | hx
    ·exact h1 x hx
    ·rcases List.mem_cons.1 hx with rfl | hx
     ·exact hab
     ·exact z1o hab (h3 x hx)
   ·rename_i hab
    have hba:ltB b a=true:=by
     cases hb:ltB b a with
     | true=>rfl
     | false=>exact absurd (z2i (by simpa using hab) hb) h
    refine List.pairwise_cons.2 ⟨fun x hx=>?_,z40 hl h4⟩
    rcases(z16 (a::l) m).1 hx with hx | hx
    ·rcases List.mem_cons.1 hx with rfl | hx
     ·exact hba
     ·exact z1o hba (h1 x hx)
    ·exact h3 x hx
 termination_by l m=>l.length+m.length
def allP (f t:List SelL):List ByteArray:=mergeU (f.map (·.1)) (t.map (·.1))
def movesP (f t:List SelL):List ByteArray:=(allP f t).filter fun p=>decide (plcS f p≠plcS t p)
theorem z4l {s:List SelL}(h:incrS s):IncB (s.map (·.1)):=by
 unfold IncB
 rw [List.pairwise_map]
 exact h
theorem z9i {f t:List SelL}(hf:incrS f)(ht:incrS t):IncB (allP f t):=z40 (z4l hf) (z4l ht)
theorem z1r {f t:List SelL}(hf:incrS f)(ht:incrS t):IncB (movesP f t):=(z9i hf ht).sublist List.filter_sublist
theorem z68 {f t:List SelL}{p:ByteArray}:p∈allP f t ↔ atS f p≠none∨atS t p≠none:=by
 have key:∀ s:List SelL,p∈s.map (·.1) ↔ atS s p≠none:=fun s=>by
  rw [List.mem_map,ne_eq,z2w]
  constructor
  ·rintro⟨y,hy,e⟩ h;exact h y hy e
  ·intro h
   exact Classical.byContradiction fun h2=>h fun y hy e=>h2 ⟨y,hy,e⟩
 unfold allP
 rw [z16,key,key]
theorem z5g {f t:List SelL}{p:ByteArray}:p∈movesP f t ↔ plcS f p≠plcS t p:=by
 unfold movesP
 rw [List.mem_filter,z68,decide_eq_true_iff]
 refine⟨fun h=>h.2,fun h=>⟨?_,h⟩⟩
 cases hf:atS f p with
 | some y=>exact .inl (by simp)
 | none =>
  cases ht:atS t p with
  | some y=>exact .inr (by simp)
  | none=>exact absurd (by unfold plcS;rw [hf,ht]) h
theorem zb7 {X:List RelL}(hX:IdxOk X){y:SelL}(h:(findR X y).isSome=true):0≤plc y.2:=by
 obtain⟨r,hr⟩:=Option.isSome_iff_exists.1 h
 obtain⟨i,hi,hri,hk⟩:=z1d hr
 have hp:=(hX.rel i hi).plc
 rw [hri,show r.ver=y.2 by rw [← hk];rfl]at hp
 exact hp.1
theorem zhp {X:List RelL}(hX:IdxOk X){y z:SelL}(hy:(findR X y).isSome=true)(hz:(findR X z).isSome=true)(e:y.1=z.1)(e2:plc y.2=plc z.2):y=z:=by
 obtain⟨r,hr⟩:=Option.isSome_iff_exists.1 hy
 obtain⟨i,hi,hri,hk⟩:=z1d hr
 obtain⟨r2,hr2⟩:=Option.isSome_iff_exists.1 hz
 obtain⟨j,hj,hrj,hk2⟩:=z1d hr2
 have key:∀ {a b:RelL},a.path=b.path→plc a.ver=plc b.ver→¬ RelLt a b:=fun {a b} h1 h2 h=>by
  rcases h with h | ⟨_,h⟩
  ·rw [h1,z0c]at h;cases h
  ·omega
 have hp:r.path=r2.path:=by
  have h1:r.path=y.1:=by rw [← hk];rfl
  have h2:r2.path=z.1:=by rw [← hk2];rfl
  rw [h1,h2,e]
 have hv:plc r.ver=plc r2.ver:=by
  have h1:r.ver=y.2:=by rw [← hk];rfl
  have h2:r2.ver=z.2:=by rw [← hk2];rfl
  rw [h1,h2,e2]
 rcases Nat.lt_trichotomy i j with h | h | h
 ·have:=hX.ord i j h hj
  rw [hri,hrj]at this
  exact absurd this (key hp hv)
 ·subst h
  rw [← hk,← hk2,← hri,← hrj]
 ·have:=hX.ord j i h hi
  rw [hri,hrj]at this
  exact absurd this (key hp.symm hv.symm)
theorem zjp {X:List RelL}{f t:List SelL}(hf:ConsP X f)(ht:ConsP X t){p:ByteArray}(h:p ∉ movesP f t):atS f p=atS t p:=by
 have hX:=zei hf.ok
 have h:plcS f p=plcS t p:=Classical.byContradiction fun e=>h (z5g.2 e)
 unfold plcS at h
 cases hy:atS f p with
 | none =>
  cases hz:atS t p with
  | none=>rfl
  | some z =>
   rw [hy,hz]at h
   have h0:=zb7 hX (ht.found z (z02 hz).1)
   have h:-1=plc z.2:=h
   omega
 | some y =>
  have h0:=zb7 hX (hf.found y (z02 hy).1)
  cases hz:atS t p with
  | none =>
   rw [hy,hz]at h
   have h:plc y.2=-1:=h
   omega
  | some z =>
   rw [hy,hz]at h
   rw [zhp hX (hf.found y (z02 hy).1) (ht.found z (z02 hz).1) ((z02 hy).2.trans (z02 hz).2.symm) h]
def betV (f t:List SelL)(m:List ByteArray):List SelL:=(allP f t).filterMap fun p=>if p∈m then atS t p else atS f p
theorem z21 {f t:List SelL}{m:List ByteArray}{y:SelL}:y∈betV f t m ↔ (if y.1∈m then atS t y.1 else atS f y.1)=some y:=by
 unfold betV
 rw [List.mem_filterMap]
 constructor
 ·rintro⟨p,_,h⟩
  have e:y.1=p:=by
   split at h
   ·exact(z02 h).2
   ·exact(z02 h).2
  rw [e];exact h
 ·intro h
  refine⟨y.1,z68.2 ?_,h⟩
  split at h
  ·exact .inr (by rw [h];simp)
  ·exact .inl (by rw [h];simp)
theorem z2x {f t:List SelL}{m:List ByteArray}(hf:incrS f)(ht:incrS t):incrS (betV f t m):=by
 unfold incrS betV
 rw [List.pairwise_filterMap]
 refine(z9i hf ht).imp fun {a b} hab y hy z hz=>?_
 have e1:y.1=a:=by
  split at hy
  ·exact(z02 hy).2
  ·exact(z02 hy).2
 have e2:z.1=b:=by
  split at hz
  ·exact(z02 hz).2
  ·exact(z02 hz).2
 rw [e1,e2];exact hab
theorem zlk {f t:List SelL}{m:List ByteArray}(hf:incrS f)(ht:incrS t)(p:ByteArray):atS (betV f t m) p=if p∈m then atS t p else atS f p:=by
 cases h:(if p∈m then atS t p else atS f p)with
 | none =>
  rw [z2w]
  rintro y hy rfl
  rw [z21,h]at hy
  cases hy
 | some y =>
  have e:y.1=p:=by
   split at h
   ·exact(z02 h).2
   ·exact(z02 h).2
  subst e
  exact z6n (z2x hf ht) (z21.2 h)
def reqsS (X:List RelL)(s:List SelL)(a:ByteArray):List ReqL:=match atS s a with
 | some y=>reqsOf X y
 | none=>[]
def clashB (X:List RelL)(s:List SelL)(a:ByteArray)(o:List SelL)(b:ByteArray):Bool:=(reqsS X s a).any fun q=>decide (q.1=b)&&!metB o q
def needB (X:List RelL)(f t:List SelL)(a b:ByteArray):Bool:=decide (a≠b)&&(clashB X t a f b||clashB X f b t a)
theorem z2n {X:List RelL}{s o:List SelL}{a b:ByteArray}:clashB X s a o b=true ↔ ∃ y,atS s a=some y∧∃ q∈reqsOf X y,q.1=b∧metB o q=false:=by
 unfold clashB reqsS
 rw [List.any_eq_true]
 constructor
 ·rintro⟨q,hq,h⟩
  rw [Bool.and_eq_true]at h
  cases hs:atS s a with
  | none=>rw [hs]at hq;cases hq
  | some y =>
   rw [hs]at hq
   exact⟨y,rfl,q,hq,of_decide_eq_true h.1,by simpa using h.2⟩
 ·rintro⟨y,hy,q,hq,e,h⟩
  refine⟨q,by rw [hy];exact hq,?_⟩
  rw [Bool.and_eq_true]
  exact⟨decide_eq_true e,by rw [h];rfl⟩
theorem za3 {X:List RelL}{f t:List SelL}{a b:ByteArray}:needB X f t a b=true ↔ a≠b∧(clashB X t a f b=true∨clashB X f b t a=true):=by
 unfold needB
 rw [Bool.and_eq_true,decide_eq_true_iff,Bool.or_eq_true]
theorem zjq {X:List RelL}{f t:List SelL}{m:List ByteArray}(hf:ConsP X f)(ht:ConsP X t) :
  ConsP X (betV f t m) ↔ ∀ a∈movesP f t,∀ b∈movesP f t,a∈m→b ∉ m→needB X f t a b=false:=by
 have hbi:=z2x (m:=m) hf.incr ht.incr
 have yes:∀ {q:ReqL},q.1∈m→metB (betV f t m) q=metB t q:=fun {q} h=>za1 hbi ht.incr (by rw [zlk hf.incr ht.incr,if_pos h])
 have no:∀ {q:ReqL},q.1 ∉ m→metB (betV f t m) q=metB f q:=fun {q} h=>za1 hbi hf.incr (by rw [zlk hf.incr ht.incr,if_neg h])
 have eqv:∀ {q:ReqL},q.1 ∉ movesP f t→metB f q=metB t q:=fun {q} h=>za1 hf.incr ht.incr (zjp hf ht h)
 constructor
 ·intro h a ha b hb ham hbm
  cases hn:needB X f t a b with
  | false=>rfl
  | true =>
   obtain⟨_,hc | hc⟩:=za3.1 hn
   ·obtain⟨y,hy,q,hq,e,hm⟩:=z2n.1 hc
    have hyb:y∈betV f t m:=z21.2 (by rw [(z02 hy).2,if_pos ham];exact hy)
    have:=h.own y hyb q hq
    rw [no (by rw [e];exact hbm),hm]at this
    cases this
   ·obtain⟨y,hy,q,hq,e,hm⟩:=z2n.1 hc
    have hyb:y∈betV f t m:=z21.2 (by rw [(z02 hy).2,if_neg hbm];exact hy)
    have:=h.own y hyb q hq
    rw [yes (by rw [e];exact ham),hm]at this
    cases this
 ·intro h
  refine⟨hf.ok,hbi,fun y hy=>?_,fun y hy q hq=>?_,fun q hq=>by cases hq⟩
  ·have:=z21.1 hy
   split at this
   ·exact ht.found y (z02 this).1
   ·exact hf.found y (z02 this).1
  ·have hy2:=z21.1 hy
   by_cases ham:y.1∈m
   ·rw [if_pos ham]at hy2
    have hyt:=(z02 hy2).1
    by_cases hbm:q.1∈m
    ·rw [yes hbm];exact ht.own y hyt q hq
    ·rw [no hbm]
     by_cases hbP:q.1∈movesP f t
     ·by_cases haP:y.1∈movesP f t
      ·have hn:=h y.1 haP q.1 hbP ham hbm
       cases hm:metB f q with
       | true=>rfl
       | false =>
        have:needB X f t y.1 q.1=true:=za3.2 ⟨fun e=>hbm (e ▸ ham),.inl (z2n.2 ⟨y,hy2,q,hq,rfl,hm⟩)⟩
        rw [hn]at this;cases this
      ·rw [← zjp hf ht haP]at hy2
       exact hf.own y (z02 hy2).1 q hq
     ·rw [eqv hbP];exact ht.own y hyt q hq
   ·rw [if_neg ham]at hy2
    have hyf:=(z02 hy2).1
    by_cases hbm:q.1∈m
    ·rw [yes hbm]
     by_cases hbP:q.1∈movesP f t
     ·by_cases haP:y.1∈movesP f t
      ·have hn:=h q.1 hbP y.1 haP hbm ham
       cases hm:metB t q with
       | true=>rfl
       | false =>
        have:needB X f t q.1 y.1=true:=za3.2 ⟨fun e=>ham (e ▸ hbm),.inr (z2n.2 ⟨y,hy2,q,hq,rfl,hm⟩)⟩
        rw [hn]at this;cases this
      ·rw [zjp hf ht haP]at hy2
       exact ht.own y (z02 hy2).1 q hq
     ·rw [← eqv hbP];exact hf.own y hyf q hq
    ·rw [no hbm];exact hf.own y hyf q hq
def wavE (X:List RelL)(f t:List SelL):List (Int×Int):=(List.range (movesP f t).length).flatMap fun i=>(List.range (movesP f t).length).filterMap fun k=>if needB X f t ((movesP f t).getD i default) ((movesP f t).getD k default)=true then some ((i:Int),(k:Int)) else none
theorem za0 {X:List RelL}{f t:List SelL}{e:Int×Int}:e∈wavE X f t ↔ ∃ i k,i<(movesP f t).length∧k<(movesP f t).length∧needB X f t ((movesP f t).getD i default) ((movesP f t).getD k default)=true∧e=((i:Int),(k:Int)):=by
 unfold wavE
 rw [List.mem_flatMap]
 constructor
 ·rintro⟨i,hi,h⟩
  obtain⟨k,hk,h⟩:=List.mem_filterMap.1 h
  split at h
  ·rename_i hn
   exact⟨i,k,List.mem_range.1 hi,List.mem_range.1 hk,hn,(Option.some.inj h).symm⟩
  ·cases h
 ·rintro⟨i,k,hi,hk,hn,rfl⟩
  exact⟨i,List.mem_range.2 hi,List.mem_filterMap.2 ⟨k,List.mem_range.2 hk,if_pos hn⟩⟩
end
section
open Go.Proofs.Tryz Go Go.RowKit Go.Maps
structure TabJ (w:World)(X:List RelL)(rv:Nat→Value)(v iv:Value)(k:Nat)(W:World):Prop where
 bel:RowKit.Below w.heap.size w W
 size:w.heap.size+1+1+1+1<W.heap.size
 idx:W.heap[w.heap.size]? = some (.cells #[v,iv] 25 (0,0))
 res:W.heap[w.heap.size+1]? = some (.cells #[.map none,.map none] 187 (0,0))
 tab:W.heap[w.heap.size+1+1+1+1]? = some (.cells #[.map (some (w.heap.size+1+1)),.map (some (w.heap.size+1+1+1))] 187 (0,0))
 rels:∃ f,MapF prog 53 W (w.heap.size+1+1) k f∧TabF X rv k f
def PathJ (w:World)(k:Nat)(f:Lit→Option Value)(W:World):Prop:=MapF prog 9 W (w.heap.size+1+1+1) k f∧PathsI W (w.heap.size+1+1+1+1+1) 9 k f
theorem PathJ.below {w W W':World}{k:Nat}{f:Lit→Option Value}(h:PathJ w k f W)(hb:RowKit.Below W.heap.size W W'):PathJ w k f W':=⟨h.1.below hb,h.2.below hb⟩
theorem TabJ.below {w:World}{X:List RelL}{rv:Nat→Value}{v iv:Value}{k:Nat}{W W':World}(h:TabJ w X rv v iv k W)(hb:RowKit.Below W.heap.size W W'):TabJ w X rv v iv k W':=by
 obtain⟨h1,h2,h3,h4,h5,f,h6,h7⟩:=h
 exact⟨h1.trans (hb.mono h1.size),Nat.lt_of_lt_of_le h2 hb.size,(hb.block _ (by omega)).trans h3,(hb.block _ (by omega)).trans h4,(hb.block _ h2).trans h5,f,h6.below hb,h7⟩
theorem TabJ.grown {w:World}{X:List RelL}{rv:Nat→Value}{v iv:Value}{k k':Nat}{W W':World}{row:Option Nat}(h:TabJ w X rv v iv k W)(hg:W.grownBy W' row)(hr:∀ b,row=some b→w.heap.size+1<b∧b≠w.heap.size+1+1+1+1)
  (hf:∃ f,MapF prog 53 W' (w.heap.size+1+1) k' f∧TabF X rv k' f):TabJ w X rv v iv k' W':=by
 obtain⟨h1,h2,h3,h4,h5,_⟩:=h
 have ne:∀ b,b≤w.heap.size+1∨b=w.heap.size+1+1+1+1→some b≠row:=fun b hb e=>by
  have:=hr b e.symm
  omega
 exact⟨h1.grown hg (by omega) (fun b hb=>by have:=hr b hb;omega),Nat.lt_of_lt_of_le h2 hg.size,(hg.block _ (by omega) (ne _ (by omega))).trans h3,(hg.block _ (by omega) (ne _ (by omega))).trans h4,(hg.block _ h2 (ne _ (by omega))).trans h5,hf⟩
theorem TabJ.start (w:World)(X:List RelL)(rv:Nat→Value)(v iv:Value) :
  TabJ w X rv v iv 0 (((((w.alloc (.cells #[v,iv] 25)).alloc (.cells #[.map none,.map none] 187)).alloc (.map #[] 0)).alloc (.map #[] 0)).alloc (.cells #[.map (some (w.heap.size+1+1)),.map (some (w.heap.size+1+1+1))] 187)):=by
 have hget:∀ (w:World) (o:Obj) (k:Nat),(w.alloc o).heap[k]? = if k=w.heap.size then some o else w.heap[k]?:=fun w o k=>by
  show(w.heap.push o)[k]? = _
  rw [Array.getElem?_push]
 refine⟨(by repeat (first | exact Below.refl _ _ | refine Below.drew ?_ | refine Below.alloc ?_ (by simp<;>omega) _ | refine Below.setCell ?_ (by simp<;>omega) _)),by simp only [World.size_alloc];omega,?_,?_,?_,_,?_,TabF.start X rv⟩
 ·simp only [hget,World.size_alloc];repeat (first | rw [if_pos trivial] | rw [if_neg (by omega)] | rw [if_pos (by omega)])
 ·simp only [hget,World.size_alloc];repeat (first | rw [if_pos trivial] | rw [if_neg (by omega)] | rw [if_pos (by omega)])
 ·simp only [hget,World.size_alloc];repeat (first | rw [if_pos trivial] | rw [if_neg (by omega)] | rw [if_pos (by omega)])
 ·have:=((MapF.made prog 53 ((w.alloc (.cells #[v,iv] 25)).alloc (.cells #[.map none,.map none] 187))).alloc (.map #[] 0)).alloc (.cells #[.map (some (w.heap.size+1+1)),.map (some (w.heap.size+1+1+1))] 187)
  simpa only [World.size_alloc]using this
theorem PathJ.start (w:World)(v iv:Value) :
  PathJ w 0 (fun _=>none) (((((w.alloc (.cells #[v,iv] 25)).alloc (.cells #[.map none,.map none] 187)).alloc (.map #[] 0)).alloc (.map #[] 0)).alloc (.cells #[.map (some (w.heap.size+1+1)),.map (some (w.heap.size+1+1+1))] 187)):=by
 refine⟨?_,PathsI.start _ _ _⟩
 ·have:=(MapF.made prog 9 (((w.alloc (.cells #[v,iv] 25)).alloc (.cells #[.map none,.map none] 187)).alloc (.map #[] 0))).alloc (.cells #[.map (some (w.heap.size+1+1)),.map (some (w.heap.size+1+1+1))] 187)
  simpa only [World.size_alloc]using this
theorem TabJ.shut {w:World}{X:List RelL}{rv:Nat→Value}{v iv:Value}{k:Nat}{W:World}(h:TabJ w X rv v iv k W) :
  ((W.setCell ⟨w.heap.size+1,0,none⟩ (.map (some (w.heap.size+1+1)))).setCell ⟨w.heap.size+1,1,none⟩ (.map (some (w.heap.size+1+1+1)))).heap[w.heap.size+1]? = some (.cells #[.map (some (w.heap.size+1+1)),.map (some (w.heap.size+1+1+1))] 187 (0,0)) ∧
   RowKit.Below w.heap.size w ((W.setCell ⟨w.heap.size+1,0,none⟩ (.map (some (w.heap.size+1+1)))).setCell ⟨w.heap.size+1,1,none⟩ (.map (some (w.heap.size+1+1+1)))) ∧
   ∃ f,MapF prog 53 ((W.setCell ⟨w.heap.size+1,0,none⟩ (.map (some (w.heap.size+1+1)))).setCell ⟨w.heap.size+1,1,none⟩ (.map (some (w.heap.size+1+1+1)))) (w.heap.size+1+1) k f∧TabF X rv k f:=by
 obtain⟨h1,h2,h3,h4,h5,f,h6,h7⟩:=h
 refine⟨setTwo _ _ _ _ _ _ _ h4,(h1.setCell (by simp) _).setCell (by simp) _,f,?_,h7⟩
 exact(h6.setCell (by simp) _).setCell (by simp) _
def TabR (w:World)(X:List RelL)(e:Ending)(w':World):Prop:=∃ m1 m2,e=.returned (.tuple #[.agg #[.map (some m1),.map (some m2)],.int .i64 (checkX X)])∧RowKit.Below w.heap.size w w'∧w.heap.size≤m1∧TabOf w' w.heap.size m1 (if checkX X=0 then X else [])
def HeldB (t g:Nat)(m:Value)(x:RelL)(r:Value)(W:World):Prop:=W.cell? ⟨t,0,none⟩=some m ∧
 W.cell? ⟨g,0,none⟩=some (.string x.path)∧W.cell? ⟨g,1,none⟩=some (.int .i64 x.ver.1)∧W.cell? ⟨g,2,none⟩=some (.int .i64 x.ver.2.1)∧W.cell? ⟨g,3,none⟩=some (.int .i64 x.ver.2.2)∧W.cell? ⟨g,4,none⟩=some r ∧
   W.cell? ⟨g,5,none⟩=some (.string x.ar)∧W.cell? ⟨g,6,none⟩=some (.string x.ifc)∧W.cell? ⟨g,7,none⟩=some (.string x.cert)∧W.cell? ⟨g,8,none⟩=some (.bool x.yk)
theorem zbs (v iv:Value)(X:List RelL)(w:World)(hm:MaxOk w)(hX:X.length≤1000000)(hq:∀ x∈X,RelBd x)(hR:RelsOf w.heap.size v X w) :
  Calls prog 140 #[.agg #[v,iv]] w (TabR w X):=by
 obtain⟨ao,cap,rv,rfl,hrv⟩:=hR.rv
 have HRV:=zh hrv
 clear hrv
 obtain⟨E,hE⟩:∃ E,checkX X=E:=⟨_,rfl⟩
 have HE:=zh hE
 clear hE
 have hmm:=@run_makeMap prog
 go_enter func140,ntmps140
 go_upto_region 2 with fail
 have HJ:=zh (TabJ.start w X rv (.slice ao X.length cap) iv)
 have HP0:=zh (PathJ.start w (.slice ao X.length cap) iv)
 generalize ((((w.alloc (.cells #[.slice ao X.length cap,iv] 25)).alloc (.cells #[.map none,.map none] 187)).alloc (.map #[] 0)).alloc (.map #[] 0)).alloc (.cells #[.map (some (w.heap.size+1+1)),.map (some (w.heap.size+1+1+1))] 187)=W at *
 have c0:W.cell? ⟨w.heap.size,0,none⟩=some (.slice ao X.length cap):=zw _ _ 0 _ _ _ HJ.out.idx
 have c1:W.cell? ⟨w.heap.size,1,none⟩=some iv:=zw _ _ 1 _ _ _ HJ.out.idx
 have HC:=zh (z5n (.slice ao X.length cap) iv X W (hm.below HJ.out.bel hm.pos) hX hq ((hR.below HJ.out.bel (zq _)).mono HJ.out.bel.size))
 clear hm hR
 go_wp2_with fail
 refine HC.out.mono ?_
 rw [HE.out]
 rintro e w1 ⟨rfl,hb1⟩
 have HJ1:=zh (HJ.out.below hb1)
 have HP1:=zh (HP0.out.below hb1)
 clear hb1 HC c0 c1 HJ
 have t0:w1.cell? ⟨w.heap.size+1+1+1+1,0,none⟩=some (.map (some (w.heap.size+1+1))):=zw _ _ 0 _ _ _ HJ1.out.tab
 have t1:w1.cell? ⟨w.heap.size+1+1+1+1,1,none⟩=some (.map (some (w.heap.size+1+1+1))):=zw _ _ 1 _ _ _ HJ1.out.tab
 have r0:w1.cell? ⟨w.heap.size+1,0,none⟩=some (.map none):=zw _ _ 0 _ _ _ HJ1.out.res
 have r1:w1.cell? ⟨w.heap.size+1,1,none⟩=some (.map none):=zw _ _ 1 _ _ _ HJ1.out.res
 have q0:=frozen_of_row _ _ 0 _ _ HJ1.out.res
 have q1:=frozen_of_row _ _ 1 _ _ HJ1.out.res
 by_cases h0:E=0
 case neg =>
  have h0b:(E != 0)=true:=by simpa using h0
  obtain⟨s1,s2,f,s3,s4⟩:=HJ1.out.shut
  have HS1:=zh s1
  have HS2:=zh s2
  have HS3:=zh s3
  clear s1 s2 s3
  go_wp2_with fail
  refine bodyPost_ret (z0i rfl _ _ (w.heap.size+1) _ _ _ _ rfl HS1.out underlying187 rfl (by kernel_rfl)) rfl ?_
  exact⟨w.heap.size+1+1,w.heap.size+1+1+1,by rw [HE.out];rfl,HS2.out,by omega,by rw [if_neg (by rw [HE.out];exact h0)];exact⟨f,rv,0,HS3.out,fun y hy=>by rw [s4 y hy];rfl,fun i hi=>absurd hi (by simp)⟩⟩
 subst h0
 have HX:=zei HE.out
 have HXO:=zh HX
 have HQ:=zh hq
 have hXl:=HX.len
 clear HX hq r0 r1 q0 q1
 have c0:w1.cell? ⟨w.heap.size,0,none⟩=some (.slice ao X.length cap):=zw _ _ 0 _ _ _ HJ1.out.idx
 go_wp2_with fail
 clear t0 t1 c0
 go_loopw [20] (fun p wr=>∃ k:Nat,k≤X.length∧p=.int .i64 k∧Hid (TabJ w X rv (.slice ao X.length cap) iv k wr)∧Hid (∃ f2,PathJ w k f2 wr)) (fun p _=>X.length - (intOf p).toNat)
 case atStart=>exact⟨0,Nat.zero_le _,rfl,HJ1,zh ⟨_,HP1.out⟩⟩
 case round =>
  obtain⟨k,hk,rfl,HJ,HPE⟩:=hrel
  obtain⟨f2,hp2⟩:=HPE.out
  have HP:=zh hp2
  clear hp2 HPE
  have t0:wr.cell? ⟨w.heap.size+1+1+1+1,0,none⟩=some (.map (some (w.heap.size+1+1))):=zw _ _ 0 _ _ _ HJ.out.tab
  have t1:wr.cell? ⟨w.heap.size+1+1+1+1,1,none⟩=some (.map (some (w.heap.size+1+1+1))):=zw _ _ 1 _ _ _ HJ.out.tab
  by_cases hlt:k<X.length
  case neg =>
   have hk2:k=X.length:=by omega
   subst hk2
   have r0:wr.cell? ⟨w.heap.size+1,0,none⟩=some (.map none):=zw _ _ 0 _ _ _ HJ.out.res
   have r1:wr.cell? ⟨w.heap.size+1,1,none⟩=some (.map none):=zw _ _ 1 _ _ _ HJ.out.res
   have q0:=frozen_of_row _ _ 0 _ _ HJ.out.res
   have q1:=frozen_of_row _ _ 1 _ _ HJ.out.res
   obtain⟨s1,s2,f,s3,s4⟩:=HJ.out.shut
   have HS1:=zh s1
   have HS2:=zh s2
   have HS3:=zh s3
   have HS4:=zh s4
   clear s1 s2 s3 s4
   go_wp2_with fail
   refine bodyPost_ret (z0i rfl _ _ (w.heap.size+1) _ _ _ _ rfl HS1.out underlying187 rfl (by kernel_rfl)) rfl ?_
   refine⟨w.heap.size+1+1,w.heap.size+1+1+1,by rw [HE.out];rfl,HS2.out,by omega,?_⟩
   rw [if_pos HE.out]
   refine⟨f,rv,_,HS3.out,HS4.out,fun i hi=>?_⟩
   obtain⟨_,_,_,_,_,h⟩:=HRV.out i X[i] (by simp [hi])
   rw [zg,ze hi]
   exact h.below HS2.out (zq _)
  case pos =>
   obtain⟨b,off,rfl,hbl,hcs,hrq⟩:=HRV.out k X[k] (by simp [hlt])
   have hgd:X.getD k default=X[k]:=by rw [zg,ze hlt];rfl
   have hbd:=HQ.out X[k] (List.getElem_mem hlt)
   have hok:=HXO.out.rel k hlt
   have hsb:SelBd (keyL (X.getD k default)):=by
    have h1:=(z1x _ _ _).1 hok.val
    refine⟨?_,?_,?_,?_⟩
    ·rw [hgd];exact Nat.le_trans hbd.path (by decide)
    all_goals
     unfold IntOk keyL
     simp only
     omega
   have HSB:=zh hsb
   have hps:(X.getD k default).path.size≤maxLen:=hsb.path
   obtain⟨x,hx⟩:∃ x,X[k]=x:=⟨_,rfl⟩
   have HXK:=zh (hgd.trans hx)
   rw [hx]at hcs hrq
   rw [hgd,hx]at hps
   clear hx hgd hbd hok hsb
   obtain⟨r,hr⟩:∃ r,rv k=r:=⟨_,rfl⟩
   have HRK:=zh hr
   rw [hr]at hcs hrq
   clear hr
   obtain⟨ra,rc,rfl,_⟩:=hrq
   have hbw:b<wr.heap.size:=Nat.lt_of_lt_of_le hbl HJ.out.bel.size
   obtain⟨d0,d1,d2,d3,d4,d5,d6,d7,d8⟩:=hcs.below HJ.out.bel hbl
   clear hcs t0 t1
   go_upto_region 8 with fail
   have HJ7:=zh (HJ.out.below (belQ wr (.cells (relC x (.slice ra x.reqs.length rc)) 82)))
   have HG7:Hid (BoxR (wr.alloc (.cells (relC x (.slice ra x.reqs.length rc)) 82)) wr.heap.size x (.slice ra x.reqs.length rc)):=zh (BoxR.made _ _ _)
   obtain⟨sv,hsv⟩:∃ sv,(f2 (.string x.path.data.toList)).getD (.slice none 0 0)=sv:=⟨_,rfl⟩
   have HSV:=zh hsv
   obtain⟨sn,sxs,hseg,hsn⟩:=HP.out.2.get (.string x.path.data.toList)
   rw [hsv]at hseg
   have HLT:=zh hseg.lt
   have HSG:=zh (hseg.far (by simp) (fun b hb=>(belQ wr (.cells (relC x (.slice ra x.reqs.length rc)) 82)).block b (hseg.lt b hb).2))
   have HP7:=zh (HP.out.below (belQ wr (.cells (relC x (.slice ra x.reqs.length rc)) 82)))
   clear hsv hseg HP
   have HH:Hid (w.heap.size+1+1+1+1+1≤wr.heap.size):=zh HJ.out.size
   clear HJ d0 d1 d2 d3 d4 d5 d6 d7 d8 hbw hbl
   simp only [relC]at HJ7 HG7 HSG HP7
   generalize wr.heap.size=g at *
   generalize wr.alloc (.cells #[.string x.path,intC x.ver.1,intC x.ver.2.1,intC x.ver.2.2,.slice ra x.reqs.length rc,.string x.ar,.string x.ifc,.string x.cert,.bool x.yk] 82)=W at *
   have HK:=zh (fun W=>zd9 x (.slice ra x.reqs.length rc) W)
   simp only [relC]at HK
   have HS:Hid (∀ W',RowKit.Below W.heap.size W W'→HeldB (w.heap.size+1+1+1+1) g (.map (some (w.heap.size+1+1))) x (.slice ra x.reqs.length rc) W'):=zh (fun W' hb=>⟨zw _ _ 0 _ _ _ (HJ7.out.below hb).tab,(HG7.out.on hb).cells⟩)
   refine wp_region_noPanic ?_
   refine z0j (S:=HeldB (w.heap.size+1+1+1+1) g (.map (some (w.heap.size+1+1))) x (.slice ra x.reqs.length rc)) 5 (by kernel_rfl) (by kernel_rfl) ?_
   simp only [List.take_succ_cons,List.take_zero]
   have hS0:=HS.out W.drew (RowKit.Below.refl _ _).drew
   refine zt 0 _ rfl ?_;simp only [zl1];refine zt 1 _ rfl ?_;simp only [zl1];refine zt 2 _ rfl ?_;simp only [zl1];refine zt 4 _ rfl ?_;simp only [zl1]
   refine zr 3 rfl fun K hK=>?_
   go_simp
   refine(HK.out _).mono ?_
   rintro e wq ⟨rfl,hbc⟩
   have HBC:=zh ((RowKit.Below.refl W.heap.size W).drew.trans hbc)
   refine hK.out _ _ (HS.out _ HBC.out) (fun _=>?_)
   clear hK K hS0 hbc
   (try simp only [zl1])
   refine wpAnyH_done (by kernel_rfl) ?_ _
   show wpList _ _ _ _ _ _
   simp only [List.drop_succ_cons,List.drop_zero]
   obtain⟨f1,hf1,hft⟩:=(HJ7.out.below HBC.out).rels
   have HFT:=zh hft
   have HKY:Hid (keyOf prog 53 (.agg #[.string x.path,intC x.ver.1,intC x.ver.2.1,intC x.ver.2.2])=some (keyS (keyL (X.getD k default)))):=zh (by have:=z9x HSB.out;rw [HXK.out]at this ⊢;exact this)
   refine z17 rfl _ _ _ _ rfl 53 82 lawSel underlying184 (w.heap.size+1+1) k f1 (by rfl) hf1 (by unfold maxLen;omega) _ _ (keyS (keyL (X.getD k default))) rfl rfl HKY.out ?_
   intro W8 h8 g8
   have HJ8:Hid (TabJ w X rv (.slice (some ⟨b,off,none⟩) X.length cap) iv (k+1) W8):=zh ((HJ7.out.below HBC.out).grown g8 (fun b hb=>by cases hb;omega) ⟨_,h8,by have:=HFT.out.step HXO.out hlt HSB.out;rw [HRK.out]at this;rw [HXK.out]at this ⊢;exact this⟩)
   have HG8:Hid (BoxR W8 g x (.slice ra x.reqs.length rc)):=zh ((g8.block g (HG7.out.on HBC.out).lt (by intro e;cases e;have:=HH.out;omega)).trans (HG7.out.on HBC.out))
   have HP8:Hid (PathJ w k f2 W8):=zh ⟨(HP7.out.below HBC.out).1.kept g8 (by simp),(HP7.out.below HBC.out).2.far g8.size (fun b hb hb2=>g8.block b hb2 (by intro e;cases e;omega))⟩
   have HSG8:Hid (SegC W8 (w.heap.size+1+1+1+1+1) 9 sv sn sxs):=zh (HSG.out.far (Nat.le_trans HBC.out.size g8.size) (fun b hb=>(g8.block b (Nat.lt_of_lt_of_le (HSG.out.lt b hb).2 HBC.out.size) (by intro e;cases e;have:=(HLT.out _ hb).1;omega)).trans (HBC.out.block b (HSG.out.lt b hb).2)))
   clear hf1 hft h8 g8 HS HK HFT HJ7 HG7 HP7 HSG HBC HKY
   refine NoPanic.normal ?_
   go_upto_region 9 with fail
   have HS:Hid (∀ W',RowKit.Below W8.heap.size W8 W'→HeldB (w.heap.size+1+1+1+1) g (.map (some (w.heap.size+1+1))) x (.slice ra x.reqs.length rc) W'∧W'.cell? ⟨w.heap.size+1+1+1+1,1,none⟩=some (.map (some (w.heap.size+1+1+1)))∧MapF prog 9 W' (w.heap.size+1+1+1) k f2) :=
    zh (fun W' hb=>⟨⟨zw _ _ 0 _ _ _ (HJ8.out.below hb).tab,(HG8.out.on hb).cells⟩,zw _ _ 1 _ _ _ (HJ8.out.below hb).tab,(HP8.out.below hb).1⟩)
   refine wp_region_noPanic ?_
   refine z0j (S:=fun W'=>HeldB (w.heap.size+1+1+1+1) g (.map (some (w.heap.size+1+1))) x (.slice ra x.reqs.length rc) W'∧W'.cell? ⟨w.heap.size+1+1+1+1,1,none⟩=some (.map (some (w.heap.size+1+1+1)))∧MapF prog 9 W' (w.heap.size+1+1+1) k f2) 12 (by kernel_rfl) (by kernel_rfl) ?_
   simp only [List.take_succ_cons,List.take_zero]
   have hS0:=HS.out W8.drew (RowKit.Below.refl _ _).drew
   refine zt 0 _ rfl ?_;simp only [zl1];refine zt 1 _ rfl ?_;simp only [zl1];refine zt 2 _ rfl ?_;simp only [zl1];refine zt 3 _ rfl ?_;simp only [zl1];refine zt 4 _ rfl ?_;simp only [zl1];refine zt 5 _ rfl ?_;simp only [zl1];refine zt 6 _ rfl ?_;simp only [zl1];refine zt 7 _ rfl ?_;simp only [zl1]
   refine wpAnyH_take (i:=8) (v:=sv) rfl (by kernel_rfl) (by kernel_rfl) (by kernel_rfl) (fun _ _ _ h=>h) ?look hS0 ?_
   case look =>
    rw [← HSV.out]
    exact zag rfl _ _ _ rfl 9 22 lawStr underlying185 (fun W=>zeroValue22 W) (w.heap.size+1+1+1) k f2 (by rfl) (fun W h=>h.2.2) (.string x.path) (.string x.path.data.toList) (by rfl) (keyStr hps)
   (try simp only [zl1])
   refine zt 9 _ rfl ?_;simp only [zl1]
   obtain⟨ki,hki,hkj⟩:=Option.map_eq_some_iff.1 zhw
   simp only [Prod.mk.injEq]at hkj
   obtain⟨hk1,hk2,hk3⟩:=hkj
   have HBS:Hid (RowKit.Below W8.heap.size W8 ((W8.alloc (.cells #[.string x.path,intC x.ver.1,intC x.ver.2.1,intC x.ver.2.2,.slice ra x.reqs.length rc,.string x.ar,.string x.ifc,.string x.cert,.bool x.yk] 82)).drew)):=zh ((RowKit.Below.refl _ _).alloc (zq _) _).drew
   refine zr 10 rfl fun K hK=>?_
   go_simp
   refine hK.out _ _ (HS.out _ HBS.out) (fun _=>?_)
   clear hK K hS0
   (try simp only [zl1])
   have HSG9:Hid (SegC ((W8.alloc (.cells #[.string x.path,intC x.ver.1,intC x.ver.2.1,intC x.ver.2.2,.slice ra x.reqs.length rc,.string x.ar,.string x.ifc,.string x.cert,.bool x.yk] 82)).drew) (w.heap.size+1+1+1+1+1) 9 sv sn sxs) :=
    zh (HSG8.out.far HBS.out.size (fun b hb=>HBS.out.block b (HSG8.out.lt b hb).2))
   have HN9:Hid (((W8.alloc (.cells #[.string x.path,intC x.ver.1,intC x.ver.2.1,intC x.ver.2.2,.slice ra x.reqs.length rc,.string x.ar,.string x.ifc,.string x.cert,.bool x.yk] 82)).drew).heap[W8.heap.size]? = some (.cells #[.string x.path,intC x.ver.1,intC x.ver.2.1,intC x.ver.2.2,.slice ra x.reqs.length rc,.string x.ar,.string x.ifc,.string x.cert,.bool x.yk] 82)):=zh (zn W8 _)
   have HJ9:=zh (HJ8.out.below HBS.out)
   have HG9:=zh (HG8.out.on HBS.out)
   have HP9:=zh (HP8.out.below HBS.out)
   have hz9:w.heap.size+1+1+1+1+1≤(W8.alloc (.cells #[.string x.path,intC x.ver.1,intC x.ver.2.1,intC x.ver.2.2,.slice ra x.reqs.length rc,.string x.ar,.string x.ifc,.string x.cert,.bool x.yk] 82)).drew.heap.size:=HJ9.out.size
   clear HS HJ8 HG8 HP8 HSG8
   generalize (W8.alloc (.cells #[.string x.path,intC x.ver.1,intC x.ver.2.1,intC x.ver.2.2,.slice ra x.reqs.length rc,.string x.ar,.string x.ifc,.string x.cert,.bool x.yk] 82)).drew=W9 at *
   refine zr 11 rfl fun K hK=>?_
   refine z64 (by rfl) _ _ _ _ (by rfl) 82 ki _ 120 9 underlying22 hki hk1 hk2 hk3 rfl (w.heap.size+1+1+1+1+1) sv sn sxs (by rfl) HSG9.out hz9 1 [.string x.path,intC x.ver.1,intC x.ver.2.1,intC x.ver.2.2,.slice ra x.reqs.length rc,.string x.ar,.string x.ifc,.string x.cert,.bool x.yk]
    (Src.ofSlice _ underlying22 ⟨W8.heap.size,0,none⟩ 1 1 _ rfl (World.news_of_block HN9.out) (by simp [Value.oneCell'])) (by unfold maxLen;omega) (by omega) ?_
   intro v10 W10 hs10 g10 hb10
   have hne:∀ b,segK sv=some b→w.heap.size+1+1+1+1<b∧b<g:=fun b hb=>by have:=HLT.out b hb;omega
   have HJ10:Hid (TabJ w X rv (.slice (some ⟨b,off,none⟩) X.length cap) iv (k+1) W10):=zh (HJ9.out.grown g10 (fun b hb=>by have:=hne b hb;omega) (by
    obtain⟨f,h1,h2⟩:=HJ9.out.rels
    exact⟨f,h1.kept g10 (fun e=>by have:=hne _ e.symm;omega),h2⟩))
   have HG10:Hid (BoxR W10 g x (.slice ra x.reqs.length rc)):=zh ((g10.block g HG9.out.lt (fun e=>by have:=hne _ e.symm;omega)).trans HG9.out)
   have hm10:MapF prog 9 W10 (w.heap.size+1+1+1) k f2:=HP9.out.1.kept g10 (fun e=>by have:=hne _ e.symm;omega)
   have HP10:Hid (PathsI W10 (w.heap.size+1+1+1+1+1) 9 (k+1) (putF f2 (.string x.path.data.toList) v10)):=zh (HP9.out.2.put hs10 hsn (by rw [HSV.out];exact g10) (by rw [HSV.out];exact hb10))
   refine hK.out _ _ ⟨⟨zw _ _ 0 _ _ _ HJ10.out.tab,HG10.out.cells⟩,zw _ _ 1 _ _ _ HJ10.out.tab,hm10⟩ (fun _=>?_)
   clear hK K hs10 g10 hb10 hne HJ9 HG9 HP9 HSG9 HN9
   (try simp only [zl1])
   refine wpAnyH_done (by kernel_rfl) ?_ _
   show wpList _ _ _ _ _ _
   simp only [List.drop_succ_cons,List.drop_zero]
   refine z17 rfl _ _ _ _ rfl 9 22 lawStr underlying185 (w.heap.size+1+1+1) k f2 (by rfl) hm10 (by unfold maxLen;omega) _ _ (.string x.path.data.toList) rfl rfl (keyStr hps) ?_
   intro W11 h11 g11
   have HJ11:Hid (TabJ w X rv (.slice (some ⟨b,off,none⟩) X.length cap) iv (k+1) W11):=zh (HJ10.out.grown g11 (fun b hb=>by cases hb;omega) (by
    obtain⟨f,h1,h2⟩:=HJ10.out.rels
    exact⟨f,h1.kept g11 (by simp),h2⟩))
   have HP11:Hid (∃ f2,PathJ w (k+1) f2 W11):=zh ⟨_,h11,HP10.out.far g11.size (fun b hb hb2=>g11.block b hb2 (by intro e;cases e;omega))⟩
   clear h11 g11 hm10 HJ10 HP10
   refine NoPanic.normal ?_
   go_wp2_with fail
   go_roundw
   case rel=>exact⟨k+1,by omega,by go_num,HJ11,HP11⟩
   case measure=>simp [intOf];omega
end
section
open Go.Proofs.Tryz Go Go.RowKit Go.Shelf Go.Lib
def cloRenS:Ren:=⟨fun _=>172,fun x=>if x=22 then 87 else if x=23 then 100 else 4,fun x=>x⟩
theorem cloLaysS:SlLaysE0.n41 prog cloRenS:={
 mixed:=by kernel_rfl
 f41:=⟨Tryz.f172.name,by decide,func172.trans (congrArg some (by kernel_rfl))⟩
 t4:=underlying4
 a4:=isAgg4
 z4:=sizeOf4
 v4:=zeroValue4
 t22:=underlying87
 a22:=isAgg87
 z22:=sizeOf87
 v22:=zeroValue87 }
theorem zba:(prog.info? 89).map (fun i=>(i.zero,i.size,i.bytes))=some (some (.agg #[.string ⟨#[]⟩,.slice none 0 0]),2,40):=by kernel_rfl
theorem zgb {B b off cap:Nat}{l:List ReqL}{W:World}(h:ReqsOf B (.slice (some ⟨b,off,none⟩) l.length cap) l W) :
  ∃ xs:List Value,xs.length=l.length*2∧(∀ j u,xs[j]? = some u→W.cell? ⟨b,off+j,none⟩=some u)∧∀ i q,l[i]? = some q→∃ r,xs[i*2]? = some (.string q.1)∧xs[i*2+1]? = some r∧SpansOf B r q.2 W:=by
 obtain⟨ao,c,e,h⟩:=h
 cases e
 refine⟨(List.range (l.length*2)).map fun j=>(W.cell? ⟨b,off+j,none⟩).getD undef,by simp,fun j u hu=>?_,fun i q hq=>?_⟩
 ·rw [List.getElem?_map]at hu
  obtain⟨j',hj',rfl⟩:=Option.map_eq_some_iff.1 hu
  obtain⟨hjl,rfl⟩:=List.getElem?_eq_some_iff.1 hj'
  simp only [List.length_range]at hjl
  rw [List.getElem_range]
  obtain⟨b',off',r,e,_,h1,h2,_⟩:=h (j / 2) l[j / 2] (by simp<;>omega)
  cases e
  rcases Nat.mod_two_eq_zero_or_one j with hm | hm
  ·have e2:off+j=off+j / 2*2:=by omega
   rw [e2,h1];rfl
  ·have e2:off+j=off+j / 2*2+1:=by omega
   rw [e2,h2];rfl
 ·obtain⟨b',off',r,e,_,h1,h2,h3⟩:=h i q hq
  cases e
  have hi:=(zc hq)
  refine⟨r,?_,?_,h3⟩
  ·rw [List.getElem?_map,List.getElem?_range (by omega)]
   simp only [Option.map_some]
   rw [h1];rfl
  ·rw [List.getElem?_map,List.getElem?_range (by omega)]
   simp only [Option.map_some]
   rw [← Nat.add_assoc,h2];rfl
theorem zfj (v:Value)(s:List (Int×Int))(w:World)(hs:s.length≤1000000)(hS:SpansOf w.heap.size v s w) :
  Calls prog 172 #[v] w fun e w'=>∃ v',e=.returned v'∧w'.ownsRow w.heap.size 100 2 v' s.length (spanCells s)∧Below w.heap.size w w':=by
 obtain⟨ao,cap,rfl,h⟩:=hS
 by_cases h0:s=[]
 ·subst h0
  clear h hs
  cases ao with
  | none =>
   refine(AnyE.slices_Clone_nil cloLaysS 0 cap w).mono ?_
   rintro e w' ⟨rfl,rfl⟩
   exact⟨_,rfl,World.ownsRow_nil _ _ _ _,Below.refl _ _⟩
  | some a =>
   have hq:(binOp .eql 87 (.slice (some a) 0 cap) (.slice none 0 0)).run prog w=.ok (.bool false) w:=Lib.run_eql_slice_nil w _ _ (some a) 0 cap 0 0 underlying87
   go_enter func172,ntmps172
   go_wp2_with fail
   go_ret
   exact⟨_,rfl,⟨rfl,.inr ⟨w.heap.size,0,#[],rfl,zq _,zn _ _,zq _,by decide,rfl,rfl⟩⟩,belQ _ _⟩
 ·have hp:0<s.length:=List.length_pos_iff.2 h0
  obtain⟨b,off,rfl,_⟩:=h 0 s[0] (by simp [hp])
  obtain⟨i0,hi,hz0,hz1,hz2⟩:=info_parts z5e
  refine AnyE.slices_Clone cloLaysS i0 _ 2 16 hi hz0 hz1 hz2 rfl (by decide) sizeOf100 b off s.length cap (spanCells s) w (z0a s) (by unfold maxLen;omega) (by omega) (fun j u hu=>?_) (fun u hu=>?_) |>.mono ?_
  ·have hj:=(zc hu)
   rw [z0a]at hj
   obtain⟨b',off',e,_,h1,h2⟩:=h (j / 2) s[j / 2] (by simp<;>omega)
   cases e
   obtain⟨g1,g2⟩:=z0u s (j / 2) s[j / 2] (by simp<;>omega)
   rcases Nat.mod_two_eq_zero_or_one j with hm | hm
   ·have e2:j=j / 2*2:=by omega
    rw [e2,g1]at hu
    rw [e2,h1,hu]
   ·have e2:j=j / 2*2+1:=by omega
    rw [e2,g2]at hu
    rw [e2,← Nat.add_assoc,h2,hu]
  ·obtain⟨x,_,hx⟩:=List.mem_flatMap.1 hu
   rcases List.mem_cons.1 hx with rfl | hx
   ·rfl
   ·rw [List.mem_singleton.1 hx];rfl
  ·rintro e w' ⟨v',rfl,h1,_,h2⟩
   exact⟨v',rfl,h1,h2⟩
def ReqXs (B:Nat)(l:List ReqL)(xs:List Value)(W:World):Prop:=∀ i q,l[i]? = some q→∃ r,xs[i*2]? = some (.string q.1)∧xs[i*2+1]? = some r∧SpansOf B r q.2 W
theorem ReqXs.below {B B':Nat}{l:List ReqL}{xs:List Value}{W W':World}(h:ReqXs B l xs W)(hb:Below B' W W')(hB:B≤B'):ReqXs B l xs W':=fun i q hq=>by
 obtain⟨r,h1,h2,h3⟩:=h i q hq
 exact⟨r,h1,h2,h3.below hb hB⟩
end
end Go.Proofs.YtapbhoodgnmnkaaGreatDoor
