/- Laws and contracts. -/
import Derived.Test.YtapbhoodgnmnkaaGreatDoorJF
set_option linter.unusedVariables false
set_option linter.unusedSimpArgs false
set_option maxRecDepth 100000
set_option maxHeartbeats 32000000
namespace Go.Proofs.YtapbhoodgnmnkaaGreatDoor
open Go.Proofs.Tryz Go Go.RowKit Go.Maps
theorem z07 {B:Nat}{e:TypeId}{c:Nat}{v:Value}{n:Nat}{xs:List Value}{W W':World}(h:W.ownsRow B e c v n xs)(hb:RowKit.Below W.heap.size W W'):W'.ownsRow B e c v n xs:=by
 obtain⟨hl,h | ⟨g,cap,cur,rfl,h1,h2,h3⟩⟩:=h
 ·exact⟨hl,.inl h⟩
 ·exact⟨hl,.inr ⟨g,cap,cur,rfl,h1,(hb.block g (zb h2)).trans h2,h3⟩⟩
theorem z0g {B:Nat}{e:TypeId}{c:Nat}{v:Value}{n:Nat}{xs:List Value}{W:World}(h:W.ownsRow B e c v n xs):∀ b,v.ownBlock=some b→B≤b∧b<W.heap.size∧∃ cs,W.heap[b]? = some (.cells cs e (0,0)):=fun b hb=>by
 obtain⟨hl,⟨rfl,_⟩ | ⟨g,cap,cur,rfl,h1,h2,h3⟩⟩:=h
 ·cases hb
 ·simp [Value.ownBlock]at hb
  subst hb
  exact⟨h1,(zb h2),cur,h2⟩
theorem z3k {B B':Nat}{e e':TypeId}{c c':Nat}{v v':Value}{n n':Nat}{xs xs':List Value}{W:World}(h:W.ownsRow B e c v n xs)(h':W.ownsRow B' e' c' v' n' xs')(hne:e≠e'):v.ownBlock=none∨v.ownBlock≠v'.ownBlock:=by
 cases hv:v.ownBlock with
 | none=>exact .inl rfl
 | some b =>
  refine .inr fun hb=>?_
  obtain⟨_,_,cs,h1⟩:=z0g h b hv
  obtain⟨_,_,cs',h2⟩:=z0g h' b hb.symm
  rw [h1]at h2
  injection h2 with h2
  injection h2 with _ h2
  exact hne h2
def setRel (W:World)(g:Nat)(x:RelL)(r:Value):World:=((((((((W.setCell ⟨g,0,none⟩ (.string x.path)).setCell ⟨g,1,none⟩ (.int .i64 x.ver.1)).setCell ⟨g,2,none⟩ (.int .i64 x.ver.2.1)).setCell ⟨g,3,none⟩ (.int .i64 x.ver.2.2)).setCell ⟨g,4,none⟩ r).setCell ⟨g,5,none⟩ (.string x.ar)).setCell ⟨g,6,none⟩ (.string x.ifc)).setCell ⟨g,7,none⟩ (.string x.cert)).setCell ⟨g,8,none⟩ (.bool x.yk)
theorem z1h {W:World}{g:Nat}{t:TypeId}{c0 c1 c2 c3 c4 c5 c6 c7 c8:Value}(x:RelL)(r:Value)(h0:W.heap[g]? = some (.cells #[c0,c1,c2,c3,c4,c5,c6,c7,c8] t (0,0))):(setRel W g x r).heap[g]? = some (.cells (relC x r) t (0,0)):=by
 have h1:=heap_setCell_same _ g 0 #[c0,c1,c2,c3,c4,c5,c6,c7,c8] t (.string x.path) h0
 have h2:=heap_setCell_same _ g 1 #[.string x.path,c1,c2,c3,c4,c5,c6,c7,c8] t (.int .i64 x.ver.1) h1
 have h3:=heap_setCell_same _ g 2 #[.string x.path,.int .i64 x.ver.1,c2,c3,c4,c5,c6,c7,c8] t (.int .i64 x.ver.2.1) h2
 have h4:=heap_setCell_same _ g 3 #[.string x.path,.int .i64 x.ver.1,.int .i64 x.ver.2.1,c3,c4,c5,c6,c7,c8] t (.int .i64 x.ver.2.2) h3
 have h5:=heap_setCell_same _ g 4 #[.string x.path,.int .i64 x.ver.1,.int .i64 x.ver.2.1,.int .i64 x.ver.2.2,c4,c5,c6,c7,c8] t (r) h4
 have h6:=heap_setCell_same _ g 5 #[.string x.path,.int .i64 x.ver.1,.int .i64 x.ver.2.1,.int .i64 x.ver.2.2,r,c5,c6,c7,c8] t (.string x.ar) h5
 have h7:=heap_setCell_same _ g 6 #[.string x.path,.int .i64 x.ver.1,.int .i64 x.ver.2.1,.int .i64 x.ver.2.2,r,.string x.ar,c6,c7,c8] t (.string x.ifc) h6
 have h8:=heap_setCell_same _ g 7 #[.string x.path,.int .i64 x.ver.1,.int .i64 x.ver.2.1,.int .i64 x.ver.2.2,r,.string x.ar,.string x.ifc,c7,c8] t (.string x.cert) h7
 have h9:=heap_setCell_same _ g 8 #[.string x.path,.int .i64 x.ver.1,.int .i64 x.ver.2.1,.int .i64 x.ver.2.2,r,.string x.ar,.string x.ifc,.string x.cert,c8] t (.bool x.yk) h8
 exact h9
theorem z0e (W:World)(g j:Nat)(v:Value):W.grownBy (W.setCell ⟨g,j,none⟩ v) (some g) :=
 ⟨rfl,rfl,rfl,Nat.le_of_eq (World.size_setCell W _ v).symm,fun k _ hne=>heap_setCell_other W ⟨g,j,none⟩ k v (fun e=>hne (by rw [e]))⟩
theorem z15 {a b c:World}{r:Option Nat}(h:a.grownBy b r)(k:b.grownBy c r):a.grownBy c r :=
 ⟨k.os.trans h.os,k.tape.trans h.tape,k.output.trans h.output,Nat.le_trans h.size k.size,fun i hi hne=>(k.block i (Nat.lt_of_lt_of_le hi h.size) hne).trans (h.block i hi hne)⟩
theorem z11 (W:World)(g:Nat)(x:RelL)(r:Value):W.grownBy (setRel W g x r) (some g):=by
 exact z15 (z15 (z15 (z15 (z15 (z15 (z15 (z15 (z0e _ _ _ _) (z0e _ _ _ _)) (z0e _ _ _ _)) (z0e _ _ _ _)) (z0e _ _ _ _)) (z0e _ _ _ _)) (z0e _ _ _ _)) (z0e _ _ _ _)) (z0e _ _ _ _)
theorem zir {W:World}{B:Nat}{v:Value}{l:List ReqL}{xs:List Value}(h:W.ownsRow B 89 2 v l.length xs)(he:ReqXs W.heap.size l xs W):ReqsOf W.heap.size v l W:=by
 obtain⟨hl,⟨rfl,h0⟩ | ⟨g,cap,cur,rfl,h1,h2,h3,h4,h5,h6⟩⟩:=h
 ·obtain rfl:=List.length_eq_zero_iff.1 h0
  exact⟨none,0,rfl,fun i q hq=>by simp at hq⟩
 ·refine⟨_,cap,rfl,fun i q hq=>?_⟩
  obtain⟨r,g1,g2,g3⟩:=he i q hq
  have hi:=(zc hq)
  have key:∀ j u,xs[j]? = some u→W.cell? ⟨g,j,none⟩=some u:=fun j u hu=>by
   have hj:=(zc hu)
   rw [zw _ _ _ _ _ _ h2,← hu,← h6,List.getElem?_take,if_pos (by omega)]
   simp
  exact⟨g,0,r,rfl,(zb h2),by rw [Nat.zero_add];exact key _ _ g1,by rw [Nat.zero_add];exact key _ _ g2,g3⟩
def ReqRows (B:Nat)(v:Value)(l:List ReqL)(W:World):Prop:=∃ xs,W.ownsRow B 89 2 v l.length xs∧∀ i q,l[i]? = some q→∃ sv,xs[i*2]? = some (.string q.1)∧xs[i*2+1]? = some sv∧W.ownsRow B 100 2 sv q.2.length (spanCells q.2)
theorem ReqRows.now {B:Nat}{v:Value}{l:List ReqL}{W:World}(h:ReqRows B v l W):ReqsOf W.heap.size v l W:=by
 obtain⟨xs,h1,h2⟩:=h
 exact zir h1 (fun i q hq=>by
  obtain⟨sv,g1,g2,g3⟩:=h2 i q hq
  exact⟨sv,g1,g2,zby g3⟩)
theorem ReqRows.map {B B':Nat}{v:Value}{l:List ReqL}{W W':World}(h:ReqRows B v l W)(k:∀ e c v n xs,e=89∨e=100→W.ownsRow B e c v n xs→W'.ownsRow B' e c v n xs):ReqRows B' v l W':=by
 obtain⟨xs,h1,h2⟩:=h
 refine⟨xs,k _ _ _ _ _ (.inl rfl) h1,fun i q hq=>?_⟩
 obtain⟨sv,g1,g2,g3⟩:=h2 i q hq
 exact⟨sv,g1,g2,k _ _ _ _ _ (.inr rfl) g3⟩
theorem ReqRows.below {B:Nat}{v:Value}{l:List ReqL}{W W':World}(h:ReqRows B v l W)(hb:RowKit.Below W.heap.size W W'):ReqRows B v l W':=h.map fun _ _ _ _ _ _ h=>z07 h hb
theorem ReqRows.grown {B:Nat}{v:Value}{l:List ReqL}{W W':World}{row:Option Nat}(h:ReqRows B v l W)(hg:W.grownBy W' row)(hr:∀ b,row=some b→b<B∨∃ cs e,W.heap[b]? = some (.cells cs e (0,0))∧e≠89∧e≠100):ReqRows B v l W':=h.map fun e c v n xs he h=>h.kept hg (by
 cases hv:v.ownBlock with
 | none=>exact .inl rfl
 | some b =>
  refine .inr fun e2=>?_
  obtain⟨h1,_,cs,h2⟩:=z0g h b hv
  rcases hr b e2.symm with h3 | ⟨cs',e',h3,h4,h5⟩
  ·omega
  ·rw [h2]at h3
   injection h3 with h3
   injection h3 with _ h3
   rcases he with rfl | rfl
   ·exact h4 h3.symm
   ·exact h5 h3.symm)
structure CloJ (w:World)(x:RelL)(k:Nat)(ov:Value)(xs:List Value)(W:World):Prop where
 bel:RowKit.Below w.heap.size w W
 size:w.heap.size+1<W.heap.size
 box:BoxR W w.heap.size x ov
 res:BoxR W (w.heap.size+1) default (.slice none 0 0)
 row:W.ownsRow (w.heap.size+1+1) 89 2 ov k xs
 els:∀ i q,i<k→x.reqs[i]? = some q→∃ sv,xs[i*2]? = some (.string q.1)∧xs[i*2+1]? = some sv∧W.ownsRow (w.heap.size+1+1) 100 2 sv q.2.length (spanCells q.2)
theorem CloJ.below {w:World}{x:RelL}{k:Nat}{ov:Value}{xs:List Value}{W W':World}(h:CloJ w x k ov xs W)(hb:RowKit.Below W.heap.size W W'):CloJ w x k ov xs W':=by
 obtain⟨h1,h2,h3,h4,h5,h6⟩:=h
 refine⟨h1.trans (hb.mono h1.size),Nat.lt_of_lt_of_le h2 hb.size,h3.on hb,h4.on hb,z07 h5 hb,fun i q hi hq=>?_⟩
 obtain⟨sv,g1,g2,g3⟩:=h6 i q hi hq
 exact⟨sv,g1,g2,z07 g3 hb⟩
theorem z69 {B B':Nat}{e:TypeId}{c:Nat}{v:Value}{n:Nat}{xs:List Value}{W:World}(h:W.ownsRow B e c v n xs)(hB:B'≤B):W.ownsRow B' e c v n xs:=by
 obtain⟨hl,h | ⟨g,cap,cur,rfl,h1,h2⟩⟩:=h
 ·exact⟨hl,.inl h⟩
 ·exact⟨hl,.inr ⟨g,cap,cur,rfl,by omega,h2⟩⟩
theorem z1q {B:Nat}{e:TypeId}{c:Nat}{v:Value}{n:Nat}{xs:List Value}{W W':World}{g:Nat}(h:W.ownsRow B e c v n xs)(hg:W.grownBy W' (some g))(hB:g<B):W'.ownsRow B e c v n xs:=h.kept hg (by
 cases hv:v.ownBlock with
 | none=>exact .inl rfl
 | some b=>exact .inr (fun e2=>by have:=(z0g h b hv).1;injection e2 with e2;omega))
theorem CloJ.step {w:World}{x:RelL}{k:Nat}{ov v' sv:Value}{xs:List Value}{W5 W6:World}{q:ReqL}(h:CloJ w x k ov xs W5)(hq:x.reqs[k]? = some q)(hn:W5.ownsRow (w.heap.size+1+1) 100 2 sv q.2.length (spanCells q.2))
  (hown:W6.ownsRow (w.heap.size+1+1) 89 2 v' (k+1) (xs++[.string q.1,sv])) (hg:W5.grownBy W6 ov.ownBlock):CloJ w x (k+1) v' (xs++[.string q.1,sv]) (W6.setCell ⟨w.heap.size,4,none⟩ v'):=by
 obtain⟨h1,h2,h3,h4,h5,h6⟩:=h
 have hl:=h5.1
 have lo:∀ b,some b=ov.ownBlock→w.heap.size+1<b:=fun b hb=>by have:=(z0g h5 b hb.symm).1;omega
 have g2:=z0e W6 w.heap.size 4 v'
 have keep:∀ v n xs,W5.ownsRow (w.heap.size+1+1) 100 2 v n xs→(W6.setCell ⟨w.heap.size,4,none⟩ v').ownsRow (w.heap.size+1+1) 100 2 v n xs:=fun v n xs hr =>
  z1q (hr.kept hg (z3k hr h5 (by decide))) g2 (by omega)
 refine⟨(h1.grown hg (by omega) (fun b hb=>by have:=lo b hb.symm;omega)).setCell (by simp) _,by rw [World.size_setCell];exact Nat.lt_of_lt_of_le h2 hg.size,?_,?_,z1q hown g2 (by omega),fun i q' hi hq'=>?_⟩
 ·have hb:=(hg.block w.heap.size (by omega) (fun e=>by have:=lo _ e;omega)).trans h3
  exact heap_setCell_same _ _ 4 _ _ v' hb
 ·have hb:=(hg.block (w.heap.size+1) h2 (fun e=>by have:=lo _ e;omega)).trans h4
  exact(g2.block _ (Nat.lt_of_lt_of_le h2 hg.size) (fun e=>by injection e with e;omega)).trans hb
 ·by_cases hik:i=k
  ·subst hik
   rw [hq]at hq'
   cases hq'
   refine⟨sv,?_,?_,keep _ _ _ hn⟩
   ·rw [List.getElem?_append_right (by omega),hl,Nat.sub_self];rfl
   ·rw [List.getElem?_append_right (by omega),hl,show i*2+1 - i*2=1 by omega];rfl
  ·obtain⟨s0,e1,e2,e3⟩:=h6 i q' (by omega) hq'
   exact⟨s0,by rw [List.getElem?_append_left (by omega)];exact e1,by rw [List.getElem?_append_left (by omega)];exact e2,keep _ _ _ e3⟩
theorem relC_at (x:RelL)(r:Value):relC x r=#[.string x.path,intC x.ver.1,intC x.ver.2.1,intC x.ver.2.2,r,.string x.ar,.string x.ifc,.string x.cert,.bool x.yk]:=rfl
theorem zhb (x:RelL)(r:Value)(w:World)(hl:x.reqs.length≤1000000)(hq:∀ q∈x.reqs,q.2.length≤1000000)(hR:ReqsOf w.heap.size r x.reqs w) :
  Calls prog 141 #[.agg (relC x r)] w fun e w'=>∃ r',e=.returned (.agg (relC x r'))∧ReqRows w.heap.size r' x.reqs w'∧RowKit.Below w.heap.size w w':=by
 obtain⟨ao,cap,rfl,hR⟩:=hR
 have HR:=zh hR
 have HQ:=zh hq
 clear hR hq
 have HB0:Hid (CloJ w x 0 (.slice none 0 0) [] ((w.alloc (.cells (relC x (.slice none 0 0)) 82)).alloc (.cells (relC default (.slice none 0 0)) 82))):=zh (by
  refine⟨((RowKit.Below.refl _ _).alloc (zq _) _).alloc (by simp) _,by simp only [World.size_alloc];omega,(BoxR.made w x _).on (belQ _ _),?_,World.ownsRow_nil _ _ _ _,fun i q hi=>absurd hi (Nat.not_lt_zero _)⟩
  have:=BoxR.made (w.alloc (.cells (relC x (.slice none 0 0)) 82)) default (.slice none 0 0)
  rwa [World.size_alloc]at this)
 have hz:((default:RelL).path=⟨#[]⟩∧(default:RelL).ver=(0,0,0)):=⟨rfl,rfl⟩
 simp only [relC_at,show(default:RelL).path=⟨#[]⟩from rfl,show(default:RelL).ver=(0,0,0)from rfl,show(default:RelL).ar=⟨#[]⟩from rfl,show(default:RelL).ifc=⟨#[]⟩from rfl,show(default:RelL).cert=⟨#[]⟩from rfl,show(default:RelL).yk=false from rfl]at HB0 ⊢
 clear hz
 obtain⟨i0,hi0,hz0,hz1,hz2⟩:=info_parts zba
 go_enter func141,ntmps141
 go_upto_region 4 with fail
 generalize (w.alloc (.cells #[.string x.path,intC x.ver.1,intC x.ver.2.1,intC x.ver.2.2,.slice none 0 0,.string x.ar,.string x.ifc,.string x.cert,.bool x.yk] 82)).alloc (.cells #[.string ⟨#[]⟩,.int .i64 0,.int .i64 0,.int .i64 0,.slice none 0 0,.string ⟨#[]⟩,.string ⟨#[]⟩,.string ⟨#[]⟩,.bool false] 82)=W0 at *
 go_loopw [11] (fun p wr=>∃ k:Nat,k≤x.reqs.length∧p=.int .i64 k∧Hid (∃ ov xs,CloJ w x k ov xs wr)) (fun p _=>x.reqs.length - (intOf p).toNat)
 case atStart=>exact⟨0,Nat.zero_le _,rfl,zh ⟨_,_,HB0.out⟩⟩
 case round =>
  obtain⟨k,hk,rfl,HE⟩:=hrel
  obtain⟨ov,xs,hj⟩:=HE.out
  have HJ:=zh hj
  clear HE
  obtain⟨a0,a1,a2,a3,a4,a5,a6,a7,a8⟩:=hj.box.cells
  clear hj
  by_cases hlt:k<x.reqs.length
  case neg =>
   have hk2:k=x.reqs.length:=by omega
   subst hk2
   obtain⟨b0,b1,b2,b3,b4,b5,b6,b7,b8⟩:=HJ.out.res.cells
   have F:∀ j,wr.frozen? ⟨w.heap.size+1,j,none⟩=false:=fun j=>frozen_of_row _ _ j _ _ HJ.out.res
   have f0:=F 0
   have f1:=F 1
   have f2:=F 2
   have f3:=F 3
   have f4:=F 4
   have f5:=F 5
   have f6:=F 6
   have f7:=F 7
   have f8:=F 8
   clear F
   simp only [show(default:RelL).path=⟨#[]⟩from rfl,show(default:RelL).ver=(0,0,0)from rfl,show(default:RelL).ar=⟨#[]⟩from rfl,show(default:RelL).ifc=⟨#[]⟩from rfl,show(default:RelL).cert=⟨#[]⟩from rfl,show(default:RelL).yk=false from rfl]at b0 b1 b2 b3 b4 b5 b6 b7 b8
   obtain⟨oa,oc,rfl⟩:∃ oa oc,ov=.slice oa x.reqs.length oc:=by
    obtain⟨hl,⟨rfl,h0⟩ | ⟨g,cap,cur,rfl,_⟩⟩:=HJ.out.row
    ·exact⟨none,0,by rw [h0]⟩
    ·exact⟨_,_,rfl⟩
   go_wp2_with fail
   have hg:=z11 wr (w.heap.size+1) x (.slice oa x.reqs.length oc)
   have hbox:=z1h x (.slice oa x.reqs.length oc) HJ.out.res
   have hbel:RowKit.Below w.heap.size w (setRel wr (w.heap.size+1) x (.slice oa x.reqs.length oc)):=HJ.out.bel.grown hg HJ.out.bel.size (fun b hb=>by cases hb;omega)
   have ne:∀ e c v n xs,wr.ownsRow (w.heap.size+1+1) e c v n xs→(setRel wr (w.heap.size+1) x (.slice oa x.reqs.length oc)).ownsRow (w.heap.size+1+1) e c v n xs:=fun e c v n xs h=>h.kept hg (by
    cases hv:v.ownBlock with
    | none=>exact .inl rfl
    | some b=>exact .inr (fun e2=>by have:=(z0g h b hv).1;injection e2 with e2;omega))
   have hreq:ReqRows w.heap.size (.slice oa x.reqs.length oc) x.reqs (setRel wr (w.heap.size+1) x (.slice oa x.reqs.length oc)):=by
    refine⟨xs,z69 (ne _ _ _ _ _ HJ.out.row) (by omega),fun i q hq=>?_⟩
    obtain⟨sv,g1,g2,g3⟩:=HJ.out.els i q (zc hq) hq
    exact⟨sv,g1,g2,z69 (ne _ _ _ _ _ g3) (by omega)⟩
   unfold setRel at hg hbox hbel hreq
   clear hg ne
   refine bodyPost_ret (results_cell_row rfl _ _ (w.heap.size+1) _ _ _ _ rfl hbox underlying82 rfl (by kernel_rfl)) rfl ?_
   exact⟨.slice oa x.reqs.length oc,rfl,hreq,hbel⟩
  case pos =>
   obtain⟨b,off,sv,rfl,hbl,d0,d1,hsp⟩:=HR.out k x.reqs[k] (by simp [hlt])
   have hql:=HQ.out x.reqs[k] (List.getElem_mem hlt)
   have HXK:Hid (x.reqs[k]? = some x.reqs[k]):=zh (ze hlt)
   generalize x.reqs[k]=q at *
   have HC:=zh (fun W (hb:RowKit.Below w.heap.size w W)=>zfj sv q.2 W hql ((hsp.below hb (zq _)).mono hb.size))
   obtain⟨sa,sc,rfl,_⟩:=hsp
   have hbw:b<wr.heap.size:=Nat.lt_of_lt_of_le hbl HJ.out.bel.size
   have d0:=(HJ.out.bel.cell (p:=⟨b,off+k*2,none⟩) hbl).trans d0
   have d1:=(HJ.out.bel.cell (p:=⟨b,off+k*2+1,none⟩) hbl).trans d1
   have HB1:=zh (HJ.out.bel.trans ((belQ wr (.cells #[.string q.1,.slice sa q.2.length sc] 89)).mono HJ.out.bel.size))
   have HJ1:=zh (HJ.out.below (belQ wr (.cells #[.string q.1,.slice sa q.2.length sc] 89)))
   have HN1:=zh (zn wr (.cells #[.string q.1,.slice sa q.2.length sc] 89))
   have HL:=zh hlt
   go_wp2_with fail
   refine(HC.out _ HB1.out).mono ?_
   rintro e w3 ⟨v3,rfl,hrow3,hb3⟩
   have HJ3:=zh (HJ1.out.below hb3)
   have HN3:=zh ((hb3.block wr.heap.size (by simp)).trans HN1.out)
   have HR3:=zh hrow3
   have hs3:=hb3.size
   simp only [World.size_alloc]at hs3
   obtain⟨va,vc,rfl⟩:∃ va vc,v3=.slice va q.2.length vc:=by
    obtain⟨hl,⟨rfl,h0⟩ | ⟨g,cap,cur,rfl,_⟩⟩:=hrow3
    ·exact⟨none,0,by rw [h0]⟩
    ·exact⟨_,_,rfl⟩
   have HG4:Hid (w3.grownBy (w3.setCell ⟨wr.heap.size,1,none⟩ (.slice va q.2.length vc)) (some wr.heap.size)):=zh (z0e _ _ _ _)
   have HN4:=zh (heap_setCell_same w3 wr.heap.size 1 _ _ (.slice va q.2.length vc) HN3.out)
   have hg0:w.heap.size+1<wr.heap.size:=HJ.out.size
   have F1:w3.cell? ⟨wr.heap.size,1,none⟩=some (.slice sa q.2.length sc):=zw _ _ 1 _ _ _ HN3.out
   have F2:=frozen_of_row _ _ 1 _ _ HN3.out
   have HJ4:=zh (HJ.out.below (((belQ wr (.cells #[.string q.1,.slice sa q.2.length sc] 89)).trans (hb3.mono (by simp))).setCell (show wr.heap.size≤(⟨wr.heap.size,1,none⟩:Addr).block from zq _) (.slice va q.2.length vc)))
   have HR4:Hid ((w3.setCell ⟨wr.heap.size,1,none⟩ (.slice va q.2.length vc)).ownsRow (w.heap.size+1+1) 100 2 (.slice va q.2.length vc) q.2.length (spanCells q.2)):=zh (z69 (z1q HR3.out HG4.out (by simp)) (by simp;omega))
   clear hb3 d0 d1 hbw a0 a1 a2 a3 a4 a5 a6 a7 a8
   generalize wr.heap.size=g5 at *
   obtain⟨e0,e1,e2,e3,e4,e5,e6,e7,e8⟩:=HJ3.out.box.cells
   have F3:=HN4.out
   have F4:(w3.setCell ⟨g5,1,none⟩ (.slice va q.2.length vc)).cell? ⟨g5,0,none⟩=some (.string q.1):=zw _ _ 0 _ _ _ HN4.out
   have F5:(w3.setCell ⟨g5,1,none⟩ (.slice va q.2.length vc)).cell? ⟨g5,1,none⟩=some (.slice va q.2.length vc):=zw _ _ 1 _ _ _ HN4.out
   clear F3
   go_upto_region 7 with fail
   generalize w3.setCell ⟨g5,1,none⟩ (.slice va q.2.length vc)=W4 at *
   clear F1 F2 e0 e1 e2 e3 e4 e5 e6 e7 e8
   obtain⟨e0,e1,e2,e3,e4,e5,e6,e7,e8⟩:=HJ4.out.box.cells
   have f4:=frozen_of_row _ _ 4 _ _ HJ4.out.box
   have HJ5:=zh (HJ4.out.below (belQ W4 (.cells #[.string q.1,.slice va q.2.length vc] 89)))
   have HR5:=zh (z07 HR4.out (belQ W4 (.cells #[.string q.1,.slice va q.2.length vc] 89)))
   have HN5:=zh (zn W4 (.cells #[.string q.1,.slice va q.2.length vc] 89))
   have HBX:Hid (∀ w6,(W4.alloc (.cells #[.string q.1,.slice va q.2.length vc] 89)).grownBy w6 ov.ownBlock→BoxR w6 w.heap.size x ov):=zh (fun w6 hg=>(hg.block w.heap.size HJ5.out.box.lt (fun e=>by have:=(z0g HJ5.out.row _ e.symm).1;omega)).trans HJ5.out.box)
   have hz5:w.heap.size+1+1≤(W4.alloc (.cells #[.string q.1,.slice va q.2.length vc] 89)).heap.size:=HJ5.out.size
   go_wp2_with (at_builtin;refine wpList_append_own _ rfl _ _ 80 rfl (w.heap.size+1+1) 89 i0 _ 2 40 underlying80 hi0 hz0 hz1 hz2 rfl (by decide) ov k xs (by rfl) HJ5.out.row ⟨W4.heap.size,0,none⟩ 1 1 [.string q.1,.slice va q.2.length vc] (by rfl) (by rfl) (World.news_of_block HN5.out) (by simp [Value.oneCell']) (by unfold maxLen;omega) (by omega) hz5 ?_;intro v' w6 hown' hgrow _;have HOW:=zh hown';have HGR:=zh hgrow;have hbx:=HBX.out _ hgrow;have hc6:w6.cell? ⟨w.heap.size,4,none⟩=some ov:=zw _ _ 4 _ _ _ hbx;have hf6:=frozen_of_row _ _ 4 _ _ hbx;clear hown' hgrow hbx;obtain⟨gg,gc,rfl⟩:=ownsRow_succ HOW.out)
   go_roundw
   case rel=>exact⟨k+1,by omega,by go_num,zh ⟨_,_,HJ5.out.step HXK.out HR5.out HOW.out HGR.out⟩⟩
   case measure=>simp [intOf];omega
def findX (X:List RelL)(y:SelL):Option RelL:=if checkX X=0 then findR X y else none
def tabX (X:List RelL):List RelL:=if checkX X=0 then X else []
theorem zmj (X:List RelL):IdxOk (tabX X):=by
 unfold tabX
 split
 ·rename_i h;exact zei h
 ·exact⟨by simp,fun i hi=>absurd hi (by simp),fun i j _ hj=>absurd hj (by simp)⟩
theorem zj6 (X:List RelL)(y:SelL):findX X y=(lookK (tabX X) (tabX X).length y).map fun i=>(tabX X).getD i default:=by
 rw [← zfw (zmj X) y]
 unfold findX tabX
 split
 ·rfl
 ·rfl
theorem zl7 {X:List RelL}{x:RelL}(h:x∈tabX X):x∈X:=by
 unfold tabX at h
 split at h
 ·exact h
 ·cases h
theorem TabOf.look {W:World}{B m:Nat}{X:List RelL}(h:TabOf W B m (tabX X)):∃ (f:Lit→Option Value)(n:Nat),MapF prog 53 W m n f ∧
  ∀ y,SelBd y→(findX X y=none∧f (keyS y)=none)∨∃ x r,x∈X∧findX X y=some x∧f (keyS y)=some (.agg (relC x r))∧ReqsOf B r x.reqs W:=by
 obtain⟨f,rv,n,h1,h2,h3⟩:=h
 refine⟨f,n,h1,fun y hy=>?_⟩
 rw [zj6,h2 y hy]
 cases hk:lookK (tabX X) (tabX X).length y with
 | none=>exact .inl ⟨rfl,rfl⟩
 | some i =>
  have hi:=(z8l hk).1
  refine .inr ⟨(tabX X).getD i default,rv i,zl7 ?_,rfl,rfl,h3 i hi⟩
  rw [zg,ze hi]
  exact List.getElem_mem hi
def FindR (w:World)(o:Option RelL)(e:Ending)(w':World):Prop:=∃ r',e=.returned (.tuple #[.agg (relC (o.getD default) r'),.bool o.isSome])∧ReqRows w.heap.size r' (o.getD default).reqs w'∧RowKit.Below w.heap.size w w'
def zeroR:Value:=.agg #[.string ⟨#[]⟩,.int .i64 0,.int .i64 0,.int .i64 0,.slice none 0 0,.string ⟨#[]⟩,.string ⟨#[]⟩,.string ⟨#[]⟩,.bool false]
theorem zjj (v iv:Value)(X:List RelL)(y:SelL)(w:World)(hm:MaxOk w)(hX:X.length≤1000000)(hq:∀ x∈X,RelBd x)(hR:RelsOf w.heap.size v X w)(hy:SelBd y) :
  Calls prog 101 #[.agg #[v,iv],.string y.1,.agg #[intC y.2.1,intC y.2.2.1,intC y.2.2.2]] w (FindR w (findX X y)):=by
 have HN:=zh (fun W (hb:RowKit.Below w.heap.size w W)=>zbs v iv X W (hm.below hb hm.pos) hX hq ((hR.below hb (zq _)).mono hb.size))
 have HQ:=zh hq
 clear hm hR hq
 obtain⟨o,ho⟩:∃ o,findX X y=o:=⟨_,rfl⟩
 have HO:=zh ho
 rw [ho]
 clear ho
 have hget:∀ (w:World) (o:Obj) (k:Nat),(w.alloc o).heap[k]? = if k=w.heap.size then some o else w.heap[k]?:=fun w o k=>by
  show(w.heap.push o)[k]? = _
  rw [Array.getElem?_push]
 have HG:Hid ((((w.alloc (.cells #[v,iv] 25)).alloc (.cells #[intC y.2.1,intC y.2.2.1,intC y.2.2.2] 51)).alloc (.cells #[.string ⟨#[]⟩,.int .i64 0,.int .i64 0,.int .i64 0,.slice none 0 0,.string ⟨#[]⟩,.string ⟨#[]⟩,.string ⟨#[]⟩,.bool false] 82)).heap[w.heap.size]? = some (.cells #[v,iv] 25 (0,0)) ∧
   (((w.alloc (.cells #[v,iv] 25)).alloc (.cells #[intC y.2.1,intC y.2.2.1,intC y.2.2.2] 51)).alloc (.cells #[.string ⟨#[]⟩,.int .i64 0,.int .i64 0,.int .i64 0,.slice none 0 0,.string ⟨#[]⟩,.string ⟨#[]⟩,.string ⟨#[]⟩,.bool false] 82)).heap[w.heap.size+1]? = some (.cells #[intC y.2.1,intC y.2.2.1,intC y.2.2.2] 51 (0,0)) ∧
   BoxR (((w.alloc (.cells #[v,iv] 25)).alloc (.cells #[intC y.2.1,intC y.2.2.1,intC y.2.2.2] 51)).alloc (.cells #[.string ⟨#[]⟩,.int .i64 0,.int .i64 0,.int .i64 0,.slice none 0 0,.string ⟨#[]⟩,.string ⟨#[]⟩,.string ⟨#[]⟩,.bool false] 82)) (w.heap.size+1+1) default (.slice none 0 0)):=zh (by
  refine⟨?_,?_,?_⟩
  ·simp only [hget,World.size_alloc];repeat (first | rw [if_pos trivial] | rw [if_neg (by omega)] | rw [if_pos (by omega)])
  ·simp only [hget,World.size_alloc];repeat (first | rw [if_pos trivial] | rw [if_neg (by omega)] | rw [if_pos (by omega)])
  ·unfold BoxR
   simp only [hget,World.size_alloc];repeat (first | rw [if_pos trivial] | rw [if_neg (by omega)] | rw [if_pos (by omega)])
   rfl)
 have HBW:Hid (RowKit.Below w.heap.size w (((w.alloc (.cells #[v,iv] 25)).alloc (.cells #[intC y.2.1,intC y.2.2.1,intC y.2.2.2] 51)).alloc (.cells #[.string ⟨#[]⟩,.int .i64 0,.int .i64 0,.int .i64 0,.slice none 0 0,.string ⟨#[]⟩,.string ⟨#[]⟩,.string ⟨#[]⟩,.bool false] 82))):=zh (by repeat (first | exact Below.refl _ _ | refine Below.drew ?_ | refine Below.alloc ?_ (by simp<;>omega) _ | refine Below.setCell ?_ (by simp<;>omega) _))
 have hws:w.heap.size+1+1<(((w.alloc (.cells #[v,iv] 25)).alloc (.cells #[intC y.2.1,intC y.2.2.1,intC y.2.2.2] 51)).alloc (.cells #[.string ⟨#[]⟩,.int .i64 0,.int .i64 0,.int .i64 0,.slice none 0 0,.string ⟨#[]⟩,.string ⟨#[]⟩,.string ⟨#[]⟩,.bool false] 82)).heap.size:=by simp only [World.size_alloc];omega
 clear hget
 go_enter func101,ntmps101
 go_upto_region 1 with fail
 generalize ((w.alloc (.cells #[v,iv] 25)).alloc (.cells #[intC y.2.1,intC y.2.2.1,intC y.2.2.2] 51)).alloc (.cells #[.string ⟨#[]⟩,.int .i64 0,.int .i64 0,.int .i64 0,.slice none 0 0,.string ⟨#[]⟩,.string ⟨#[]⟩,.string ⟨#[]⟩,.bool false] 82)=W at *
 have c0:W.cell? ⟨w.heap.size,0,none⟩=some v:=zw _ _ 0 _ _ _ HG.out.1
 have c1:W.cell? ⟨w.heap.size,1,none⟩=some iv:=zw _ _ 1 _ _ _ HG.out.1
 go_wp2_with fail
 refine(HN.out _ HBW.out).mono ?_
 rintro e w1 ⟨m1,m2,rfl,hb1,hm1,ht1⟩
 have HB1:=zj HBW hb1
 have hs1:=hb1.size
 have HV1:=zh ((hb1.block (w.heap.size+1) (by omega)).trans HG.out.2.1)
 have HZ1:=zh (HG.out.2.2.on hb1)
 have HT1:Hid (TabOf w1 W.heap.size m1 (tabX X)):=zh ht1
 clear hb1 ht1 c0 c1 HG HBW
 have HT2:=zh (HT1.out.below (belQ w1 (.cells #[.map (some m1),.map (some m2)] 187)) hs1)
 have HN2:=zh (zn w1 (.cells #[.map (some m1),.map (some m2)] 187))
 have HV2:=zh (((belQ w1 (.cells #[.map (some m1),.map (some m2)] 187)).block (w.heap.size+1) (by omega)).trans HV1.out)
 have HZ2:=zh (HZ1.out.on (belQ w1 (.cells #[.map (some m1),.map (some m2)] 187)))
 have HB2:=zh (HB1.out.trans ((belQ w1 (.cells #[.map (some m1),.map (some m2)] 187)).mono HB1.out.size))
 go_upto_region 2 with fail
 generalize hW2:w1.alloc (.cells #[.map (some m1),.map (some m2)] 187)=W2 at *
 have hs2:w1.heap.size<W2.heap.size:=by rw [← hW2];simp
 clear hW2
 have t0:W2.cell? ⟨w1.heap.size,0,none⟩=some (.map (some m1)):=zw _ _ 0 _ _ _ HN2.out
 have v0:W2.cell? ⟨w.heap.size+1,0,none⟩=some (intC y.2.1):=zw _ _ 0 _ _ _ HV2.out
 have v1:W2.cell? ⟨w.heap.size+1,1,none⟩=some (intC y.2.2.1):=zw _ _ 1 _ _ _ HV2.out
 have v2:W2.cell? ⟨w.heap.size+1,2,none⟩=some (intC y.2.2.2):=zw _ _ 2 _ _ _ HV2.out
 obtain⟨f,n,hmf,hlk⟩:=HT2.out.look
 have HLK:=zh (hlk y hy)
 have HMF:=zh hmf
 have HKY:=zh (z9x hy)
 clear hlk hmf
 have HZR:=zh (show ∀ W,(zeroValue 82).run prog W=.ok zeroR W from zeroValue82)
 obtain⟨x,r,e1,e2,e3,e4,e5,e6⟩:∃ x r,(f (keyS y)).getD zeroR=.agg (relC x r)∧(f (keyS y)).isSome=o.isSome∧o.getD default=x∧ReqsOf W.heap.size r x.reqs W2∧x.reqs.length≤1000000∧∀ q∈x.reqs,q.2.length≤1000000:=by
  rcases HLK.out with ⟨l1,l2⟩ | ⟨x,r,l1,l2,l3,l4⟩
  ·rw [HO.out]at l1
   subst l1
   exact⟨default,.slice none 0 0,by rw [l2];rfl,by rw [l2];rfl,rfl,⟨none,0,rfl,fun i q hq=>by cases hq⟩,Nat.zero_le _,fun q hq=>by cases hq⟩
  ·rw [HO.out]at l2
   subst l2
   exact⟨x,r,by rw [l3];rfl,by rw [l3];rfl,rfl,l4,(HQ.out x l1).len,fun q hq=>((HQ.out x l1).reqs q hq).2⟩
 have HE3:=zh e3
 obtain⟨ob,hob⟩:∃ ob,o.isSome=ob:=⟨_,rfl⟩
 rw [hob]at e2
 have HOB:=zh hob
 have hlt:W.heap.size≤W2.heap.size:=by omega
 have HB3:=zh ((belQ W2 (.cells (relC x r) 82)))
 have HC:=zh (zhb x r (W2.alloc (.cells (relC x r) 82)) e5 e6 ((e4.below HB3.out hlt).mono (by simp;omega)))
 have HZ3:=zh (HZ2.out.on HB3.out)
 obtain⟨ra,rc,rfl,_⟩:=e4
 clear e3 e5 e6 hob HLK
 simp only [relC_at]at e1 HC HZ3 HB3
 go_wp2_with (at_lookup;refine z0w rfl _ _ 184 rfl 53 82 lawSel underlying184 (HZR.out _) m1 n f (by rfl) HMF.out _ (keyS y) rfl HKY.out ?_;rw [e1,e2])
 refine HC.out.mono ?_
 rintro e w4 ⟨r',rfl,hr4,hb4⟩
 have HB4:=zh (HB2.out.trans ((HB3.out.trans (hb4.mono (by simp))).mono HB2.out.size))
 have HR4:=zh hr4
 have hbox:=HZ3.out.on hb4
 have HBX:=zh hbox
 obtain⟨b0,b1,b2,b3,b4,b5,b6,b7,b8⟩:=hbox.cells
 have F:∀ j,w4.frozen? ⟨w.heap.size+1+1,j,none⟩=false:=fun j=>frozen_of_row _ _ j _ _ hbox
 have f0:=F 0
 have f1:=F 1
 have f2:=F 2
 have f3:=F 3
 have f4:=F 4
 have f5:=F 5
 have f6:=F 6
 have f7:=F 7
 have f8:=F 8
 have hs4:=hb4.size
 clear F hbox hb4 t0 v0 v1 v2
 simp only [show(default:RelL).path=⟨#[]⟩from rfl,show(default:RelL).ver=(0,0,0)from rfl,show(default:RelL).ar=⟨#[]⟩from rfl,show(default:RelL).ifc=⟨#[]⟩from rfl,show(default:RelL).cert=⟨#[]⟩from rfl,show(default:RelL).yk=false from rfl]at b0 b1 b2 b3 b4 b5 b6 b7 b8
 obtain⟨qa,qc,rfl,_⟩:=hr4.now
 have hg:=z11 w4 (w.heap.size+1+1) x (.slice qa x.reqs.length qc)
 have hbx:=z1h x (.slice qa x.reqs.length qc) HBX.out
 have hb5:RowKit.Below w.heap.size w (setRel w4 (w.heap.size+1+1) x (.slice qa x.reqs.length qc)):=HB4.out.grown hg HB4.out.size (fun b hb=>by cases hb;omega)
 have hr5:ReqRows w.heap.size (.slice qa x.reqs.length qc) x.reqs (setRel w4 (w.heap.size+1+1) x (.slice qa x.reqs.length qc)):=(HR4.out.grown hg (fun g hg=>.inl (by cases hg;simp;omega))).map (fun _ _ _ _ _ _ h=>z69 h (by simp;omega))
 have HS1:=zh hbx
 have HS2:=zh hb5
 have HS3:=zh hr5
 unfold setRel at HS1 HS2 HS3
 clear hg hbx hb5 hr5
 go_wp2_with fail
 refine bodyPost_ret (z0i rfl _ _ (w.heap.size+1+1) _ _ _ _ rfl HS1.out underlying82 rfl (by kernel_rfl)) rfl ?_
 refine⟨.slice qa x.reqs.length qc,by rw [HE3.out,HOB.out];rfl,?_,HS2.out⟩
 rw [HE3.out]
 exact HS3.out
section
open Go.Proofs.Tryz Go Go.RowKit
def firstI {α:Type}(p:α→Bool)(l:List α):Int:=match l.findIdx? p with
 | some i=>(i:Int)
 | none=>-1
theorem z6x {α:Type}{p:α→Bool}{l:List α}(h:∀ x∈l,p x=false):firstI p l=-1:=by
 unfold firstI
 rw [List.findIdx?_eq_none_iff.2 fun x hx=>by simp [h x hx]]
theorem zb4 {α:Type}{p:α→Bool}{l:List α}{k:Nat}(hk:k<l.length)(h:∀ x∈l.take k,p x=false)(h2:p l[k]=true):firstI p l=(k:Int):=by
 unfold firstI
 rw [List.findIdx?_eq_some_iff_getElem.2 ⟨hk,h2,fun j hj=>by
  have:l[j]∈l.take k:=by
   rw [List.mem_iff_getElem]
   exact⟨j,by simp;omega,by simp⟩
  simp [h _ this]⟩]
theorem z8b {α:Type}(p:α→Bool)(l:List α):(0≤firstI p l ↔ l.any p=true)∧(firstI p l<0 ↔ l.any p=false):=by
 unfold firstI
 cases h:l.findIdx? p with
 | none =>
  have:=List.findIdx?_eq_none_iff.1 h
  have h2:l.any p=false:=by rw [List.any_eq_false];exact fun x hx=>by simp [this x hx]
  simp [h2]
 | some i =>
  obtain⟨hi,h1,_⟩:=List.findIdx?_eq_some_iff_getElem.1 h
  have h2:l.any p=true:=by rw [List.any_eq_true];exact⟨_,List.getElem_mem hi,h1⟩
  simp [h2]
def PredQ (g:Nat)(lb:Array Value)(es:List ReqL)(p:ReqL→Bool)(w:World):Prop :=
 ∀ (W:World) (x:ReqL) (r:Value),x∈es→Below w.heap.size w W→SpansOf W.heap.size r x.2 W→Calls prog g (#[.agg #[.string x.1,r]]++lb) W fun e w'=>e=.returned (.bool (p x))∧Below w.heap.size w w'
theorem zly (g:Nat)(lb:Array Value)(eg:∀ args w,(callFunc g args).run prog w=.ok (.enter g args) w)(p:ReqL→Bool)(v:Value)(es:List ReqL)(w:World)(hes:es.length≤1000000000)(hE:ReqsOf w.heap.size v es w)(hp:PredQ g lb es p w) :
  Calls prog 102 #[v,.func (.func g) #[] lb] w fun e w'=>e=.returned (.int .i64 (firstI p es))∧Below w.heap.size w w':=by
 obtain⟨ao,ec,rfl,hE⟩:=hE
 have HE:=zh hE
 have HP:=zh hp
 obtain⟨R,hR⟩:∃ R,firstI p es=R:=⟨_,rfl⟩
 have HR:=zh hR
 rw [hR]
 clear hE hp hR
 go_enter func102,ntmps102
 go_wp2_with fail
 go_loopw [8] (fun s wr=>∃ k:Nat,k≤es.length∧s=.int .i64 k∧Hid (Below w.heap.size w wr)∧Hid (∀ x∈es.take k,p x=false)) (fun s _=>es.length - (intOf s).toNat)
 case atStart=>exact⟨0,by omega,rfl,zh (Below.refl _ _),zh (by simp)⟩
 case round =>
  obtain⟨k,hk,rfl,HB,HA⟩:=hrel
  by_cases hlt:k<es.length
  ·have hlt2:(k:Int)<(es.length:Int):=by omega
   obtain⟨b,off,r,rfl,hb,hc1,hc2,hsp⟩:=HE.out k es[k] (by simp [hlt])
   have hd1:=(HB.out.cell (p:=⟨b,off+k*2,none⟩) hb).trans hc1
   have hd2:=(HB.out.cell (p:=⟨b,off+k*2+1,none⟩) hb).trans hc2
   have HSP:=zh hsp
   have HT:Hid (es.take (k+1)=es.take k++[es[k]]):=zh (zs hlt)
   have HF:Hid (p es[k]=true→R=(k:Int)):=zh (fun h=>by rw [← HR.out];exact zb4 hlt HA.out h)
   have HCALL:=zh (HP.out wr es[k] r (List.getElem_mem hlt) HB.out ((hsp.below HB.out (zq _)).mono HB.out.size))
   obtain⟨ra,rc,rfl,_⟩:=hsp
   clear HSP
   generalize es[k]=x at *
   cases hq:p x with
   | true =>
    rw [hq]at HCALL
    have HQ:=zh (HF.out hq)
    clear hq
    go_wp2_with (go_at_fn g;refine HCALL.out.mono ?_;rintro e w' ⟨rfl,hb'⟩)
    go_ret
    exact⟨by rw [HQ.out];rfl,hb'⟩
   | false =>
    rw [hq]at HCALL
    have HQ:=zh hq
    clear hq
    go_wp2_with (go_at_fn g;refine HCALL.out.mono ?_;rintro e w' ⟨rfl,hb'⟩)
    go_roundw
    case rel =>
     refine⟨k+1,by omega,by go_num,zh hb',zh ?_⟩
     rw [HT.out]
     intro y hy
     rcases List.mem_append.1 hy with hy | hy
     ·exact HA.out y hy
     ·rw [List.mem_singleton]at hy;rw [hy];exact HQ.out
    case measure=>simp [intOf];omega
  ·have hkk:k=es.length:=by omega
   subst hkk
   rw [List.take_length]at HA
   have HN:=zh (show R=-1 by rw [← HR.out];exact z6x HA.out)
   go_wp2_with fail
   go_ret
   exact⟨by rw [HN.out];rfl,HB.out⟩
theorem zhs (g:Nat)(lb:Array Value)(eg:∀ args w,(callFunc g args).run prog w=.ok (.enter g args) w)(p:ReqL→Bool)(v:Value)(es:List ReqL)(w:World)(hes:es.length≤1000000000)(hE:ReqsOf w.heap.size v es w)(hp:PredQ g lb es p w) :
  Calls prog 68 #[v,.func (.func g) #[] lb] w fun e w'=>e=.returned (.bool (es.any p))∧Below w.heap.size w w':=by
 have HI:=zh (zly g lb eg p v es w hes hE hp)
 obtain⟨f1,f2⟩:=z8b p es
 generalize firstI p es=r at HI f1 f2
 generalize es.any p=q at f1 f2 ⊢
 have HF:=zh (And.intro f1 f2)
 obtain⟨ao,ec,rfl,_⟩:=hE
 clear hp eg f1 f2
 go_enter func68,ntmps68
 go_wp2_with fail
 refine HI.out.mono ?_
 rintro e w' ⟨rfl,hb⟩
 cases q with
 | true =>
  have h0:0≤r:=HF.out.1.2 rfl
  go_wp2_with fail
  go_ret
  exact⟨rfl,hb⟩
 | false =>
  have h2:r<0:=HF.out.2.2 rfl
  have h0:¬ 0≤r:=by omega
  have h1:decide (0≤r)=false:=decide_eq_false h0
  go_wp2_with fail
  go_ret
  exact⟨rfl,hb⟩
def PredR (g:Nat)(lb:Array Value)(es:List RelL)(p:RelL→Bool)(w:World):Prop :=
 ∀ (W:World) (x:RelL) (r:Value),x∈es→Below w.heap.size w W→ReqsOf W.heap.size r x.reqs W→Calls prog g (#[.agg (relC x r)]++lb) W fun e w'=>e=.returned (.bool (p x))∧Below w.heap.size w w'
def PredS4 (g:Nat)(lb:Array Value)(es:List SelL)(p:SelL→Bool)(w:World):Prop :=
 ∀ (W:World) (x:SelL),x∈es→Below w.heap.size w W→ Calls prog g (#[.agg #[.string x.1,intC x.2.1,intC x.2.2.1,intC x.2.2.2]]++lb) W fun e w'=>e=.returned (.bool (p x))∧Below w.heap.size w w'
end
section
open Go.Proofs.Tryz Go Go.RowKit Go.Sort
theorem zfc (B:Nat)(v:Value)(l:List Int)(w:World)(h:w.ownsRow B 3 1 v l.length (l.map intC))(hl:l.length≤1000000000) :
  Calls prog 66 #[v] w fun e w'=>e=.returned (.tuple #[])∧w.grownBy w' v.ownBlock∧w'.ownsRow B 3 1 v (l.mergeSort fun x y=>decide (x≤y)).length ((l.mergeSort fun x y=>decide (x≤y)).map intC):=by
 have hlen:(l.mergeSort fun x y=>decide (x≤y)).length=l.length:=List.length_mergeSort l
 rcases h.2 with ⟨rfl,h0⟩ | ⟨g,cap,cur,rfl,hb,hg,hc,hcm,hcs,ht⟩
 ·obtain rfl:l=[]:=List.length_eq_zero_iff.1 h0
  refine(Tryz.slices_Sort_int_none none 0 w).mono ?_
  rintro e w' ⟨rfl,rfl⟩
  exact⟨rfl,World.grownBy.refl _ _,by simpa using World.ownsRow_nil _ _ _ _⟩
 ·refine(Tryz.slices_Sort_int g 0 cap l w (holds_of_blockI hg (by simpa using ht)) (zb hg) (by omega)).mono ?_
  rintro e w' ⟨rfl,n,os,rfl⟩
  refine⟨rfl,grownBy_sortedI _,?_⟩
  rw [hlen]
  exact ownsRow_sortedI hlen hb hg hc hcm hcs
theorem zd0 (B:Nat)(v:Value)(l:List Int)(w:World)(h:w.ownsRow B 3 1 v l.length (l.map intC))(hl:l.length≤1000000000) :
  Calls prog 123 #[v] w fun e w'=>∃ v',e=.returned v'∧v'.ownBlock=v.ownBlock∧(∃ a m c,v'=.slice a m c)∧w.grownBy w' v.ownBlock∧w'.ownsRow B 3 1 v' (Lib.compact l).length ((Lib.compact l).map intC):=by
 rcases h.2 with ⟨rfl,h0⟩ | ⟨g,cap,cur,rfl,hb,hg,hc,hcm,hcs,ht⟩
 ·obtain rfl:l=[]:=List.length_eq_zero_iff.1 h0
  refine(Tryz.slices_Compact_int_empty none 0 w).mono ?_
  rintro e w' ⟨rfl,rfl⟩
  exact⟨_,rfl,rfl,⟨_,_,_,rfl⟩,World.grownBy.refl _ _,World.ownsRow_nil _ _ _ _⟩
 ·have hlc:(Lib.compact l).length≤l.length:=Lib.compact_length_le l
  refine(Tryz.slices_Compact_int g 0 cap l w (holds_of_blockI hg (by simpa using ht)) (by omega) hc).mono ?_
  rintro e w' ⟨rfl,q,rfl⟩
  have e1:∀ d:Array Int,putRow (Value.int .i64) (Sort.ahead w q) g 0 d=grow (putRow (Value.int .i64) (Sort.ahead w q) g 0 d) #[]:=fun d=>(grow_empty _).symm
  rw [e1]
  have hpl:(Lib.compact l++List.replicate (l.length - (Lib.compact l).length) 0).length=l.length:=by simp;omega
  have hown:=ownsRow_sortedI (n:=q) (os:=#[]) (base:=B) (ss:=l) hpl hb hg hc hcm hcs
  refine⟨_,rfl,rfl,⟨_,_,_,rfl⟩,grownBy_sortedI _,?_⟩
  rcases hown.2 with ⟨h1,_⟩ | ⟨g2,cap2,cur2,h1,h2,h3,h4,h5,h6,h7⟩
  ·cases h1
  ·cases h1
   refine⟨by simp,.inr ⟨g,cap,cur2,rfl,h2,h3,by omega,h5,h6,?_⟩⟩
   have h8:=congrArg (List.take (Lib.compact l).length) h7
   rw [List.take_take,Nat.mul_one,Nat.min_eq_left hlc,List.map_append,List.take_append_of_le_length (by simp),List.take_of_length_le (l:=List.map _ _) (by simp)]at h8
   rw [Nat.mul_one]
   exact h8
end
section
open Go.Proofs.Tryz Go Go.RowKit Go.Sort
def EdgesOf (B:Nat)(v:Value)(es:List (Int×Int))(W:World):Prop :=
 ∃ ao cap,v=.slice ao es.length cap∧∀ i x,es[i]? = some x→∃ b off,ao=some ⟨b,off,none⟩∧b<B∧W.cell? ⟨b,off+i*2,none⟩=some (intC x.1)∧W.cell? ⟨b,off+i*2+1,none⟩=some (intC x.2)
theorem EdgesOf.below {B B':Nat}{v:Value}{es:List (Int×Int)}{W W':World}(h:EdgesOf B v es W)(hb:Below B' W W')(hB:B≤B'):EdgesOf B v es W':=by
 obtain⟨ao,cap,rfl,h⟩:=h
 refine⟨ao,cap,rfl,fun i x hx=>?_⟩
 obtain⟨b,off,rfl,hlt,h1,h2⟩:=h i x hx
 exact⟨b,off,rfl,hlt,(hb.cell (p:=⟨b,off+i*2,none⟩) (by simp;omega)).trans h1,(hb.cell (p:=⟨b,off+i*2+1,none⟩) (by simp;omega)).trans h2⟩
theorem EdgesOf.mono {B B':Nat}{v:Value}{es:List (Int×Int)}{W:World}(h:EdgesOf B v es W)(hB:B≤B'):EdgesOf B' v es W:=by
 obtain⟨ao,cap,rfl,h⟩:=h
 refine⟨ao,cap,rfl,fun i x hx=>?_⟩
 obtain⟨b,off,rfl,hlt,h1,h2⟩:=h i x hx
 exact⟨b,off,rfl,by omega,h1,h2⟩
theorem z9y (z:Value)(n:Nat):madeCells #[z] n=Array.replicate n z:=by
 have:=toList_madeCells_one z n
 rw [← Array.toList_replicate]at this
 exact Array.toList_inj.1 this
theorem z1l:(prog.info? 3).map (fun i=>(i.zero,i.size,i.bytes))=some (some (.int .i64 0),1,8):=by kernel_rfl
theorem z78 (n:Nat)(hn:n≤1000000000)(w:World):(Instr.makeSlice 109 (.int .i64 (n:Int)) (.int .i64 (n:Int))).run prog w=.ok (.slice (some ⟨w.heap.size,0,none⟩) n n) (w.alloc (.cells (Array.replicate n (.int .i64 0)) 3)):=by
 have h:=run_make_row' (P:=prog) 109 3 (.int .i64 0) 8 underlying109 z1l rfl .i64 .i64 n (by omega) (by omega) w
 rw [h,z9y]
theorem z4n:(prog.info? 109).map (fun i=>(i.zero,i.size,i.bytes))=some (some (.slice none 0 0),1,24):=by kernel_rfl
theorem zfu:(prog.info? 4).map (fun i=>(i.zero,i.size,i.bytes))=some (some (.bool false),1,1):=by kernel_rfl
theorem zg0 (n:Nat)(hn:n≤1000000000)(w:World):(Instr.makeSlice 116 (.int .i64 (n:Int)) (.int .i64 (n:Int))).run prog w=.ok (.slice (some ⟨w.heap.size,0,none⟩) n n) (w.alloc (.cells (Array.replicate n (.bool false)) 4)):=by
 have h:=run_make_row' (P:=prog) 116 4 (.bool false) 1 underlying116 zfu rfl .i64 .i64 n (by omega) (by omega) w
 rw [h,z9y]
theorem zbl (n:Nat)(hn:n≤1000000000)(w:World):(Instr.makeSlice 111 (.int .i64 (n:Int)) (.int .i64 (n:Int))).run prog w=.ok (.slice (some ⟨w.heap.size,0,none⟩) n n) (w.alloc (.cells (Array.replicate n (.slice none 0 0)) 109)):=by
 have h:=run_make_row' (P:=prog) 111 109 (.slice none 0 0) 24 underlying111 z4n rfl .i64 .i64 n (by omega) (by omega) w
 rw [h,z9y]
theorem zf4 (B e n:Nat)(xs:List Value)(w:World)(hB:B≤w.heap.size)(hn:n≤maxLen)(hx:xs.length=n):(w.alloc (.cells xs.toArray e)).ownsRow B e 1 (.slice (some ⟨w.heap.size,0,none⟩) n n) n xs:=by
 subst hx
 have:=World.ownsRow_lit (base:=B) (e:=e) (size:=1) w xs.toArray xs.length hB hn (by simp)
 simpa using this
def rawRows (N:Nat)(es:List (Int×Int)):List (List Value):=(List.range N).map fun i=>(rawL es i).map intC
theorem z2l (N:Nat)(es:List (Int×Int)):(rawRows N es).length=N:=by simp [rawRows]
theorem zdr (N:Nat)(es:List (Int×Int))(i:Nat)(h:i<N):(rawRows N es)[i]? = some ((rawL es i).map intC):=by simp [rawRows,h]
theorem zds (N:Nat):rawRows N []=List.replicate N []:=by
 apply List.ext_getElem (by simp [rawRows])
 intro i h1 h2
 simp [rawRows,rawL]
theorem zc6 (N:Nat)(es:List (Int×Int))(i:Nat)(y:Int)(h:i<N):rawRows N (es++[((i:Int),y)])=(rawRows N es).set i ((rawL es i).map intC++[intC y]):=by
 apply List.ext_getElem (by simp [rawRows])
 intro j h1 h2
 have hj:j<N:=by simpa [rawRows]using h1
 rw [List.getElem_set]
 simp only [rawRows,List.getElem_map,List.getElem_range,zil]
 by_cases e:i=j
 ·subst e;simp
 ·rw [if_neg (by omega),if_neg e]
def mixRows (N:Nat)(es:List (Int×Int))(k:Nat):List (List Value):=(List.range N).map fun i=>if i<k then(sucL N es i).map natC else(rawL es i).map intC
theorem z2j (N:Nat)(es:List (Int×Int))(k:Nat):(mixRows N es k).length=N:=by simp [mixRows]
theorem zbo (N:Nat)(es:List (Int×Int)):mixRows N es 0=rawRows N es:=by simp [mixRows,rawRows]
theorem zdi (N:Nat)(es:List (Int×Int))(k:Nat)(h:k<N):(mixRows N es k)[k]? = some ((rawL es k).map intC):=by simp [mixRows,h]
theorem zbn (N:Nat)(es:List (Int×Int))(k:Nat):mixRows N es (k+1)=(mixRows N es k).set k ((sucL N es k).map natC):=by
 apply List.ext_getElem (by simp [mixRows])
 intro j h1 h2
 rw [List.getElem_set]
 simp only [mixRows,List.getElem_map,List.getElem_range]
 by_cases e:k=j
 ·subst e;simp
 ·by_cases h:j<k
  ·rw [if_pos (by omega),if_neg e,if_pos h]
  ·rw [if_neg (by omega),if_neg e,if_neg h]
theorem zdh (N:Nat)(es:List (Int×Int)):mixRows N es N=(sucs N es).map (·.map natC):=by
 unfold mixRows sucs
 rw [List.map_map]
 apply List.map_congr_left
 intro i hi
 rw [List.mem_range]at hi
 rw [if_pos hi]
 rfl
theorem zdm (na:Option Addr)(nc N:Nat)(ev:Value)(es:List (Int×Int))(w:World)(hE:EdgesOf w.heap.size ev es w)(hv:validG N es=true) :
  Calls prog 91 #[.agg #[.slice na N nc,ev]] w fun e w'=>∃ v vs,e=.returned v∧Grid w.heap.size v vs ((sucs N es).map (·.map natC)) w'∧Below w.heap.size w w':=by
 obtain⟨hN,hes⟩:=z6f hv
 obtain⟨ao,ec,rfl,hE⟩:=hE
 have HV:=zh hv
 have HE:=zh hE
 clear hv hE
 have hmk:=zbl N (by omega)
 obtain⟨B,hB⟩:∃ B,B=w.heap.size:=⟨_,rfl⟩
 have HBB:=zh hB
 have hB2:B≤w.heap.size:=by omega
 clear hB
 have HG0:Hid (Grid B (.slice (some ⟨w.heap.size+1,0,none⟩) N N) (List.replicate N (.slice none 0 0)) (rawRows N []) ((w.alloc (.cells #[.slice na N nc,.slice ao es.length ec] 32)).alloc (.cells (Array.replicate N (.slice none 0 0)) 109))):=zh (by
  rw [zds]
  have:=zf4 B 109 N (List.replicate N (.slice none 0 0)) (w.alloc (.cells #[.slice na N nc,.slice ao es.length ec] 32)) (by simp;omega) (by unfold maxLen;omega) (by simp)
  rw [World.size_alloc]at this
  exact Grid.made B N w hB2 (by unfold maxLen;omega) _ _ this (by simp;omega))
 have HB0:Hid (Below B w ((w.alloc (.cells #[.slice na N nc,.slice ao es.length ec] 32)).alloc (.cells (Array.replicate N (.slice none 0 0)) 109))):=zh (((Below.refl _ w).alloc hB2 _).alloc (by simp;omega) _)
 go_enter func91,ntmps91
 go_wp2_with fail
 clear hmk
 go_loopw [14] (fun p wr=>∃ (k:Nat) (vs:List Value),k≤es.length∧p=.int .i64 k∧Hid (Grid B (.slice (some ⟨w.heap.size+1,0,none⟩) N N) vs (rawRows N (es.take k)) wr)∧Hid (Below B w wr)∧Hid (w.heap.size+2≤wr.heap.size)) (fun p _=>es.length - (intOf p).toNat)
 case atStart=>exact⟨0,_,by omega,rfl,HG0,HB0,zh (by simp)⟩
 case round =>
  clear HG0 HB0
  obtain⟨k,vs,hk,rfl,HG,HB,HS⟩:=hrel
  by_cases hlt:k<es.length
  ·obtain⟨b,off,rfl,hb,hc1,hc2⟩:=HE.out k es[k] (by simp [hlt])
   have hc1:=(HB.out.cell (p:=⟨b,off+k*2,none⟩) (by simp;have:=HBB.out;omega)).trans hc1
   have hc2:=(HB.out.cell (p:=⟨b,off+k*2+1,none⟩) (by simp;have:=HBB.out;omega)).trans hc2
   have HT:Hid (es.take (k+1)=es.take k++[es[k]]):=zh (zs hlt)
   have hed:=z7r HV.out (List.getElem_mem hlt)
   obtain⟨⟨x1,x2⟩,hx⟩:∃ x,x=es[k]:=⟨_,rfl⟩
   rw [← hx]at hc1 hc2 hed HT
   clear hx
   obtain⟨i,rfl⟩:∃ i:Nat,x1=(i:Int):=⟨x1.toNat,by simp at hed;omega⟩
   obtain⟨j,rfl⟩:∃ j:Nat,x2=(j:Int):=⟨x2.toNat,by simp at hed;omega⟩
   simp only at hc1 hc2 hed
   obtain⟨hi0,hi1,hj0,hj1⟩:=hed
   have hiN:i<N:=by omega
   have hvl:vs.length=N:=by have:=HG.out.len;rw [z2l]at this;exact this
   have hu:vs[i]? = some (vs[i]'(by omega)):=by simp
   generalize vs[i]'(by omega)=u at hu
   have hl:=zdr N (es.take k) i hiN
   have hown:=HG.out.row i u _ hu hl
   have hfu:=HG.out.top
   rw [z2l]at hfu
   have hcu:=z0o hfu i u hu
   have hfu:=hfu.frozenAt i
   have hsz:=HS.out
   have hlen:(rawL (es.take k) i).length≤4096:=by
    unfold rawL
    have:=List.length_filter_le (fun e:Int×Int=>e.1 == (i:Int)) (es.take k)
    simp at this ⊢
    omega
   have hne:w.heap.size+1≠wr.heap.size:=by omega
   have hne2:wr.heap.size≠w.heap.size+1:=by omega
   have hob:∀ b,u.ownBlock=some b→b<wr.heap.size∧b≠w.heap.size+1:=fun b hb=>⟨(hown.lt b hb).2,fun e=>by
    have:=z3l HG.out.top hown (by decide)
    rw [hb,e]at this
    simp [Value.ownBlock]at this⟩
   have HN:Hid (∀ W1,(((wr.alloc (.cells #[intC i,intC j] 43)).alloc (.cells #[intC j] 3)).drew).grownBy W1 u.ownBlock→(W1.cell? ⟨w.heap.size+1,i,none⟩=some u∧W1.frozen? ⟨w.heap.size+1,i,none⟩=false) ∧
     (W1.cell? ⟨wr.heap.size,0,none⟩=some (intC i)∧W1.cell? ⟨wr.heap.size,1,none⟩=some (intC j))∧wr.heap.size+2≤W1.heap.size):=zh (fun W1 hg=>by
    have a1:some (w.heap.size+1)≠u.ownBlock:=fun e=>(hob _ e.symm).2 rfl
    have a2:some wr.heap.size≠u.ownBlock:=fun e=>by have:=(hob _ e.symm).1;omega
    have hs:=hg.size
    have f1:=frozA (.cells #[intC i,intC j] 43) hcu hfu
    have c1:=cellA (.cells #[intC i,intC j] 43) hcu
    refine⟨⟨?_,?_⟩,⟨?_,?_⟩,by simpa using hs⟩
    ·rw [hg.cell_far _ (by show w.heap.size+1<_;simp;omega) a1]
     exact cellA (.cells #[intC j] 3) c1
    ·rw [hg.frozen_far _ (by show w.heap.size+1<_;simp;omega) a1]
     exact frozA (.cells #[intC j] 3) c1 f1
    ·rw [hg.cell_far _ (by show wr.heap.size<_;simp;omega) a2]
     exact cellA (.cells #[intC j] 3) (zw _ _ _ _ _ _ (zn wr _))
    ·rw [hg.cell_far _ (by show wr.heap.size<_;simp;omega) a2]
     exact cellA (.cells #[intC j] 3) (zw _ _ _ _ _ _ (zn wr _)))
   have hcu1:=cellA (.cells #[.int .i64 (i:Int),.int .i64 (j:Int)] 43) hcu
   have hcu2:=cellA (.cells #[.int .i64 (j:Int)] 3) hcu1
   obtain⟨i0,hi0',hz0,hz1,hz2⟩:=info_parts z1l
   have HOWN:=zh hown
   have HOB:=zh hob
   have HU:=zh hu
   have HL:=zh hl
   have HFU:=zh hfu
   have HCU:=zh hcu
   clear hown hob hu hl hfu
   go_wp2_with fail
   refine wp_region_noPanic ?_
   refine z0j (S:=HeldR ⟨wr.heap.size,0,none⟩ ⟨wr.heap.size,1,none⟩ ⟨w.heap.size+1,i,none⟩ (intC i) (intC j) u) 12 (by kernel_rfl) (by kernel_rfl) ?_
   simp only [List.take_succ_cons,List.take_zero]
   have hS0:HeldR ⟨wr.heap.size,0,none⟩ ⟨wr.heap.size,1,none⟩ ⟨w.heap.size+1,i,none⟩ (intC i) (intC j) u (wr.alloc (.cells #[intC i,intC j] 43)).drew:=⟨zw _ _ 0 _ _ _ (zn wr _),zw _ _ 1 _ _ _ (zn wr _),cellA _ HCU.out⟩
   refine zt 0 _ rfl ?_;simp only [zl1];refine zt 1 _ rfl ?_;simp only [zl1];refine zt 2 _ rfl ?_;simp only [zl1];refine zt 3 _ rfl ?_;simp only [zl1];refine zt 4 _ rfl ?_;simp only [zl1];refine zt 5 _ rfl ?_;simp only [zl1];refine zt 6 _ rfl ?_;simp only [zl1];refine zt 7 _ rfl ?_;simp only [zl1];refine zt 8 _ rfl ?_;simp only [zl1];refine zt 9 _ rfl ?_;simp only [zl1]
   refine zr 10 rfl fun K hK=>?_
   go_simp
   refine hK.out _ _ ⟨cellA _ hS0.1,cellA _ hS0.2.1,cellA _ hS0.2.2⟩ (fun _=>?_)
   clear hK K hS0
   (try simp only [zl1])
   refine zr 11 rfl fun K hK=>?_
   refine step_append_lies _ (by rfl) _ _ _ (by rfl) B 3 i0 _ 1 8 underlying109 hi0' hz0 hz1 hz2 rfl (by omega) u _ _ (by rfl) (((HOWN.out.alloc _).alloc _).drew)
      ⟨wr.heap.size+1,0,none⟩ 1 1 [intC j] (by rfl) (by rfl) (World.news_of_block (cs:=#[intC j]) (t:=3) (fr:=(0,0)) (by have:=heap_alloc_new (wr.alloc (.cells #[intC i,intC j] 43)) (.cells #[intC j] 3);rw [World.size_alloc]at this;exact this)) (by simp [Value.oneCell'])
      (by omega) (by unfold maxLen;rw [List.length_map];omega) (by rw [List.length_map];omega) (by simp;have:=HG.out.base;omega) (wr.heap.size+2) (by simp) ?_
   intro gg cap w1 hown1 hgrow hat hlt1
   obtain⟨⟨hcw,hfw⟩,⟨hcw0,hcw1⟩,hsw⟩:=HN.out _ hgrow
   have hS1:HeldR ⟨wr.heap.size,0,none⟩ ⟨wr.heap.size,1,none⟩ ⟨w.heap.size+1,i,none⟩ (intC i) (intC j) u w1:=⟨hcw0,hcw1,hcw⟩
   refine hK.out _ _ hS1 (fun _=>?_)
   clear hK K hS1
   (try simp only [zl1])
   refine wpAnyH_done (by kernel_rfl) ?_ _
   show wpList _ _ _ _ _ _
   simp only [List.drop_succ_cons,List.drop_zero]
   go_wp2_with fail
   refine NoPanic.normal ?_
   all_goals go_wp2_with fail
   all_goals
    go_roundw
    case rel =>
     refine⟨k+1,vs.set i (.slice (some ⟨gg,0,none⟩) ((rawL (es.take k) i).length+1) cap),by omega,by go_num,zh ?_,zh ?_,zh (by simp;omega)⟩
     ·rw [HT.out,zc6 _ _ _ _ hiN]
      have g1:wr.grownBy w1 u.ownBlock:=(grownD ((World.grownBy_alloc wr _ _).trans (World.grownBy_alloc _ _ _))).trans hgrow
      have:=HG.out.put i u _ _ ((rawL (es.take k) i).map intC++[intC j]) (by rw [z2l]) HU.out HL.out g1 (by simpa using hown1) (by
       rcases hat with h | h
       ·exact .inl (by rw [h];rfl)
       ·refine .inr fun k' hk'=>?_
        simp [Value.ownBlock]at hk'
        omega)
      exact this
     ·have hgs:=HG.out.base
      have g2:Below B wr w1:=((((Below.refl B wr).alloc hgs _).alloc (by simp;omega) _).drew).grown hgrow (by simp;omega) (fun b hb=>(HOWN.out.lt b hb).1)
      exact(HB.out.trans g2).setCell (by show B≤w.heap.size+1;omega) _
    case measure=>simp [intOf];omega
  ·have hkk:k=es.length:=by omega
   subst hkk
   rw [List.take_length]at HG
   go_wp2_with fail
   go_loopw [34] (fun p wr=>∃ (k:Nat) (vs:List Value),k≤N∧p=.int .i64 k∧Hid (Grid B (.slice (some ⟨w.heap.size+1,0,none⟩) N N) vs (mixRows N es k) wr)∧Hid (Below B w wr)∧Hid (w.heap.size+2≤wr.heap.size)) (fun p _=>N - (intOf p).toNat)
   case atStart=>exact⟨0,vs,by omega,rfl,zh (by rw [zbo];exact HG.out),HB,HS⟩
   case round =>
    clear HG HB HS
    obtain⟨k,vs,hk,rfl,HG,HB,HS⟩:=hrel
    by_cases hlt:k<N
    ·have hx1:(k:Int)<(N:Int):=by omega
     have hvl:vs.length=N:=by have:=HG.out.len;rw [z2j]at this;exact this
     have hu:vs[k]? = some (vs[k]'(by omega)):=by simp
     generalize vs[k]'(by omega)=u at hu
     have hl:=zdi N es k hlt
     have hown:=HG.out.row k u _ hu hl
     have hfu:=HG.out.top
     rw [z2j]at hfu
     have hcu:=z0o hfu k u hu
     have hlen:(rawL es k).length≤4096:=by
      unfold rawL
      have:=List.length_filter_le (fun e:Int×Int=>e.1 == (k:Int)) es
      simp at this ⊢
      omega
     have hne:=z3l hfu hown (by decide)
     rw [List.length_map]at hown
     have HOWN:=zh hown
     have HU:=zh hu
     have HL:=zh hl
     have HFU:=zh hfu
     have HNE:=zh hne
     have HGB:=zh HG.out.base
     clear hown hu hl hfu hne
     go_wp2_with fail
     refine(zfc B u _ wr HOWN.out (by omega)).mono ?_
     rintro e w1 ⟨rfl,hg1,ho1⟩
     have hlm:((rawL es k).mergeSort fun x y=>decide (x≤y)).length=(rawL es k).length:=List.length_mergeSort _
     have hfu1:=HFU.out.kept hg1 HNE.out
     have hcu1:=z0o hfu1 k u HU.out
     have HG1:=zh hg1
     have HO1:=zh ho1
     have HFU1:=zh hfu1
     have HCS:=zh (zcz HV.out k)
     clear hg1 ho1 hfu1
     go_wp2_with fail
     refine(zd0 B u _ w1 HO1.out (by omega)).mono ?_
     rintro e w2 ⟨v',rfl,hob,⟨a',m',c',rfl⟩,hg2,ho2⟩
     have hfu2:=HFU1.out.kept hg2 HNE.out
     have hcu2:=z0o hfu2 k u HU.out
     have hfz2:=hfu2.frozenAt k
     rw [HCS.out]at ho2
     have HG2:=zh (HG1.out.trans hg2)
     have HO2:=zh ho2
     have HOB:=zh hob
     clear hg2 ho2 hfu2 hob HO1 HFU1 hlm
     go_wp2_with fail
     go_roundw
     case rel =>
      refine⟨k+1,vs.set k (.slice a' m' c'),by omega,by go_num,zh ?_,zh ?_,zh (by have:=HG2.out.size;have:=HS.out;simp;omega)⟩
      ·rw [zbn]
       exact HG.out.put k u _ _ ((sucL N es k).map natC) (by rw [z2j]) HU.out HL.out HG2.out (by
        have:=HO2.out
        rw [List.length_map]at this ⊢
        rwa [List.map_map]at this) (.inl HOB.out)
      ·have g2:Below B wr w2:=(Below.refl B wr).grown HG2.out HGB.out (fun b hb=>(HOWN.out.lt b hb).1)
       exact(HB.out.trans g2).setCell (by show B≤w.heap.size+1;omega) _
     case measure=>simp [intOf];omega
    ·have hkk:k=N:=by omega
     subst hkk
     go_wp2_with fail
     go_ret
     refine⟨_,vs,rfl,?_,?_⟩
     ·have:=HG.out
      rw [zdh,HBB.out]at this
      exact this
     ·have:=HB.out
      rw [HBB.out]at this
      exact this
end
section
open Go.Proofs.Tryz Go Go.RowKit
abbrev edgeV (x:Int×Int):Value:=.agg #[intC x.1,intC x.2]
def PredE (g:Nat)(lb:Array Value)(es:List (Int×Int))(p:Int×Int→Bool)(w:World):Prop :=
 ∀ (W:World) (x:Int×Int),x∈es→Below w.heap.size w W→Calls prog g (#[edgeV x]++lb) W fun e w'=>e=.returned (.bool (p x))∧Below w.heap.size w w'
theorem zk8 (g:Nat)(lb:Array Value)(eg:∀ args w,(callFunc g args).run prog w=.ok (.enter g args) w)(p:Int×Int→Bool)(v:Value)(es:List (Int×Int))(w:World)(hes:es.length≤1000000000)(hE:EdgesOf w.heap.size v es w)(hp:PredE g lb es p w) :
  Calls prog 122 #[v,.func (.func g) #[] lb] w fun e w'=>∃ r:Int,e=.returned (.int .i64 r)∧(0≤r ↔ es.any p=true)∧Below w.heap.size w w':=by
 obtain⟨ao,ec,rfl,hE⟩:=hE
 have HE:=zh hE
 have HP:=zh hp
 clear hE hp
 go_enter func122,ntmps122
 go_wp2
 go_loopw [8] (fun s wr=>∃ k:Nat,k≤es.length∧s=.int .i64 k∧Hid (Below w.heap.size w wr)∧Hid (∀ x∈es.take k,p x=false)) (fun s _=>es.length - (intOf s).toNat)
 case atStart=>exact⟨0,by omega,rfl,zh (Below.refl _ _),zh (by simp)⟩
 case round =>
  obtain⟨k,hk,rfl,HB,HA⟩:=hrel
  by_cases hlt:k<es.length
  ·have hlt2:(k:Int)<(es.length:Int):=by omega
   obtain⟨b,off,rfl,hb,hc1,hc2⟩:=HE.out k es[k] (by simp [hlt])
   have hc1:=(HB.out.cell (p:=⟨b,off+k*2,none⟩) hb).trans hc1
   have hc2:=(HB.out.cell (p:=⟨b,off+k*2+1,none⟩) hb).trans hc2
   have HT:Hid (es.take (k+1)=es.take k++[es[k]]):=zh (zs hlt)
   have hcall:=HP.out wr es[k] (List.getElem_mem hlt) HB.out
   have HM:Hid (es[k]∈es):=zh (List.getElem_mem hlt)
   generalize es[k]=x at *
   cases hq:p x with
   | true =>
    rw [hq]at hcall
    have HQ:=zh hq
    clear hq
    go_wp2_with (go_at_fn g;refine hcall.mono ?_;rintro e w' ⟨rfl,hb'⟩)
    go_ret
    exact⟨_,rfl,⟨fun _=>by rw [List.any_eq_true];exact⟨x,HM.out,HQ.out⟩,fun _=>by omega⟩,hb'⟩
   | false =>
    rw [hq]at hcall
    have HQ:=zh hq
    clear hq
    go_wp2_with (go_at_fn g;refine hcall.mono ?_;rintro e w' ⟨rfl,hb'⟩)
    go_roundw
    case rel =>
     refine⟨k+1,by omega,by go_num,zh hb',zh ?_⟩
     rw [HT.out]
     intro y hy
     rcases List.mem_append.1 hy with hy | hy
     ·exact HA.out y hy
     ·rw [List.mem_singleton]at hy;rw [hy];exact HQ.out
    case measure=>simp [intOf];omega
  ·have hkk:k=es.length:=by omega
   subst hkk
   rw [List.take_length]at HA
   go_wp2
   go_ret
   refine⟨-1,rfl,⟨fun h=>by omega,fun h=>?_⟩,HB.out⟩
   rw [List.any_eq_true]at h
   obtain⟨x,hx,hpx⟩:=h
   rw [HA.out x hx]at hpx
   cases hpx
theorem zk7 (g:Nat)(lb:Array Value)(eg:∀ args w,(callFunc g args).run prog w=.ok (.enter g args) w)(p:Int×Int→Bool)(v:Value)(es:List (Int×Int))(w:World)(hes:es.length≤1000000000)(hE:EdgesOf w.heap.size v es w)(hp:PredE g lb es p w) :
  Calls prog 89 #[v,.func (.func g) #[] lb] w fun e w'=>e=.returned (.bool (es.any p))∧Below w.heap.size w w':=by
 have hi:=zk8 g lb eg p v es w hes hE hp
 generalize es.any p=q at hi ⊢
 have HI:=zh hi
 obtain⟨ao,ec,rfl,_⟩:=hE
 clear hp eg hi
 go_enter func89,ntmps89
 go_wp2_with fail
 refine HI.out.mono ?_
 rintro e w' ⟨r,rfl,hr,hb⟩
 cases q with
 | true =>
  have h0:0≤r:=hr.2 rfl
  clear hr
  go_wp2
  go_ret
  exact⟨rfl,hb⟩
 | false =>
  have h0:¬ 0≤r:=fun h=>by have:=hr.1 h;cases this
  have h1:decide (0≤r)=false:=decide_eq_false h0
  have h2:r<0:=by omega
  clear hr
  go_wp2
  go_ret
  exact⟨rfl,hb⟩
def nodeB (N:Nat)(i:Int):Bool:=decide (0≤i∧i<N)
theorem z97 (a:Option Addr)(N c Bg:Nat)(i:Int)(w:World)(hc:w.cell? ⟨Bg,0,none⟩=some (.slice a N c)) :
  Calls prog 88 #[.int .i64 i,.pointer (some ⟨Bg,0,none⟩)] w fun e w'=>e=.returned (.bool (nodeB N i))∧w=w':=by
 by_cases h1:0≤i
 ·by_cases h2:i<N
  ·have e:nodeB N i=true:=by unfold nodeB;exact decide_eq_true ⟨h1,h2⟩
   rw [e];clear e
   go_enter func88,ntmps88
   go_wp2
   go_ret
   exact⟨rfl,rfl⟩
  ·have e:nodeB N i=false:=by unfold nodeB;exact decide_eq_false (fun h=>h2 h.2)
   rw [e];clear e
   go_enter func88,ntmps88
   go_wp2
   go_ret
   exact⟨rfl,rfl⟩
 ·have e:nodeB N i=false:=by unfold nodeB;exact decide_eq_false (fun h=>h1 h.1)
  rw [e];clear e
  go_enter func88,ntmps88
  go_wp2
  go_ret
  exact⟨rfl,rfl⟩
theorem zgt (a:Option Addr)(N c Bg Bf:Nat)(x:Int×Int)(w:World)(hc:w.cell? ⟨Bg,0,none⟩=some (.slice a N c))(hf:w.cell? ⟨Bf,0,none⟩=some (.func (.func 88) #[] #[.pointer (some ⟨Bg,0,none⟩)])) :
  Calls prog 90 #[edgeV x,.pointer (some ⟨Bf,0,none⟩)] w fun e w'=>e=.returned (.bool (!nodeB N x.1||!nodeB N x.2))∧Below w.heap.size w w':=by
 have h1:=z97 a N c Bg x.1 _ (cellA (.cells #[intC x.1,intC x.2] 43) hc)
 have h2:=z97 a N c Bg x.2 _ (cellA (.cells #[intC x.1,intC x.2] 43) hc)
 generalize nodeB N x.1=b1 at *
 generalize nodeB N x.2=b2 at *
 have H1:=zh h1
 have H2:=zh h2
 have hf2:=cellA (.cells #[.int .i64 x.1,.int .i64 x.2] 43) hf
 clear h1 h2
 cases b1 with
 | false =>
  go_enter func90,ntmps90
  go_wp2_with fail
  refine H1.out.mono ?_
  rintro e w' ⟨rfl,rfl⟩
  go_wp2_with fail
  go_ret
  exact⟨rfl,(Below.refl _ _).alloc (zq _) _⟩
 | true =>
  cases b2 with
  | false =>
   go_enter func90,ntmps90
   go_wp2_with fail
   refine H1.out.mono ?_
   rintro e w' ⟨rfl,rfl⟩
   go_wp2_with fail
   refine H2.out.mono ?_
   rintro e w' ⟨rfl,rfl⟩
   go_wp2_with fail
   go_ret
   exact⟨rfl,(Below.refl _ _).alloc (zq _) _⟩
  | true =>
   go_enter func90,ntmps90
   go_wp2_with fail
   refine H1.out.mono ?_
   rintro e w' ⟨rfl,rfl⟩
   go_wp2_with fail
   refine H2.out.mono ?_
   rintro e w' ⟨rfl,rfl⟩
   go_wp2_with fail
   go_ret
   exact⟨rfl,(Below.refl _ _).alloc (zq _) _⟩
theorem zjc (N:Nat)(es:List (Int×Int)):validG N es=(decide (N≤1024)&&(decide (es.length≤4096)&&!es.any fun x=>!nodeB N x.1||!nodeB N x.2)):=by
 unfold validG
 rw [Bool.and_assoc]
 congr 2
 rw [Bool.eq_iff_iff,List.all_eq_true,Bool.not_eq_true',← Bool.not_eq_true,List.any_eq_true]
 unfold nodeB
 constructor
 ·rintro h ⟨x,hx,hx2⟩
  have:=h x hx
  simp at this hx2
  omega
 ·intro h x hx
  have h2:¬ ((!decide (0≤x.1∧x.1<(N:Int))||!decide (0≤x.2∧x.2<(N:Int)))=true):=fun h3=>h ⟨x,hx,h3⟩
  simp at h2 ⊢
  omega
theorem z82 (a:Option Addr)(N c:Nat)(ev:Value)(es:List (Int×Int))(w:World)(hes:es.length≤1000000000000)(hE:EdgesOf w.heap.size ev es w) :
  Calls prog 61 #[.agg #[.slice a N c,ev]] w fun e w'=>e=.returned (.bool (validG N es))∧Below w.heap.size w w':=by
 rw [zjc]
 have hE2:=hE
 obtain⟨ao,ec,rfl,_⟩:=hE2
 by_cases h1:N≤1024
 ·rw [decide_eq_true h1,Bool.true_and]
  have h1i:(N:Int)≤1024:=by omega
  by_cases h2:es.length≤4096
  ·rw [decide_eq_true h2,Bool.true_and]
   have h2i:(es.length:Int)≤4096:=by omega
   have hb:Below w.heap.size w ((w.alloc (.cells #[.slice a N c,.slice ao es.length ec] 32)).alloc (.cells #[.func (.func 88) #[] #[.pointer (some ⟨w.heap.size,0,none⟩)]] 139)):=((Below.refl _ w).alloc (zq _) _).alloc (by simp) _
   have hh:=zk7 90 #[.pointer (some ⟨w.heap.size+1,0,none⟩)] (enters_of func90 (by kernel_rfl) rfl) (fun x=>!nodeB N x.1||!nodeB N x.2) (.slice ao es.length ec) es
    ((w.alloc (.cells #[.slice a N c,.slice ao es.length ec] 32)).alloc (.cells #[.func (.func 88) #[] #[.pointer (some ⟨w.heap.size,0,none⟩)]] 139)) (by omega) ((hE.below hb (zq _)).mono (by simp;omega)) (fun W x hx hW=>by
     refine(zgt a N c w.heap.size (w.heap.size+1) x W ?_ ?_).mono fun e w' h=>⟨h.1,hW.trans (h.2.mono hW.size)⟩
     ·exact(hW.cell (p:=⟨w.heap.size,0,none⟩) (by show w.heap.size<_;simp;omega)).trans (cellA _ (zw _ _ _ _ _ _ (zn w _)))
     ·have:=zn (w.alloc (.cells #[.slice a N c,.slice ao es.length ec] 32)) (.cells #[.func (.func 88) #[] #[.pointer (some ⟨w.heap.size,0,none⟩)]] 139)
      rw [World.size_alloc]at this
      exact(hW.cell (p:=⟨w.heap.size+1,0,none⟩) (by show w.heap.size+1<_;simp)).trans (zw _ _ _ _ _ _ this))
   generalize (es.any fun x=>!nodeB N x.1||!nodeB N x.2)=q at *
   have HH:=zh hh
   have HB:=zh hb
   clear hh hb hE
   go_enter func61,ntmps61
   go_wp2_with fail
   refine HH.out.mono ?_
   rintro e w' ⟨rfl,hb'⟩
   go_wp2_with fail
   go_ret
   exact⟨rfl,HB.out.trans (hb'.mono (by simp;omega))⟩
  ·have h2i:decide ((es.length:Int)≤4096)=false:=decide_eq_false (by omega)
   rw [decide_eq_false h2]
   go_enter func61,ntmps61
   go_wp2_with fail
   go_ret
   exact⟨rfl,((Below.refl _ _).alloc (zq _) _).alloc (by simp) _⟩
 ·have h1i:decide ((N:Int)≤1024)=false:=decide_eq_false (by omega)
  rw [decide_eq_false h1]
  go_enter func61,ntmps61
  go_wp2_with fail
  go_ret
  exact⟨rfl,((Below.refl _ _).alloc (zq _) _).alloc (by simp) _⟩
end
section
open Go.Proofs.Tryz Go Go.RowKit
theorem z01 {α:Type}{enc:α→Value}{B:Nat}{v:Value}{l:List α}{W:World}(h:RowOf enc B v l W) :
  ∃ ao cap,v=.slice ao l.length cap∧∀ i x,l[i]? = some x→∃ b off,ao=some ⟨b,off,none⟩∧b<B∧W.cell? ⟨b,off+i,none⟩=some (enc x):=by
 rcases h with ⟨rfl,a,c,rfl⟩ | ⟨b,off,cap,rfl,hb,h⟩
 ·exact⟨a,c,rfl,fun i x hx=>by simp at hx⟩
 ·exact⟨_,cap,rfl,fun i x hx=>⟨b,off,rfl,hb,h i x hx⟩⟩
def PredI (g:Nat)(lb:Array Value)(es:List (Int))(p:Int→Bool)(w:World):Prop :=
 ∀ (W:World) (x:Int),x∈es→Below w.heap.size w W→Calls prog g (#[intC x]++lb) W fun e w'=>e=.returned (.bool (p x))∧Below w.heap.size w w'
theorem zlx (g:Nat)(lb:Array Value)(eg:∀ args w,(callFunc g args).run prog w=.ok (.enter g args) w)(p:Int→Bool)(v:Value)(es:List (Int))(w:World)(hes:es.length≤1000000000)(hE:RowOf intC w.heap.size v es w)(hp:PredI g lb es p w) :
  Calls prog 127 #[v,.func (.func g) #[] lb] w fun e w'=>∃ r:Int,e=.returned (.int .i64 r)∧(0≤r ↔ es.any p=true)∧Below w.heap.size w w':=by
 obtain⟨ao,ec,rfl,hE2⟩:=z01 hE
 have HE:=zh hE2
 have HP:=zh hp
 clear hE hE2 hp
 go_enter func127,ntmps127
 go_wp2
 go_loopw [8] (fun s wr=>∃ k:Nat,k≤es.length∧s=.int .i64 k∧Hid (Below w.heap.size w wr)∧Hid (∀ x∈es.take k,p x=false)) (fun s _=>es.length - (intOf s).toNat)
 case atStart=>exact⟨0,by omega,rfl,zh (Below.refl _ _),zh (by simp)⟩
 case round =>
  obtain⟨k,hk,rfl,HB,HA⟩:=hrel
  by_cases hlt:k<es.length
  ·have hlt2:(k:Int)<(es.length:Int):=by omega
   obtain⟨b,off,rfl,hb,hc1⟩:=HE.out k es[k] (by simp [hlt])
   have hc1:=(HB.out.cell (p:=⟨b,off+k,none⟩) hb).trans hc1
   have HT:Hid (es.take (k+1)=es.take k++[es[k]]):=zh (zs hlt)
   have hcall:=HP.out wr es[k] (List.getElem_mem hlt) HB.out
   have HM:Hid (es[k]∈es):=zh (List.getElem_mem hlt)
   generalize es[k]=x at *
   cases hq:p x with
   | true =>
    rw [hq]at hcall
    have HQ:=zh hq
    clear hq
    go_wp2_with (go_at_fn g;refine hcall.mono ?_;rintro e w' ⟨rfl,hb'⟩)
    go_ret
    exact⟨_,rfl,⟨fun _=>by rw [List.any_eq_true];exact⟨x,HM.out,HQ.out⟩,fun _=>by omega⟩,hb'⟩
   | false =>
    rw [hq]at hcall
    have HQ:=zh hq
    clear hq
    go_wp2_with (go_at_fn g;refine hcall.mono ?_;rintro e w' ⟨rfl,hb'⟩)
    go_roundw
    case rel =>
     refine⟨k+1,by omega,by go_num,zh hb',zh ?_⟩
     rw [HT.out]
     intro y hy
     rcases List.mem_append.1 hy with hy | hy
     ·exact HA.out y hy
     ·rw [List.mem_singleton]at hy;rw [hy];exact HQ.out
    case measure=>simp [intOf];omega
  ·have hkk:k=es.length:=by omega
   subst hkk
   rw [List.take_length]at HA
   go_wp2
   go_ret
   refine⟨-1,rfl,⟨fun h=>by omega,fun h=>?_⟩,HB.out⟩
   rw [List.any_eq_true]at h
   obtain⟨x,hx,hpx⟩:=h
   rw [HA.out x hx]at hpx
   cases hpx
theorem zlv (g:Nat)(lb:Array Value)(eg:∀ args w,(callFunc g args).run prog w=.ok (.enter g args) w)(p:Int→Bool)(v:Value)(es:List (Int))(w:World)(hes:es.length≤1000000000)(hE:RowOf intC w.heap.size v es w)(hp:PredI g lb es p w) :
  Calls prog 95 #[v,.func (.func g) #[] lb] w fun e w'=>e=.returned (.bool (es.any p))∧Below w.heap.size w w':=by
 have hi:=zlx g lb eg p v es w hes hE hp
 generalize es.any p=q at hi ⊢
 have HI:=zh hi
 obtain⟨ao,ec,rfl,_⟩:=z01 hE
 clear hp eg hi
 go_enter func95,ntmps95
 go_wp2_with fail
 refine HI.out.mono ?_
 rintro e w' ⟨r,rfl,hr,hb⟩
 cases q with
 | true =>
  have h0:0≤r:=hr.2 rfl
  clear hr
  go_wp2
  go_ret
  exact⟨rfl,hb⟩
 | false =>
  have h0:¬ 0≤r:=fun h=>by have:=hr.1 h;cases this
  have h1:decide (0≤r)=false:=decide_eq_false h0
  have h2:r<0:=by omega
  clear hr
  go_wp2
  go_ret
  exact⟨rfl,hb⟩
end
section
open Go.Proofs.Tryz Go Go.RowKit
def revE (n:Nat)(es:List (Int×Int)):List (Int×Int):=if validG n es=true then es.map swapE else []
def revN {α:Type}(ns:List α)(es:List (Int×Int)):List α:=if validG ns.length es=true then ns else []
def edgeCells (es:List (Int×Int)):List Value:=es.flatMap fun x=>[intC x.1,intC x.2]
theorem z45 (es:List (Int×Int))(x:Int×Int):edgeCells (es++[x])=edgeCells es++[intC x.1,intC x.2]:=by unfold edgeCells;rw [List.flatMap_append];rfl
theorem z61 (es:List (Int×Int)):(edgeCells es).length=es.length*2:=by
 induction es with
 | nil=>rfl
 | cons x es ih=>show(intC x.1::intC x.2::edgeCells es).length=_;simp [ih];omega
theorem z4j (es:List (Int×Int))(i:Nat)(x:Int×Int)(h:es[i]? = some x):(edgeCells es)[i*2]? = some (intC x.1)∧(edgeCells es)[i*2+1]? = some (intC x.2):=by
 induction es generalizing i with
 | nil=>simp at h
 | cons y es ih =>
  cases i with
  | zero=>simp at h;subst h;exact⟨rfl,rfl⟩
  | succ i =>
   have:=ih i (by simpa using h)
   have e:∀ j,(edgeCells (y::es))[j+2]? = (edgeCells es)[j]?:=fun j=>rfl
   rw [show(i+1)*2=i*2+2 by omega,show i*2+2+1=(i*2+1)+2 by omega,e,e]
   exact this
theorem zbw {W:World}{B n:Nat}{v:Value}{es:List (Int×Int)}(h:W.ownsRow B 43 2 v n (edgeCells es)):EdgesOf W.heap.size v es W:=by
 have hl:n=es.length:=by have:=h.1;rw [z61]at this;omega
 subst hl
 rcases h.2 with ⟨rfl,h0⟩ | ⟨g,cap,cur,rfl,hb,hg,hc,_⟩
 ·obtain rfl:=List.length_eq_zero_iff.1 h0
  exact⟨none,0,rfl,fun i x hx=>by simp at hx⟩
 ·refine⟨_,cap,rfl,fun i x hx=>⟨g,0,rfl,(zb hg),?_,?_⟩⟩
  ·have hi:=(zc hx)
   rw [Nat.zero_add,h.cellAt (i*2) (by omega)]
   exact(z4j es i x hx).1
  ·have hi:=(zc hx)
   rw [Nat.zero_add,h.cellAt (i*2+1) (by omega)]
   exact(z4j es i x hx).2
theorem z8h:(prog.info? 43).map (fun i=>(i.zero,i.size,i.bytes))=some (some (.agg #[.int .i64 0,.int .i64 0]),2,16):=by kernel_rfl
theorem zfq (nv:Value)(ns:List ByteArray)(w:World)(hn:ns.length≤1000000)(h:RowOf Value.string w.heap.size nv ns w) :
  Calls prog 55 #[nv] w fun e w'=>∃ ao cap,e=.returned (.slice ao ns.length cap)∧RowOf Value.string w'.heap.size (.slice ao ns.length cap) ns w'∧Below w.heap.size w w':=by
 rcases h with ⟨rfl,a,c,rfl⟩ | ⟨b,off,cap,rfl,hb,h⟩
 ·cases a with
  | none =>
   refine(Tryz.slices_Clone_string_nil 0 c w).mono ?_
   rintro e w' ⟨rfl,rfl⟩
   exact⟨none,0,rfl,.inl ⟨rfl,_,_,rfl⟩,Below.refl _ _⟩
  | some a =>
   refine(Tryz.slices_Clone_string_zero a c w).mono ?_
   rintro e w' ⟨v',rfl,ho,_,hb⟩
   rcases ho.2 with ⟨rfl,_⟩ | ⟨g,cap,cur,rfl,_⟩
   ·exact⟨none,0,rfl,.inl ⟨rfl,_,_,rfl⟩,hb⟩
   ·exact⟨_,cap,rfl,.inl ⟨rfl,_,_,rfl⟩,hb⟩
 ·refine(Tryz.slices_Clone_string b off ns.length cap ns w (zq _) (by omega) (fun j hj=>by
   have:=h j ns[j] (by simp [hj])
   rw [this,zg,ze hj]
   rfl)).mono ?_
  rintro e w' ⟨v',rfl,ho,_,hb⟩
  rw [List.take_length]at ho
  have hr:=z29 ho
  rcases ho.2 with ⟨rfl,h0⟩ | ⟨g,cap,cur,rfl,_⟩
  ·obtain rfl:=List.length_eq_zero_iff.1 h0
   exact⟨none,0,rfl,.inl ⟨rfl,_,_,rfl⟩,hb⟩
  ·exact⟨_,cap,rfl,hr.2,hb⟩
theorem z7n {W:World}{g t:Nat}{x y x' y':Value}(h:W.heap[g]? = some (.cells #[x,y] t (0,0))):((W.setCell ⟨g,0,none⟩ x').setCell ⟨g,1,none⟩ y').heap[g]? = some (.cells #[x',y'] t (0,0)):=by
 have h1:=heap_setCell_same W g 0 #[x,y] t x' h
 exact heap_setCell_same _ g 1 _ t y' h1
end
end Go.Proofs.YtapbhoodgnmnkaaGreatDoor
