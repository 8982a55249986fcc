/- Laws and contracts. -/
import Derived.Test.YtapbhoodgnmnkaaGreatDoorJR
set_option linter.unusedVariables false
set_option linter.unusedSimpArgs false
set_option maxRecDepth 100000
set_option maxHeartbeats 32000000
namespace Go.Proofs.YtapbhoodgnmnkaaGreatDoor
open Go.Proofs.Tryz Go Go.RowKit
theorem zhm (a:Option Addr)(c:Nat)(iv:Value)(X:List RelL)(w:World)(hX:X.length≤9223372036854775807)(hXr:∀ x∈X,x.reqs.length≤9223372036854775807)(hR:RelsOf w.heap.size (.slice a X.length c) X w) :
  Calls prog 25 #[.agg #[.slice a X.length c,iv],.slice none 0 0] w fun e w'=>∃ b:Bool,e=.returned (.bool b)∧(b=true→FewR X 16)∧Below w.heap.size w w':=by
 have HR:=zh hR
 clear hR
 have HB0:Hid (Below w.heap.size w (w.alloc (.cells #[.slice a X.length c,iv] 25))):=zh (belQ _ _)
 have HI0:Hid ((w.alloc (.cells #[.slice a X.length c,iv] 25)).heap[w.heap.size]? = some (.cells #[.slice a X.length c,iv] 25 (0,0))):=zh (zn w _)
 go_enter func25,ntmps25
 go_upto_region 1 with fail
 generalize w.alloc (.cells #[.slice a X.length c,iv] 25)=W at *
 have HF1:=zh (zji (.slice a X.length c) X 16 W (by omega) hX hXr ((HR.out.below HB0.out (zq _)).mono HB0.out.size))
 have HF2:=zh (ze3 (.slice none 0 0) [] W (by simp) ⟨_,_,rfl,fun i q hq=>by simp at hq⟩)
 have c0:W.cell? ⟨w.heap.size,0,none⟩=some (.slice a X.length c):=zw _ _ 0 _ _ _ HI0.out
 go_wp2_with fail
 refine HF1.out.mono ?_
 rintro e w2 ⟨b1,rfl,hb1,hww⟩
 obtain rfl:W=w2:=hww.symm
 cases b1 with
 | false =>
  go_wp2_with fail
  go_ret
  exact⟨false,rfl,(fun h=>by cases h),HB0.out⟩
 | true =>
  have HFR:=zh (hb1 rfl)
  clear hb1
  go_wp2_with fail
  refine HF2.out.mono ?_
  rintro e w2 ⟨b2,rfl,hb2,hww⟩
  obtain rfl:W=w2:=hww.symm
  have HFQ:=zh hb2
  clear hb2
  go_wp2_with fail
  go_ret
  exact⟨b2,rfl,fun h=>HFR.out,HB0.out⟩
theorem zhn (a:Option Addr)(c:Nat)(iv:Value)(X:List RelL)(fa ta:Option Addr)(fn fc tn tc:Nat)(w:World)(hX:X.length≤9223372036854775807)(hXr:∀ x∈X,x.reqs.length≤9223372036854775807)(hR:RelsOf w.heap.size (.slice a X.length c) X w)(hf:fn≤maxLen)(ht:tn≤maxLen) :
  Calls prog 6 #[.agg #[.slice a X.length c,iv],.slice fa fn fc,.slice ta tn tc] w fun e w'=>∃ b:Bool,e=.returned (.bool b)∧(b=true→FewR X 16∧fn≤12∧tn≤12)∧Below w.heap.size w w':=by
 have HF:=zh (fun W (hb:RowKit.Below w.heap.size w W)=>zhm a c iv X W hX hXr (hR.on hb))
 have HB0:=zh (IdxBx.start w (.slice a X.length c) iv)
 clear hR
 unfold maxLen at hf ht
 go_enter func6,ntmps6
 go_upto_region 1 with fail
 generalize w.alloc (.cells #[.slice a X.length c,iv] 25)=W at *
 have c0:=HB0.out.c0
 have c1:=HB0.out.c1
 go_wp2_with fail
 refine(HF.out _ HB0.out.bel).mono ?_
 rintro e w2 ⟨b1,rfl,hb1,hb2⟩
 have HB2:=zh (HB0.out.bel.trans (hb2.mono HB0.out.bel.size))
 cases b1 with
 | false =>
  clear hb1 hb2
  go_wp2_with fail
  go_ret
  exact⟨false,rfl,(fun h=>by cases h),HB2.out⟩
 | true =>
  have HFR:=zh (hb1 rfl)
  clear hb1 hb2
  by_cases h1:fn≤12
  ·have h1b:decide ((fn:Int)≤12)=true:=decide_eq_true (by omega)
   by_cases h2:tn≤12
   ·have h2b:decide ((tn:Int)≤12)=true:=decide_eq_true (by omega)
    go_wp2_with fail
    go_ret
    exact⟨true,by first | rfl | simp [h1b,h2b],fun _=>⟨HFR.out,h1,h2⟩,HB2.out⟩
   ·have h2b:decide ((tn:Int)≤12)=false:=decide_eq_false (by omega)
    go_wp2_with fail
    go_ret
    exact⟨false,by first | rfl | simp [h1b,h2b],(fun h=>by cases h),HB2.out⟩
  ·have h1b:decide ((fn:Int)≤12)=false:=decide_eq_false (by omega)
   go_wp2_with fail
   go_ret
   exact⟨false,by first | rfl | simp [h1b],(fun h=>by cases h),HB2.out⟩
structure InW (v iv fv tv:Value)(X:List RelL)(f t:List SelL)(w:World):Prop where
 max:MaxOk w
 xl:X.length≤1000000
 xq:∀ x∈X,RelBd x
 rel:RelsOf w.heap.size v X w
 fl:f.length≤12
 fy:∀ y∈f,SelBd y
 sf:SelsOf w.heap.size fv f w
 tl:t.length≤12
 ty:∀ y∈t,SelBd y
 st:SelsOf w.heap.size tv t w
section
variable {v iv fv tv:Value} {X:List RelL} {f t:List SelL} {w W:World}
theorem InW.on (h:InW v iv fv tv X f t w)(hb:Below w.heap.size w W):InW v iv fv tv X f t W:=⟨h.max.below hb h.max.pos,h.xl,h.xq,h.rel.on hb,h.fl,h.fy,h.sf.on hb,h.tl,h.ty,h.st.on hb⟩
theorem InW.graph (h:InW v iv fv tv X f t w):Calls prog 7 #[.agg #[v,iv],fv,tv] w (GraphR w (graphV X f t)) :=
 z6g v iv fv tv X f t w h.max h.xl h.xq h.rel (by have:=h.fl;omega) h.fy h.sf (by have:=h.tl;omega) h.ty h.st
theorem InW.groups (h:InW v iv fv tv X f t w):Calls prog 9 #[.agg #[v,iv],fv,tv] w (NamedR w (grpV X f t) (errW X f t)) :=
 zfk v iv fv tv X f t w h.max h.xl h.xq h.rel (by have:=h.fl;omega) h.fy h.sf (by have:=h.tl;omega) h.ty h.st
theorem InW.waves (h:InW v iv fv tv X f t w):Calls prog 11 #[.agg #[v,iv],fv,tv] w (NamedR w (wavV X f t) (errW X f t)) :=
 zh3 v iv fv tv X f t w h.max h.xl h.xq h.rel (by have:=h.fl;omega) h.fy h.sf (by have:=h.tl;omega) h.ty h.st
theorem InW.btw (h:InW v iv fv tv X f t w){mv:Value}{M:List ByteArray}(hl:M.length≤1000000)(hp:∀ p∈M,p.size≤maxLen)(hM:RowOf Value.string w.heap.size mv M w):Calls prog 19 #[.agg #[v,iv],fv,tv,mv] w (BtwR X f t M w) :=
 zcq v iv fv tv mv X f t M w h.max h.xl h.xq h.rel (by have:=h.fl;omega) h.fy h.sf (by have:=h.tl;omega) h.ty h.st hl hp hM
theorem InW.check (h:InW v iv fv tv X f t w){mv:Value}{L:List (List ByteArray)}(hl:L.length≤1000000)(hf:L.flatten.length≤1000000)(hp:∀ p∈L.flatten,p.size≤maxLen)(hM:NamesOf w.heap.size mv L w) :
  Calls prog 22 #[.agg #[v,iv],fv,tv,mv] w fun e w'=>e=.returned (.int .i64 (planV X f t L))∧Below w.heap.size w w' :=
 zgy v iv fv tv mv X f t L w h.max h.xl h.xq h.rel (by have:=h.fl;omega) h.fy h.sf (by have:=h.tl;omega) h.ty h.st hl hf hp hM
theorem InW.cons (h:InW v iv fv tv X f t w){sv:Value}{s:List SelL}(hs:s.length≤1000000)(hy:∀ y∈s,SelBd y)(hS:SelsOf w.heap.size sv s w) :
  Calls prog 13 #[.agg #[v,iv],sv] w fun e w'=>e=.returned (.int .i64 (consV X s))∧Below w.heap.size w w' :=
 z44 v iv sv X s w h.max h.xl h.xq h.rel hs hy hS
end
theorem z03 {w w':World}{v:Value}{L:List (List ByteArray)}(h:NamesOf w.heap.size v L w)(hb:Below w.heap.size w w'):NamesOf w'.heap.size v L w':=by
 obtain⟨a,c,rfl,h⟩:=h
 refine⟨a,c,rfl,fun i l hl=>?_⟩
 obtain⟨b,off,r,h1,h2,h3,h4⟩:=h i l hl
 exact⟨b,off,r,h1,Nat.lt_of_lt_of_le h2 hb.size,(hb.cell (p:=⟨b,off+i,none⟩) h2).trans h3,(h4.below hb (zq _)).mono hb.size⟩
theorem z4v {w w':World}{v:Value}{L:List ByteArray}(h:RowOf Value.string w.heap.size v L w)(hb:Below w.heap.size w w'):RowOf Value.string w'.heap.size v L w':=(h.below hb (zq _)).mono hb.size
theorem ziq {W:World}{g:Nat}{t:TypeId}(L:List ByteArray)(h:W.heap[g]? = some (.cells (L.map Value.string).toArray t (0,0))):RowOf Value.string W.heap.size (.slice (some ⟨g,0,none⟩) L.length L.length) L W:=by
 have hg:=(zb h)
 refine .inr ⟨g,0,L.length,rfl,hg,fun i x hx=>?_⟩
 have hc:(L.map Value.string).toArray[i]? = some (.string x):=by simp [hx]
 rw [show(0+i)=i from Nat.zero_add i]
 exact(zw W g i (L.map Value.string).toArray t (0,0) h).trans hc
theorem blk0 {W:World}{g:Nat}{t:TypeId}{x y:Value}(h:W.heap[g]? = some (.cells #[x,y] t (0,0))):W.cell? ⟨g,0,none⟩=some x:=zw _ _ 0 _ _ _ h
theorem blk1 {W:World}{g:Nat}{t:TypeId}{x y:Value}(h:W.heap[g]? = some (.cells #[x,y] t (0,0))):W.cell? ⟨g,1,none⟩=some y:=zw _ _ 1 _ _ _ h
theorem zbr {W:World}{g:Nat}{t:TypeId}{a b:Value}{A B:List ByteArray}(h:W.heap[g]? = some (.cells #[a,b] t (0,0)))(ha:RowOf Value.string W.heap.size a A W)(hb:RowOf Value.string W.heap.size b B W):NamesOf W.heap.size (.slice (some ⟨g,0,none⟩) 2 2) [A,B] W:=by
 have hg:=(zb h)
 refine⟨_,_,rfl,fun i l hl=>?_⟩
 match i,hl with
 | 0,hl=>cases hl;exact⟨g,0,a,rfl,hg,zw _ _ 0 _ _ _ h,ha⟩
 | 1,hl=>cases hl;exact⟨g,0,b,rfl,hg,zw _ _ 1 _ _ _ h,hb⟩
 | i+2,hl=>simp at hl
section
open Go.Proofs.Tryz Go
def wA:ByteArray:=⟨#[97,47,118,49]⟩
def wB:ByteArray:=⟨#[98,47,118,49]⟩
def wC:ByteArray:=⟨#[99,47,118,49]⟩
def onlyQ (p:ByteArray)(m:Int):ReqL:=(p,[(1000*m,1000*m+1)])
def allQ (p:ByteArray):ReqL:=(p,[(0,1000000)])
def wR (p:ByteArray)(m:Int)(l:List ReqL):RelL:=⟨p,(1,m,0),l,⟨#[]⟩,⟨#[]⟩,⟨#[]⟩,false⟩
def wX:List RelL:=[wR wA 0 [onlyQ wB 0],wR wA 1 [onlyQ wB 1,allQ wC],wR wB 0 [],wR wB 1 [],wR wC 0 []]
def wS (p:ByteArray)(m:Int):SelL:=(p,(1,m,0))
def wF:List SelL:=[wS wA 0,wS wB 0]
def wT:List SelL:=[wS wA 1,wS wB 1,wS wC 0]
def satB (X:List RelL)(s:List SelL):Bool:=decide (checkX X=0)&&(decide (s.Pairwise fun a b=>ltB a.1 b.1=true)&&s.all fun y=>(findR X y).isSome&&(reqsOf X y).all fun q=>metB s q)
theorem z6b {X:List RelL}{s:List SelL}:satB X s=true ↔ ConsP X s:=by
 unfold satB
 rw [Bool.and_eq_true,Bool.and_eq_true,decide_eq_true_iff,decide_eq_true_iff,List.all_eq_true]
 constructor
 ·rintro⟨h1,h2,h3⟩
  refine⟨h1,h2,fun y hy=>?_,fun y hy q hq=>?_,fun q hq=>by cases hq⟩
  ·have:=h3 y hy
   rw [Bool.and_eq_true]at this
   exact this.1
  ·have:=h3 y hy
   rw [Bool.and_eq_true,List.all_eq_true]at this
   exact this.2 q hq
 ·intro h
  refine⟨h.ok,h.incr,fun y hy=>?_⟩
  rw [Bool.and_eq_true,List.all_eq_true]
  exact⟨h.found y hy,fun q hq=>h.own y hy q hq⟩
theorem wex_F:ConsP wX wF:=z6b.1 (by decide +kernel)
theorem wex_T:ConsP wX wT:=z6b.1 (by decide +kernel)
theorem z39:errW wX wF wT=0:=z6v.2 ⟨wex_F,wex_T⟩
theorem ze0:allP wF wT=[wA,wB,wC]:=by
 have e1:wF.map (·.1)=[wA,wB]:=rfl
 have e2:wT.map (·.1)=[wA,wB,wC]:=rfl
 unfold allP
 rw [e1,e2,z10,if_pos rfl,z10,if_pos rfl,z1e]
theorem z5m:movesP wF wT=[wA,wB,wC]:=by
 unfold movesP
 rw [ze0]
 decide +kernel
def wEs:List (Int×Int):=[(0,1),(0,2),(1,0)]
theorem zae:wavE wX wF wT=wEs:=by
 unfold wavE
 rw [z5m]
 decide +kernel
theorem zje:compsG 3 wEs=[[2],[0,1]]:=by decide +kernel
theorem zfb (r:List Nat)(h:(r.map fun n:Nat=>(n:Int)).Pairwise fun x y=>decide (x≤y)=true):sortN r=r:=by
 unfold sortN
 rw [List.mergeSort_of_pairwise h,List.map_map]
 have:(Int.toNat ∘ fun n:Nat=>(n:Int))=id:=by funext n;rfl
 rw [this,List.map_id]
theorem zmo:(lvrun (condG 3 wEs) (nodesG 3 wEs) (listF (condG 3 wEs))).2=[[2],[0,1]]:=by decide +kernel
theorem zgx:levelsG 3 wEs=[[2],[0,1]]:=by
 unfold levelsG
 rw [zmo]
 simp only [List.map_cons,List.map_nil]
 rw [zfb [2] (by decide),zfb [0,1] (by decide)]
theorem zjf:grpW wX wF wT=[[wC],[wA,wB]]:=by
 unfold grpW
 rw [zae,z5m,show [wA,wB,wC].length=3 from rfl,zje]
 rfl
theorem zmp:wavW wX wF wT=[[wC],[wA,wB]]:=by
 unfold wavW
 rw [zae,z5m,show [wA,wB,wC].length=3 from rfl,zgx]
 rfl
theorem zlg:planV wX wF wT [[wC],[wA,wB]]=0:=by
 have h:=(zin z39).1
 rwa [zjf]at h
theorem zmn:betV wF wT [wC]=[wS wA 0,wS wB 0,wS wC 0]:=by
 unfold betV
 rw [ze0]
 decide +kernel
theorem zlc:betV wF wT [wA,wB]=[wS wA 1,wS wB 1]:=by
 unfold betV
 rw [ze0]
 decide +kernel
theorem zle:consV wX [wS wA 0,wS wB 0,wS wC 0]=0:=z0b.2 (z6b.1 (by decide +kernel))
theorem zjg:planV wX wF wT [[wA,wB],[wC]]=17:=by
 have hne:¬ ConsP wX [wS wA 1,wS wB 1]:=fun h=>by
  have:=z6b.2 h
  rw [show satB wX [wS wA 1,wS wB 1]=false by decide +kernel]at this
  cases this
 unfold planV
 rw [if_neg (fun h=>h z39),if_neg,if_pos]
 ·exact⟨0,by decide,fun h=>hne (by rw [← zlc];exact h)⟩
 ·rw [Classical.not_not,z5m]
  refine⟨fun l hl=>?_,by decide +kernel,fun p=>?_⟩
  ·simp only [List.mem_cons,List.not_mem_nil,or_false]at hl
   rcases hl with rfl | rfl
   ·exact⟨by simp,show IncB [wA,wB] by unfold IncB;decide +kernel⟩
   ·exact⟨by simp,show IncB [wC] by unfold IncB;decide +kernel⟩
  ·exact Iff.rfl
end
end Go.Proofs.YtapbhoodgnmnkaaGreatDoor
