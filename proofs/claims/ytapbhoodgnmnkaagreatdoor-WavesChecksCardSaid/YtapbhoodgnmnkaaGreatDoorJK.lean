/- Laws and contracts. -/
import Derived.Test.YtapbhoodgnmnkaaGreatDoorJJ
set_option linter.unusedVariables false
set_option linter.unusedSimpArgs false
set_option maxRecDepth 100000
set_option maxHeartbeats 32000000
namespace Go.Proofs.YtapbhoodgnmnkaaGreatDoor
open Go.Proofs.Tryz Go Go.RowKit
structure DescW (B:Nat)(w W:World)(N gf bf bo bn:Nat)(acc:List Nat)(n:Nat)(ov:Value):Prop where
 o:Boxed W bo 109 ov
 os:W.ownsRow B 3 1 ov acc.length (acc.map natC)
 n:Boxed W bn 3 (natC n)
 f:Boxed W bf 109 (.slice (some ⟨gf,0,none⟩) N N)
 ne:ov.ownBlock≠some bn
 b:Below B w W
 le:B≤bf∧B≤bo∧B≤bn∧bf≠bo∧bn≠bo∧bn≠bf
theorem zh4 {F:Fence}{n:Nat}(w:World){ops:Array Oper}{rest:List Oper}{o:Oper}{ac:Act}{Q:Exit→Act→World→Prop}
  (hg:o.guard=none) (s x:Operand) (hop:o.op=Op.call { callee:=Callee.builtin Builtin.append,args:=#[s,x],argTypes:=#[109,109] })
  (B:Nat) (v:Value) (k:Nat) (xs:List Value) (hs:ac.eval s=v) (h:w.ownsRow B 3 1 v k xs) (hB:B≤w.heap.size) (u:Value) (a:Addr) (c:Nat) (hx:ac.eval x=.slice (some a) 1 c) (hu:w.cell? a=some u) (h1:u.oneCell'=true) (hl:k+1≤1000000000)
  (hK:∀ g cap w',w'.ownsRow B 3 1 (.slice (some ⟨g,0,none⟩) (k+1) cap) (k+1) (xs++[u])→w.grownBy w' v.ownBlock→(v.ownBlock=some g∨g=w.heap.size)→wpListIn F n prog ops Q rest (ac.put o.dst (.slice (some ⟨g,0,none⟩) (k+1) cap)) w') :
  wpListIn F n prog ops Q (o::rest) ac w:=by
 refine wpListIn_plain hg fun K hK'=>?_
 obtain⟨i0,hi,hz0,hz1,hz2⟩:=info_parts z1l
 obtain⟨g,cap,w',hrun,r1,r2,r3,_⟩:=run_append_lies (P:=prog) w 109 o.type B 3 i0 (.int .i64 0) 1 8 underlying109 hi hz0 hz1 hz2 rfl (by decide) v k xs h a 1 c [u] rfl (fun j y hy=>by
  cases j with
  | zero =>
   simp at hy
   subst hy
   have:a.add 0=a:=by unfold Addr.add;split<;>simp_all
   rw [this];exact hu
  | succ j=>simp at hy) (by simpa using h1) (by decide) (by unfold maxLen;omega) (by omega) hB w.heap.size rfl
 unfold Oper.wpIn
 refine⟨?_,?_⟩
 ·simp [Oper.about,hop,resolve,Target.leads,Sem.run_pure]
 ·rw [Oper.semAt_plain F _ _ (by rw [hop];intro c hc';cases hc')]
  simp [execOp,hop,resolve,invoke,builtin,hs,hx,hrun,Result.andThen]
  exact hK' _ _ (hK g cap w' r1 r2 r3)
def DescI (B:Nat)(far:List Int)(w:World)(N gf bf bo bn n hs:Nat)(acc:List Nat)(ds:List Deferred)(pre:List Nat)(W':World):Prop :=
 ∃ ov:Value,(∀ k∈pre,gD far k≠gD far n - 1)∧DescW B w W' N gf bf bo bn acc n ov∧Marks B ds W'∧hs≤W'.heap.size∧∀ k,ov.ownBlock=some k→k<hs - 3∨hs≤k
def DescX (B:Nat)(far:List Int)(w:World)(N gf bf bo bn n hs:Nat)(acc:List Nat)(ds:List Deferred)(id:Nat)(c:Code)(pre:List Nat)(W':World):Prop :=
 c=.exit id∧∃ (ov:Value) (zs:List Nat) (x:Nat),pre=zs++[x]∧(∀ k∈zs,gD far k≠gD far n - 1)∧gD far x=gD far n - 1∧DescW B w W' N gf bf bo bn (acc++[x]) x ov∧Marks B ds W'∧hs≤W'.heap.size
theorem zen {W:World}{g:Nat}{l:List Int}(h:Ints W g l):g<W.heap.size:=(zb h)
theorem zma {P:Program}{n:Nat}{ops:Array Oper}{Q:Exit→Act→World→Prop}{i:Nat}{a:Act}{w:World}{K K':Act→World→Prop}(hQ:∀ a w,¬ Q .outgrown a w)
  (hK:∀ a w,K a w→K' a w) (h:wpOp P ops Q i K a w):wpOpIn Fence.wide n P ops Q i K' a w:=by
 unfold wpOp at h
 unfold wpOpIn
 cases ho:ops[i]? with
 | none=>simp only [ho]at h ⊢;exact hK _ _ h
 | some o =>
  simp only [ho]at h ⊢
  by_cases hw:Region.wanted o (yielded ops a.tmps)=true
  ·rw [if_pos hw]at h ⊢
   rcases h with h | ⟨_,a0,w0,h⟩
   ·refine⟨fun _ _=>trivial,?_⟩
    show Oper.uponIn _ _ _ _ _ _ _ ((execOp a.eval o).run P w)
    unfold Oper.wp at h
    generalize (execOp a.eval o).run P w=r at *
    cases r with
    | ok x w' =>
     cases x<;>simp only [Oper.upon,Oper.uponIn]at h ⊢
     case value v=>exact hK _ _ h
     case skip=>exact hK _ _ h
     case defer d=>exact hK _ _ h
     case enter f args =>
      refine⟨fun h=>(by cases h),?_⟩
      refine callsIn_wide.2 (h.mono ?_)
      intro e w'' he
      cases e with
      | returned v=>exact hK _ _ he
      | panicked c=>exact he
      | outgrown=>exact he
     case row r args =>
      refine⟨fun h=>(by cases h),?_⟩
      intro c cs _
      obtain⟨v,w'',hv,hs⟩:=h c cs
      exact⟨v,w'',hK _ _ hv,stepsIn_wide.2 hs⟩
    | halt x w' =>
     cases x<;>simp only [Oper.upon,Oper.uponIn]at h ⊢<;>exact h
   ·exact absurd h (hQ _ _)
  ·rw [if_neg hw]at h ⊢
   exact⟨fun _ _=>trivial,hK _ _ h⟩
theorem ze7 {P:Program}{n:Nat}{md:Region.Mode}{ops:Array Oper}{Q:Exit→Act→World→Prop}(hQ:∀ a w,¬ Q .outgrown a w) :
  ∀ (fuel:Nat) (listed:Array Bool) (a:Act) (w:World),wpAny P md ops Q fuel listed a w→wpAnyIn Fence.wide n P md ops Q fuel listed a w
 | 0,_,_,_,h=>h
 | fuel+1,listed,a,w,h=>⟨h.1,fun i hi=>zma hQ (fun a w h=>ze7 hQ fuel _ a w h) (h.2 i hi)⟩
theorem z7j {P:Program}{n id:Nat}{ops:Array Oper}{Q:Exit→Act→World→Prop}{a:Act}{w:World}(hm:P.follows .mixedOrders=true)(hQ:∀ a w,¬ Q .outgrown a w)
  (h:wpAny P .any ops Q ops.size (Array.replicate ops.size false) a w.drew):(Code.region id ops true).wpIn Fence.wide n P Q a w :=
 wpIn_region_any hm (ze7 hQ _ _ _ _ h)
theorem z3m {P:Program}{n id:Nat}{ops:Array Oper}{Q:Exit→Act→World→Prop}{a:Act}{w:World}{S:World→Prop}(hm:P.follows .mixedOrders=true)(hQ:∀ a w,¬ Q .outgrown a w)
  (h:wpAnyH P .any ops (NoPanic Q) S ops.size (Array.replicate ops.size false) a w.drew):(Code.region id ops true).wpIn Fence.wide n P Q a w :=
 Code.wpIn_mono (fun e a w q=>NoPanic.imp e a w q) (z7j hm (fun a w q=>hQ a w q) (wpAny_of_held _ _ _ _ h))
def HeldG (b:Nat)(x y:Value)(W:World):Prop:=W.cell? ⟨b,0,none⟩=some x∧W.cell? ⟨b,1,none⟩=some y
structure CycW (B:Nat)(w W:World)(N gf bf bx bl:Nat)(far:List Int)(st:Int×Int)(bv:Value)(best:List Nat):Prop where
 f:Boxed W bf 109 (.slice (some ⟨gf,0,none⟩) N N)
 i:Ints W gf far
 x:Boxed W bx 3 (intC st.1)
 l:Boxed W bl 3 (intC st.2)
 o:W.ownsRow B 3 1 bv best.length (best.map natC)
 b:Below B w W
theorem Marks.drew {B:Nat}{ds:List Deferred}{W:World}(h:Marks B ds W):Marks B ds W.drew:=h.keep (fun _ _ _=>rfl)
def CycI (B:Nat)(w:World)(N gf bf bx bl hs:Nat)(far:List Int)(bv:Value)(best:List Nat)(ds:List Deferred)(pre:List Nat)(W':World):Prop :=
 CycW B w W' N gf bf bx bl far (pre.foldl (cstep far) (-1,0)) bv best∧Marks B ds W'∧hs≤W'.heap.size
section
open Go.Proofs.Tryz
structure TS where
 ix:List Int
 lo:List Int
 co:List Int
 st:List Nat
 nx:Nat
 ct:Nat
def tmark (s:TS)(n:Nat):TS:=⟨s.ix.set n s.nx,s.lo.set n s.nx,s.co,s.st++[n],s.nx+1,s.ct⟩
def tlow (s:TS)(n:Nat)(x:Int):TS:={ s with lo:=s.lo.set n (min (gD s.lo n) x) }
def tstep (v:TS→Nat→TS)(n:Nat)(s:TS)(k:Nat):TS :=
 if gD s.ix k=0 then tlow (v s k) n (gD (v s k).lo k) else if gD s.co k<0 then tlow s n (gD s.ix k) else s
def tpopL (ct:Int)(n:Nat):List Nat→List Int→List Nat×List Int
 | [],co=>([],co)
 | k::r,co=>if k=n then(r,co.set k ct) else tpopL ct n r (co.set k ct)
def tpop (s:TS)(n:Nat):TS:={ s with st:=(tpopL s.ct n s.st.reverse s.co).1.reverse,co:=(tpopL s.ct n s.st.reverse s.co).2,ct:=s.ct+1 }
def tfin (s:TS)(n:Nat):TS:=if gD s.lo n<gD s.ix n then s else tpop s n
def visitT (S:List (List Nat)):Nat→TS→Nat→TS
 | 0,s,_=>s
 | f+1,s,n=>tfin ((S.getD n []).foldl (tstep (visitT S f) n) (tmark s n)) n
def tinit (N:Nat):TS:=⟨List.replicate N 0,List.replicate N 0,List.replicate N (-1),[],1,0⟩
def tround (S:List (List Nat))(s:TS)(n:Nat):TS:=if gD s.ix n=0 then visitT S S.length s n else s
def tarjan (S:List (List Nat)):TS:=(List.range S.length).foldl (tround S) (tinit S.length)
def zeros (d:List Int):Nat:=d.countP (fun x=>decide (x=0))
theorem z2v:∀ (d:List Int)(k:Nat)(x:Int),k<d.length→gD d k=0→x≠0→zeros (d.set k x)+1=zeros d
 | [],k,x,h,_,_=>by simp at h
 | y::d,0,x,_,h,hx=>by
  have hy:y=0:=h
  unfold zeros
  rw [List.set_cons_zero,List.countP_cons,List.countP_cons]
  simp [hy,hx]
 | y::d,k+1,x,hk,h,hx=>by
  have:=z2v d k x (by simpa using hk) h hx
  unfold zeros at *
  rw [List.set_cons_succ,List.countP_cons,List.countP_cons]
  omega
structure TInv (N:Nat)(s:TS):Prop where
 li:s.ix.length=N
 ll:s.lo.length=N
 lc:s.co.length=N
 nz:s.nx+zeros s.ix=N+1
 sl:s.st.length<s.nx
 sk:∀ k∈s.st,k<N
 ct:s.ct<s.nx
structure TRel (s s':TS):Prop where
 z:zeros s'.ix≤zeros s.ix
 p:∃ zs,s'.st=s.st++zs
 k:s.nx+s'.ct≤s'.nx+s.ct
theorem TRel.refl (s:TS):TRel s s:=⟨zq _,⟨[],by simp⟩,zq _⟩
theorem TRel.trans {a b c:TS}(h:TRel a b)(k:TRel b c):TRel a c:=by
 refine⟨Nat.le_trans k.z h.z,?_,by have:=h.k;have:=k.k;omega⟩
 obtain⟨x,hx⟩:=h.p
 obtain⟨y,hy⟩:=k.p
 exact⟨x++y,by rw [hy,hx,List.append_assoc]⟩
theorem TInv.mark {N:Nat}{s:TS}{n:Nat}(h:TInv N s)(hn:n<N)(h0:gD s.ix n=0):TInv N (tmark s n)∧zeros (tmark s n).ix+1=zeros s.ix:=by
 have hx:((s.nx:Nat):Int)≠0:=by have:=h.ct;omega
 have hz:=z2v s.ix n s.nx (by rw [h.li];exact hn) h0 hx
 refine⟨⟨by simp [tmark,h.li],by simp [tmark,h.ll],h.lc,?_,?_,?_,?_⟩,hz⟩
 ·have:=h.nz;show s.nx+1+zeros (s.ix.set n s.nx)=N+1;omega
 ·have:=h.sl;simp [tmark];exact this
 ·intro k hk
  rcases List.mem_append.1 hk with hk | hk
  ·exact h.sk k hk
  ·rw [List.mem_singleton]at hk;omega
 ·have:=h.ct;show s.ct<s.nx+1;omega
theorem TInv.low {N:Nat}{s:TS}(h:TInv N s)(n:Nat)(x:Int):TInv N (tlow s n x):=⟨h.li,by simp [tlow,h.ll],h.lc,h.nz,h.sl,h.sk,h.ct⟩
theorem TRel.low (s:TS)(n:Nat)(x:Int):TRel s (tlow s n x):=⟨zq _,⟨[],by simp [tlow]⟩,zq _⟩
theorem z96 (ct:Int)(n:Nat):∀ (r:List Nat)(co:List Int),(tpopL ct n r co).2.length=co.length∧(tpopL ct n r co).1.length≤r.length∧∃ zs,r=zs++(tpopL ct n r co).1
 | [],co=>⟨rfl,zq _,[],rfl⟩
 | k::r,co=>by
  unfold tpopL
  split
  ·exact⟨by simp,by simp,[k],rfl⟩
  ·obtain⟨h1,h2,zs,h3⟩:=z96 ct n r (co.set k ct)
   exact⟨by simpa using h1,by simp;omega,k::zs,by rw [List.cons_append,← h3]⟩
theorem z7p (ct:Int)(n:Nat):∀ (zs r:List Nat)(co:List Int),n∈zs→∃ ys,(tpopL ct n (zs++r) co).1=ys++r
 | [],r,co,h=>by simp at h
 | k::zs,r,co,h=>by
  show ∃ ys,(if k=n then(zs++r,co.set k ct) else tpopL ct n (zs++r) (co.set k ct)).1=ys++r
  by_cases e:k=n
  ·rw [if_pos e];exact⟨zs,rfl⟩
  ·rw [if_neg e]
   exact z7p ct n zs r _ (by rcases List.mem_cons.1 h with h | h;exact absurd h.symm e;exact h)
theorem TInv.pop {N:Nat}{s:TS}(h:TInv N s)(n:Nat)(hc:s.ct+1<s.nx):TInv N (tpop s n):=by
 obtain⟨h1,h2,zs,h3⟩:=z96 s.ct n s.st.reverse s.co
 refine⟨h.li,h.ll,by show(tpopL s.ct n s.st.reverse s.co).2.length=N;rw [h1,h.lc],h.nz,?_,?_,hc⟩
 ·have:=h.sl
  show(tpopL s.ct n s.st.reverse s.co).1.reverse.length<s.nx
  rw [List.length_reverse]at *
  omega
 ·intro k hk
  have hk2:k∈(tpopL s.ct n s.st.reverse s.co).1:=List.mem_reverse.1 hk
  refine h.sk k (List.mem_reverse.1 ?_)
  rw [h3]
  exact List.mem_append_right _ hk2
theorem z6e {N f n:Nat}{v:TS→Nat→TS}(hv:∀ s k,zeros s.ix≤f→TInv N s→k<N→gD s.ix k=0→TInv N (v s k)∧TRel s (v s k)) :
  ∀ (l:List Nat) (s:TS),(∀ k∈l,k<N)→zeros s.ix≤f→TInv N s→TInv N (l.foldl (tstep v n) s)∧TRel s (l.foldl (tstep v n) s)
 | [],s,_,_,h=>⟨h,TRel.refl _⟩
 | k::l,s,hl,hz,h=>by
  have h1:TInv N (tstep v n s k)∧TRel s (tstep v n s k):=by
   unfold tstep
   split
   ·obtain⟨h1,h2⟩:=hv s k hz h (hl k (by simp)) ‹_›
    exact⟨h1.low _ _,h2.trans (TRel.low _ _ _)⟩
   ·split
    ·exact⟨h.low _ _,TRel.low _ _ _⟩
    ·exact⟨h,TRel.refl _⟩
  obtain⟨h2,h3⟩:=z6e (n:=n) hv l (tstep v n s k) (fun j hj=>hl j (by simp [hj])) (Nat.le_trans h1.2.z hz) h1.1
  exact⟨h2,h1.2.trans h3⟩
theorem z2u {S:List (List Nat)}(hS:∀ a,∀ k∈S.getD a [],k<S.length):∀ (f:Nat)(s:TS)(n:Nat),zeros s.ix≤f→TInv S.length s→n<S.length→gD s.ix n=0→TInv S.length (visitT S f s n)∧TRel s (visitT S f s n)
 | 0,s,n,hz,h,hn,h0=>by
  have:=z2v s.ix n 1 (by rw [h.li];exact hn) h0 (by decide)
  omega
 | f+1,s,n,hz,h,hn,h0=>by
  obtain⟨m1,m2⟩:=h.mark hn h0
  obtain⟨f1,f2⟩:=z6e (n:=n) (fun s k a b c d=>z2u hS f s k a b c d) (S.getD n []) (tmark s n) (hS n) (by omega) m1
  unfold visitT
  generalize (S.getD n []).foldl (tstep (visitT S f) n) (tmark s n)=t at *
  obtain⟨zs,hzs⟩:=f2.p
  have hk:=f2.k
  have e1:(tmark s n).nx=s.nx+1:=rfl
  have e2:(tmark s n).ct=s.ct:=rfl
  have e3:(tmark s n).st=s.st++[n]:=rfl
  have hz2:=f2.z
  have hct:=h.ct
  unfold tfin
  split
  ·exact⟨f1,by omega,⟨[n]++zs,by rw [hzs,e3,List.append_assoc]⟩,by omega⟩
  ·refine⟨f1.pop n (by omega),by show zeros t.ix≤_;omega,?_,by show s.nx+(t.ct+1)≤t.nx+s.ct;omega⟩
   obtain⟨ys,hys⟩:=z7p t.ct n (zs.reverse++[n]) s.st.reverse t.co (by simp)
   refine⟨ys.reverse,?_⟩
   show(tpopL t.ct n t.st.reverse t.co).1.reverse=_
   have:t.st.reverse=zs.reverse++[n]++s.st.reverse:=by rw [hzs,e3];simp
   rw [this,hys]
   simp
theorem zla (N:Nat):TInv N (tinit N):=by
 refine⟨by simp [tinit],by simp [tinit],by simp [tinit],?_,by simp [tinit],by simp [tinit],by simp [tinit]⟩
 have:zeros (List.replicate N 0)=N:=by
  unfold zeros
  rw [List.countP_replicate]
  simp
 show 1+zeros (List.replicate N 0)=N+1
 omega
theorem zah (d:List Int):zeros d≤d.length:=List.countP_le_length
theorem zja {S:List (List Nat)}(hS:∀ a,∀ k∈S.getD a [],k<S.length)(s:TS)(n:Nat)(hn:n<S.length)(h:TInv S.length s):TInv S.length (tround S s n):=by
 unfold tround
 split
 ·exact(z2u hS S.length s n (by have:=zah s.ix;rw [h.li]at this;exact this) h hn ‹_›).1
 ·exact h
def trun (S:List (List Nat))(k:Nat):TS:=(List.range k).foldl (tround S) (tinit S.length)
theorem z51 (S:List (List Nat))(k:Nat):trun S (k+1)=tround S (trun S k) k:=by
 unfold trun
 rw [List.range_succ,List.foldl_append]
 rfl
theorem z6d {S:List (List Nat)}(hS:∀ a,∀ k∈S.getD a [],k<S.length):∀ k,k≤S.length→TInv S.length (trun S k)
 | 0,_=>zla _
 | k+1,h=>by
  rw [z51]
  exact zja hS _ k (by omega) (z6d hS k (by omega))
end
def Lay (W:World)(L:List (Nat×Obj)):Prop:=∀ p∈L,W.heap[p.1]? = some p.2
theorem Lay.get {W:World}{L:List (Nat×Obj)}(h:Lay W L)(i:Nat){b:Nat}{o:Obj}(hi:L[i]? = some (b,o)):W.heap[b]? = some o:=h _ (List.mem_of_getElem? hi)
theorem Lay.keep {W W':World}{L:List (Nat×Obj)}(h:Lay W L)(hk:∀ b∈L.map (·.1),b<W.heap.size→W'.heap[b]? = W.heap[b]?):Lay W' L:=fun p hp =>
 (hk p.1 (List.mem_map.2 ⟨p,hp,rfl⟩) (Array.getElem?_eq_some_iff.1 (h p hp)).1).trans (h p hp)
theorem Lay.lt {W:World}{L:List (Nat×Obj)}(h:Lay W L):∀ b∈L.map (·.1),b<W.heap.size:=fun b hb=>by
 obtain⟨p,hp,rfl⟩:=List.mem_map.1 hb
 exact(Array.getElem?_eq_some_iff.1 (h p hp)).1
theorem Lay.put {W W':World}{L:List (Nat×Obj)}(h:Lay W L)(hn:(L.map (·.1)).Nodup)(i:Nat){b:Nat}{o o':Obj}(hi:L[i]? = some (b,o))(hs:W'.heap[b]? = some o')(ho:∀ k,k≠b→W'.heap[k]? = W.heap[k]?):Lay W' (L.set i (b,o')):=by
 intro p hp
 obtain⟨j,hj⟩:=List.getElem?_of_mem hp
 by_cases e:j=i
 ·subst e
  rw [List.getElem?_set_self (zc hi)]at hj
  cases hj
  exact hs
 ·rw [List.getElem?_set_ne (Ne.symm e)]at hj
  refine(ho _ (fun e2=>e ?_)).trans (h p (List.mem_of_getElem? hj))
  have h1:(L.map (·.1))[j]? = some b:=by rw [List.getElem?_map,hj];simp [e2]
  have h2:(L.map (·.1))[i]? = some b:=by rw [List.getElem?_map,hi];rfl
  have hjl:=(zc h1)
  exact(List.getElem?_inj hjl hn).1 (h1.trans h2.symm)
theorem Lay.set {W:World}{L:List (Nat×Obj)}(h:Lay W L)(hn:(L.map (·.1)).Nodup)(i:Nat){b t:Nat}{cs:Array Value}(hi:L[i]? = some (b,.cells cs t (0,0)))(j:Nat)(x:Value):Lay (W.setCell ⟨b,j,none⟩ x) (L.set i (b,.cells (cs.setIfInBounds j x) t (0,0))) :=
 h.put hn i hi (heap_setCell_same W b j _ _ x (h.get i hi)) (fun k hk=>heap_setCell_other _ _ _ _ hk)
theorem Lay.box {W:World}{L:List (Nat×Obj)}(h:Lay W L)(hn:(L.map (·.1)).Nodup)(i:Nat){b t:Nat}{u:Value}(hi:L[i]? = some (b,.cells #[u] t (0,0)))(x:Value):Lay (W.setCell ⟨b,0,none⟩ x) (L.set i (b,.cells #[x] t (0,0))):=h.set hn i hi 0 x
theorem Lay.int {W:World}{L:List (Nat×Obj)}(h:Lay W L)(hn:(L.map (·.1)).Nodup)(i:Nat){b t:Nat}{l:List Int}(hi:L[i]? = some (b,.cells (l.map intC).toArray t (0,0)))(j:Nat)(x:Int):Lay (W.setCell ⟨b,j,none⟩ (intC x)) (L.set i (b,.cells ((l.set j x).map intC).toArray t (0,0))):=by
 have:=h.set hn i hi j (intC x)
 rwa [show(l.map intC).toArray.setIfInBounds j (intC x)=((l.set j x).map intC).toArray by simp [List.map_set]]at this
theorem Lay.grown {W W':World}{L:List (Nat×Obj)}{row:Option Nat}(h:Lay W L)(hg:W.grownBy W' row)(hr:∀ r,row=some r→r ∉ L.map (·.1)):Lay W' L:=h.keep fun b hb hl=>hg.block b hl (fun e=>hr b e.symm hb)
structure TP where
 bx:Nat
 bi:Nat
 bl:Nat
 bs:Nat
 bg:Nat
 bv:Nat
 bc:Nat
 bk:Nat
 gi:Nat
 gl:Nat
 gc:Nat
def TP.blocks (p:TP):List Nat:=[p.bx,p.bi,p.bl,p.bs,p.bg,p.bv,p.bc,p.bk,p.gi,p.gl,p.gc]
def TP.caps (p:TP):Array Value:=#[.pointer (some ⟨p.bx,0,none⟩),.pointer (some ⟨p.bi,0,none⟩),.pointer (some ⟨p.bl,0,none⟩),.pointer (some ⟨p.bs,0,none⟩),.pointer (some ⟨p.bg,0,none⟩),.pointer (some ⟨p.bv,0,none⟩),.pointer (some ⟨p.bc,0,none⟩),.pointer (some ⟨p.bk,0,none⟩)]
def tlay (p:TP)(N:Nat)(v:Value)(s:TS)(sv:Value):List (Nat×Obj) :=
 [(p.bx,.cells #[natC s.nx] 3 (0,0)),(p.bi,.cells #[.slice (some ⟨p.gi,0,none⟩) N N] 109 (0,0)),(p.bl,.cells #[.slice (some ⟨p.gl,0,none⟩) N N] 109 (0,0)),(p.bs,.cells #[sv] 109 (0,0)),(p.bg,.cells #[v] 111 (0,0)),
  (p.bv,.cells #[.func (.func 124) #[] p.caps] 173 (0,0)),(p.bc,.cells #[.slice (some ⟨p.gc,0,none⟩) N N] 109 (0,0)),(p.bk,.cells #[natC s.ct] 3 (0,0)),(p.gi,.cells (s.ix.map intC).toArray 3 (0,0)),(p.gl,.cells (s.lo.map intC).toArray 3 (0,0)),(p.gc,.cells (s.co.map intC).toArray 3 (0,0))]
structure TOk (B0:Nat)(p:TP):Prop where
 nd:p.blocks.Nodup
 lo:∀ b∈p.blocks,B0≤b
structure TarW (W:World)(B0:Nat)(p:TP)(v:Value)(S:List (List Nat))(s:TS)(sv:Value):Prop where
 L:Lay W (tlay p S.length v s sv)
 os:W.ownsRow B0 3 1 sv s.st.length (s.st.map natC)
 ne:∀ j,sv.ownBlock=some j→j ∉ p.blocks
 r:RowsOf B0 v S W
structure TFr (p:TP)(W W':World)(sv sv':Value):Prop where
 o:W'.os=W.os
 t:W'.tape=W.tape
 u:W'.output=W.output
 size:W.heap.size≤W'.heap.size
 blk:∀ k,k<W.heap.size→k ∉ p.blocks→sv.ownBlock≠some k→W'.heap[k]? = W.heap[k]?
 own:∀ k,sv'.ownBlock=some k→sv.ownBlock=some k∨W.heap.size≤k
theorem TFr.refl (p:TP)(W:World)(sv:Value):TFr p W W sv sv:=⟨rfl,rfl,rfl,zq _,fun _ _ _ _=>rfl,fun _ h=>.inl h⟩
theorem TFr.trans {p:TP}{A B C:World}{x y z:Value}(h:TFr p A B x y)(k:TFr p B C y z):TFr p A C x z:=by
 refine⟨k.o.trans h.o,k.t.trans h.t,k.u.trans h.u,Nat.le_trans h.size k.size,fun j h1 h2 h3=>?_,fun j hj=>?_⟩
 ·refine(k.blk j (Nat.lt_of_lt_of_le h1 h.size) h2 (fun e=>?_)).trans (h.blk j h1 h2 h3)
  rcases h.own j e with e | e
  ·exact h3 e
  ·omega
 ·rcases k.own j hj with e | e
  ·exact h.own j e
  ·exact .inr (Nat.le_trans h.size e)
theorem TarW.lt {W:World}{B0:Nat}{p:TP}{v:Value}{S:List (List Nat)}{s:TS}{sv:Value}(h:TarW W B0 p v S s sv):∀ b∈p.blocks,b<W.heap.size:=h.L.lt
theorem TarW.cellsAt {W:World}{B0:Nat}{p:TP}{v:Value}{S:List (List Nat)}{s:TS}{sv:Value}(h:TarW W B0 p v S s sv):∀ b∈p.blocks,∃ o:Obj,W.heap[b]? = some o∧o.isCells=true:=fun b hb=>by
 have hm:b∈(tlay p S.length v s sv).map (·.1):=hb
 obtain⟨q,hq,rfl⟩:=List.mem_map.1 hm
 refine⟨q.2,h.L q hq,?_⟩
 simp only [tlay,List.mem_cons,List.not_mem_nil,or_false]at hq
 rcases hq with rfl | rfl | rfl | rfl | rfl | rfl | rfl | rfl | rfl | rfl | rfl<;>rfl
theorem z28 {W:World}{B e n s:Nat}{v:Value}{xs:List Value}(h:W.ownsRow B e s v n xs):∀ j,v.ownBlock=some j→∃ o:Obj,W.heap[j]? = some o∧o.isCells=true:=fun j hj=>by
 rcases h.2 with ⟨rfl,_⟩ | ⟨g,cap,cur,rfl,_,hg,_⟩
 ·simp [Value.ownBlock]at hj
 ·simp [Value.ownBlock]at hj;subst hj;exact⟨_,hg,rfl⟩
theorem TFr.others {W W':World}{B0:Nat}{p:TP}{v:Value}{S:List (List Nat)}{s:TS}{sv sv':Value}(h:TFr p W W' sv sv')(hw:TarW W B0 p v S s sv):KeepsOthers W W':=by
 refine⟨h.size,fun k o hk ho=>?_⟩
 refine(h.blk k (zb hk) (fun hm=>?_) (fun e=>?_)).trans hk
 ·obtain⟨o',h1,h2⟩:=hw.cellsAt k hm
  rw [hk]at h1;cases h1;rw [ho]at h2;cases h2
 ·obtain⟨o',h1,h2⟩:=z28 hw.os k e
  rw [hk]at h1;cases h1;rw [ho]at h2;cases h2
theorem TFr.below {W W':World}{B0:Nat}{p:TP}{v:Value}{S:List (List Nat)}{s:TS}{sv sv':Value}(h:TFr p W W' sv sv')(hp:TOk B0 p)(hB:B0≤W.heap.size)(hw:TarW W B0 p v S s sv):Below B0 W W' :=
 ⟨h.o,h.t,h.u,h.size,fun k hk=>h.blk k (by omega) (fun hm=>by have:=hp.lo k hm;omega) (fun e=>by have:=(hw.os.lt k e).1;omega)⟩
theorem TarW.turn {W W':World}{B0:Nat}{p:TP}{v:Value}{S:List (List Nat)}{s:TS}{sv:Value}(h:TarW W B0 p v S s sv){row:Option Nat}(hg:W.grownBy W' row)(hr:∀ r,row=some r→B0≤r∧∃ o:Obj,W.heap[r]? = some o∧o.isCells=false)(hB:B0≤W.heap.size):TarW W' B0 p v S s sv:=by
 refine⟨h.L.grown hg (fun r e hm=>?_),z1p h.os (fun k hk=>hg.block k (h.os.lt k hk).2 (fun e=>?_)),h.ne,h.r.below (B':=B0) ((Below.refl B0 W).grown hg hB (fun k e=>(hr k e).1)) (zq _)⟩
 ·obtain⟨o',h1,h2⟩:=h.cellsAt r hm
  obtain⟨_,o,h3,h4⟩:=hr r e
  rw [h1]at h3;cases h3;rw [h2]at h4;cases h4
 ·obtain⟨o',h1,h2⟩:=z28 h.os k hk
  obtain⟨_,o,h3,h4⟩:=hr k e.symm
  rw [h1]at h3;cases h3;rw [h2]at h4;cases h4
theorem TarW.alloc {W:World}{B0:Nat}{p:TP}{v:Value}{S:List (List Nat)}{s:TS}{sv:Value}(h:TarW W B0 p v S s sv)(o:Obj)(hB:B0≤W.heap.size):TarW (W.alloc o) B0 p v S s sv:=h.turn (World.grownBy_alloc W o none) (fun r e=>by cases e) hB
theorem TarW.drew {W:World}{B0:Nat}{p:TP}{v:Value}{S:List (List Nat)}{s:TS}{sv:Value}(h:TarW W B0 p v S s sv):TarW W.drew B0 p v S s sv:=⟨h.L,h.os,h.ne,h.r⟩
theorem TarW.store {W W':World}{B0:Nat}{p:TP}{v:Value}{S:List (List Nat)}{s s':TS}{sv:Value}(h:TarW W B0 p v S s sv)(hp:TOk B0 p)(hst:s'.st=s.st)(b j:Nat)(x:Value)(hb:b∈p.blocks)(hW:W'=W.setCell ⟨b,j,none⟩ x)(hL:Lay W' (tlay p S.length v s' sv)):TarW W' B0 p v S s' sv:=by
 subst hW
 refine⟨hL,?_,h.ne,h.r.below (B':=B0) ((Below.refl B0 W).setCell (by exact hp.lo b hb) _) (zq _)⟩
 rw [hst]
 exact z1p h.os (fun k hk=>heap_setCell_other _ _ _ _ (fun e=>h.ne k hk (by rw [show k=b from e];exact hb)))
theorem TFr.store {W:World}{p:TP}{sv:Value}(b j:Nat)(x:Value)(hb:b∈p.blocks):TFr p W (W.setCell ⟨b,j,none⟩ x) sv sv :=
 ⟨rfl,rfl,rfl,by rw [World.size_setCell];exact zq _,fun k _ hk _=>heap_setCell_other _ _ _ _ (fun e=>hk (by rw [show k=b from e];exact hb)),fun _ h=>.inl h⟩
theorem TFr.alloc {W:World}{p:TP}{sv:Value}(o:Obj):TFr p W (W.alloc o) sv sv :=
 ⟨rfl,rfl,rfl,by simp,fun k hk _ _=>Below.heap_alloc _ _ _ hk,fun _ h=>.inl h⟩
theorem TFr.drew {W W':World}{p:TP}{sv sv':Value}(h:TFr p W W' sv sv'):TFr p W W'.drew sv sv':=⟨h.o,h.t,h.u,h.size,h.blk,h.own⟩
theorem TFr.turn {A W W':World}{p:TP}{sv sv':Value}(h:TFr p A W sv sv'){row:Option Nat}(hg:W.grownBy W' row)(hr:∀ r,row=some r→A.heap.size≤r):TFr p A W' sv sv' :=
 ⟨hg.os.trans h.o,hg.tape.trans h.t,hg.output.trans h.u,Nat.le_trans h.size hg.size,fun k h1 h2 h3=>(hg.block k (Nat.lt_of_lt_of_le h1 h.size) (fun e=>by have:=hr k e.symm;omega)).trans (h.blk k h1 h2 h3),h.own⟩
theorem TOk.ne {B0:Nat}{p:TP}(h:TOk B0 p)(i j:Nat){a b:Nat}(hi:p.blocks[i]? = some a)(hj:p.blocks[j]? = some b)(hij:i≠j):a≠b:=fun e=>by
 subst e
 exact hij ((List.getElem?_inj (zc hi) h.nd).1 (hi.trans hj.symm))
theorem TarW.stack {W W1:World}{B0:Nat}{p:TP}{v:Value}{S:List (List Nat)}{s:TS}{sv sv1:Value}(h:TarW W B0 p v S s sv)(hp:TOk B0 p)(hB:B0≤W.heap.size)(st':List Nat)(hg:W.grownBy W1 sv.ownBlock)(ho:W1.ownsRow B0 3 1 sv1 st'.length (st'.map natC))
  (hat:∀ k,sv1.ownBlock=some k→sv.ownBlock=some k∨W.heap.size≤k):TarW (W1.setCell ⟨p.bs,0,none⟩ sv1) B0 p v S { s with st:=st' } sv1∧TFr p W (W1.setCell ⟨p.bs,0,none⟩ sv1) sv sv1:=by
 have hne:∀ k,sv1.ownBlock=some k→k ∉ p.blocks:=fun k hk hm=>by
  rcases hat k hk with e | e
  ·exact h.ne k e hm
  ·have:=h.lt k hm;omega
 have hb:p.bs∈p.blocks:=by simp [TP.blocks]
 refine⟨⟨(h.L.grown hg (fun r e=>h.ne r e)).box hp.nd 3 rfl sv1,z1p ho (fun k hk=>heap_setCell_other _ _ _ _ (fun e=>hne k hk (by rw [show k=p.bs from e];exact hb))),hne,?_⟩,⟨hg.os,hg.tape,hg.output,by rw [World.size_setCell];exact hg.size,fun k h1 h2 h3=>?_,hat⟩⟩
 ·exact h.r.below (B':=B0) (((Below.refl B0 W).grown hg hB (fun k e=>(h.os.lt k e).1)).setCell (by exact hp.lo _ hb) _) (zq _)
 ·exact(heap_setCell_other _ _ _ _ (fun e=>h2 (by rw [show k=p.bs from e];exact hb))).trans (hg.block k h1 (fun e=>h3 e.symm))
def HeldT (a b c d:Addr)(x y z u:Value)(W:World):Prop:=W.cell? a=some x∧W.cell? b=some y∧W.cell? c=some z∧W.cell? d=some u
def HeldV (a b c d f:Addr)(x y z u q:Value)(W:World):Prop:=W.cell? a=some x∧W.cell? b=some y∧W.cell? c=some z∧W.cell? d=some u∧W.cell? f=some q
theorem zmd {W:World}{B e n g cap:Nat}{xs:List Value}{x:Value}(h:W.ownsRow B e 1 (.slice (some ⟨g,0,none⟩) (n+1) cap) (n+1) (xs++[x])):W.ownsRow B e 1 (.slice (some ⟨g,0,none⟩) n cap) n xs:=by
 obtain⟨hl,h⟩:=h
 simp at hl
 refine⟨by omega,.inr ?_⟩
 rcases h with ⟨h,_⟩ | ⟨g',cap',cur,h1,h2,h3,h4,h5,h6,h7⟩
 ·cases h
 ·cases h1
  refine⟨g,cap,cur,rfl,h2,h3,by omega,h5,h6,?_⟩
  have hx:xs.length=n:=by omega
  have:(cur.toList.take ((n+1)*1)).take n=(xs++[x]).take n:=by rw [h7]
  rw [List.take_take,Nat.min_eq_left (by omega)]at this
  rw [Nat.mul_one,this,← hx,List.take_left]
theorem Shut.at {B b:Nat}{W W':World}(h:Shut B W W')(hc:∃ o:Obj,W.heap[b]? = some o∧o.isCells=true):W'.heap[b]? = W.heap[b]?:=by
 obtain⟨o,h1,h2⟩:=hc
 rw [h.cells b o h1 h2,h1]
theorem TarW.shut {W W':World}{B0 B:Nat}{p:TP}{v:Value}{S:List (List Nat)}{s:TS}{sv:Value}(h:TarW W B0 p v S s sv)(hs:Shut B W W')(hB:B0≤B):TarW W' B0 p v S s sv :=
 ⟨h.L.keep fun b hb _=>hs.at (h.cellsAt b hb),z1p h.os fun k hk=>hs.at (z28 h.os k hk),h.ne,h.r.below (hs.below hB) (zq _)⟩
theorem TFr.shut {A W W':World}{p:TP}{sv sv':Value}(h:TFr p A W sv sv')(hs:Shut A.heap.size W W'):TFr p A W' sv sv' :=
 ⟨hs.os.trans h.o,hs.tape.trans h.t,hs.output.trans h.u,by rw [hs.size];exact h.size,fun k h1 h2 h3=>(hs.low k h1).trans (h.blk k h1 h2 h3),h.own⟩
attribute [local go_sem] Oper.semAt_some
theorem zgs (B0:Nat)(p:TP)(v:Value)(S:List (List Nat))(hp:TOk B0 p)(hS:S.length≤1000000)(hSl:∀ a,(S.getD a []).length≤1000000)(hSk:∀ a,∀ k∈S.getD a [],k<S.length) :
  ∀ (m:Nat) (s:TS) (sv:Value) (n:Nat) (W:World),zeros s.ix≤m→TInv S.length s→n<S.length→gD s.ix n=0→B0≤W.heap.size→TarW W B0 p v S s sv →
  Calls prog 124 #[natC n,.pointer (some ⟨p.bx,0,none⟩),.pointer (some ⟨p.bi,0,none⟩),.pointer (some ⟨p.bl,0,none⟩),.pointer (some ⟨p.bs,0,none⟩),.pointer (some ⟨p.bg,0,none⟩),.pointer (some ⟨p.bv,0,none⟩),.pointer (some ⟨p.bc,0,none⟩),.pointer (some ⟨p.bk,0,none⟩)] W fun e W' =>
   e=.returned (.tuple #[])∧∃ sv',TarW W' B0 p v S (visitT S m s n) sv'∧TFr p W W' sv sv':=by
 intro m
 induction m with
 | zero =>
  intro s sv n W hm hI hn h0 hB hW
  have:=z2v s.ix n 1 (by rw [hI.li];exact hn) h0 (by decide)
  omega
 | succ m ih =>
  intro s sv n W hm hI hn h0 hB hW
  have hn0:(0:Int)≤(n:Int):=by omega
  have hn1:(n:Int)<(S.length:Int):=by omega
  have hvo:v.oneCell'=true:=by
   obtain⟨_,_,hv⟩ | ⟨_,_,_,hv,_⟩:=hW.r
   ·obtain⟨_,rfl⟩:=hv;rfl
   ·rw [hv];rfl
  obtain⟨hI1,hz1⟩:=hI.mark hn h0
  have hnx:s.nx≤1000000:=by
   have h1:=hI.nz
   have h2:=z2v s.ix n 1 (by rw [hI.li];exact hn) h0 (by decide)
   omega
  have hsl:s.st.length≤1000000:=by have:=hI.sl;omega
  have IH:=zh ih
  have HI:=zh hI
  have HI1:=zh hI1
  have HZ1:=zh hz1
  have HW:=zh hW
  have H0:=zh h0
  have HP:=zh hp
  have HSK:=zh hSk
  have HSL:=zh hSl
  clear ih hI hI1 hz1 hW h0
  refine(callsIn_wide (n:=9)).1 ?_
  refine callsIn_of_wp_marks func124 rfl trivial ?_ rfl
  simp only [ntmps124,List.size_toArray,List.length_cons,List.length_nil,Nat.reduceAdd,Nat.reduceSub,Array.replicate_succ,Array.replicate_zero,List.push_toArray,List.append_toArray,List.nil_append,List.cons_append]
  gi_wp2_with fail
  have htw:TarW (W.alloc (.cells #[natC n] 3)) B0 p v S s sv:=HW.out.alloc _ hB
  have hfr:TFr p W (W.alloc (.cells #[natC n] 3)) sv sv:=TFr.alloc _
  have hbn:Boxed (W.alloc (.cells #[natC n] 3)) W.heap.size 3 (natC n):=Boxed.new _ _ _
  have hs1:(W.alloc (.cells #[natC n] 3)).heap.size=W.heap.size+1:=by simp
  generalize W.alloc (.cells #[natC n] 3)=W1 at *
  have hHT:HeldT ⟨p.bi,0,none⟩ ⟨W.heap.size,0,none⟩ ⟨p.bl,0,none⟩ ⟨p.bx,0,none⟩ (.slice (some ⟨p.gi,0,none⟩) S.length S.length) (natC n) (.slice (some ⟨p.gl,0,none⟩) S.length S.length) (natC s.nx) W1.drew :=
   ⟨Boxed.cell (htw.L.get 1 rfl),hbn.cell,Boxed.cell (htw.L.get 2 rfl),Boxed.cell (htw.L.get 0 rfl)⟩
  refine z3m (S:=HeldT ⟨p.bi,0,none⟩ ⟨W.heap.size,0,none⟩ ⟨p.bl,0,none⟩ ⟨p.bx,0,none⟩ (.slice (some ⟨p.gi,0,none⟩) S.length S.length) (natC n) (.slice (some ⟨p.gl,0,none⟩) S.length S.length) (natC s.nx)) (by kernel_rfl) (fun _ _ h=>by obtain⟨h,_⟩:=h;cases h) ?_
  refine zt 0 _ rfl ?_;simp only [zl1];refine zt 1 _ rfl ?_;simp only [zl1];refine zt 2 _ rfl ?_;simp only [zl1];refine zt 3 _ rfl ?_;simp only [zl1];refine zt 4 _ rfl ?_;simp only [zl1];refine zt 5 _ rfl ?_;simp only [zl1];refine zt 6 _ rfl ?_;simp only [zl1]
  have hci:W1.cell? ⟨p.gi,n,none⟩=some (intC (gD s.ix n)):=Ints.cell (htw.L.get 8 rfl) n _ (z0z (by rw [HI.out.li];exact hn))
  have hfi:W1.frozen? ⟨p.gi,n,none⟩=false:=frozen_of_row _ _ n _ _ (htw.L.get 8 rfl)
  have htw1:TarW (W1.setCell ⟨p.gi,n,none⟩ (natC s.nx)) B0 p v S ⟨s.ix.set n s.nx,s.lo,s.co,s.st,s.nx,s.ct⟩ sv:=htw.store HP.out rfl p.gi n _ (by simp [TP.blocks]) rfl (htw.L.int HP.out.nd 8 rfl n s.nx)
  have hfr1:TFr p W (W1.setCell ⟨p.gi,n,none⟩ (natC s.nx)) sv sv:=hfr.trans (TFr.store p.gi n _ (by simp [TP.blocks]))
  have htw2:TarW ((W1.setCell ⟨p.gi,n,none⟩ (natC s.nx)).setCell ⟨p.gl,n,none⟩ (natC s.nx)) B0 p v S ⟨s.ix.set n s.nx,s.lo.set n s.nx,s.co,s.st,s.nx,s.ct⟩ sv:=htw1.store HP.out rfl p.gl n _ (by simp [TP.blocks]) rfl (htw1.L.int HP.out.nd 9 rfl n s.nx)
  have hfr2:TFr p W ((W1.setCell ⟨p.gi,n,none⟩ (natC s.nx)).setCell ⟨p.gl,n,none⟩ (natC s.nx)) sv sv:=hfr1.trans (TFr.store p.gl n _ (by simp [TP.blocks]))
  have hbn1:Boxed (W1.setCell ⟨p.gi,n,none⟩ (natC s.nx)) W.heap.size 3 (natC n):=(heap_setCell_other _ _ _ _ (fun e=>by have e:W.heap.size=p.gi:=e;have:=HW.out.lt p.gi (by simp [TP.blocks]);omega)).trans hbn
  have hbn2:Boxed ((W1.setCell ⟨p.gi,n,none⟩ (natC s.nx)).setCell ⟨p.gl,n,none⟩ (natC s.nx)) W.heap.size 3 (natC n):=(heap_setCell_other _ _ _ _ (fun e=>by have e:W.heap.size=p.gl:=e;have:=HW.out.lt p.gl (by simp [TP.blocks]);omega)).trans hbn1
  refine zr 7 rfl fun K hK=>?_
  go_simp
  refine hK.out _ _ ⟨Boxed.cell (htw1.L.get 1 rfl),hbn1.cell,Boxed.cell (htw1.L.get 2 rfl),Boxed.cell (htw1.L.get 0 rfl)⟩ (fun _=>?_)
  clear hK K
  (try simp only [zl1])
  have hHT1:HeldT ⟨p.bi,0,none⟩ ⟨W.heap.size,0,none⟩ ⟨p.bl,0,none⟩ ⟨p.bx,0,none⟩ (.slice (some ⟨p.gi,0,none⟩) S.length S.length) (natC n) (.slice (some ⟨p.gl,0,none⟩) S.length S.length) (natC s.nx) (W1.setCell ⟨p.gi,n,none⟩ (natC s.nx)).drew :=
   ⟨Boxed.cell (htw1.L.get 1 rfl),hbn1.cell,Boxed.cell (htw1.L.get 2 rfl),Boxed.cell (htw1.L.get 0 rfl)⟩
  refine zt 8 _ rfl ?_;simp only [zl1]
  have hcl:(W1.setCell ⟨p.gi,n,none⟩ (natC s.nx)).cell? ⟨p.gl,n,none⟩=some (intC (gD s.lo n)):=Ints.cell (htw1.L.get 9 rfl) n _ (z0z (by rw [HI.out.ll];exact hn))
  have hfl:(W1.setCell ⟨p.gi,n,none⟩ (natC s.nx)).frozen? ⟨p.gl,n,none⟩=false:=frozen_of_row _ _ n _ _ (htw1.L.get 9 rfl)
  refine zr 9 rfl fun K hK=>?_
  go_simp
  refine hK.out _ _ ⟨Boxed.cell (htw2.L.get 1 rfl),hbn2.cell,Boxed.cell (htw2.L.get 2 rfl),Boxed.cell (htw2.L.get 0 rfl)⟩ (fun _=>?_)
  clear hK K
  (try simp only [zl1])
  refine wpAnyH_done (by kernel_rfl) ?_ _
  refine NoPanic.normal ?_
  clear hHT hHT1 hfi hfl hci hcl htw hfr htw1 hfr1 hbn1 hbn
  generalize (W1.setCell ⟨p.gi,n,none⟩ (natC s.nx)).setCell ⟨p.gl,n,none⟩ (natC s.nx)=Wa at *
  have hcx:Wa.cell? ⟨p.bx,0,none⟩=some (natC s.nx):=Boxed.cell (htw2.L.get 0 rfl)
  have hfx:=Boxed.frozen (htw2.L.get 0 rfl)
  have hcs:Wa.cell? ⟨p.bs,0,none⟩=some sv:=Boxed.cell (htw2.L.get 3 rfl)
  have hcn:=hbn2.cell
  have hwx:IntKind.i64.wrap ((s.nx:Int)+1)=(s.nx:Int)+1:=IntWalk.i64_in _ (by omega)
  have hex:(s.nx:Int)+1=((s.nx+1:Nat):Int):=by omega
  have hsa:=hfr2.size
  have hmx:p.bx∈p.blocks:=by simp [TP.blocks]
  have hms:p.bs∈p.blocks:=by simp [TP.blocks]
  have hmg:p.bg∈p.blocks:=by simp [TP.blocks]
  have hlx:=HW.out.lt _ hmx
  have hls:=HW.out.lt _ hms
  have hlg:=HW.out.lt _ hmg
  have htw3:TarW (Wa.setCell ⟨p.bx,0,none⟩ (.int .i64 ((s.nx:Int)+1))) B0 p v S ⟨s.ix.set n s.nx,s.lo.set n s.nx,s.co,s.st,s.nx+1,s.ct⟩ sv:=by
   rw [hex]
   exact htw2.store HP.out rfl p.bx 0 _ hmx rfl (htw2.L.box HP.out.nd 0 rfl _)
  have hfr3:TFr p W (Wa.setCell ⟨p.bx,0,none⟩ (.int .i64 ((s.nx:Int)+1))) sv sv:=hfr2.trans (TFr.store p.bx 0 _ hmx)
  have hbn3:Boxed (Wa.setCell ⟨p.bx,0,none⟩ (.int .i64 ((s.nx:Int)+1))) W.heap.size 3 (natC n):=(heap_setCell_other _ _ _ _ (fun e=>by have e:W.heap.size=p.bx:=e;omega)).trans hbn2
  have hsb:(Wa.setCell ⟨p.bx,0,none⟩ (.int .i64 ((s.nx:Int)+1))).heap.size=Wa.heap.size:=by simp
  have hbw:W.heap.size<Wa.heap.size:=hbn2.lt
  have HTW4:=zh (htw3.alloc (.cells #[natC n] 3) (by omega)).drew
  have HFR4:Hid (TFr p W ((Wa.setCell ⟨p.bx,0,none⟩ (.int .i64 ((s.nx:Int)+1))).alloc (.cells #[natC n] 3)).drew sv sv):=zh (hfr3.trans (TFr.alloc _)).drew
  have HBN4:Hid (Boxed ((Wa.setCell ⟨p.bx,0,none⟩ (.int .i64 ((s.nx:Int)+1))).alloc (.cells #[natC n] 3)).drew W.heap.size 3 (natC n)):=zh ((Below.heap_alloc _ (.cells #[natC n] 3) _ hbn3.lt).trans hbn3)
  have HCN:Hid (((Wa.setCell ⟨p.bx,0,none⟩ (.int .i64 ((s.nx:Int)+1))).alloc (.cells #[natC n] 3)).cell? ⟨Wa.heap.size,0,none⟩=some (natC n)):=zh (by
   have:=zn (Wa.setCell ⟨p.bx,0,none⟩ (.int .i64 ((s.nx:Int)+1))) (.cells #[natC n] 3)
   rw [hsb]at this
   exact zw _ _ _ _ _ _ this)
  have HB4:Hid (B0≤((Wa.setCell ⟨p.bx,0,none⟩ (.int .i64 ((s.nx:Int)+1))).alloc (.cells #[natC n] 3)).drew.heap.size):=zh (by show B0≤((Wa.setCell ⟨p.bx,0,none⟩ (.int .i64 ((s.nx:Int)+1))).alloc (.cells #[natC n] 3)).heap.size;rw [World.size_alloc,hsb];omega)
  have HSN:Hid (∀ k,sv.ownBlock=some k→k<W.heap.size):=zh fun k hk=>(HW.out.os.lt k hk).2
  have hne1:p.bs≠p.bx:=HP.out.ne 3 0 rfl rfl (by decide)
  have hne2:p.bx≠p.bs:=hne1.symm
  have hne3:W.heap.size≠p.bx:=by omega
  have hne4:p.bx≠W.heap.size:=by omega
  have hne5:p.bg≠p.bs:=HP.out.ne 4 3 rfl rfl (by decide)
  have hne6:p.bs≠p.bg:=hne5.symm
  have hne7:W.heap.size≠p.bs:=by omega
  have hne8:p.bs≠W.heap.size:=by omega
  clear hex htw2 htw3 hfr2 hfr3 hbn2 hbn3
  gi_wp2_with (gi_at_builtin;go_loud (refine zh4 _ rfl _ _ rfl B0 sv s.st.length (s.st.map natC) (by rfl) HTW4.out.os HB4.out (natC n) ⟨Wa.heap.size,0,none⟩ 1 (by rfl) HCN.out rfl (by omega) ?_;intro g6 c6 w6 hs6 hg6 hat6;have hl6:=HTW4.out.L.grown hg6 (fun r e=>HTW4.out.ne r e);have hcs6:w6.cell? ⟨p.bs,0,none⟩=some sv:=Boxed.cell (hl6.get 3 rfl);have hfs6:=Boxed.frozen (hl6.get 3 rfl);have hcg6:w6.cell? ⟨p.bg,0,none⟩=some v:=Boxed.cell (hl6.get 4 rfl);have hbn6:=Boxed.kept HBN4.out hg6 (fun e=>by have:=HSN.out _ e.symm;omega);have hcn6:=hbn6.cell;have HS6:=zh hs6;have HG6:=zh hg6;have HAT6:=zh hat6;have HBN6:=zh hbn6;clear hs6 hg6 hat6 hl6 hbn6))
  refine⟨trivial,(of_in 8 v (n:Int) 0 _ hvo).mono ?_⟩
  rintro e w' ⟨rfl,rfl⟩
  gi_wp2_with fail
  have hst5:=HTW4.out.stack HP.out HB4.out (s.st++[n]) HG6.out (sv1:=.slice (some ⟨g6,0,none⟩) (s.st.length+1) c6) (by rw [List.length_append,List.map_append];exact HS6.out) (fun k hk=>by
   have e:g6=k:=by simpa [Value.ownBlock]using hk
   subst e
   rcases HAT6.out with h | h
   ·exact .inl h
   ·exact .inr (Nat.le_of_eq h.symm))
  have z5:(w6.setCell ⟨p.bs,0,none⟩ (.slice (some ⟨g6,0,none⟩) (s.st.length+1) c6)).heap.size=w6.heap.size:=by simp
  have hB6:W.heap.size<w6.heap.size:=HBN6.out.lt
  have hb5:Boxed (w6.setCell ⟨p.bs,0,none⟩ (.slice (some ⟨g6,0,none⟩) (s.st.length+1) c6)) W.heap.size 3 (natC n):=(heap_setCell_other _ _ _ _ (fun e=>by have e:W.heap.size=p.bs:=e;omega)).trans HBN6.out
  have hs4:W.heap.size<((Wa.setCell ⟨p.bx,0,none⟩ (.int .i64 ((s.nx:Int)+1))).alloc (.cells #[natC n] 3)).drew.heap.size:=HBN4.out.lt
  have h5:=hst5.1
  have f5:=HFR4.out.trans hst5.2
  have hso:=hst5.2.own
  clear hst5
  obtain⟨sv1,hsv1⟩:∃ x,x=Value.slice (some ⟨g6,0,none⟩) (s.st.length+1) c6:=⟨_,rfl⟩
  rw [← hsv1]at h5 f5 hso z5 hb5 ⊢
  have HSO:Hid (∀ k,sv1.ownBlock=some k→k<w6.heap.size∧k≠W.heap.size):=zh fun k hk=>⟨by have:=(h5.os.lt k hk).2;omega,by
   rcases hso k hk with e | e
   ·have:=HSN.out k e;omega
   ·omega⟩
  clear hsv1 hso
  generalize w6.setCell ⟨p.bs,0,none⟩ sv1=W5 at *
  obtain⟨Wl,hWl⟩:∃ Wl,Wl=((W5.alloc (.cells #[v] 111)).alloc (.cells #[.int .i64 (n:Int)] 3)).alloc (.cells #[.int .i64 0] 3):=⟨_,rfl⟩
  have b0:Boxed Wl w6.heap.size 111 v:=by rw [hWl,← z5];exact((Boxed.new W5 _ v).alloc _).alloc _
  have b1:Boxed Wl (w6.heap.size+1) 3 (natC n):=by
   rw [hWl,← z5]
   have:=(Boxed.new (W5.alloc (.cells #[v] 111)) 3 (natC n)).alloc (.cells #[natC 0] 3)
   rwa [World.size_alloc]at this
  have b2:Boxed Wl (w6.heap.size+1+1) 3 (natC 0):=by
   rw [hWl,← z5]
   have:=Boxed.new ((W5.alloc (.cells #[v] 111)).alloc (.cells #[natC n] 3)) 3 (natC 0)
   rwa [World.size_alloc,World.size_alloc]at this
  have hsl3:Wl.heap.size=w6.heap.size+3:=by rw [hWl];simp;omega
  have HTL:Hid (TarW Wl B0 p v S (tmark s n) sv1):=zh (by rw [hWl];exact((h5.alloc _ (by omega)).alloc _ (by simp;omega)).alloc _ (by simp;omega))
  have HFL:Hid (TFr p W Wl sv sv1):=zh (by rw [hWl];exact((f5.trans (TFr.alloc _)).trans (TFr.alloc _)).trans (TFr.alloc _))
  have HBL:Hid (Boxed Wl W.heap.size 3 (natC n)):=zh (by rw [hWl];exact((hb5.alloc _).alloc _).alloc _)
  rw [← hWl]
  have HBF:Hid (∀ W' sv',TFr p Wl W' sv1 sv'→Boxed W' W.heap.size 3 (natC n)):=zh fun W' sv' hf=>(hf.blk W.heap.size (by omega) (fun hm=>by have:=HW.out.lt _ hm;omega) (fun e=>(HSO.out _ e).2 rfl)).trans HBL.out
  clear hWl h5 f5 hb5 hcx hfx hcs hcn HTW4 HFR4 HBN4 HCN HS6 HG6 HAT6 HBN6 hcs6 hfs6 hcg6 hcn6
  refine wpIn_rangeFunc_ownG rfl (by decide) (gf:=126) rfl trivial (enters_of func126 (by kernel_rfl) rfl)
   (zf2 8 (by decide) w6.heap.size B0 v S n 0 hn (by omega) (by have:=HSL.out n;omega) Wl b0 b1 b2 HTL.out.r (by omega)) kpB_t (kpB_b (by omega) (by omega)) (Below.refl _ _) (fun _=>rfl)
   (fun pre W'=>∃ svx,TarW W' B0 p v S ((valsOf pre).foldl (tstep (visitT S m) n) (tmark s n)) svx∧TFr p Wl W' sv1 svx) (fun _ _ _=>False) ?hI (fun _ _ _ _ _ h _ _=>h) ?h0
   (fun x=>{ tmps:=#[natC n,.pointer (some ⟨p.bx,0,none⟩),.pointer (some ⟨p.bi,0,none⟩),.pointer (some ⟨p.bl,0,none⟩),.pointer (some ⟨p.bs,0,none⟩),.pointer (some ⟨p.bg,0,none⟩),.pointer (some ⟨p.bv,0,none⟩),.pointer (some ⟨p.bc,0,none⟩),.pointer (some ⟨p.bk,0,none⟩),.pointer (some ⟨W.heap.size,0,none⟩),natC x.1,undef,.slice (some ⟨p.gi,0,none⟩) S.length S.length,natC n,.slice (some ⟨p.gl,0,none⟩) S.length S.length,natC n,natC s.nx,natC s.nx,.pointer (some ⟨p.gi,n,none⟩),.pointer (some ⟨p.gl,n,none⟩),natC s.nx,.int .i64 ((s.nx:Int)+1),sv,natC n,.slice (some ⟨Wa.heap.size,0,none⟩) 1 1,sv1,v,natC n,.func (.func 126) #[] #[.pointer (some ⟨w6.heap.size,0,none⟩),.pointer (some ⟨w6.heap.size+1,0,none⟩),.pointer (some ⟨w6.heap.size+1+1,0,none⟩)],natC x.1,undef,undef,undef,undef,undef,undef,undef,undef,undef,undef,undef,undef,undef,undef,undef,undef,undef,undef,undef,undef,undef,undef,undef,undef,undef,undef,undef,undef,undef,undef,undef,undef,undef,undef,undef,undef,undef,undef,undef,undef,undef,undef,undef,undef,undef,undef,undef,undef,undef,undef,undef,undef,undef,undef,undef,undef,undef,undef,undef,undef,undef,undef,undef,undef,undef,undef],defers:=[] }) ?assign ?body ?done ?stop
  case hI =>
   intro pre X Y row h hg hr
   obtain⟨svx,h1,h2⟩:=h
   exact⟨svx,h1.turn hg (fun r e=>⟨by have:=(hr r e).1;omega,(hr r e).2⟩) (by have:=h2.size;omega),h2.turn hg (fun r e=>(hr r e).1)⟩
  case h0=>exact⟨sv1,HTL.out,TFr.refl _ _ _⟩
  case assign =>
   intro l x W2 K hK
   simp only [encOf]
   gi_wp2
   exact hK
  case body =>
   rintro l pre x W2 ⟨sv2,hT2,hF2⟩ _
   have hxk:x.1∈S.getD n []:=by
    have:=x.2
    unfold ofL at this
    exact(List.mem_filter.1 this).1
   have hpre:∀ j∈valsOf pre,j<S.length:=by
    intro j hj
    obtain⟨y,_,rfl⟩:=List.mem_map.1 hj
    have:=y.2
    unfold ofL at this
    exact HSK.out n _ (List.mem_filter.1 this).1
   obtain⟨k,hkx⟩:∃ k,k=x.1:=⟨_,rfl⟩
   rw [← hkx]at hxk ⊢
   have hk:=HSK.out n _ hxk
   have hok:=z6e (n:=n) (v:=visitT S m) (N:=S.length) (f:=m) (fun s k a b c d=>z2u HSK.out m s k a b c d) (valsOf pre) (tmark s n) hpre (by have:=HZ1.out;omega) HI1.out
   have HVS:Hid ((valsOf (pre++[x])).foldl (tstep (visitT S m) n) (tmark s n)=tstep (visitT S m) n ((valsOf pre).foldl (tstep (visitT S m) n) (tmark s n)) k):=zh (by rw [z37,hkx,List.foldl_append];rfl)
   have hzz:zeros ((valsOf pre).foldl (tstep (visitT S m) n) (tmark s n)).ix≤m:=by have:=hok.2.z;have:=HZ1.out;omega
   have hi2:=hok.1
   clear hok hkx
   generalize (valsOf pre).foldl (tstep (visitT S m) n) (tmark s n)=s2 at *
   have hk0:(0:Int)≤(k:Int):=by omega
   have hk1:(k:Int)<(S.length:Int):=by omega
   have hsz2:=hF2.size
   have hci:W2.cell? ⟨p.bi,0,none⟩=some (.slice (some ⟨p.gi,0,none⟩) S.length S.length):=Boxed.cell (hT2.L.get 1 rfl)
   have hcik:W2.cell? ⟨p.gi,k,none⟩=some (intC (gD s2.ix k)):=Ints.cell (hT2.L.get 8 rfl) k _ (z0z (by rw [hi2.li];exact hk))
   have hcv:W2.cell? ⟨p.bv,0,none⟩=some (.func (.func 124) #[] #[.pointer (some ⟨p.bx,0,none⟩),.pointer (some ⟨p.bi,0,none⟩),.pointer (some ⟨p.bl,0,none⟩),.pointer (some ⟨p.bs,0,none⟩),.pointer (some ⟨p.bg,0,none⟩),.pointer (some ⟨p.bv,0,none⟩),.pointer (some ⟨p.bc,0,none⟩),.pointer (some ⟨p.bk,0,none⟩)]):=Boxed.cell (hT2.L.get 5 rfl)
   have hcc:W2.cell? ⟨p.bc,0,none⟩=some (.slice (some ⟨p.gc,0,none⟩) S.length S.length):=Boxed.cell (hT2.L.get 6 rfl)
   have hcck:W2.cell? ⟨p.gc,k,none⟩=some (intC (gD s2.co k)):=Ints.cell (hT2.L.get 10 rfl) k _ (z0z (by rw [hi2.lc];exact hk))
   have HT2:=zh hT2
   have HF2:=zh hF2
   have HI2:=zh hi2
   have HSV2:Hid (∀ j,sv2.ownBlock=some j→j<w6.heap.size∨Wl.heap.size≤j):=zh fun j hj=>by
    rcases HF2.out.own j hj with e | e
    ·exact .inl (HSO.out j e).1
    ·exact .inr e
   clear hT2 hF2 hi2
   by_cases hz:gD s2.ix k=0
   ·have hcall:=IH.out s2 sv2 k W2 hzz HI2.out hk hz (by omega) HT2.out
    have hi3:=z2u HSK.out m s2 k hzz HI2.out hk hz
    have HTS:Hid (tstep (visitT S m) n s2 k=tlow (visitT S m s2 k) n (gD (visitT S m s2 k).lo k)):=zh (by unfold tstep;rw [if_pos hz])
    rw [hz]at hcik
    have HCALL:=zh hcall
    clear hcall
    gi_wp2_with fail
    refine⟨trivial,?_⟩
    refine(CallsIn.inRound l (callsIn_wide.2 HCALL.out)).mono ?_
    rintro e W3 ⟨rfl,sv3,hT3,hF3⟩
    generalize visitT S m s2 k=s3 at *
    have hF13:=HF2.out.trans hF3
    have hbn3:=HBF.out _ _ hF13
    have hcl:W3.cell? ⟨p.bl,0,none⟩=some (.slice (some ⟨p.gl,0,none⟩) S.length S.length):=Boxed.cell (hT3.L.get 2 rfl)
    have hcln:W3.cell? ⟨p.gl,n,none⟩=some (intC (gD s3.lo n)):=Ints.cell (hT3.L.get 9 rfl) n _ (z0z (by rw [hi3.1.ll];exact hn))
    have hclk:W3.cell? ⟨p.gl,k,none⟩=some (intC (gD s3.lo k)):=Ints.cell (hT3.L.get 9 rfl) k _ (z0z (by rw [hi3.1.ll];exact hk))
    have hfln:=frozen_of_row _ _ n _ _ (hT3.L.get 9 rfl)
    obtain⟨a3,ha3⟩:∃ a3,a3=gD s3.lo n:=⟨_,rfl⟩
    obtain⟨b3,hb3⟩:∃ b3,b3=gD s3.lo k:=⟨_,rfl⟩
    rw [← ha3]at hcln
    rw [← hb3]at hclk HTS
    have hcn3:=hbn3.cell
    have HT3:=zh hT3
    have HF3:=zh hF3
    have HF13:=zh hF13
    have HBN3:=zh hbn3
    have HA3:=zh ha3
    clear hT3 hF3 hF13 hbn3 ha3 hb3
    gi_wp2_with fail
    refine z2s 12 (by kernel_rfl) (by kernel_rfl) (fun _ _ h=>h) (by kernel_rfl) ?_
    simp only [List.take_succ_cons,List.take_zero,List.drop_succ_cons,List.drop_zero]
    refine Sealed.out ?_
    iterate 12 (refine zf8 (by rfl) (fun K hK=>?_);go_simp;refine hK _ ?_;clear hK K)
    refine zf7 ?_
    go_wp2_with fail
    gi_wp2_with fail
    have hT4:TarW (W3.setCell ⟨p.gl,n,none⟩ (.int .i64 (min a3 b3))) B0 p v S (tlow s3 n b3) sv3:=by
     rw [HA3.out]
     exact HT3.out.store HP.out rfl p.gl n _ (by simp [TP.blocks]) rfl (HT3.out.L.int HP.out.nd 9 rfl n _)
    have hF4:TFr p W2 (W3.setCell ⟨p.gl,n,none⟩ (.int .i64 (min a3 b3))).drew sv2 sv3:=(HF3.out.trans (TFr.store p.gl n _ (by simp [TP.blocks]))).drew
    exact⟨(hF4.others HT2.out).from _,⟨hF4.blk _ (by omega) (fun hm=>by have:=HW.out.lt _ hm;omega) (fun e=>by have:=HSV2.out _ e;omega),hF4.below HP.out (by omega) HT2.out⟩,sv3,by rw [HVS.out,HTS.out];exact hT4.drew,HF2.out.trans hF4⟩
   ·have hzd:decide (gD s2.ix k=0)=false:=decide_eq_false hz
    obtain⟨xi,hxi⟩:∃ xi,xi=gD s2.ix k:=⟨_,rfl⟩
    obtain⟨ck,hck⟩:∃ ck,ck=gD s2.co k:=⟨_,rfl⟩
    have HXI:=zh hxi
    have HCK:=zh hck
    rw [← hxi]at hcik hzd hz
    rw [← hck]at hcck
    clear hxi hck
    by_cases hc:ck<0
    ·have hcd:decide (ck<0)=true:=decide_eq_true hc
     have HTS:Hid (tstep (visitT S m) n s2 k=tlow s2 n xi):=zh (by unfold tstep;rw [← HXI.out,← HCK.out,if_neg hz,if_pos hc])
     have hcl:W2.cell? ⟨p.bl,0,none⟩=some (.slice (some ⟨p.gl,0,none⟩) S.length S.length):=Boxed.cell (HT2.out.L.get 2 rfl)
     have hcln:W2.cell? ⟨p.gl,n,none⟩=some (intC (gD s2.lo n)):=Ints.cell (HT2.out.L.get 9 rfl) n _ (z0z (by rw [HI2.out.ll];exact hn))
     have hfln:=frozen_of_row _ _ n _ _ (HT2.out.L.get 9 rfl)
     have hcn3:=(HBF.out _ _ HF2.out).cell
     obtain⟨a3,ha3⟩:∃ a3,a3=gD s2.lo n:=⟨_,rfl⟩
     rw [← ha3]at hcln
     have HA3:=zh ha3
     clear ha3
     gi_wp2_with fail
     refine z2s 12 (by kernel_rfl) (by kernel_rfl) (fun _ _ h=>h) (by kernel_rfl) ?_
     simp only [List.take_succ_cons,List.take_zero,List.drop_succ_cons,List.drop_zero]
     refine Sealed.out ?_
     iterate 12 (refine zf8 (by rfl) (fun K hK=>?_);go_simp;refine hK _ ?_;clear hK K)
     refine zf7 ?_
     go_wp2_with fail
     gi_wp2_with fail
     have hT4:TarW (W2.setCell ⟨p.gl,n,none⟩ (.int .i64 (min a3 xi))) B0 p v S (tlow s2 n xi) sv2:=by
      rw [HA3.out]
      exact HT2.out.store HP.out rfl p.gl n _ (by simp [TP.blocks]) rfl (HT2.out.L.int HP.out.nd 9 rfl n _)
     have hF4:TFr p W2 (W2.setCell ⟨p.gl,n,none⟩ (.int .i64 (min a3 xi))).drew sv2 sv2:=(TFr.store p.gl n _ (by simp [TP.blocks])).drew
     exact⟨(hF4.others HT2.out).from _,⟨hF4.blk _ (by omega) (fun hm=>by have:=HW.out.lt _ hm;omega) (fun e=>by have:=HSV2.out _ e;omega),hF4.below HP.out (by omega) HT2.out⟩,sv2,by rw [HVS.out,HTS.out];exact hT4.drew,HF2.out.trans hF4⟩
    ·have hcd:decide (ck<0)=false:=decide_eq_false hc
     have HTS:Hid (tstep (visitT S m) n s2 k=s2):=zh (by unfold tstep;rw [← HXI.out,← HCK.out,if_neg hz,if_neg hc])
     gi_wp2_with fail
     exact⟨(KeepsOthers.refl _).from _,⟨rfl,Below.refl _ _⟩,sv2,by rw [HVS.out,HTS.out];exact HT2.out,HF2.out⟩
  case done =>
   rintro D xs W2 hD hxs ⟨sv2,hT2,hF2⟩ hK
   have hfl:ofL S n 0=S.getD n []:=by unfold ofL;rw [List.filter_eq_self.2 (by simp)]
   rw [hxs,hfl]at hT2
   have hok:=z6e (n:=n) (v:=visitT S m) (N:=S.length) (f:=m) (fun s k a b c d=>z2u HSK.out m s k a b c d) (S.getD n []) (tmark s n) (HSK.out n) (by have:=HZ1.out;omega) HI1.out
   have HVT:Hid (visitT S (m+1) s n=tfin ((S.getD n []).foldl (tstep (visitT S m) n) (tmark s n)) n):=zh rfl
   have hk2:=hok.2.k
   have hz2:=hok.2.z
   have hp2:=hok.2.p
   have hi2:=hok.1
   clear hok
   generalize (S.getD n []).foldl (tstep (visitT S m) n) (tmark s n)=s2 at *
   have hnr:n∈s2.st:=by
    obtain⟨zs,hzs⟩:=hp2
    rw [hzs]
    simp [tmark]
   have hnx2:s2.nx≤1000001:=by have:=hi2.nz;omega
   have hct2:=hi2.ct
   have hsl2:=hi2.sl
   have hsz2:=hF2.size
   have hbn2:Boxed W2 W.heap.size 3 (natC n):=(hF2.blk W.heap.size (by omega) (fun hm=>by have:=HW.out.lt _ hm;omega) (fun e=>(HSO.out _ e).2 rfl)).trans HBL.out
   have HMK:Hid (Marks W.heap.size [{ target:=.collected D,args:=#[] }] W2.drew):=zh (Marks.push (B:=W.heap.size) (ds:=[]) (W:=W2) (W0:=Wl) trivial trivial (by omega) (zq _) hD hK).drew
   obtain⟨lon,hlon⟩:∃ x,x=gD s2.lo n:=⟨_,rfl⟩
   obtain⟨ixn,hixn⟩:∃ x,x=gD s2.ix n:=⟨_,rfl⟩
   have hHV:HeldV ⟨p.bl,0,none⟩ ⟨W.heap.size,0,none⟩ ⟨p.gl,n,none⟩ ⟨p.bi,0,none⟩ ⟨p.gi,n,none⟩ (.slice (some ⟨p.gl,0,none⟩) S.length S.length) (natC n) (intC lon) (.slice (some ⟨p.gi,0,none⟩) S.length S.length) (intC ixn) W2.drew :=
    ⟨Boxed.cell (hT2.L.get 2 rfl),hbn2.cell,by rw [hlon];exact Ints.cell (hT2.L.get 9 rfl) n _ (z0z (by rw [hi2.ll];exact hn)),Boxed.cell (hT2.L.get 1 rfl),by rw [hixn];exact Ints.cell (hT2.L.get 8 rfl) n _ (z0z (by rw [hi2.li];exact hn))⟩
   have HLON:=zh hlon
   have HIXN:=zh hixn
   have HT2:=zh hT2
   have HF2:=zh hF2
   have HI2:=zh hi2
   have HBN2:=zh hbn2
   have HNR:=zh hnr
   clear hlon hixn hT2 hF2 hi2 hbn2 hnr hp2 hfl
   gi_wp2_with fail
   refine z3m (S:=HeldV ⟨p.bl,0,none⟩ ⟨W.heap.size,0,none⟩ ⟨p.gl,n,none⟩ ⟨p.bi,0,none⟩ ⟨p.gi,n,none⟩ (.slice (some ⟨p.gl,0,none⟩) S.length S.length) (natC n) (intC lon) (.slice (some ⟨p.gi,0,none⟩) S.length S.length) (intC ixn)) (by kernel_rfl) (fun _ _ h=>by obtain⟨h,_⟩:=h;cases h) ?_
   refine zt 0 _ rfl ?_;simp only [zl1];refine zt 1 _ rfl ?_;simp only [zl1];refine zt 2 _ rfl ?_;simp only [zl1];refine zt 3 _ rfl ?_;simp only [zl1];refine zt 4 _ rfl ?_;simp only [zl1];refine zt 5 _ rfl ?_;simp only [zl1];refine zt 6 _ rfl ?_;simp only [zl1];refine zt 7 _ rfl ?_;simp only [zl1];refine zt 8 _ rfl ?_;simp only [zl1]
   refine wpAnyH_done (by kernel_rfl) ?_ _
   refine NoPanic.normal ?_
   clear hHV
   by_cases hlt:lon<ixn
   ·have hltd:decide (lon<ixn)=true:=decide_eq_true hlt
    gi_wp2_with fail
    refine z30 HMK.out (Shut.refl _ _) fun W' hs=>⟨_,results_none rfl _ _ _,rfl,sv2,?_,?_⟩
    ·rw [HVT.out]
     unfold tfin
     rw [← HLON.out,← HIXN.out,if_pos hlt]
     exact HT2.out.drew.shut hs hB
    ·exact(HFL.out.trans HF2.out).drew.shut hs
   ·have hltd:decide (lon<ixn)=false:=decide_eq_false hlt
    have HPOP:Hid (visitT S (m+1) s n=tpop s2 n):=zh (by rw [HVT.out];unfold tfin;rw [← HLON.out,← HIXN.out,if_neg hlt])
    gi_wp2_with fail
    refine z3a (fun j a' W'=>∃ u10 u11 u12 u13 u14 u15 u16 u17 u18 u19 u20 u21 u22 u23 u24 u25 u26 u27 u28 u29 u30 u31 u32 u33 u34 u35 u36 u37 u38 u39 u40 u41 u42 u43 u44 u45 u46 u47 u48 u49 u50 u51 u52 u53 u54 u55 u56 u57 u58 u59 u60 u61 u62 u63 u64 u65 u66 u67 u68 u69 u70 u71 u72 u73 u74 u75 u76 u77 u78 u79 u80 u81 u82 u83 u84 u85 u86 u87 u88 u89 u90 u91 u92 u93 u94 u95:Value,∃ (r:List Nat) (co:List Int) (svx:Value),(j=r.length∧(n∈r∧(∀ i∈r,i<S.length)∧r.length≤1000000∧co.length=S.length)∧tpopL s2.ct n r co=tpopL s2.ct n s2.st.reverse s2.co∧TarW W' B0 p v S ⟨s2.ix,s2.lo,co,r.reverse,s2.nx,s2.ct⟩ svx∧TFr p Wl W' sv1 svx∧Marks W.heap.size [{ target:=.collected D,args:=#[] }] W')∧a'={ tmps:=#[natC n,.pointer (some ⟨p.bx,0,none⟩),.pointer (some ⟨p.bi,0,none⟩),.pointer (some ⟨p.bl,0,none⟩),.pointer (some ⟨p.bs,0,none⟩),.pointer (some ⟨p.bg,0,none⟩),.pointer (some ⟨p.bv,0,none⟩),.pointer (some ⟨p.bc,0,none⟩),.pointer (some ⟨p.bk,0,none⟩),.pointer (some ⟨W.heap.size,0,none⟩),u10,u11,u12,u13,u14,u15,u16,u17,u18,u19,u20,u21,u22,u23,u24,u25,u26,u27,u28,u29,u30,u31,u32,u33,u34,u35,u36,u37,u38,u39,u40,u41,u42,u43,u44,u45,u46,u47,u48,u49,u50,u51,u52,u53,u54,u55,u56,u57,u58,u59,u60,u61,u62,u63,u64,u65,u66,u67,u68,u69,u70,u71,u72,u73,u74,u75,u76,u77,u78,u79,u80,u81,u82,u83,u84,u85,u86,u87,u88,u89,u90,u91,u92,u93,u94,u95],defers:=[{ target:=.collected D,args:=#[] }] }) s2.st.length ?start ?round
    case start =>
     repeat apply Exists.intro
     refine⟨⟨by rw [List.length_reverse],⟨List.mem_reverse.2 HNR.out,fun i hi=>HI2.out.sk i (List.mem_reverse.1 hi),by rw [List.length_reverse];omega,HI2.out.lc⟩,rfl,by rw [List.reverse_reverse];exact HT2.out.drew,HF2.out.drew,HMK.out⟩,rfl⟩
    case round =>
     intro j a' W3 h
     obtain⟨u10,h⟩:=h
     obtain⟨u11,h⟩:=h
     obtain⟨u12,h⟩:=h
     obtain⟨u13,h⟩:=h
     obtain⟨u14,h⟩:=h
     obtain⟨u15,h⟩:=h
     obtain⟨u16,h⟩:=h
     obtain⟨u17,h⟩:=h
     obtain⟨u18,h⟩:=h
     obtain⟨u19,h⟩:=h
     obtain⟨u20,h⟩:=h
     obtain⟨u21,h⟩:=h
     obtain⟨u22,h⟩:=h
     obtain⟨u23,h⟩:=h
     obtain⟨u24,h⟩:=h
     obtain⟨u25,h⟩:=h
     obtain⟨u26,h⟩:=h
     obtain⟨u27,h⟩:=h
     obtain⟨u28,h⟩:=h
     obtain⟨u29,h⟩:=h
     obtain⟨u30,h⟩:=h
     obtain⟨u31,h⟩:=h
     obtain⟨u32,h⟩:=h
     obtain⟨u33,h⟩:=h
     obtain⟨u34,h⟩:=h
     obtain⟨u35,h⟩:=h
     obtain⟨u36,h⟩:=h
     obtain⟨u37,h⟩:=h
     obtain⟨u38,h⟩:=h
     obtain⟨u39,h⟩:=h
     obtain⟨u40,h⟩:=h
     obtain⟨u41,h⟩:=h
     obtain⟨u42,h⟩:=h
     obtain⟨u43,h⟩:=h
     obtain⟨u44,h⟩:=h
     obtain⟨u45,h⟩:=h
     obtain⟨u46,h⟩:=h
     obtain⟨u47,h⟩:=h
     obtain⟨u48,h⟩:=h
     obtain⟨u49,h⟩:=h
     obtain⟨u50,h⟩:=h
     obtain⟨u51,h⟩:=h
     obtain⟨u52,h⟩:=h
     obtain⟨u53,h⟩:=h
     obtain⟨u54,h⟩:=h
     obtain⟨u55,h⟩:=h
     obtain⟨u56,h⟩:=h
     obtain⟨u57,h⟩:=h
     obtain⟨u58,h⟩:=h
     obtain⟨u59,h⟩:=h
     obtain⟨u60,h⟩:=h
     obtain⟨u61,h⟩:=h
     obtain⟨u62,h⟩:=h
     obtain⟨u63,h⟩:=h
     obtain⟨u64,h⟩:=h
     obtain⟨u65,h⟩:=h
     obtain⟨u66,h⟩:=h
     obtain⟨u67,h⟩:=h
     obtain⟨u68,h⟩:=h
     obtain⟨u69,h⟩:=h
     obtain⟨u70,h⟩:=h
     obtain⟨u71,h⟩:=h
     obtain⟨u72,h⟩:=h
     obtain⟨u73,h⟩:=h
     obtain⟨u74,h⟩:=h
     obtain⟨u75,h⟩:=h
     obtain⟨u76,h⟩:=h
     obtain⟨u77,h⟩:=h
     obtain⟨u78,h⟩:=h
     obtain⟨u79,h⟩:=h
     obtain⟨u80,h⟩:=h
     obtain⟨u81,h⟩:=h
     obtain⟨u82,h⟩:=h
     obtain⟨u83,h⟩:=h
     obtain⟨u84,h⟩:=h
     obtain⟨u85,h⟩:=h
     obtain⟨u86,h⟩:=h
     obtain⟨u87,h⟩:=h
     obtain⟨u88,h⟩:=h
     obtain⟨u89,h⟩:=h
     obtain⟨u90,h⟩:=h
     obtain⟨u91,h⟩:=h
     obtain⟨u92,h⟩:=h
     obtain⟨u93,h⟩:=h
     obtain⟨u94,h⟩:=h
     obtain⟨u95,h⟩:=h
     obtain⟨r,co,svx,⟨hj,⟨hnr,hri,hrl,hcl⟩,hpop,hT,hF,hM⟩,rfl⟩:=h
     cases r with
     | nil=>simp at hnr
     | cons k r =>
      have hsz3:=hF.size
      have hk:=hri k (by simp)
      have hbn3:=HBF.out _ _ hF
      simp only [List.length_cons]at hj hrl
      have hos:=hT.os
      simp only [List.reverse_cons,List.length_append,List.length_reverse,List.length_cons,List.length_nil,Nat.zero_add,List.map_append,List.map_cons,List.map_nil]at hos
      obtain⟨g3,c3,rfl,hg3a,hg3b,hg3c⟩:=z1a hos (by omega)
      have htop:W3.cell? ⟨g3,r.length,none⟩=some (natC k):=z0o hos r.length _ (by rw [List.getElem?_append_right (by simp)];simp)
      have hstk:=hT.stack HP.out (by omega) r.reverse (World.grownBy.refl _ _) (sv1:=.slice (some ⟨g3,0,none⟩) r.length c3) (by rw [List.length_reverse];exact zmd hos) (fun k hk=>.inl (by simpa [Value.ownBlock]using hk))
      have hcs:W3.cell? ⟨p.bs,0,none⟩=some (.slice (some ⟨g3,0,none⟩) (r.length+1) c3):=Boxed.cell (hT.L.get 3 rfl)
      have hfs:=Boxed.frozen (hT.L.get 3 rfl)
      have hcc:W3.cell? ⟨p.bc,0,none⟩=some (.slice (some ⟨p.gc,0,none⟩) S.length S.length):=Boxed.cell (hT.L.get 6 rfl)
      have hck:W3.cell? ⟨p.bk,0,none⟩=some (natC s2.ct):=Boxed.cell (hT.L.get 7 rfl)
      have hfk:=Boxed.frozen (hT.L.get 7 rfl)
      have hcgk:W3.cell? ⟨p.gc,k,none⟩=some (intC (gD co k)):=Ints.cell (hT.L.get 10 rfl) k _ (z0z (by rw [hcl];exact hk))
      have hfgk:=frozen_of_row _ _ k _ _ (hT.L.get 10 rfl)
      have hcn3:=hbn3.cell
      have hT5:=hstk.1.store HP.out rfl p.gc k (natC s2.ct) (by simp [TP.blocks]) rfl (s':=⟨s2.ix,s2.lo,co.set k s2.ct,r.reverse,s2.nx,s2.ct⟩) (hstk.1.L.int HP.out.nd 10 rfl k s2.ct)
      have hF5:=hstk.2.trans (TFr.store p.gc k (natC s2.ct) (by simp [TP.blocks]))
      have hM5:=hM.keep (NoCells.of_keeps ((hF5.others hT).from W.heap.size))
      have hF15:=hF.trans hF5
      have hk0:(0:Int)≤(k:Int):=by omega
      have hk1:(k:Int)<(S.length:Int):=by omega
      have hr0:(0:Int)≤(r.length:Int):=by omega
      have hr1:(r.length:Int)<(r.length:Int)+1:=by omega
      have hr2:(r.length:Int)≤(c3:Int):=by omega
      have hwl:IntKind.i64.wrap ((r.length:Int)+1 - 1)=(r.length:Int):=by rw [Int.add_sub_cancel];exact IntWalk.i64_in _ (by omega)
      have hwc:IntKind.i64.wrap ((s2.ct:Int)+1)=(s2.ct:Int)+1:=IntWalk.i64_in _ (by omega)
      have d1:p.bc≠p.bs:=HP.out.ne 6 3 rfl rfl (by decide)
      have d2:p.bk≠p.bs:=HP.out.ne 7 3 rfl rfl (by decide)
      have d3:p.gc≠p.bs:=HP.out.ne 10 3 rfl rfl (by decide)
      have d4:p.bk≠p.gc:=HP.out.ne 7 10 rfl rfl (by decide)
      have d5:=d1.symm
      have d6:=d2.symm
      have d7:=d3.symm
      have d8:=d4.symm
      have hgc:=HW.out.lt p.gc (by simp [TP.blocks])
      have d9:W.heap.size≠p.gc:=by omega
      have d10:p.gc≠W.heap.size:=by omega
      have HPO:=zh hpop
      have HT5:=zh hT5
      have HF15:=zh hF15
      have HM5:=zh hM5
      have HNR:=zh hnr
      have HRI:=zh hri
      clear hpop hT hF hM hstk hT5 hF5 hM5 hF15 hos hbn3 hnr hri
      by_cases hkn:(k:Int)=(n:Int)
      ·have ekn:k=n:=by omega
       subst k
       gi_wp2_with fail
       have hP:tpopL s2.ct n s2.st.reverse s2.co=(r,co.set n s2.ct):=by
        rw [← HPO.out]
        show(if n=n then(r,co.set n s2.ct) else tpopL s2.ct n r (co.set n s2.ct))=_
        rw [if_pos rfl]
       have hT6:TarW (((W3.setCell ⟨p.bs,0,none⟩ (.slice (some ⟨g3,0,none⟩) r.length c3)).setCell ⟨p.gc,n,none⟩ (natC s2.ct)).setCell ⟨p.bk,0,none⟩ (.int .i64 ((s2.ct:Int)+1))) B0 p v S (tpop s2 n) (.slice (some ⟨g3,0,none⟩) r.length c3):=by
        rw [show(s2.ct:Int)+1=((s2.ct+1:Nat):Int) by omega]
        unfold tpop
        rw [hP]
        exact HT5.out.store HP.out rfl p.bk 0 _ (by simp [TP.blocks]) rfl (HT5.out.L.box HP.out.nd 7 rfl _)
       have hF6:TFr p Wl (((W3.setCell ⟨p.bs,0,none⟩ (.slice (some ⟨g3,0,none⟩) r.length c3)).setCell ⟨p.gc,n,none⟩ (natC s2.ct)).setCell ⟨p.bk,0,none⟩ (.int .i64 ((s2.ct:Int)+1))) sv1 (.slice (some ⟨g3,0,none⟩) r.length c3):=HF15.out.trans (TFr.store p.bk 0 _ (by simp [TP.blocks]))
       have hM6:=HM5.out.keep (NoCells.of_keeps (((TFr.store (sv:=.slice (some ⟨g3,0,none⟩) r.length c3) p.bk 0 (.int .i64 ((s2.ct:Int)+1)) (by simp [TP.blocks])).others HT5.out).from W.heap.size))
       refine z30 hM6 (Shut.refl _ _) fun W' hs=>⟨_,results_none rfl _ _ _,rfl,.slice (some ⟨g3,0,none⟩) r.length c3,?_,?_⟩
       ·rw [HPOP.out]
        exact hT6.shut hs hB
       ·exact(HFL.out.trans hF6).shut hs
      ·have hknd:decide ((k:Int)=(n:Int))=false:=decide_eq_false hkn
       gi_wp2_with fail
       have hkn2:k≠n:=by omega
       refine⟨r.length,by omega,?_⟩
       repeat apply Exists.intro
       refine⟨⟨rfl,⟨(List.mem_cons.1 HNR.out).resolve_left (Ne.symm hkn2),fun i hi=>HRI.out i (List.mem_cons_of_mem _ hi),by omega,by rw [List.length_set];exact hcl⟩,?_,HT5.out,HF15.out,HM5.out⟩,?_⟩
       rotate_left
       ·rfl
       ·rw [← HPO.out]
        show _=(if k=n then(r,co.set k s2.ct) else tpopL s2.ct n r (co.set k s2.ct))
        rw [if_neg hkn2]
  case stop =>
   rintro D c pre W2 hD _ h _
   exact h.elim
end Go.Proofs.YtapbhoodgnmnkaaGreatDoor
