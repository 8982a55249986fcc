/- Laws and contracts. -/
import Derived.Test.YtapbhoodgnmnkaaGreatDoorJY
set_option linter.unusedVariables false
set_option linter.unusedSimpArgs false
set_option maxRecDepth 100000
set_option maxHeartbeats 32000000
namespace Go.Proofs.YtapbhoodgnmnkaaGreatDoor
open Go.Proofs.Tryz Go Go.RowKit
structure GrK (w1:World)(g:Nat)(L:List ByteArray)(es:List (Int×Int))(nv ev:Value)(W:World):Prop where
 bel:Below w1.heap.size w1 W
 lo:w1.heap.size≤g
 out:W.heap[g]? = some (.cells #[nv,ev] 32 (0,0))
 nodes:W.ownsRow (g+1) 9 1 nv L.length (strsC L)
 edges:W.ownsRow (g+1) 43 2 ev es.length (edgeCells es)
section
variable {w1:World} {g:Nat} {L:List ByteArray} {es:List (Int×Int)} {nv ev:Value} {W W':World}
theorem GrK.lt (h:GrK w1 g L es nv ev W):g<W.heap.size:=(zb h.out)
theorem GrK.below (h:GrK w1 g L es nv ev W)(hb:Below W.heap.size W W'):GrK w1 g L es nv ev W' :=
 ⟨h.bel.trans (hb.mono h.bel.size),h.lo,(hb.block g h.lt).trans h.out,z07 h.nodes hb,z07 h.edges hb⟩
theorem GrK.start (w1:World):GrK w1 w1.heap.size [] [] (.slice none 0 0) (.slice none 0 0) (w1.alloc (.cells #[.slice none 0 0,.slice none 0 0] 32)) :=
 ⟨belQ w1 _,zq _,zn w1 _,World.ownsRow_nil _ _ _ _,World.ownsRow_nil _ _ _ _⟩
theorem GrK.keepN {W6:World}(h:GrK w1 g L es nv ev W)(hg:W.grownBy W6 nv.ownBlock):W6.heap[g]? = some (.cells #[nv,ev] 32 (0,0)) :=
 (hg.block g h.lt (fun e=>by have:=(z0g h.nodes _ e.symm).1;omega)).trans h.out
theorem GrK.keepE {W6:World}(h:GrK w1 g L es nv ev W)(hg:W.grownBy W6 ev.ownBlock):W6.heap[g]? = some (.cells #[nv,ev] 32 (0,0)) :=
 (hg.block g h.lt (fun e=>by have:=(z0g h.edges _ e.symm).1;omega)).trans h.out
theorem GrK.node {W6:World}{nv':Value}{x:ByteArray}(h:GrK w1 g L es nv ev W)(hown:W6.ownsRow (g+1) 9 1 nv' (L.length+1) (strsC L++[.string x]))(hg:W.grownBy W6 nv.ownBlock):GrK w1 g (L++[x]) es nv' ev (W6.setCell ⟨g,0,none⟩ nv'):=by
 have hk:=h.keepN hg
 obtain⟨h1,h2,h3,h4,h5⟩:=h
 have lo:∀ b,some b=nv.ownBlock→g<b:=fun b hb=>(z0g h4 b hb.symm).1
 have g2:=z0e W6 g 0 nv'
 refine⟨(h1.grown hg h1.size (fun b hb=>by have:=lo b hb.symm;omega)).setCell h2 _,h2,heap_setCell_same _ _ 0 _ _ nv' hk,?_,?_⟩
 ·rw [List.length_append,List.length_singleton,z1v]
  exact z1q hown g2 (by omega)
 ·exact z1q (h5.kept hg (z3k h5 h4 (by decide))) g2 (by omega)
theorem GrK.edge {W6:World}{ev':Value}{x:Int×Int}(h:GrK w1 g L es nv ev W)(hown:W6.ownsRow (g+1) 43 2 ev' (es.length+1) (edgeCells es++[intC x.1,intC x.2]))(hg:W.grownBy W6 ev.ownBlock):GrK w1 g L (es++[x]) nv ev' (W6.setCell ⟨g,1,none⟩ ev'):=by
 have hk:=h.keepE hg
 obtain⟨h1,h2,h3,h4,h5⟩:=h
 have lo:∀ b,some b=ev.ownBlock→g<b:=fun b hb=>(z0g h5 b hb.symm).1
 have g2:=z0e W6 g 1 ev'
 refine⟨(h1.grown hg h1.size (fun b hb=>by have:=lo b hb.symm;omega)).setCell h2 _,h2,heap_setCell_same _ _ 1 _ _ ev' hk,?_,?_⟩
 ·exact z1q (h4.kept hg (z3k h4 h5 (by decide))) g2 (by omega)
 ·rw [List.length_append,List.length_singleton,z45]
  exact z1q hown g2 (by omega)
end
theorem zfv (a:Option Addr)(n c:Nat)(W:World):(Builtin.len_ #[64] 3 #[.slice a n c]).run prog W=.ok (.int .i64 (n:Int)) W:=by
 simp [Builtin.len_,run_underlying underlying64,goInt,Result.andThen]
theorem zg5 (X:List RelL)(f t:List SelL)(a:ByteArray):needB X f t a a=false:=by unfold needB;simp
theorem zkp {X:List RelL}{f t:List SelL}{a b:ByteArray}(h:a≠b):needB X f t a b=needV X f t a b:=by unfold needB needV;rw [decide_eq_true h];rfl
def HeldG45 (gx:Nat)(v iv:Value)(b o1 o2:Nat)(x y:ByteArray)(W:World):Prop:=W.cell? ⟨gx,0,none⟩=some v∧W.cell? ⟨gx,1,none⟩=some iv∧W.cell? ⟨b,o1,none⟩=some (.string x)∧W.cell? ⟨b,o2,none⟩=some (.string y)
theorem z5t (v iv fv tv:Value)(X:List RelL)(f t:List SelL)(w:World)(hX:X.length≤1000000)(hq:∀ x∈X,RelBd x)(hR:RelsOf w.heap.size v X w)(hf:f.length≤64)(hF:SelsOf w.heap.size fv f w)(ht:t.length≤64)(hT:SelsOf w.heap.size tv t w) :
  Calls prog 8 #[.agg #[v,iv],fv,tv] w (GraphR w (graphV X f t)):=by
 have HCK:=zh (fun W (hb:Below w.heap.size w W)=>zc8 v iv fv tv X f t W hX hq (hR.on hb) hf (hF.on hb) ht (hT.on hb))
 have HMV:=zh (fun W (h0:errW X f t=0) (hb:Below w.heap.size w W)=>zgh fv tv f t W hf ht (z0b.1 (z04 h0).1).incr (z0b.1 (z04 h0).2).incr (fun y hy=>z0y (z0b.1 (z04 h0).1).ok ((z0b.1 (z04 h0).1).found y hy)) (fun y hy=>z0y (z0b.1 (z04 h0).1).ok ((z0b.1 (z04 h0).2).found y hy)) (hF.on hb) (hT.on hb))
 have HND:=zh (fun W a b (h0:errW X f t=0) (hb:Below w.heap.size w W)=>zgi v iv fv tv X f t a b W hX hq (hR.on hb) hf (hF.on hb) ht (hT.on hb) (z04 h0).1 (z04 h0).2)
 have HINC:Hid (errW X f t=0→IncB (movesP f t)):=zh (fun h0=>z1r (z0b.1 (z04 h0).1).incr (z0b.1 (z04 h0).2).incr)
 have hln:=z1s f t
 have HG0:Hid (errW X f t=0→graphV X f t=((movesP f t,wavE X f t),0)):=zh (fun h=>by unfold graphV;rw [h,if_pos rfl])
 have HG1:Hid (errW X f t≠0→graphV X f t=(([],[]),errW X f t)):=zh (fun h=>by unfold graphV;rw [if_neg h])
 obtain⟨va,vn,vc,rfl⟩:∃ a n c,v=.slice a n c:=by obtain⟨a,c,_,e,_⟩:=hR.rv;exact⟨_,_,_,e⟩
 obtain⟨fa,fc,rfl⟩:=zo hF
 obtain⟨ta,tc,rfl⟩:=zo hT
 clear hq hR hF hT
 have HB0:=zh (IdxBx.start w (.slice va vn vc) iv)
 have hq0:=belQ (w.alloc (.cells #[.slice va vn vc,iv] 25)) (.cells #[.slice none 0 0,.slice none 0 0] 32)
 have HB1:=zh (HB0.out.below hq0)
 have HZ1:=zh (zn (w.alloc (.cells #[.slice va vn vc,iv] 25)) (.cells #[.slice none 0 0,.slice none 0 0] 32))
 rw [World.size_alloc]at HZ1
 clear hq0
 have HWE:=zh (z99 X f t)
 have hL64:(movesP f t).length≤128:=by omega
 obtain⟨E,hE⟩:∃ E,errW X f t=E:=⟨_,rfl⟩
 rw [hE]at HG0 HG1 HCK HMV HND HINC
 clear hE hln
 go_enter func8,ntmps8
 go_upto_region 1 with fail
 generalize (w.alloc (.cells #[.slice va vn vc,iv] 25)).alloc (.cells #[.slice none 0 0,.slice none 0 0] 32)=W at *
 have c0:=HB1.out.c0
 have c1:=HB1.out.c1
 go_wp2_with fail
 refine(HCK.out _ HB1.out.bel).mono ?_
 rintro e w1 ⟨rfl,hb1⟩
 have HZ2:=zk hb1 HZ1
 have HB2:=zh (HB1.out.below hb1)
 clear hb1 HCK c0 c1 HB0 HB1 HZ1
 by_cases h0:E=0
 case neg =>
  have h0b:(E != 0)=true:=by simpa using h0
  have r0:w1.cell? ⟨w.heap.size+1,0,none⟩=some (.slice none 0 0):=zw _ _ 0 _ _ _ HZ2.out
  have r1:w1.cell? ⟨w.heap.size+1,1,none⟩=some (.slice none 0 0):=zw _ _ 1 _ _ _ HZ2.out
  have q0:=frozen_of_row _ _ 0 _ _ HZ2.out
  have q1:=frozen_of_row _ _ 1 _ _ HZ2.out
  have HBX:=zh (z7n (x':=.slice none 0 0) (y':=.slice none 0 0) HZ2.out)
  have HGR:Hid (GraphR w (graphV X f t) (.returned (.tuple #[.agg #[.slice none 0 0,.slice none 0 0],.int .i64 E])) ((w1.setCell ⟨w.heap.size+1,0,none⟩ (.slice none 0 0)).setCell ⟨w.heap.size+1,1,none⟩ (.slice none 0 0))):=zh (by
   rw [HG1.out h0]
   exact⟨_,_,rfl,.inl ⟨rfl,none,0,rfl⟩,⟨none,0,rfl,fun i x hx=>by cases hx⟩,(HB2.out.bel.setCell (p:=⟨w.heap.size+1,0,none⟩) (Nat.le_succ _) _).setCell (p:=⟨w.heap.size+1,1,none⟩) (Nat.le_succ _) _⟩)
  clear HG0 HG1 HMV HND HINC HWE
  go_wp2_with fail
  refine bodyPost_ret (z0i rfl _ _ (w.heap.size+1) _ _ _ _ rfl HBX.out underlying32 rfl (by kernel_rfl)) rfl ?_
  exact HGR.out
 subst h0
 have HMC:=zh (HMV.out w1 rfl HB2.out.bel)
 have HG:=zh (HG0.out rfl)
 have HIN:=zh (HINC.out rfl)
 clear HMV HG0 HG1 HINC
 go_upto_region 4 with fail
 go_wp2_with fail
 refine HMC.out.mono ?_
 rintro e w2 ⟨mv,rfl,hmv,hb2⟩
 have HZ3:=zk hb2 HZ2
 have HB3:=zh (HB2.out.below hb2)
 obtain⟨L,hL⟩:∃ L,movesP f t=L:=⟨_,rfl⟩
 rw [hL]at HIN HWE hmv HG hL64
 clear hL
 obtain⟨ma,mc,rfl,hmr⟩:=hmv
 have HMA:Hid (∀ W k p,Below w2.heap.size w2 W→L[k]? = some p→∃ b off,ma=some ⟨b,off,none⟩∧W.cell? ⟨b,off+k*3,none⟩=some (.string p)):=zh (fun W k p hw hk=>by
  obtain⟨b,off,h1,h2,h3,_⟩:=hmr k p hk
  exact⟨b,off,h1,(hw.cell (p:=⟨b,off+k*3,none⟩) h2).trans h3⟩)
 have HLN:=zh (fun W=>zfv ma L.length mc W)
 have HGK0:=zh (GrK.start w2)
 have HXC:Hid (∀ W,Below w2.heap.size w2 W→IdxBx w (.slice va vn vc) iv W):=zh (fun W hb=>HB3.out.below hb)
 have HZC:Hid (∀ W,Below w2.heap.size w2 W→W.heap[w.heap.size+1]? = some (.cells #[.slice none 0 0,.slice none 0 0] 32 (0,0))):=zh (fun W hb=>(hb.block _ (zb HZ3.out)).trans HZ3.out)
 clear hb2 hmr HMC HB2 HZ2 HB3 HZ3
 go_upto_region 6 with fail
 generalize w2.alloc (.cells #[.slice none 0 0,.slice none 0 0] 32)=w3 at *
 obtain⟨g,hg⟩:∃ g,w2.heap.size=g:=⟨_,rfl⟩
 have HJ1:Hid (GrK w2 g [] [] (.slice none 0 0) (.slice none 0 0) w3):=zh (by rw [← hg];exact HGK0.out)
 simp only [hg]
 clear hg HGK0
 obtain⟨j0,hj0,hy0,hy1,hy2⟩:=info_parts z8h
 obtain⟨i0,hi0',hz0,hz1,hz2⟩:=info_parts z1z
 go_wp2_with fail
 go_loopw [12] (fun p wr=>Hid (∃ (i:Nat) (nv ev:Value),i≤L.length∧p=.int .i64 (i:Int)∧GrK w2 g (L.take i) (edgeL X f t L i) nv ev wr)) (fun p _=>L.length - (intOf p).toNat)
 case atStart=>exact zh ⟨0,_,_,Nat.zero_le _,rfl,HJ1.out⟩
 case round =>
  obtain⟨i,nv,ev,hi,rfl,hj⟩:=hrel.out
  have HJ:=zh hj
  clear hrel hj HJ1
  have hln:=HLN.out wr
  by_cases hlt:i<L.length
  case neg =>
   have hii:i=L.length:=Nat.le_antisymm hi (Nat.le_of_not_lt hlt)
   clear hi
   subst hii
   rw [List.take_length]at HJ
   have HRE:Hid (RowOf Value.string wr.heap.size nv L wr∧EdgesOf wr.heap.size ev (edgeL X f t L L.length) wr):=zh ⟨(z29 HJ.out.nodes).2,zbw HJ.out.edges⟩
   have o0:wr.cell? ⟨g,0,none⟩=some nv:=zw _ _ 0 _ _ _ HJ.out.out
   have o1:wr.cell? ⟨g,1,none⟩=some ev:=zw _ _ 1 _ _ _ HJ.out.out
   have hz:=HZC.out wr HJ.out.bel
   have z0:wr.cell? ⟨w.heap.size+1,0,none⟩=some (.slice none 0 0):=zw _ _ 0 _ _ _ hz
   have z1:wr.cell? ⟨w.heap.size+1,1,none⟩=some (.slice none 0 0):=zw _ _ 1 _ _ _ hz
   have y0:=frozen_of_row _ _ 0 _ _ hz
   have y1:=frozen_of_row _ _ 1 _ _ hz
   obtain⟨na,nc,rfl⟩:∃ a c,nv=.slice a L.length c:=z05 HJ.out.nodes
   obtain⟨ea,ec,rfl⟩:∃ a c,ev=.slice a (edgeL X f t L L.length).length c:=z05 HJ.out.edges
   have HSET:=zh (z7n (x':=.slice na L.length nc) (y':=.slice ea (edgeL X f t L L.length).length ec) hz)
   have HB9:Hid (Below w.heap.size w ((wr.setCell ⟨w.heap.size+1,0,none⟩ (.slice na L.length nc)).setCell ⟨w.heap.size+1,1,none⟩ (.slice ea (edgeL X f t L L.length).length ec))):=zh (((HXC.out wr HJ.out.bel).bel.setCell (p:=⟨w.heap.size+1,0,none⟩) (Nat.le_succ _) _).setCell (p:=⟨w.heap.size+1,1,none⟩) (Nat.le_succ _) _)
   have HR9:=zh (za9 (u0:=.slice na L.length nc) (u1:=.slice ea (edgeL X f t L L.length).length ec) HRE.out.1 hz)
   have HE9:=zh (z5c (u0:=.slice na L.length nc) (u1:=.slice ea (edgeL X f t L L.length).length ec) HRE.out.2 hz)
   have hs9:((wr.setCell ⟨w.heap.size+1,0,none⟩ (.slice na L.length nc)).setCell ⟨w.heap.size+1,1,none⟩ (.slice ea (edgeL X f t L L.length).length ec)).heap.size=wr.heap.size:=by rw [World.size_setCell,World.size_setCell]
   clear hz HJ HND
   rw [HWE.out]at HSET HB9 HR9 HE9 HRE o1 hs9
   generalize hee:wavE X f t=EL at *
   have HEE:=zh hee
   clear hee
   go_wp2_with fail
   try rw [hln]
   clear hln
   go_wp2_with fail
   refine bodyPost_ret (z0i rfl _ _ (w.heap.size+1) _ _ _ _ rfl HSET.out underlying32 rfl (by kernel_rfl)) rfl ?_
   rw [HG.out]
   exact⟨_,_,rfl,by rw [hs9];exact HR9.out,by rw [hs9];exact HE9.out,HB9.out⟩
  case pos =>
   have hi0:(0:Int)≤(i:Int):=Int.natCast_nonneg i
   have hiz:(i:Int)<(L.length:Int):=Int.ofNat_lt.2 hlt
   obtain⟨b,off,rfl,d0⟩:=HMA.out wr i _ HJ.out.bel (ze hlt)
   have HGI:Hid (L.getD i default=L[i]):=zh (by rw [zg,ze hlt];rfl)
   have HTK:Hid (L.take (i+1)=L.take i++[L[i]]):=zh (zs hlt)
   have hti:(L.take i).length=i:=by rw [List.length_take];omega
   have HLI:Hid (L[i]? = some L[i]):=zh (ze hlt)
   generalize L[i]=a at *
   obtain⟨na,nc,he⟩:∃ a c,nv=.slice a (L.take i).length c:=z05 HJ.out.nodes
   rw [hti]at he
   subst he
   have HSB0:Hid (∀ W,Below wr.heap.size wr W→HeldC ⟨g,0,none⟩ ⟨b,off+i*3,none⟩ (.slice na i nc) (.string a) W):=zh (fun W hb=>by
    have hb2:=HJ.out.bel.trans (hb.mono HJ.out.bel.size)
    obtain⟨b',off',e1,h1⟩:=HMA.out W i a hb2 HLI.out
    cases e1
    exact⟨zw _ _ 0 _ _ _ (HJ.out.below hb).out,h1⟩)
   have HJ8:Hid (GrK w2 g (L.take i) (edgeL X f t L i) (.slice na i nc) ev (wr.alloc (.cells #[.string a] 9)).drew):=zh (HJ.out.below (belQ wr _).drew)
   have HN8:Hid ((wr.alloc (.cells #[.string a] 9)).drew.heap[wr.heap.size]? = some (.cells #[.string a] 9 (0,0))):=zh (zn wr _)
   have HB8:Hid (Below wr.heap.size wr (wr.alloc (.cells #[.string a] 9)).drew):=zh (belQ wr _).drew
   have HO8:Hid ((wr.alloc (.cells #[.string a] 9)).drew.ownsRow (g+1) 9 1 (.slice na i nc) i (strsC (L.take i))):=zh (by have h:=HJ8.out.nodes;rw [hti]at h;exact h)
   have hsz8:g+1≤(wr.alloc (.cells #[.string a] 9)).drew.heap.size:=HJ8.out.lt
   have HPU:Hid (∀ (nv':Value) (W6:World),W6.ownsRow (g+1) 9 1 nv' (i+1) (strsC (L.take i)++[.string a])→(wr.alloc (.cells #[.string a] 9)).drew.grownBy W6 (Value.slice na i nc).ownBlock→HeldC ⟨g,0,none⟩ ⟨b,off+i*3,none⟩ (.slice na i nc) (.string a) W6∧W6.heap[g]? = some (.cells #[.slice na i nc,ev] 32 (0,0))∧GrK w2 g (L.take (i+1)) (edgeL X f t L i) nv' ev (W6.setCell ⟨g,0,none⟩ nv')):=zh (fun nv' W6 h1 h2=>by
    have hk:=HJ8.out.keepN h2
    refine⟨⟨zw _ _ 0 _ _ _ hk,?_⟩,hk,?_⟩
    ·have hlo:∀ b,(Value.slice na i nc).ownBlock=some b→w2.heap.size≤b:=fun b hb=>by have:=(z0g HJ8.out.nodes b hb).1;have:=HJ8.out.lo;omega
     obtain⟨b',off',e1,h3⟩:=HMA.out W6 i a (HJ8.out.bel.grown h2 HJ8.out.bel.size hlo) HLI.out
     cases e1
     exact h3
    ·rw [HTK.out]
     exact HJ8.out.node (by rw [hti];exact h1) h2)
   clear HJ hti HTK
   go_upto_region 9 with fail
   try rw [hln]
   try clear hln
   go_upto_region 9 with fail
   clear d0
   refine wp_region_noPanic ?_
   refine z0j (S:=HeldC ⟨g,0,none⟩ ⟨b,off+i*3,none⟩ (.slice na i nc) (.string a)) 9 (by kernel_rfl) (by kernel_rfl) ?_
   simp only [List.take_succ_cons,List.take_zero]
   have hS0:=HSB0.out _ (Below.refl _ _).drew
   refine zt 0 _ rfl ?_;simp only [zl1];refine zt 1 _ rfl ?_;simp only [zl1];refine zt 2 _ rfl ?_;simp only [zl1];refine zt 3 _ rfl ?_;simp only [zl1];refine zt 4 _ rfl ?_;simp only [zl1];refine zt 5 _ rfl ?_;simp only [zl1];refine zt 6 _ rfl ?_;simp only [zl1]
   refine zr 7 rfl fun K hK=>?_
   go_simp
   clear hS0
   have hS0:=HSB0.out _ HB8.out
   refine hK.out _ _ hS0 (fun _=>?_)
   clear hK K
   (try simp only [zl1])
   generalize (wr.alloc (.cells #[.string a] 9)).drew=W8 at *
   refine zr 8 rfl fun K hK=>?_
   refine zbu (ops:=#[]) rfl ?_
   refine wpList_append_own_at _ rfl _ _ 29 rfl (g+1) 9 i0 _ 1 16 underlying29 hi0' hz0 hz1 hz2 rfl (by decide) (.slice na i nc) i _ (by rfl) HO8.out ⟨wr.heap.size,0,none⟩ 1 1 [.string a] (by rfl) (by rfl) (World.news_of_block HN8.out) (by simp [Value.oneCell']) (by unfold maxLen;omega) (by omega) hsz8 ?_
   intro v' W6 hown' hgrow _ _
   obtain⟨hs6,hk6,hj6⟩:=HPU.out v' W6 hown' hgrow
   have HJ6:=zh hj6
   have f6:=frozen_of_row _ _ 0 _ _ hk6
   obtain⟨g3,gc3,rfl⟩:=ownsRow_succ hown'
   clear hown' hgrow hj6 hk6 HPU HJ8 HN8 HB8 HO8 hsz8
   refine wpList_nil ?_
   show K _ _
   clear hS0
   have hS0:=hs6
   refine hK.out _ _ hS0 (fun _=>?_)
   clear hK K hs6
   (try simp only [zl1])
   refine wpAnyH_done (by kernel_rfl) ?_ _
   show wpList _ _ _ _ _ _
   simp only [List.drop_succ_cons,List.drop_zero]
   obtain⟨r6,_⟩:=hS0
   go_wp2_with fail
   refine NoPanic.normal ?_
   clear r6 f6 HSB0
   generalize W6.setCell ⟨g,0,none⟩ (.slice (some ⟨g3,0,none⟩) (i+1) gc3)=W7 at *
   generalize (Value.slice (some ⟨g3,0,none⟩) (i+1) gc3)=nv2 at *
   go_upto_region 11 with fail
   go_loopw [13] (fun p wr=>Hid (∃ (k:Nat) (ev:Value),k≤L.length∧p=.int .i64 (k:Int)∧GrK w2 g (L.take (i+1)) (edgeL X f t L i++nodeL X f t L i k) nv2 ev wr)) (fun p _=>L.length - (intOf p).toNat)
   case atStart=>exact zh ⟨0,ev,Nat.zero_le _,rfl,by simpa [nodeL]using HJ6.out⟩
   case round =>
    clear HJ6
    obtain⟨k,ev2,hk,rfl,hj⟩:=hrel.out
    have HJ:=zh hj
    clear hrel hj
    have hln:=HLN.out wr
    by_cases hlt2:k<L.length
    case neg =>
     have hkk:k=L.length:=Nat.le_antisymm hk (Nat.le_of_not_lt hlt2)
     clear hk
     subst hkk
     have HJE:Hid (GrK w2 g (L.take (i+1)) (edgeL X f t L (i+1)) nv2 ev2 wr):=zh (by rw [z5b];exact HJ.out)
     clear HJ
     go_wp2_with fail
     try rw [hln]
     try clear hln
     go_wp2_with fail
     all_goals
      refine⟨zh ⟨i+1,_,_,hlt,by go_num,HJE.out⟩,?_⟩
      simp [intOf];omega
    case pos =>
     have hk0:(0:Int)≤(k:Int):=Int.natCast_nonneg k
     have hkz:(k:Int)<(L.length:Int):=Int.ofNat_lt.2 hlt2
     have HGK:Hid (L.getD k default=L[k]):=zh (by rw [zg,ze hlt2];rfl)
     have HLK:Hid (L[k]? = some L[k]):=zh (ze hlt2)
     have HSU:Hid (nodeL X f t L i (k+1)=nodeL X f t L i k++(if needB X f t a L[k]=true then [((i:Int),(k:Int))] else [])):=zh (by rw [z8p,HGI.out,HGK.out])
     generalize L[k]=c at *
     have HSB:Hid (∀ W,Below wr.heap.size wr W→HeldG45 w.heap.size (.slice va vn vc) iv b (off+i*3) (off+k*3) a c W):=zh (fun W hb=>by
      have hb2:=HJ.out.bel.trans (hb.mono HJ.out.bel.size)
      have hx:=HXC.out W hb2
      obtain⟨b',off',e1,h1⟩:=HMA.out W i a hb2 HLI.out
      cases e1
      obtain⟨b',off',e1,h2⟩:=HMA.out W k c hb2 HLK.out
      cases e1
      exact⟨hx.c0,hx.c1,h1,h2⟩)
     have hesl:(edgeL X f t L i++nodeL X f t L i k).length≤1000000000000:=by
      rw [List.length_append]
      exact Nat.le_trans (Nat.add_le_add (z6u X f t L i) (z7d X f t L i k)) (sq_le hlt hk (by omega))
     obtain⟨el,hel⟩:∃ el,edgeL X f t L i++nodeL X f t L i k=el:=⟨_,rfl⟩
     rw [hel]at HJ hesl
     go_upto_region 13 with fail
     try rw [hln]
     try clear hln
     go_upto_region 13 with fail
     by_cases hik:i=k
     case pos =>
      have HJE:Hid (GrK w2 g (L.take (i+1)) (edgeL X f t L i++nodeL X f t L i (k+1)) nv2 ev2 wr.drew):=zh (by
       have hac:a=c:=by have h:=HLI.out;have h2:=HLK.out;subst hik;rw [h]at h2;injection h2
       rw [HSU.out,← hac,zg5,if_neg (by decide),List.append_nil,hel]
       exact HJ.out.below (Below.refl _ _).drew)
      have hin:((i:Int) != (k:Int))=false:=by rw [hik];simp
      have hin2:((i:Int) == (k:Int))=true:=by rw [hik];simp
      clear HJ hel HSU hesl
      refine wp_region_noPanic ?_
      refine wp_region_held_drew (S:=HeldG45 w.heap.size (.slice va vn vc) iv b (off+i*3) (off+k*3) a c) (by kernel_rfl) (HSB.out _ (Below.refl _ _).drew) (fun hS0=>?_)
      refine zt 0 _ rfl ?_;simp only [zl1];refine zt 1 _ rfl ?_;simp only [zl1];refine zt 2 _ rfl ?_;simp only [zl1];refine zt 3 _ rfl ?_;simp only [zl1];refine zu 4 rfl ?_;simp only [zl1];refine zu 5 rfl ?_;simp only [zl1];refine zu 6 rfl ?_;simp only [zl1];refine zu 7 rfl ?_;simp only [zl1];refine zu 8 rfl ?_;simp only [zl1];refine zu 9 rfl ?_;simp only [zl1];refine zu 10 rfl ?_;simp only [zl1]
      refine zu 11 rfl ?_;simp only [zl1];refine zu 12 rfl ?_;simp only [zl1];refine zu 13 rfl ?_;simp only [zl1];refine zu 14 rfl ?_;simp only [zl1];refine zu 15 rfl ?_;simp only [zl1];refine zu 16 rfl ?_;simp only [zl1];refine zu 17 rfl ?_;simp only [zl1];refine zt 18 _ rfl ?_;simp only [zl1]
      refine wpAnyH_done (by kernel_rfl) ?_ _
      refine NoPanic.normal ?_
      clear hS0 HSB
      go_wp2_with fail
      go_roundw
      case rel=>exact zh ⟨k+1,_,hlt2,by go_num,HJE.out⟩
      case measure=>simp [intOf];omega
     have hac:a≠c:=fun e=>hik (HIN.out.inj hlt hlt2 (by rw [HGI.out,HGK.out];exact e))
     rw [zkp hac]at HSU
     have HAS:Hid (edgeL X f t L i++nodeL X f t L i (k+1)=el++(if needV X f t a c=true then [((i:Int),(k:Int))] else [])):=zh (by rw [HSU.out,← hel,List.append_assoc])
     have HNE:=zh (HND.out wr.drew a c trivial ((HXC.out wr HJ.out.bel).bel.drew))
     generalize needV X f t a c=nb at *
     have hin:((i:Int) != (k:Int))=true:=by simp;omega
     have hin2:((i:Int) == (k:Int))=false:=by simp;omega
     clear hac hel HSU
     refine wp_region_noPanic ?_
     refine wp_region_held_drew (S:=HeldG45 w.heap.size (.slice va vn vc) iv b (off+i*3) (off+k*3) a c) (by kernel_rfl) (HSB.out _ (Below.refl _ _).drew) (fun hS0=>?_)
     refine zt 0 _ rfl ?_;simp only [zl1];refine zt 1 _ rfl ?_;simp only [zl1];refine zt 2 _ rfl ?_;simp only [zl1];refine zt 3 _ rfl ?_;simp only [zl1];refine zt 4 _ rfl ?_;simp only [zl1];refine zt 5 _ rfl ?_;simp only [zl1];refine zt 6 _ rfl ?_;simp only [zl1];refine zt 7 _ rfl ?_;simp only [zl1];refine zt 8 _ rfl ?_;simp only [zl1];refine zt 9 _ rfl ?_;simp only [zl1];refine zt 10 _ rfl ?_;simp only [zl1]
     refine zt 11 _ rfl ?_;simp only [zl1];refine zt 12 _ rfl ?_;simp only [zl1];refine zt 13 _ rfl ?_;simp only [zl1];refine zt 14 _ rfl ?_;simp only [zl1];refine zt 15 _ rfl ?_;simp only [zl1];refine zt 16 _ rfl ?_;simp only [zl1]
     refine zr 17 rfl fun K hK=>?_
     go_simp
     refine(HNE.out).mono ?_
     rintro e w8 ⟨rfl,hb8⟩
     have HB8:Hid (Below wr.heap.size wr w8):=zh ((Below.refl _ _).drew.trans hb8)
     clear hS0
     have hS0:=HSB.out _ HB8.out
     refine hK.out _ _ hS0 (fun _=>?_)
     clear hK K hb8
     (try simp only [zl1])
     refine zt 18 _ rfl ?_;simp only [zl1]
     refine wpAnyH_done (by kernel_rfl) ?_ _
     refine NoPanic.normal ?_
     clear hS0 HSB HNE
     have HJ8:=zh (HJ.out.below HB8.out)
     clear HJ HB8
     cases nb with
     | false =>
      have HJE:Hid (GrK w2 g (L.take (i+1)) (edgeL X f t L i++nodeL X f t L i (k+1)) nv2 ev2 w8):=zh (by rw [HAS.out];simpa using HJ8.out)
      clear HJ8
      go_wp2_with fail
      all_goals
       refine⟨zh ⟨k+1,_,hlt2,by go_num,HJE.out⟩,?_⟩
       simp [intOf];omega
     | true =>
      have o1:w8.cell? ⟨g,1,none⟩=some ev2:=zw _ _ 1 _ _ _ HJ8.out.out
      have HJ9:=zh (HJ8.out.below (belQ w8 (.cells #[intC (i:Int),intC (k:Int)] 43)))
      have HN9:=zh (zn w8 (.cells #[intC (i:Int),intC (k:Int)] 43))
      have hz9:g+1≤(w8.alloc (.cells #[intC (i:Int),intC (k:Int)] 43)).heap.size:=by have:=HJ9.out.lt;omega
      go_wp2_with (at_builtin;refine wpList_append_own _ rfl _ _ 30 rfl (g+1) 43 j0 _ 2 16 underlying30 hj0 hy0 hy1 hy2 rfl (by decide) ev2 _ _ (by rfl) HJ9.out.edges ⟨w8.heap.size,0,none⟩ 1 1 [intC (i:Int),intC (k:Int)] (by rfl) (by rfl) (World.news_of_block HN9.out) (by simp [Value.oneCell']) (by unfold maxLen;omega) (by omega) hz9 ?_;intro v' wA hown' hgrow _;have HOW2:=zh hown';have HGR2:=zh hgrow;have hkp:=HJ9.out.keepE hgrow;have hc6:wA.cell? ⟨g,1,none⟩=some ev2:=zw _ _ 1 _ _ _ hkp;have hf6:=frozen_of_row _ _ 1 _ _ hkp;clear hown' hgrow hkp;obtain⟨g3,gc3,rfl⟩:=ownsRow_succ HOW2.out)
      all_goals
       have HJB:=zh (HJ9.out.edge (x:=((i:Int),(k:Int))) HOW2.out HGR2.out)
       refine⟨zh ⟨k+1,_,hlt2,by go_num,by rw [HAS.out];exact HJB.out⟩,?_⟩
       simp [intOf];omega
def es0:List (Int×Int):=[(0,1),(1,2),(2,1),(2,3),(4,3)]
def ns0:List ByteArray:=List.replicate 5 ⟨#[]⟩

def okE (N:Nat)(x:Int×Int):Prop:=0≤x.1∧x.1<N∧0≤x.2∧x.2<N
def MarkS (N:Nat)(es:List (Int×Int))(fn:List Nat)(l:List Bool):Prop:=l.length=N∧∀ k,bD l k=true ↔ k<N∧∃ a∈fn,Rch (sucs N es) a k
def cntF (W:World)(g:Nat):Nat:=match W.heap[g]? with
 | some (.cells cs _ _)=>cs.toList.countP fun v=>match v with | .bool false=>true | _=>false
 | _=>0
def bval:Value→Nat
 | .bool true=>1
 | _=>0

section
open Go.Proofs.Tryz
structure RD (N:Nat)(es:List (Int×Int))(tgt n:Nat)(pre:List (Int×Int))(d:List Int):Prop where
 len:d.length=N
 lo:∀ a,-1≤gD d a
 t0:gD d tgt=0
 zero:∀ a,gD d a=0→a=tgt
 pred:∀ (a m:Nat),gD d a=(m:Int)+1→∃ b:Nat,((a:Int),(b:Int))∈es∧gD d b=m
 bound:∀ a,gD d a+unass d<N
 done:∀ x∈es,0≤gD d x.2.toNat→gD d x.2.toNat<(n:Int)→0≤gD d x.1.toNat∧gD d x.1.toNat≤gD d x.2.toNat+1
 cur:∀ x∈pre,gD d x.2.toNat=(n:Int)→0≤gD d x.1.toNat∧gD d x.1.toNat≤(n:Int)+1
def rdstep (n:Nat)(d:List Int)(x:Int×Int):List Int:=if gD d x.2.toNat=(n:Int)∧gD d x.1.toNat<0 then d.set x.1.toNat ((n:Int)+1) else d
end

def nearP (N:Nat)(es:List (Int×Int))(far:List Int)(n m j:Nat):Prop:=((n:Int),(j:Int))∈es∧gD far j=(m:Int)
def NX (N:Nat)(es:List (Int×Int))(far:List Int)(n m t:Nat)(nx:Value):Prop:=(nx=.int .i64 (-1)∧∀ j,t≤j→j<N→¬ nearP N es far n m j)∨∃ j,nx=natC j∧t≤j∧j<N∧nearP N es far n m j∧∀ i,t≤i→i<j→¬ nearP N es far n m i
def RCon (f:Nat)(args:Array Value)(P:List Nat→Prop)(w:World):Prop:=∀ W,Below w.heap.size w W→Calls prog f args W fun e W'=>∃ v l,e=.returned v∧P l∧RowOf intC W'.heap.size v (l.map fun n:Nat=>(n:Int)) W'∧l.length≤1000000000∧Below W.heap.size W W'
def ReachP (N:Nat)(es:List (Int×Int))(fr:List Int)(l:List Nat):Prop:=if (validG N es&&fr.all (nodeB N))=true then ReachS N es fr l else l=[]
def PathP (N:Nat)(es:List (Int×Int))(x y:Int)(l:List Nat):Prop:=l=if (validG N es&&[x,y].all (nodeB N))=true then pathF N es x.toNat y.toNat else []
end Go.Proofs.YtapbhoodgnmnkaaGreatDoor
