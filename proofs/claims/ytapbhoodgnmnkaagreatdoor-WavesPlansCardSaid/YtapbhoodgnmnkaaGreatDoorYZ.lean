/- Laws and contracts. -/
import Derived.Test.YtapbhoodgnmnkaaGreatDoorYY
set_option linter.unusedVariables false
set_option linter.unusedSimpArgs false
set_option maxRecDepth 100000
set_option maxHeartbeats 32000000
namespace Go.Proofs.YtapbhoodgnmnkaaGreatDoor
open Go.Proofs.Tryz Go Go.RowKit
structure GrK (w1:World)(g:Nat)(L:List ByteArray)(es:List (Int×Int))(nv ev:Value)(W:World):Prop where
 bel:Below w1.heap.size w1 W
 lo:w1.heap.size≤g
 out:W.heap[g]? = some (.cells #[nv,ev] 32 (0,0))
 nodes:W.ownsRow (g+1) 9 1 nv L.length (strsC L)
 edges:W.ownsRow (g+1) 43 2 ev es.length (edgeCells es)
section
variable {w1:World} {g:Nat} {L:List ByteArray} {es:List (Int×Int)} {nv ev:Value} {W W':World}
theorem GrK.lt (h:GrK w1 g L es nv ev W):g<W.heap.size:=(zb h.out)
theorem GrK.below (h:GrK w1 g L es nv ev W)(hb:Below W.heap.size W W'):GrK w1 g L es nv ev W' :=
 ⟨h.bel.trans (hb.mono h.bel.size),h.lo,(hb.block g h.lt).trans h.out,z0m h.nodes hb,z0m h.edges hb⟩
theorem GrK.start (w1:World):GrK w1 w1.heap.size [] [] (.slice none 0 0) (.slice none 0 0) (w1.alloc (.cells #[.slice none 0 0,.slice none 0 0] 32)) :=
 ⟨belQ w1 _,zq _,zn w1 _,World.ownsRow_nil _ _ _ _,World.ownsRow_nil _ _ _ _⟩
theorem GrK.keepN {W6:World}(h:GrK w1 g L es nv ev W)(hg:W.grownBy W6 nv.ownBlock):W6.heap[g]? = some (.cells #[nv,ev] 32 (0,0)) :=
 (hg.block g h.lt (fun e=>by have:=(z0k h.nodes _ e.symm).1;omega)).trans h.out
theorem GrK.keepE {W6:World}(h:GrK w1 g L es nv ev W)(hg:W.grownBy W6 ev.ownBlock):W6.heap[g]? = some (.cells #[nv,ev] 32 (0,0)) :=
 (hg.block g h.lt (fun e=>by have:=(z0k h.edges _ e.symm).1;omega)).trans h.out
theorem GrK.node {W6:World}{nv':Value}{x:ByteArray}(h:GrK w1 g L es nv ev W)(hown:W6.ownsRow (g+1) 9 1 nv' (L.length+1) (strsC L++[.string x]))(hg:W.grownBy W6 nv.ownBlock):GrK w1 g (L++[x]) es nv' ev (W6.setCell ⟨g,0,none⟩ nv'):=by
 have hk:=h.keepN hg
 obtain⟨h1,h2,h3,h4,h5⟩:=h
 have lo:∀ b,some b=nv.ownBlock→g<b:=fun b hb=>(z0k h4 b hb.symm).1
 have g2:=z0c W6 g 0 nv'
 refine⟨(h1.grown hg h1.size (fun b hb=>by have:=lo b hb.symm;omega)).setCell h2 _,h2,heap_setCell_same _ _ 0 _ _ nv' hk,?_,?_⟩
 ·rw [List.length_append,List.length_singleton,z30]
  exact z21 hown g2 (by omega)
 ·exact z21 (h5.kept hg (z3u h5 h4 (by decide))) g2 (by omega)
theorem GrK.edge {W6:World}{ev':Value}{x:Int×Int}(h:GrK w1 g L es nv ev W)(hown:W6.ownsRow (g+1) 43 2 ev' (es.length+1) (edgeCells es++[intC x.1,intC x.2]))(hg:W.grownBy W6 ev.ownBlock):GrK w1 g L (es++[x]) nv ev' (W6.setCell ⟨g,1,none⟩ ev'):=by
 have hk:=h.keepE hg
 obtain⟨h1,h2,h3,h4,h5⟩:=h
 have lo:∀ b,some b=ev.ownBlock→g<b:=fun b hb=>(z0k h5 b hb.symm).1
 have g2:=z0c W6 g 1 ev'
 refine⟨(h1.grown hg h1.size (fun b hb=>by have:=lo b hb.symm;omega)).setCell h2 _,h2,heap_setCell_same _ _ 1 _ _ ev' hk,?_,?_⟩
 ·exact z21 (h4.kept hg (z3u h4 h5 (by decide))) g2 (by omega)
 ·rw [List.length_append,List.length_singleton,z2l]
  exact z21 hown g2 (by omega)
end
theorem zgl (a:Option Addr)(n c:Nat)(W:World):(Builtin.len_ #[64] 3 #[.slice a n c]).run prog W=.ok (.int .i64 (n:Int)) W:=by
 simp [Builtin.len_,run_underlying underlying64,goInt,Result.andThen]
theorem zgu (X:List RelL)(f t:List SelL)(a:ByteArray):needB X f t a a=false:=by unfold needB;simp
theorem zlw {X:List RelL}{f t:List SelL}{a b:ByteArray}(h:a≠b):needB X f t a b=needV X f t a b:=by unfold needB needV;rw [decide_eq_true h];rfl
def HeldG45 (gx:Nat)(v iv:Value)(b o1 o2:Nat)(x y:ByteArray)(W:World):Prop:=W.cell? ⟨gx,0,none⟩=some v∧W.cell? ⟨gx,1,none⟩=some iv∧W.cell? ⟨b,o1,none⟩=some (.string x)∧W.cell? ⟨b,o2,none⟩=some (.string y)
theorem z3w (v iv fv tv:Value)(X:List RelL)(f t:List SelL)(w:World)(hX:X.length≤1000000)(hq:∀ x∈X,RelBd x)(hR:RelsOf w.heap.size v X w)(hf:f.length≤64)(hF:SelsOf w.heap.size fv f w)(ht:t.length≤64)(hT:SelsOf w.heap.size tv t w) :
  Calls prog 8 #[.agg #[v,iv],fv,tv] w (GraphR w (graphV X f t)):=by
 have HCK:=zh (fun W (hb:Below w.heap.size w W)=>zcu v iv fv tv X f t W hX hq (hR.on hb) hf (hF.on hb) ht (hT.on hb))
 have HMV:=zh (fun W (h0:errW X f t=0) (hb:Below w.heap.size w W)=>zh6 fv tv f t W hf ht (z0e.1 (z04 h0).1).incr (z0e.1 (z04 h0).2).incr (fun y hy=>z14 (z0e.1 (z04 h0).1).ok ((z0e.1 (z04 h0).1).found y hy)) (fun y hy=>z14 (z0e.1 (z04 h0).1).ok ((z0e.1 (z04 h0).2).found y hy)) (hF.on hb) (hT.on hb))
 have HND:=zh (fun W a b (h0:errW X f t=0) (hb:Below w.heap.size w W)=>zh7 v iv fv tv X f t a b W hX hq (hR.on hb) hf (hF.on hb) ht (hT.on hb) (z04 h0).1 (z04 h0).2)
 have HINC:Hid (errW X f t=0→IncB (movesP f t)):=zh (fun h0=>z23 (z0e.1 (z04 h0).1).incr (z0e.1 (z04 h0).2).incr)
 have hln:=z1p f t
 have HG0:Hid (errW X f t=0→graphV X f t=((movesP f t,wavE X f t),0)):=zh (fun h=>by unfold graphV;rw [h,if_pos rfl])
 have HG1:Hid (errW X f t≠0→graphV X f t=(([],[]),errW X f t)):=zh (fun h=>by unfold graphV;rw [if_neg h])
 obtain⟨va,vn,vc,rfl⟩:∃ a n c,v=.slice a n c:=by obtain⟨a,c,_,e,_⟩:=hR.rv;exact⟨_,_,_,e⟩
 obtain⟨fa,fc,rfl⟩:=zo hF
 obtain⟨ta,tc,rfl⟩:=zo hT
 clear hq hR hF hT
 have HB0:=zh (IdxBx.start w (.slice va vn vc) iv)
 have hq0:=belQ (w.alloc (.cells #[.slice va vn vc,iv] 25)) (.cells #[.slice none 0 0,.slice none 0 0] 32)
 have HB1:=zh (HB0.out.below hq0)
 have HZ1:=zh (zn (w.alloc (.cells #[.slice va vn vc,iv] 25)) (.cells #[.slice none 0 0,.slice none 0 0] 32))
 rw [World.size_alloc]at HZ1
 clear hq0
 have HWE:=zh (z9y X f t)
 have hL64:(movesP f t).length≤128:=by omega
 obtain⟨E,hE⟩:∃ E,errW X f t=E:=⟨_,rfl⟩
 rw [hE]at HG0 HG1 HCK HMV HND HINC
 clear hE hln
 go_enter func8,ntmps8
 go_upto_region 1 with fail
 generalize (w.alloc (.cells #[.slice va vn vc,iv] 25)).alloc (.cells #[.slice none 0 0,.slice none 0 0] 32)=W at *
 have c0:=HB1.out.c0
 have c1:=HB1.out.c1
 go_wp2_with fail
 refine(HCK.out _ HB1.out.bel).mono ?_
 rintro e w1 ⟨rfl,hb1⟩
 have HZ2:=zk hb1 HZ1
 have HB2:=zh (HB1.out.below hb1)
 clear hb1 HCK c0 c1 HB0 HB1 HZ1
 by_cases h0:E=0
 case neg =>
  have h0b:(E != 0)=true:=by simpa using h0
  have r0:w1.cell? ⟨w.heap.size+1,0,none⟩=some (.slice none 0 0):=zw _ _ 0 _ _ _ HZ2.out
  have r1:w1.cell? ⟨w.heap.size+1,1,none⟩=some (.slice none 0 0):=zw _ _ 1 _ _ _ HZ2.out
  have q0:=frozen_of_row _ _ 0 _ _ HZ2.out
  have q1:=frozen_of_row _ _ 1 _ _ HZ2.out
  have HBX:=zh (z65 (x':=.slice none 0 0) (y':=.slice none 0 0) HZ2.out)
  have HGR:Hid (GraphR w (graphV X f t) (.returned (.tuple #[.agg #[.slice none 0 0,.slice none 0 0],.int .i64 E])) ((w1.setCell ⟨w.heap.size+1,0,none⟩ (.slice none 0 0)).setCell ⟨w.heap.size+1,1,none⟩ (.slice none 0 0))):=zh (by
   rw [HG1.out h0]
   exact⟨_,_,rfl,.inl ⟨rfl,none,0,rfl⟩,⟨none,0,rfl,fun i x hx=>by cases hx⟩,(HB2.out.bel.setCell (p:=⟨w.heap.size+1,0,none⟩) (Nat.le_succ _) _).setCell (p:=⟨w.heap.size+1,1,none⟩) (Nat.le_succ _) _⟩)
  clear HG0 HG1 HMV HND HINC HWE
  go_wp2_with fail
  refine bodyPost_ret (z0i rfl _ _ (w.heap.size+1) _ _ _ _ rfl HBX.out underlying32 rfl (by kernel_rfl)) rfl ?_
  exact HGR.out
 subst h0
 have HMC:=zh (HMV.out w1 rfl HB2.out.bel)
 have HG:=zh (HG0.out rfl)
 have HIN:=zh (HINC.out rfl)
 clear HMV HG0 HG1 HINC
 go_upto_region 4 with fail
 go_wp2_with fail
 refine HMC.out.mono ?_
 rintro e w2 ⟨mv,rfl,hmv,hb2⟩
 have HZ3:=zk hb2 HZ2
 have HB3:=zh (HB2.out.below hb2)
 obtain⟨L,hL⟩:∃ L,movesP f t=L:=⟨_,rfl⟩
 rw [hL]at HIN HWE hmv HG hL64
 clear hL
 obtain⟨ma,mc,rfl,hmr⟩:=hmv
 have HMA:Hid (∀ W k p,Below w2.heap.size w2 W→L[k]? = some p→∃ b off,ma=some ⟨b,off,none⟩∧W.cell? ⟨b,off+k*3,none⟩=some (.string p)):=zh (fun W k p hw hk=>by
  obtain⟨b,off,h1,h2,h3,_⟩:=hmr k p hk
  exact⟨b,off,h1,(hw.cell (p:=⟨b,off+k*3,none⟩) h2).trans h3⟩)
 have HLN:=zh (fun W=>zgl ma L.length mc W)
 have HGK0:=zh (GrK.start w2)
 have HXC:Hid (∀ W,Below w2.heap.size w2 W→IdxBx w (.slice va vn vc) iv W):=zh (fun W hb=>HB3.out.below hb)
 have HZC:Hid (∀ W,Below w2.heap.size w2 W→W.heap[w.heap.size+1]? = some (.cells #[.slice none 0 0,.slice none 0 0] 32 (0,0))):=zh (fun W hb=>(hb.block _ (zb HZ3.out)).trans HZ3.out)
 clear hb2 hmr HMC HB2 HZ2 HB3 HZ3
 go_upto_region 6 with fail
 generalize w2.alloc (.cells #[.slice none 0 0,.slice none 0 0] 32)=w3 at *
 obtain⟨g,hg⟩:∃ g,w2.heap.size=g:=⟨_,rfl⟩
 have HJ1:Hid (GrK w2 g [] [] (.slice none 0 0) (.slice none 0 0) w3):=zh (by rw [← hg];exact HGK0.out)
 simp only [hg]
 clear hg HGK0
 obtain⟨j0,hj0,hy0,hy1,hy2⟩:=info_parts z5w
 obtain⟨i0,hi0',hz0,hz1,hz2⟩:=info_parts z2a
 go_wp2_with fail
 go_loopw [12] (fun p wr=>Hid (∃ (i:Nat) (nv ev:Value),i≤L.length∧p=.int .i64 (i:Int)∧GrK w2 g (L.take i) (edgeL X f t L i) nv ev wr)) (fun p _=>L.length - (intOf p).toNat)
 case atStart=>exact zh ⟨0,_,_,Nat.zero_le _,rfl,HJ1.out⟩
 case round =>
  obtain⟨i,nv,ev,hi,rfl,hj⟩:=hrel.out
  have HJ:=zh hj
  clear hrel hj HJ1
  have hln:=HLN.out wr
  by_cases hlt:i<L.length
  case neg =>
   have hii:i=L.length:=Nat.le_antisymm hi (Nat.le_of_not_lt hlt)
   clear hi
   subst hii
   rw [List.take_length]at HJ
   have HRE:Hid (RowOf Value.string wr.heap.size nv L wr∧EdgesOf wr.heap.size ev (edgeL X f t L L.length) wr):=zh ⟨(z1q HJ.out.nodes).2,z80 HJ.out.edges⟩
   have o0:wr.cell? ⟨g,0,none⟩=some nv:=zw _ _ 0 _ _ _ HJ.out.out
   have o1:wr.cell? ⟨g,1,none⟩=some ev:=zw _ _ 1 _ _ _ HJ.out.out
   have hz:=HZC.out wr HJ.out.bel
   have z0:wr.cell? ⟨w.heap.size+1,0,none⟩=some (.slice none 0 0):=zw _ _ 0 _ _ _ hz
   have z1:wr.cell? ⟨w.heap.size+1,1,none⟩=some (.slice none 0 0):=zw _ _ 1 _ _ _ hz
   have y0:=frozen_of_row _ _ 0 _ _ hz
   have y1:=frozen_of_row _ _ 1 _ _ hz
   obtain⟨na,nc,rfl⟩:∃ a c,nv=.slice a L.length c:=z09 HJ.out.nodes
   obtain⟨ea,ec,rfl⟩:∃ a c,ev=.slice a (edgeL X f t L L.length).length c:=z09 HJ.out.edges
   have HSET:=zh (z65 (x':=.slice na L.length nc) (y':=.slice ea (edgeL X f t L L.length).length ec) hz)
   have HB9:Hid (Below w.heap.size w ((wr.setCell ⟨w.heap.size+1,0,none⟩ (.slice na L.length nc)).setCell ⟨w.heap.size+1,1,none⟩ (.slice ea (edgeL X f t L L.length).length ec))):=zh (((HXC.out wr HJ.out.bel).bel.setCell (p:=⟨w.heap.size+1,0,none⟩) (Nat.le_succ _) _).setCell (p:=⟨w.heap.size+1,1,none⟩) (Nat.le_succ _) _)
   have HR9:=zh (zat (u0:=.slice na L.length nc) (u1:=.slice ea (edgeL X f t L L.length).length ec) HRE.out.1 hz)
   have HE9:=zh (z5u (u0:=.slice na L.length nc) (u1:=.slice ea (edgeL X f t L L.length).length ec) HRE.out.2 hz)
   have hs9:((wr.setCell ⟨w.heap.size+1,0,none⟩ (.slice na L.length nc)).setCell ⟨w.heap.size+1,1,none⟩ (.slice ea (edgeL X f t L L.length).length ec)).heap.size=wr.heap.size:=by rw [World.size_setCell,World.size_setCell]
   clear hz HJ HND
   rw [HWE.out]at HSET HB9 HR9 HE9 HRE o1 hs9
   generalize hee:wavE X f t=EL at *
   have HEE:=zh hee
   clear hee
   go_wp2_with fail
   try rw [hln]
   clear hln
   go_wp2_with fail
   refine bodyPost_ret (z0i rfl _ _ (w.heap.size+1) _ _ _ _ rfl HSET.out underlying32 rfl (by kernel_rfl)) rfl ?_
   rw [HG.out]
   exact⟨_,_,rfl,by rw [hs9];exact HR9.out,by rw [hs9];exact HE9.out,HB9.out⟩
  case pos =>
   have hi0:(0:Int)≤(i:Int):=Int.natCast_nonneg i
   have hiz:(i:Int)<(L.length:Int):=Int.ofNat_lt.2 hlt
   obtain⟨b,off,rfl,d0⟩:=HMA.out wr i _ HJ.out.bel (ze hlt)
   have HGI:Hid (L.getD i default=L[i]):=zh (by rw [zg,ze hlt];rfl)
   have HTK:Hid (L.take (i+1)=L.take i++[L[i]]):=zh (zs hlt)
   have hti:(L.take i).length=i:=by rw [List.length_take];omega
   have HLI:Hid (L[i]? = some L[i]):=zh (ze hlt)
   generalize L[i]=a at *
   obtain⟨na,nc,he⟩:∃ a c,nv=.slice a (L.take i).length c:=z09 HJ.out.nodes
   rw [hti]at he
   subst he
   have HSB0:Hid (∀ W,Below wr.heap.size wr W→HeldC ⟨g,0,none⟩ ⟨b,off+i*3,none⟩ (.slice na i nc) (.string a) W):=zh (fun W hb=>by
    have hb2:=HJ.out.bel.trans (hb.mono HJ.out.bel.size)
    obtain⟨b',off',e1,h1⟩:=HMA.out W i a hb2 HLI.out
    cases e1
    exact⟨zw _ _ 0 _ _ _ (HJ.out.below hb).out,h1⟩)
   have HJ8:Hid (GrK w2 g (L.take i) (edgeL X f t L i) (.slice na i nc) ev (wr.alloc (.cells #[.string a] 9)).drew):=zh (HJ.out.below (belQ wr _).drew)
   have HN8:Hid ((wr.alloc (.cells #[.string a] 9)).drew.heap[wr.heap.size]? = some (.cells #[.string a] 9 (0,0))):=zh (zn wr _)
   have HB8:Hid (Below wr.heap.size wr (wr.alloc (.cells #[.string a] 9)).drew):=zh (belQ wr _).drew
   have HO8:Hid ((wr.alloc (.cells #[.string a] 9)).drew.ownsRow (g+1) 9 1 (.slice na i nc) i (strsC (L.take i))):=zh (by have h:=HJ8.out.nodes;rw [hti]at h;exact h)
   have hsz8:g+1≤(wr.alloc (.cells #[.string a] 9)).drew.heap.size:=HJ8.out.lt
   have HPU:Hid (∀ (nv':Value) (W6:World),W6.ownsRow (g+1) 9 1 nv' (i+1) (strsC (L.take i)++[.string a])→(wr.alloc (.cells #[.string a] 9)).drew.grownBy W6 (Value.slice na i nc).ownBlock→HeldC ⟨g,0,none⟩ ⟨b,off+i*3,none⟩ (.slice na i nc) (.string a) W6∧W6.heap[g]? = some (.cells #[.slice na i nc,ev] 32 (0,0))∧GrK w2 g (L.take (i+1)) (edgeL X f t L i) nv' ev (W6.setCell ⟨g,0,none⟩ nv')):=zh (fun nv' W6 h1 h2=>by
    have hk:=HJ8.out.keepN h2
    refine⟨⟨zw _ _ 0 _ _ _ hk,?_⟩,hk,?_⟩
    ·have hlo:∀ b,(Value.slice na i nc).ownBlock=some b→w2.heap.size≤b:=fun b hb=>by have:=(z0k HJ8.out.nodes b hb).1;have:=HJ8.out.lo;omega
     obtain⟨b',off',e1,h3⟩:=HMA.out W6 i a (HJ8.out.bel.grown h2 HJ8.out.bel.size hlo) HLI.out
     cases e1
     exact h3
    ·rw [HTK.out]
     exact HJ8.out.node (by rw [hti];exact h1) h2)
   clear HJ hti HTK
   go_upto_region 9 with fail
   try rw [hln]
   try clear hln
   go_upto_region 9 with fail
   clear d0
   refine wp_region_noPanic ?_
   refine z0f (S:=HeldC ⟨g,0,none⟩ ⟨b,off+i*3,none⟩ (.slice na i nc) (.string a)) 9 (by kernel_rfl) (by kernel_rfl) ?_
   simp only [List.take_succ_cons,List.take_zero]
   have hS0:=HSB0.out _ (Below.refl _ _).drew
   refine zt 0 _ rfl ?_;simp only [zl1];refine zt 1 _ rfl ?_;simp only [zl1];refine zt 2 _ rfl ?_;simp only [zl1];refine zt 3 _ rfl ?_;simp only [zl1];refine zt 4 _ rfl ?_;simp only [zl1];refine zt 5 _ rfl ?_;simp only [zl1];refine zt 6 _ rfl ?_;simp only [zl1]
   refine zr 7 rfl fun K hK=>?_
   go_simp
   clear hS0
   have hS0:=HSB0.out _ HB8.out
   refine hK.out _ _ hS0 (fun _=>?_)
   clear hK K
   (try simp only [zl1])
   generalize (wr.alloc (.cells #[.string a] 9)).drew=W8 at *
   refine zr 8 rfl fun K hK=>?_
   refine z6e (ops:=#[]) rfl ?_
   refine wpList_append_own_at _ rfl _ _ 29 rfl (g+1) 9 i0 _ 1 16 underlying29 hi0' hz0 hz1 hz2 rfl (by decide) (.slice na i nc) i _ (by rfl) HO8.out ⟨wr.heap.size,0,none⟩ 1 1 [.string a] (by rfl) (by rfl) (World.news_of_block HN8.out) (by simp [Value.oneCell']) (by unfold maxLen;omega) (by omega) hsz8 ?_
   intro v' W6 hown' hgrow _ _
   obtain⟨hs6,hk6,hj6⟩:=HPU.out v' W6 hown' hgrow
   have HJ6:=zh hj6
   have f6:=frozen_of_row _ _ 0 _ _ hk6
   obtain⟨g3,gc3,rfl⟩:=ownsRow_succ hown'
   clear hown' hgrow hj6 hk6 HPU HJ8 HN8 HB8 HO8 hsz8
   refine wpList_nil ?_
   show K _ _
   clear hS0
   have hS0:=hs6
   refine hK.out _ _ hS0 (fun _=>?_)
   clear hK K hs6
   (try simp only [zl1])
   refine wpAnyH_done (by kernel_rfl) ?_ _
   show wpList _ _ _ _ _ _
   simp only [List.drop_succ_cons,List.drop_zero]
   obtain⟨r6,_⟩:=hS0
   go_wp2_with fail
   refine NoPanic.normal ?_
   clear r6 f6 HSB0
   generalize W6.setCell ⟨g,0,none⟩ (.slice (some ⟨g3,0,none⟩) (i+1) gc3)=W7 at *
   generalize (Value.slice (some ⟨g3,0,none⟩) (i+1) gc3)=nv2 at *
   go_upto_region 11 with fail
   go_loopw [13] (fun p wr=>Hid (∃ (k:Nat) (ev:Value),k≤L.length∧p=.int .i64 (k:Int)∧GrK w2 g (L.take (i+1)) (edgeL X f t L i++nodeL X f t L i k) nv2 ev wr)) (fun p _=>L.length - (intOf p).toNat)
   case atStart=>exact zh ⟨0,ev,Nat.zero_le _,rfl,by simpa [nodeL]using HJ6.out⟩
   case round =>
    clear HJ6
    obtain⟨k,ev2,hk,rfl,hj⟩:=hrel.out
    have HJ:=zh hj
    clear hrel hj
    have hln:=HLN.out wr
    by_cases hlt2:k<L.length
    case neg =>
     have hkk:k=L.length:=Nat.le_antisymm hk (Nat.le_of_not_lt hlt2)
     clear hk
     subst hkk
     have HJE:Hid (GrK w2 g (L.take (i+1)) (edgeL X f t L (i+1)) nv2 ev2 wr):=zh (by rw [z5t];exact HJ.out)
     clear HJ
     go_wp2_with fail
     try rw [hln]
     try clear hln
     go_wp2_with fail
     all_goals
      refine⟨zh ⟨i+1,_,_,hlt,by go_num,HJE.out⟩,?_⟩
      simp [intOf];omega
    case pos =>
     have hk0:(0:Int)≤(k:Int):=Int.natCast_nonneg k
     have hkz:(k:Int)<(L.length:Int):=Int.ofNat_lt.2 hlt2
     have HGK:Hid (L.getD k default=L[k]):=zh (by rw [zg,ze hlt2];rfl)
     have HLK:Hid (L[k]? = some L[k]):=zh (ze hlt2)
     have HSU:Hid (nodeL X f t L i (k+1)=nodeL X f t L i k++(if needB X f t a L[k]=true then [((i:Int),(k:Int))] else [])):=zh (by rw [z9f,HGI.out,HGK.out])
     generalize L[k]=c at *
     have HSB:Hid (∀ W,Below wr.heap.size wr W→HeldG45 w.heap.size (.slice va vn vc) iv b (off+i*3) (off+k*3) a c W):=zh (fun W hb=>by
      have hb2:=HJ.out.bel.trans (hb.mono HJ.out.bel.size)
      have hx:=HXC.out W hb2
      obtain⟨b',off',e1,h1⟩:=HMA.out W i a hb2 HLI.out
      cases e1
      obtain⟨b',off',e1,h2⟩:=HMA.out W k c hb2 HLK.out
      cases e1
      exact⟨hx.c0,hx.c1,h1,h2⟩)
     have hesl:(edgeL X f t L i++nodeL X f t L i k).length≤1000000000000:=by
      rw [List.length_append]
      exact Nat.le_trans (Nat.add_le_add (z7e X f t L i) (z7z X f t L i k)) (sq_le hlt hk (by omega))
     obtain⟨el,hel⟩:∃ el,edgeL X f t L i++nodeL X f t L i k=el:=⟨_,rfl⟩
     rw [hel]at HJ hesl
     go_upto_region 13 with fail
     try rw [hln]
     try clear hln
     go_upto_region 13 with fail
     by_cases hik:i=k
     case pos =>
      have HJE:Hid (GrK w2 g (L.take (i+1)) (edgeL X f t L i++nodeL X f t L i (k+1)) nv2 ev2 wr.drew):=zh (by
       have hac:a=c:=by have h:=HLI.out;have h2:=HLK.out;subst hik;rw [h]at h2;injection h2
       rw [HSU.out,← hac,zgu,if_neg (by decide),List.append_nil,hel]
       exact HJ.out.below (Below.refl _ _).drew)
      have hin:((i:Int) != (k:Int))=false:=by rw [hik];simp
      have hin2:((i:Int) == (k:Int))=true:=by rw [hik];simp
      clear HJ hel HSU hesl
      refine wp_region_noPanic ?_
      refine wp_region_held_drew (S:=HeldG45 w.heap.size (.slice va vn vc) iv b (off+i*3) (off+k*3) a c) (by kernel_rfl) (HSB.out _ (Below.refl _ _).drew) (fun hS0=>?_)
      refine zt 0 _ rfl ?_;simp only [zl1];refine zt 1 _ rfl ?_;simp only [zl1];refine zt 2 _ rfl ?_;simp only [zl1];refine zt 3 _ rfl ?_;simp only [zl1];refine zu 4 rfl ?_;simp only [zl1];refine zu 5 rfl ?_;simp only [zl1];refine zu 6 rfl ?_;simp only [zl1];refine zu 7 rfl ?_;simp only [zl1];refine zu 8 rfl ?_;simp only [zl1];refine zu 9 rfl ?_;simp only [zl1];refine zu 10 rfl ?_;simp only [zl1]
      refine zu 11 rfl ?_;simp only [zl1];refine zu 12 rfl ?_;simp only [zl1];refine zu 13 rfl ?_;simp only [zl1];refine zu 14 rfl ?_;simp only [zl1];refine zu 15 rfl ?_;simp only [zl1];refine zu 16 rfl ?_;simp only [zl1];refine zu 17 rfl ?_;simp only [zl1];refine zt 18 _ rfl ?_;simp only [zl1]
      refine wpAnyH_done (by kernel_rfl) ?_ _
      refine NoPanic.normal ?_
      clear hS0 HSB
      go_wp2_with fail
      go_roundw
      case rel=>exact zh ⟨k+1,_,hlt2,by go_num,HJE.out⟩
      case measure=>simp [intOf];omega
     have hac:a≠c:=fun e=>hik (HIN.out.inj hlt hlt2 (by rw [HGI.out,HGK.out];exact e))
     rw [zlw hac]at HSU
     have HAS:Hid (edgeL X f t L i++nodeL X f t L i (k+1)=el++(if needV X f t a c=true then [((i:Int),(k:Int))] else [])):=zh (by rw [HSU.out,← hel,List.append_assoc])
     have HNE:=zh (HND.out wr.drew a c trivial ((HXC.out wr HJ.out.bel).bel.drew))
     generalize needV X f t a c=nb at *
     have hin:((i:Int) != (k:Int))=true:=by simp;omega
     have hin2:((i:Int) == (k:Int))=false:=by simp;omega
     clear hac hel HSU
     refine wp_region_noPanic ?_
     refine wp_region_held_drew (S:=HeldG45 w.heap.size (.slice va vn vc) iv b (off+i*3) (off+k*3) a c) (by kernel_rfl) (HSB.out _ (Below.refl _ _).drew) (fun hS0=>?_)
     refine zt 0 _ rfl ?_;simp only [zl1];refine zt 1 _ rfl ?_;simp only [zl1];refine zt 2 _ rfl ?_;simp only [zl1];refine zt 3 _ rfl ?_;simp only [zl1];refine zt 4 _ rfl ?_;simp only [zl1];refine zt 5 _ rfl ?_;simp only [zl1];refine zt 6 _ rfl ?_;simp only [zl1];refine zt 7 _ rfl ?_;simp only [zl1];refine zt 8 _ rfl ?_;simp only [zl1];refine zt 9 _ rfl ?_;simp only [zl1];refine zt 10 _ rfl ?_;simp only [zl1]
     refine zt 11 _ rfl ?_;simp only [zl1];refine zt 12 _ rfl ?_;simp only [zl1];refine zt 13 _ rfl ?_;simp only [zl1];refine zt 14 _ rfl ?_;simp only [zl1];refine zt 15 _ rfl ?_;simp only [zl1];refine zt 16 _ rfl ?_;simp only [zl1]
     refine zr 17 rfl fun K hK=>?_
     go_simp
     refine(HNE.out).mono ?_
     rintro e w8 ⟨rfl,hb8⟩
     have HB8:Hid (Below wr.heap.size wr w8):=zh ((Below.refl _ _).drew.trans hb8)
     clear hS0
     have hS0:=HSB.out _ HB8.out
     refine hK.out _ _ hS0 (fun _=>?_)
     clear hK K hb8
     (try simp only [zl1])
     refine zt 18 _ rfl ?_;simp only [zl1]
     refine wpAnyH_done (by kernel_rfl) ?_ _
     refine NoPanic.normal ?_
     clear hS0 HSB HNE
     have HJ8:=zh (HJ.out.below HB8.out)
     clear HJ HB8
     cases nb with
     | false =>
      have HJE:Hid (GrK w2 g (L.take (i+1)) (edgeL X f t L i++nodeL X f t L i (k+1)) nv2 ev2 w8):=zh (by rw [HAS.out];simpa using HJ8.out)
      clear HJ8
      go_wp2_with fail
      all_goals
       refine⟨zh ⟨k+1,_,hlt2,by go_num,HJE.out⟩,?_⟩
       simp [intOf];omega
     | true =>
      have o1:w8.cell? ⟨g,1,none⟩=some ev2:=zw _ _ 1 _ _ _ HJ8.out.out
      have HJ9:=zh (HJ8.out.below (belQ w8 (.cells #[intC (i:Int),intC (k:Int)] 43)))
      have HN9:=zh (zn w8 (.cells #[intC (i:Int),intC (k:Int)] 43))
      have hz9:g+1≤(w8.alloc (.cells #[intC (i:Int),intC (k:Int)] 43)).heap.size:=by have:=HJ9.out.lt;omega
      go_wp2_with (at_builtin;refine wpList_append_own _ rfl _ _ 30 rfl (g+1) 43 j0 _ 2 16 underlying30 hj0 hy0 hy1 hy2 rfl (by decide) ev2 _ _ (by rfl) HJ9.out.edges ⟨w8.heap.size,0,none⟩ 1 1 [intC (i:Int),intC (k:Int)] (by rfl) (by rfl) (World.news_of_block HN9.out) (by simp [Value.oneCell']) (by unfold maxLen;omega) (by omega) hz9 ?_;intro v' wA hown' hgrow _;have HOW2:=zh hown';have HGR2:=zh hgrow;have hkp:=HJ9.out.keepE hgrow;have hc6:wA.cell? ⟨g,1,none⟩=some ev2:=zw _ _ 1 _ _ _ hkp;have hf6:=frozen_of_row _ _ 1 _ _ hkp;clear hown' hgrow hkp;obtain⟨g3,gc3,rfl⟩:=ownsRow_succ HOW2.out)
      all_goals
       have HJB:=zh (HJ9.out.edge (x:=((i:Int),(k:Int))) HOW2.out HGR2.out)
       refine⟨zh ⟨k+1,_,hlt2,by go_num,by rw [HAS.out];exact HJB.out⟩,?_⟩
       simp [intOf];omega
def es0:List (Int×Int):=[(0,1),(1,2),(2,1),(2,3),(4,3)]
def ns0:List ByteArray:=List.replicate 5 ⟨#[]⟩

def okE (N:Nat)(x:Int×Int):Prop:=0≤x.1∧x.1<N∧0≤x.2∧x.2<N
theorem zhk (N:Nat)(es:List (Int×Int)):validG N es=true ↔ N≤1024∧es.length≤4096∧∀ x∈es,okE N x:=by
 unfold validG okE
 simp only [Bool.and_eq_true,decide_eq_true_eq,List.all_eq_true,and_assoc]
theorem z4p (a:Option Addr)(N c:Nat)(ev:Value)(es:List (Int×Int))(w:World)(hN:N≤1000000000000)(hes:es.length≤1000000000000)(hE:EdgesOf w.heap.size ev es w) :
  Calls prog 64 #[.agg #[.slice a N c,ev]] w fun e w'=>e=.returned (.bool (validG N es))∧Below w.heap.size w w':=by
 obtain⟨ao,ec,rfl,hE2⟩:=hE
 have HE:=zh hE2
 have HV:=zh (zhk N es)
 clear hE2
 by_cases h1:N≤1024
 case neg =>
  have h1i:(1024:Int)<(N:Int):=by omega
  have HF:Hid (validG N es=false):=zh (by rw [← Bool.not_eq_true,HV.out];exact fun h=>h1 h.1)
  go_enter func64,ntmps64
  go_wp2_with fail
  go_ret
  exact⟨by rw [HF.out];rfl,z0h _ _⟩
 case pos =>
  have h1i:¬ (1024:Int)<(N:Int):=by omega
  have h1j:(N:Int)≤1024:=by omega
  by_cases h2:es.length≤4096
  case neg =>
   have h2i:(4096:Int)<(es.length:Int):=by omega
   have HF:Hid (validG N es=false):=zh (by rw [← Bool.not_eq_true,HV.out];exact fun h=>h2 h.2.1)
   go_enter func64,ntmps64
   go_wp2_with fail
   go_ret
   exact⟨by rw [HF.out];rfl,z0h _ _⟩
  case pos =>
   have h2i:¬ (4096:Int)<(es.length:Int):=by omega
   have h2j:(es.length:Int)≤4096:=by omega
   have HB0:Hid (Below w.heap.size w (w.alloc (.cells #[.slice a N c,.slice ao es.length ec] 32))):=zh (z0h _ _)
   have hg1:(w.alloc (.cells #[.slice a N c,.slice ao es.length ec] 32)).cell? ⟨w.heap.size,1,none⟩=some (.slice ao es.length ec):=zw _ _ 1 _ _ _ (zn w _)
   go_enter func64,ntmps64
   go_wp2_with fail
   go_loopw [4] (fun q wr=>∃ k:Nat,k≤es.length∧q=.int .i64 k∧Hid (∀ x∈es.take k,okE N x)∧Hid (Below (w.heap.size+1) (w.alloc (.cells #[.slice a N c,.slice ao es.length ec] 32)) wr)) (fun q _=>es.length - (intOf q).toNat)
   case atStart=>exact⟨0,by omega,rfl,zh (by simp),zh (Below.refl _ _)⟩
   case round =>
    obtain⟨k,hk,rfl,HO,HB⟩:=hrel
    have hsb:=HB.out.size
    simp only [World.size_alloc]at hsb
    have hgr:wr.cell? ⟨w.heap.size,1,none⟩=some (.slice ao es.length ec):=(HB.out.cell (p:=⟨w.heap.size,1,none⟩) (by show w.heap.size<_;omega)).trans hg1
    by_cases hlt:k<es.length
    ·have hk0:(0:Int)≤(k:Int):=by omega
     have hk1:(k:Int)<(es.length:Int):=by omega
     obtain⟨b,off,rfl,hb,hc1,hc2⟩:=HE.out k es[k] (by simp [hlt])
     have hc1:=((HB0.out.trans (HB.out.mono (by omega))).cell (p:=⟨b,off+k*2,none⟩) hb).trans hc1
     have hc2:=((HB0.out.trans (HB.out.mono (by omega))).cell (p:=⟨b,off+k*2+1,none⟩) hb).trans hc2
     have HT:Hid (es.take (k+1)=es.take k++[es[k]]):=zh (zs hlt)
     have HBAD:Hid (¬ (0≤es[k].1∧es[k].1<N∧0≤es[k].2∧es[k].2<N)→validG N es=false):=zh fun h=>by
      rw [← Bool.not_eq_true,HV.out]
      exact fun h9=>h (h9.2.2 _ (List.getElem_mem hlt))
     have HGOOD:Hid (0≤es[k].1∧es[k].1<N∧0≤es[k].2∧es[k].2<N→∀ x∈es.take (k+1),okE N x):=zh fun h x hx=>by
      rw [HT.out]at hx
      rcases List.mem_append.1 hx with hx | hx
      ·exact HO.out x hx
      ·rw [List.mem_singleton]at hx;rw [hx];exact h
     obtain⟨x1,hx1⟩:∃ x,x=es[k].1:=⟨_,rfl⟩
     obtain⟨x2,hx2⟩:∃ x,x=es[k].2:=⟨_,rfl⟩
     rw [← hx1]at hc1 HBAD HGOOD
     rw [← hx2]at hc2 HBAD HGOOD
     clear hx1 hx2 HT
     by_cases q1:x1<0
     ·have p1:decide (x1<0)=true:=decide_eq_true q1
      go_wp2_with fail
      go_ret
      exact⟨by rw [HBAD.out (by rintro⟨a1,a2,a3,a4⟩;omega)];rfl,HB0.out.trans ((HB.out.mono (by simp)).alloc (by have:=HB.out.size;simp at this;omega) _)⟩
     ·have p1:decide (x1<0)=false:=decide_eq_false q1
      by_cases q2:(N:Int)≤x1
      ·have p2:decide ((N:Int)≤x1)=true:=decide_eq_true q2
       go_wp2_with fail
       go_ret
       exact⟨by rw [HBAD.out (by rintro⟨a1,a2,a3,a4⟩;omega)];rfl,HB0.out.trans ((HB.out.mono (by simp)).alloc (by have:=HB.out.size;simp at this;omega) _)⟩
      ·have p2:decide ((N:Int)≤x1)=false:=decide_eq_false q2
       by_cases q3:x2<0
       ·have p3:decide (x2<0)=true:=decide_eq_true q3
        go_wp2_with fail
        go_ret
        exact⟨by rw [HBAD.out (by rintro⟨a1,a2,a3,a4⟩;omega)];rfl,HB0.out.trans ((HB.out.mono (by simp)).alloc (by have:=HB.out.size;simp at this;omega) _)⟩
       ·have p3:decide (x2<0)=false:=decide_eq_false q3
        by_cases q4:(N:Int)≤x2
        ·have p4:decide ((N:Int)≤x2)=true:=decide_eq_true q4
         go_wp2_with fail
         go_ret
         exact⟨by rw [HBAD.out (by rintro⟨a1,a2,a3,a4⟩;omega)];rfl,HB0.out.trans ((HB.out.mono (by simp)).alloc (by have:=HB.out.size;simp at this;omega) _)⟩
        ·have p4:decide ((N:Int)≤x2)=false:=decide_eq_false q4
         have HG:=zh (HGOOD.out ⟨by omega,by omega,by omega,by omega⟩)
         clear HBAD HGOOD
         go_wp2_with fail
         go_roundw
         case rel=>exact⟨k+1,by omega,by go_num,HG,zh (HB.out.alloc (by omega) _)⟩
         case measure=>simp [intOf];omega
    ·have hkk:k=es.length:=by omega
     subst hkk
     have HT:Hid (validG N es=true):=zh (HV.out.2 ⟨h1,h2,by have:=HO.out;rwa [List.take_length]at this⟩)
     go_wp2_with fail
     go_ret
     exact⟨by rw [HT.out];rfl,HB0.out.trans (HB.out.mono (by omega))⟩
def MarkS (N:Nat)(es:List (Int×Int))(fn:List Nat)(l:List Bool):Prop:=l.length=N∧∀ k,bD l k=true ↔ k<N∧∃ a∈fn,Rch (sucs N es) a k
theorem bD_lt {l:List Bool}{k:Nat}(h:bD l k=true):k<l.length:=by
 unfold bD at h
 rw [zg]at h
 cases e:l[k]? with
 | none=>rw [e]at h;cases h
 | some b=>exact(zc e)
theorem zf1 (l:List Bool)(i k:Nat)(hi:i<l.length):bD (l.set i true) k=if k=i then true else bD l k:=by
 unfold bD
 rw [zg,zg]
 by_cases e:k=i
 ·subst e;rw [if_pos rfl,List.getElem?_set_self hi];rfl
 ·rw [if_neg e,List.getElem?_set_ne (Ne.symm e)]
theorem zlm {N:Nat}{es:List (Int×Int)}{fn:List Nat}{l:List Bool}(hl:l.length=N)(hv:validG N es=true)(hs:∀ k,bD l k=true→∃ a∈fn,Rch (sucs N es) a k)(hf:∀ a∈fn,bD l a=true)(hc:∀ x∈es,bD l x.1.toNat=true→bD l x.2.toNat=true):MarkS N es fn l:=by
 refine⟨hl,fun k=>⟨fun h=>⟨by rw [← hl];exact bD_lt h,hs k h⟩,?_⟩⟩
 rintro⟨_,a,ha,hr⟩
 have h0:=hf a ha
 clear ha
 induction hr with
 | refl=>exact h0
 | step hb _ ih =>
  refine ih ?_ ?_
  ·have:=z1u (N:=N) (es:=es) _ _ hb
   rw [z05]at this
   omega
  ·obtain⟨_,_,hm⟩:=z1v.1 hb
   have:=hc _ hm (by simpa using h0)
   simpa using this
def cntF (W:World)(g:Nat):Nat:=match W.heap[g]? with
 | some (.cells cs _ _)=>cs.toList.countP fun v=>match v with | .bool false=>true | _=>false
 | _=>0
theorem z8x {W:World}{g:Nat}{l:List Bool}(h:Flags W g l):cntF W g=unseen l:=by
 unfold cntF
 rw [show W.heap[g]? = _ from h]
 show(l.map Value.bool).countP _=_
 rw [List.countP_map]
 unfold unseen
 rw [List.count_eq_countP]
 congr 1
 funext b
 cases b<;>rfl
theorem zeq {l:List Bool}{i:Nat}(hi:i<l.length)(hb:bD l i=false):unseen (l.set i true)+1=unseen l:=by
 refine z4h l i ?_
 unfold bD at hb
 rw [zg,ze hi]at hb
 rw [ze hi]
 exact congrArg some hb
def bval:Value→Nat
 | .bool true=>1
 | _=>0
theorem zc8 (a:Option Addr)(N c:Nat)(ev lv:Value)(es:List (Int×Int))(fn:List Nat)(w:World)(hv:validG N es=true)(hE:EdgesOf w.heap.size ev es w)(hll:fn.length≤1000000000)(hL:RowOf intC w.heap.size lv (fn.map Int.ofNat) w)(hn:∀ k∈fn,k<N) :
  Calls prog 97 #[.agg #[.slice a N c,ev],lv] w fun e w'=>∃ g l,e=.returned (.slice (some ⟨g,0,none⟩) N N)∧w.heap.size≤g∧Flags w' g l∧MarkS N es fn l∧Below w.heap.size w w':=by
 obtain⟨hN,hes⟩:=z1x hv
 have hmk:=z5z N (by omega)
 obtain⟨la,lc,rfl,hL2⟩:=z02 hL
 rw [List.length_map]
 obtain⟨ao,ec,rfl,hE2⟩:=hE
 have HL:=zh hL2
 have HE:=zh hE2
 have HV:=zh hv
 have HN:=zh hn
 have HG0:Hid (((w.alloc (.cells #[.slice a N c,.slice ao es.length ec] 32)).alloc (.cells (Array.replicate N (.bool false)) 4)).heap[w.heap.size]? = some (.cells #[.slice a N c,.slice ao es.length ec] 32 (0,0))):=zh ((Below.heap_alloc _ _ _ (by simp)).trans (zn w _))
 have HB0:Hid (Below w.heap.size w ((w.alloc (.cells #[.slice a N c,.slice ao es.length ec] 32)).alloc (.cells (Array.replicate N (.bool false)) 4))):=zh (((Below.refl _ _).alloc (zq _) _).alloc (by simp) _)
 have HF0:Hid (Flags ((w.alloc (.cells #[.slice a N c,.slice ao es.length ec] 32)).alloc (.cells (Array.replicate N (.bool false)) 4)) (w.heap.size+1) (List.replicate N false)):=zh (by
  have:=zn (w.alloc (.cells #[.slice a N c,.slice ao es.length ec] 32)) (.cells (Array.replicate N (.bool false)) 4)
  rw [World.size_alloc]at this
  refine this.trans ?_
  simp)
 clear hL2 hL hE2 hv hn
 go_enter func97,ntmps97
 go_wp2_with fail
 clear hmk
 go_loopw [6] (fun q wr=>∃ (k:Nat) (l:List Bool),k≤fn.length∧q=.int .i64 k∧Hid (Flags wr (w.heap.size+1) l∧l.length=N∧(∀ a∈fn.take k,bD l a=true)∧∀ a,bD l a=true→a∈fn)∧Hid (wr.heap[w.heap.size]? = some (.cells #[.slice a N c,.slice ao es.length ec] 32 (0,0)))∧Hid (Below w.heap.size w wr)) (fun q _=>fn.length - (intOf q).toNat)
 case atStart=>exact⟨0,_,by omega,rfl,zh ⟨HF0.out,by simp,by simp,fun a h=>by unfold bD at h;rw [zg,List.getElem?_replicate]at h;split at h<;>cases h⟩,HG0,HB0⟩
 case round =>
  clear HG0 HB0 HF0
  obtain⟨k,l,hk,rfl,HF,HG,HB⟩:=hrel
  have hll2:=HF.out.2.1
  have hsb:w.heap.size+1<wr.heap.size:=(zb HF.out.1)
  by_cases hlt:k<fn.length
  ·have hk0:(0:Int)≤(k:Int):=by omega
   have hk1:(k:Int)<(fn.length:Int):=by omega
   obtain⟨b,off,rfl,hb,hc1⟩:=HL.out k (Int.ofNat fn[k]) (by rw [List.getElem?_map,ze hlt];rfl)
   have hc1:wr.cell? ⟨b,off+k,none⟩=some (natC fn[k]):=(HB.out.cell (p:=⟨b,off+k,none⟩) hb).trans hc1
   have hnk:=HN.out _ (List.getElem_mem hlt)
   have HT:Hid (fn.take (k+1)=fn.take k++[fn[k]]):=zh (zs hlt)
   have HM:Hid (fn[k]∈fn):=zh (List.getElem_mem hlt)
   generalize fn[k]=n at *
   have hn0:(0:Int)≤(n:Int):=by omega
   have hn1:(n:Int)<(N:Int):=by omega
   have hcf:=HF.out.1.cell n l[n] (by simp [hll2,hnk])
   have hff:wr.frozen? ⟨w.heap.size+1,n,none⟩=false:=frozen_of_row _ _ n _ _ HF.out.1
   go_wp2_with fail
   go_roundw
   case rel =>
    refine⟨k+1,l.set n true,by omega,by go_num,zh ⟨HF.out.1.set n true,by rw [List.length_set];exact hll2,fun x hx=>?_,fun x hx=>?_⟩,zh ((heap_setCell_other _ _ _ _ (fun e=>by have e:w.heap.size=w.heap.size+1:=e;omega)).trans HG.out),zh (HB.out.setCell (by exact Nat.le_succ _) _)⟩
    ·rw [zf1 _ _ _ (by omega)]
     split
     ·rfl
     ·rw [HT.out]at hx
      rcases List.mem_append.1 hx with hx | hx
      ·exact HF.out.2.2.1 x hx
      ·rw [List.mem_singleton]at hx;omega
    ·rw [zf1 _ _ _ (by omega)]at hx
     split at hx
     ·rename_i e;rw [e];exact HM.out
     ·exact HF.out.2.2.2 x hx
   case measure=>simp [intOf];omega
  ·have hkk:k=fn.length:=by omega
   subst hkk
   have HF1:Hid (Flags wr (w.heap.size+1) l∧l.length=N∧(∀ a∈fn,bD l a=true)∧∀ a,bD l a=true→∃ b∈fn,Rch (sucs N es) b a):=zh ⟨HF.out.1,HF.out.2.1,by have:=HF.out.2.2.1;rwa [List.take_length]at this,fun a ha=>⟨a,HF.out.2.2.2 a ha,.refl _⟩⟩
   clear HF hll2
   go_wp2_with fail
   obtain⟨wo,rfl⟩:∃ wo:World,wo=wr:=⟨_,rfl⟩
   go_loopw [7] (fun q wr=>∃ (l:List Bool) (ch:Bool),q=.bool ch∧Hid (Flags wr (w.heap.size+1) l∧l.length=N∧(∀ a∈fn,bD l a=true)∧∀ a,bD l a=true→∃ b∈fn,Rch (sucs N es) b a)∧Hid (ch=false→∀ x∈es,bD l x.1.toNat=true→bD l x.2.toNat=true)∧Hid (wr.heap[w.heap.size]? = some (.cells #[.slice a N c,.slice ao es.length ec] 32 (0,0)))∧Hid (Below w.heap.size w wr)) (fun q wr=>2*cntF wr (w.heap.size+1)+bval q)
   case atStart=>exact⟨l,true,rfl,HF1,zh (fun h=>by cases h),HG,HB⟩
   case round =>
    clear HF1 HG HB hsb
    obtain⟨l0,ch,rfl,HF,HC,HG,HB⟩:=hrel
    cases ch with
    | false =>
     have HMS:=zh (zlm HF.out.2.1 HV.out HF.out.2.2.2 HF.out.2.2.1 (HC.out rfl))
     go_wp2_with fail
     go_ret
     exact⟨_,rfl,by omega,l0,HF.out.1,HMS.out,HB.out⟩
    | true =>
     have HU0:=zh (z8x HF.out.1)
     go_wp2_with fail
     obtain⟨wo,rfl⟩:∃ wo:World,wo=wr:=⟨_,rfl⟩
     go_loopw [7,8] (fun q r wr=>∃ (k:Nat) (l:List Bool) (ch:Bool),k≤es.length∧r=.int .i64 k∧q=.bool ch∧Hid (Flags wr (w.heap.size+1) l∧l.length=N∧(∀ a∈fn,bD l a=true)∧∀ a,bD l a=true→∃ b∈fn,Rch (sucs N es) b a)∧Hid (ch=false→∀ x∈es.take k,bD l x.1.toNat=true→bD l x.2.toNat=true)∧Hid (unseen l+ch.toNat≤unseen l0)∧Hid (wr.heap[w.heap.size]? = some (.cells #[.slice a N c,.slice ao es.length ec] 32 (0,0)))∧Hid (Below w.heap.size w wr)) (fun _ r _=>es.length - (intOf r).toNat)
     case atStart=>exact⟨0,l0,false,by omega,rfl,rfl,HF,zh (fun _ x hx=>by simp at hx),zh (by simp),HG,HB⟩
     case round =>
      clear HF HC HG HB
      obtain⟨k,l,ch,hk,rfl,rfl,HF,HC,HU,HG,HB⟩:=hrel
      have hll2:=HF.out.2.1
      have hsb:w.heap.size+1<wr.heap.size:=(zb HF.out.1)
      have hg1:wr.cell? ⟨w.heap.size,1,none⟩=some (.slice ao es.length ec):=zw _ _ 1 _ _ _ HG.out
      by_cases hlt:k<es.length
      ·have hk0:(0:Int)≤(k:Int):=by omega
       have hk1:(k:Int)<(es.length:Int):=by omega
       obtain⟨b,off,rfl,hb,hc1,hc2⟩:=HE.out k es[k] (by simp [hlt])
       have hc1:=(HB.out.cell (p:=⟨b,off+k*2,none⟩) hb).trans hc1
       have hc2:=(HB.out.cell (p:=⟨b,off+k*2+1,none⟩) hb).trans hc2
       have HT:Hid (es.take (k+1)=es.take k++[es[k]]):=zh (zs hlt)
       have hed:=z11 HV.out (List.getElem_mem hlt)
       have HM:Hid (es[k]∈es):=zh (List.getElem_mem hlt)
       obtain⟨⟨x1,x2⟩,hx⟩:∃ x,x=es[k]:=⟨_,rfl⟩
       rw [← hx]at hc1 hc2 hed HT HM
       clear hx
       obtain⟨i,rfl⟩:∃ i:Nat,x1=(i:Int):=⟨x1.toNat,by simp at hed;omega⟩
       obtain⟨j,rfl⟩:∃ j:Nat,x2=(j:Int):=⟨x2.toNat,by simp at hed;omega⟩
       simp only at hc1 hc2 hed
       obtain⟨hi0,hi1,hj0,hj1⟩:=hed
       have hbi:l[i]? = some (bD l i):=by unfold bD;rw [zg,ze (by omega)];rfl
       have hbj:l[j]? = some (bD l j):=by unfold bD;rw [zg,ze (by omega)];rfl
       have hci:=cellA (.cells #[.int .i64 (i:Int),.int .i64 (j:Int)] 43) (HF.out.1.cell i _ hbi)
       have hcj0:=HF.out.1.cell j _ hbj
       have hcj:=cellA (.cells #[.int .i64 (i:Int),.int .i64 (j:Int)] 43) hcj0
       have hfj:=frozA (.cells #[.int .i64 (i:Int),.int .i64 (j:Int)] 43) hcj0 (frozen_of_row _ _ j _ _ HF.out.1)
       have HFA:Hid (Flags (wr.alloc (.cells #[.int .i64 (i:Int),.int .i64 (j:Int)] 43)) (w.heap.size+1) l):=zh ((Below.heap_alloc _ _ _ hsb).trans HF.out.1)
       have HGA:Hid ((wr.alloc (.cells #[.int .i64 (i:Int),.int .i64 (j:Int)] 43)).heap[w.heap.size]? = some (.cells #[.slice a N c,.slice (some ⟨b,off,none⟩) es.length ec] 32 (0,0))):=zh ((Below.heap_alloc _ _ _ (by omega)).trans HG.out)
       have HBA:Hid (Below w.heap.size w (wr.alloc (.cells #[.int .i64 (i:Int),.int .i64 (j:Int)] 43))):=zh (HB.out.alloc (by omega) _)
       have HNX:Hid (bD l i=false∨bD l j=true→ch=false→∀ x∈es.take (k+1),bD l x.1.toNat=true→bD l x.2.toNat=true):=zh fun h hch x hx h1=>by
        rw [HT.out]at hx
        rcases List.mem_append.1 hx with hx | hx
        ·exact HC.out hch x hx h1
        ·rw [List.mem_singleton]at hx
         subst hx
         rcases h with h | h
         ·have h9:bD l i=true:=h1
          rw [h]at h9;cases h9
         ·exact h
       have HBI:Hid (∀ b,bD l i=b→bD l i=b):=zh (fun _ h=>h)
       clear hbi hbj hcj0
       cases hqi:bD l i with
       | false =>
        rw [hqi]at hci
        have HX:=zh (HNX.out (.inl hqi))
        clear hqi HNX HBI
        go_wp2_with fail
        go_roundw
        case rel=>exact⟨k+1,l,ch,by omega,by go_num,rfl,zh ⟨HFA.out,HF.out.2⟩,HX,HU,HGA,HBA⟩
        case measure=>simp [intOf];omega
       | true =>
        rw [hqi]at hci
        cases hqj:bD l j with
        | true =>
         rw [hqj]at hcj
         have HX:=zh (HNX.out (.inr hqj))
         clear hqi hqj HNX HBI
         go_wp2_with fail
         go_roundw
         case rel=>exact⟨k+1,l,ch,by omega,by go_num,rfl,zh ⟨HFA.out,HF.out.2⟩,HX,HU,HGA,HBA⟩
         case measure=>simp [intOf];omega
        | false =>
         rw [hqj]at hcj
         have HQI:=zh hqi
         have HQJ:=zh hqj
         have hne1:w.heap.size+1≠wr.heap.size:=by omega
         have hne2:wr.heap.size≠w.heap.size+1:=by omega
         clear hqi hqj HNX HBI
         go_wp2_with fail
         go_roundw
         case rel =>
          refine⟨k+1,l.set j true,true,by omega,by go_num,rfl,zh ⟨(Below.heap_alloc _ _ _ (by rw [World.size_setCell];exact hsb)).trans (HF.out.1.set j true),by rw [List.length_set];exact hll2,fun x hx=>?_,fun x hx=>?_⟩,zh (fun h=>by cases h),zh ?_,zh ((Below.heap_alloc _ _ _ (by rw [World.size_setCell];omega)).trans ((heap_setCell_other _ _ _ _ (fun e=>by have e:w.heap.size=w.heap.size+1:=e;omega)).trans HG.out)),zh ((HB.out.setCell (by exact Nat.le_succ _) _).alloc (by rw [World.size_setCell];omega) _)⟩
          ·rw [zf1 _ _ _ (by omega)]
           split
           ·rfl
           ·exact HF.out.2.2.1 x hx
          ·rw [zf1 _ _ _ (by omega)]at hx
           split at hx
           ·rename_i e
            obtain⟨b9,hb9,hr9⟩:=HF.out.2.2.2 i HQI.out
            exact⟨b9,hb9,hr9.trans (.step (z1v.2 ⟨by omega,by omega,by rw [e];exact HM.out⟩) (.refl _))⟩
           ·exact HF.out.2.2.2 x hx
          ·have h1:=zeq (l:=l) (i:=j) (by omega) HQJ.out
           have h2:=HU.out
           show unseen (l.set j true)+1≤_
           omega
         case measure=>simp [intOf];omega
      ·have hkk:k=es.length:=by omega
       subst hkk
       have HC2:Hid (ch=false→∀ x∈es,bD l x.1.toNat=true→bD l x.2.toNat=true):=zh (by have:=HC.out;rwa [List.take_length]at this)
       go_wp2_with fail
       go_roundw
       case rel=>exact⟨l,ch,rfl,HF,HC2,HG,HB⟩
       case measure =>
        have e1:=z8x HF.out.1
        have e2:=HU0.out
        have e3:=HU.out
        simp only [bval]at *
        cases ch<;>simp at*<;> omega

section
open Go.Proofs.Tryz
structure RD (N:Nat)(es:List (Int×Int))(tgt n:Nat)(pre:List (Int×Int))(d:List Int):Prop where
 len:d.length=N
 lo:∀ a,-1≤gD d a
 t0:gD d tgt=0
 zero:∀ a,gD d a=0→a=tgt
 pred:∀ (a m:Nat),gD d a=(m:Int)+1→∃ b:Nat,((a:Int),(b:Int))∈es∧gD d b=m
 bound:∀ a,gD d a+unass d<N
 done:∀ x∈es,0≤gD d x.2.toNat→gD d x.2.toNat<(n:Int)→0≤gD d x.1.toNat∧gD d x.1.toNat≤gD d x.2.toNat+1
 cur:∀ x∈pre,gD d x.2.toNat=(n:Int)→0≤gD d x.1.toNat∧gD d x.1.toNat≤(n:Int)+1
def rdstep (n:Nat)(d:List Int)(x:Int×Int):List Int:=if gD d x.2.toNat=(n:Int)∧gD d x.1.toNat<0 then d.set x.1.toNat ((n:Int)+1) else d
end

def nearP (N:Nat)(es:List (Int×Int))(far:List Int)(n m j:Nat):Prop:=((n:Int),(j:Int))∈es∧gD far j=(m:Int)
def NX (N:Nat)(es:List (Int×Int))(far:List Int)(n m t:Nat)(nx:Value):Prop:=(nx=.int .i64 (-1)∧∀ j,t≤j→j<N→¬ nearP N es far n m j)∨∃ j,nx=natC j∧t≤j∧j<N∧nearP N es far n m j∧∀ i,t≤i→i<j→¬ nearP N es far n m i
def RCon (f:Nat)(args:Array Value)(P:List Nat→Prop)(w:World):Prop:=∀ W,Below w.heap.size w W→Calls prog f args W fun e W'=>∃ v l,e=.returned v∧P l∧RowOf intC W'.heap.size v (l.map fun n:Nat=>(n:Int)) W'∧l.length≤1000000000∧Below W.heap.size W W'
def ReachP (N:Nat)(es:List (Int×Int))(fr:List Int)(l:List Nat):Prop:=if (validG N es&&fr.all (nodeB N))=true then ReachS N es fr l else l=[]
def PathP (N:Nat)(es:List (Int×Int))(x y:Int)(l:List Nat):Prop:=l=if (validG N es&&[x,y].all (nodeB N))=true then pathF N es x.toNat y.toNat else []
end Go.Proofs.YtapbhoodgnmnkaaGreatDoor
