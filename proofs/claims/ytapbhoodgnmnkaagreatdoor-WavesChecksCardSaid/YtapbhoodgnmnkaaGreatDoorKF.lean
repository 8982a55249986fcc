/- Laws and contracts. -/
import Derived.Test.YtapbhoodgnmnkaaGreatDoorKE
set_option linter.unusedVariables false
set_option linter.unusedSimpArgs false
set_option maxRecDepth 100000
set_option maxHeartbeats 32000000
namespace Go.Proofs.YtapbhoodgnmnkaaGreatDoor
open Go.Proofs.Tryz Go Go.RowKit
theorem zdj {B:Nat}{ao:Option Addr}{cap:Nat}{L:List (List ByteArray)}{W:World}(h:NamesOf B (.slice ao L.length cap) L W):∃ xs:List Value,xs.length=L.length∧(∀ i l,L[i]? = some l→∃ b off r a n c,ao=some ⟨b,off,none⟩∧b<B∧r=.slice a n c∧xs[i]? = some r∧W.cell? ⟨b,off+i,none⟩=some r∧RowOf Value.string B r l W):=by
 obtain⟨a,c,e,h⟩:=h
 cases e
 have key:∀ i,i<L.length→∃ r,∀ l,L[i]? = some l→∃ b off a n c,ao=some ⟨b,off,none⟩∧b<B∧r=.slice a n c∧W.cell? ⟨b,off+i,none⟩=some r∧RowOf Value.string B r l W:=fun i hi=>by
  obtain⟨b,off,r,h1,h2,h3,h4⟩:=h i _ (ze hi)
  obtain⟨ra,rc,e,_⟩:=z01 h4
  refine⟨r,fun l hl=>?_⟩
  rw [ze hi]at hl
  cases hl
  exact⟨b,off,ra,_,rc,h1,h2,e,h3,h4⟩
 have hch:∀ n,n≤L.length→∃ xs:List Value,xs.length=n∧∀ i l,i<n→L[i]? = some l→∃ b off r a n c,ao=some ⟨b,off,none⟩∧b<B∧r=.slice a n c∧xs[i]? = some r∧W.cell? ⟨b,off+i,none⟩=some r∧RowOf Value.string B r l W:=fun n=>by
  induction n with
  | zero=>exact fun _=>⟨[],rfl,fun i l hi=>absurd hi (Nat.not_lt_zero i)⟩
  | succ n ih =>
   intro hn
   obtain⟨xs,hl,hx⟩:=ih (Nat.le_of_succ_le hn)
   obtain⟨r,hr⟩:=key n hn
   refine⟨xs++[r],by rw [List.length_append,hl];rfl,fun i l hi hil=>?_⟩
   by_cases e:i=n
   ·subst e
    obtain⟨b,off,a,m,c,h1,h2,h3,h4,h5⟩:=hr l hil
    exact⟨b,off,r,a,m,c,h1,h2,h3,by rw [← hl,List.getElem?_append_right (zq _),Nat.sub_self];rfl,h4,h5⟩
   ·obtain⟨b,off,r2,a,m,c,h1,h2,h3,h4,h5⟩:=hx i l (by omega) hil
    exact⟨b,off,r2,a,m,c,h1,h2,h3,by rw [List.getElem?_append_left (by omega)];exact h4,h5⟩
 obtain⟨xs,hl,hx⟩:=hch L.length (zq _)
 exact⟨xs,hl,fun i l hil=>hx i l (zc hil) hil⟩
theorem z65 {w:World}{ops:Array Oper}{rest:List Oper}{o:Oper}{a:Act}{Q:Exit→Act→World→Prop}(hw:Region.wanted o (yielded ops a.tmps)=true)(s x:Operand)
  (ho:o.op=.call { callee:=.builtin .append,args:=#[s,x],argTypes:=#[36,36] }) (w0:World) (mv:Value) (M:List ByteArray) (hmv:∃ a n c,mv=.slice a n c) (hM:RowOf Value.string w0.heap.size mv M w0)
  (hw0:w=w0.alloc (.cells #[mv] 29)) (hs:a.eval s=.slice (some ⟨w0.heap.size,0,none⟩) 1 1) (la:Option Addr) (L:List (List ByteArray)) (lc:Nat) (hx:a.eval x=.slice la L.length lc) (hL:NamesOf w0.heap.size (.slice la L.length lc) L w0)
  (hb:L.length*24≤140737488351232)
  (h:∀ v' w',NamesOf w'.heap.size v' (M::L) w'→(∃ a c,v'=.slice a (L.length+1) c)→Below w0.heap.size w0 w'→wpList prog ops Q rest (a.put o.dst v') w'):wpList prog ops Q (o::rest) a w:=by
 subst hw0
 obtain⟨r0,hr0,hy0,hy1,hy2⟩:=info_parts zbb
 have hq:=belQ w0 (.cells #[mv] 29)
 have hblk:=zn w0 (.cells #[mv] 29)
 have hlen:L.length+1≤maxLen:=by unfold maxLen;omega
 have hown:(w0.alloc (.cells #[mv] 29)).ownsRow w0.heap.size 29 1 (.slice (some ⟨w0.heap.size,0,none⟩) 1 1) 1 [mv]:=⟨rfl,.inr ⟨w0.heap.size,1,#[mv],rfl,zq _,hblk,zq _,by unfold maxLen;omega,rfl,rfl⟩⟩
 obtain⟨ma,mn,mc,hmvs⟩:=hmv
 have fin:∀ (xs:List Value) v' w',xs.length=L.length→(∀ i l,L[i]? = some l→∃ r,xs[i]? = some r∧RowOf Value.string w0.heap.size r l w0)→w'.ownsRow w0.heap.size 29 1 v' (1+L.length) ([mv]++xs)→(w0.alloc (.cells #[mv] 29)).grownBy w' (some w0.heap.size)→wpList prog ops Q rest (a.put o.dst v') w':=fun xs v' w' hxl hx2 hown' hgr=>by
  have hbw:Below w0.heap.size w0 w':=hq.grown hgr (Nat.le_trans (zq _) hq.size) (fun b hb=>by injection hb with hb;omega)
  rw [Nat.add_comm]at hown'
  refine h v' w' ?_ (z05 hown') hbw
  obtain⟨hl2,h2⟩:=hown'
  rcases h2 with ⟨rfl,h0⟩ | ⟨g,cap,cur,rfl,h1,h2,h3,h4,h5,h6⟩
  ·exact absurd h0 (by omega)
  refine⟨_,cap,rfl,fun i l hil=>?_⟩
  have hcell:∀ i u,([mv]++xs)[i]? = some u→w'.cell? ⟨g,0+i,none⟩=some u:=fun i u hu=>by
   have hi:=(zc hu)
   rw [Nat.zero_add,zw _ _ _ _ _ _ h2,← hu,← h6,List.getElem?_take,if_pos (by omega)]
   simp
  cases i with
  | zero =>
   cases hil
   exact⟨g,0,mv,rfl,(zb h2),hcell 0 mv rfl,(hM.below hbw (zq _)).mono hbw.size⟩
  | succ i =>
   obtain⟨r,h7,h8⟩:=hx2 i l (by simpa using hil)
   exact⟨g,0,r,rfl,(zb h2),hcell (i+1) r (by simpa using h7),(h8.below hbw (zq _)).mono hbw.size⟩
 cases la with
 | none =>
  have h0:L=[]:=by
   cases L with
   | nil=>rfl
   | cons y L=>obtain⟨_,_,e,hL⟩:=hL;cases e;obtain⟨b,off,_,h1,_⟩:=hL 0 y rfl;cases h1
  subst h0
  refine Go.BigFrame.wpList_want hw fun K hK=>?_
  have hrun:=z2a (P:=prog) (w:=w0.alloc (.cells #[mv] 29)) w0.heap.size 36 o.type 29 r0 1 underlying36 hr0 _ _ _ hown lc
  unfold Oper.wp
  simp [execOp,ho,resolve,invoke,builtin,hs,hx,hrun,Result.andThen]
  exact hK _ _ (fin [] _ _ rfl (fun i l hil=>by cases hil) (by simpa using hown) (World.grownBy.refl _ _))
 | some ad =>
  obtain⟨xs,hxl,hxs⟩:=zdj hL
  refine Go.BigFrame.wpList_want hw fun K hK=>wp_append_own _ s x 36 ho w0.heap.size 29 r0 _ 1 24 underlying36 hr0 hy0 hy1 hy2 rfl (by decide) _ 1 _ hs hown ad L.length lc xs hx (by omega) (fun j u hu=>?_) (fun u hu=>?_) (by omega) (by omega) hq.size (fun v' w' h1 h2 _=>hK _ _ (fin xs v' w' hxl (fun i l hil=>by obtain⟨_,_,r,_,_,_,_,_,_,h4,_,h5⟩:=hxs i l hil;exact⟨r,h4,h5⟩) h1 h2))
  ·have hj:=(zc hu)
   rw [hxl]at hj
   obtain⟨b,off,r,_,_,_,e,h2,_,h4,h5,_⟩:=hxs j _ (ze hj)
   cases e
   rw [h4]at hu
   cases hu
   rw [Addr.add_lit]
   exact(hq.cell (p:=⟨b,off+j,none⟩) h2).trans h5
  ·obtain⟨j,hj,rfl⟩:=List.mem_iff_getElem.1 hu
   rw [hxl]at hj
   obtain⟨b,off,r,a,n,c,_,_,e,h4,_,_⟩:=hxs j _ (ze hj)
   rw [ze (by omega)]at h4
   have h4:=Option.some.inj h4
   rw [h4,e]
   rfl
theorem InW.rbtw {v iv fv tv mv:Value}{X:List RelL}{f t:List SelL}{M:List ByteArray}{w:World}(h:InW v iv fv tv X f t w)(hl:M.length≤1000000)(hM:RowOf Value.string w.heap.size mv M w):Calls prog 20 #[.agg #[v,iv],fv,tv,mv] w (BtwR X f t M w) :=
 z7t v iv fv tv mv X f t M w h.xl h.xq h.rel (by have:=h.fl;omega) h.sf (by have:=h.tl;omega) h.st hl hM
theorem InW.rcheck {v iv fv tv mv:Value}{X:List RelL}{f t:List SelL}{L:List (List ByteArray)}{w:World}(h:InW v iv fv tv X f t w)(hl:L.length≤20)(hr:∀ l∈L,l.length≤20)(hM:NamesOf w.heap.size mv L w):Calls prog 23 #[.agg #[v,iv],fv,tv,mv] w fun e w'=>e=.returned (.int .i64 (planV X f t L))∧Below w.heap.size w w' :=
 zc3 v iv fv tv mv X f t L w h.xl h.xq h.rel (by have:=h.fl;omega) h.sf (by have:=h.tl;omega) h.st hl hr hM
theorem zjt (X:List RelL)(f t:List SelL)(M:List ByteArray):(btwS X f t M).length≤f.length+t.length:=by
 unfold btwS
 split
 ·exact zan f t M
 ·simp
theorem zh2 (a:Option Addr)(c:Nat)(iv:Value)(X:List RelL)(fv:Value)(f:List SelL)(tv:Value)(t:List SelL)(mv:Value)(M:List ByteArray)(pv:Value)(L:List (List ByteArray))(w:World)(hm:MaxOk w)(h0:RelsOf w.heap.size (.slice a X.length c) X w∧X.length≤maxLen∧∀ x∈X,x.reqs.length≤maxLen)
  (h1:SelsOf w.heap.size fv f w∧f.length≤maxLen∧∀ y∈f,SelBd y) (h2:SelsOf w.heap.size tv t w∧t.length≤maxLen∧∀ y∈t,SelBd y)
  (h3:RowOf Value.string w.heap.size mv M w∧M.length≤maxLen∧∀ p∈M,p.size≤maxLen) (h4:NamesOf w.heap.size pv L w∧L.length≤maxLen∧∀ l∈L,l.length≤maxLen) (h5:L.length*24≤140737488351232) :
  Calls prog 4 #[.agg #[.slice a X.length c,iv],fv,tv,mv,pv] w fun e w'=>e=.returned (.bool true)∧Below w.heap.size w w':=by
 obtain⟨hR,hX,hXr⟩:=h0
 obtain⟨hF,hfl,hfy⟩:=h1
 obtain⟨hT,htl,hty⟩:=h2
 obtain⟨hM,hml,hms⟩:=h3
 obtain⟨hP,hpl,hpr⟩:=h4
 obtain⟨fa,fc,rfl⟩:=zo hF
 obtain⟨ta,tc,rfl⟩:=zo hT
 obtain⟨ma,mc,rfl,_⟩:=z01 hM
 obtain⟨pa,pc,rfl⟩:=zo hP
 have HAW:=zh (fun W (hb:RowKit.Below w.heap.size w W)=>zcu W (hm.below hb hm.pos))
 have HFEW:=zh (fun W (hb:RowKit.Below w.heap.size w W)=>zhn a c iv X fa ta f.length fc t.length tc W hX hXr (hR.on hb) hfl htl)
 have HFEP:=zh (fun W v (hv:NamesOf W.heap.size v (M::L) W)=>zk1 v (M::L) W (by simp only [List.length_cons];omega) (fun l hl=>by
  rcases List.mem_cons.1 hl with e | hl
  ·subst e;unfold maxLen at hml;omega
  ·have:=hpr l hl;unfold maxLen at this;omega) hv)
 have HINP:=zh (fun W (hb:RowKit.Below w.heap.size w W) (h:FewR X 16∧f.length≤12∧t.length≤12)=>InW.of_few hm hR hF hfy hT hty (iv:=iv) h hb)
 have HPN:=zh (fun W (hb:RowKit.Below w.heap.size w W)=>z03 hP hb)
 have HMN:=zh (fun W (hb:RowKit.Below w.heap.size w W)=>z4v hM hb)
 have HMS:=zh hms
 have H5:=zh h5
 clear hm hR hX hXr hF hfl hfy hT htl hty hP hpl hpr hM hml hms h5
 have HB0:=zh (IdxBx.start w (.slice a X.length c) iv)
 go_enter func4,ntmps4
 go_upto_region 1 with fail
 generalize w.alloc (.cells #[.slice a X.length c,iv] 25)=W0 at *
 go_wp2_with fail
 refine(HAW.out _ HB0.out.bel).mono ?_
 rintro e w1 ⟨rfl,hb1⟩
 have HB1:=zh (HB0.out.below hb1)
 clear hb1 HAW HB0
 have c0:=HB1.out.c0
 have c1:=HB1.out.c1
 go_wp2_with fail
 refine(HFEW.out _ HB1.out.bel).mono ?_
 rintro e w2 ⟨fb,rfl,hfew,hb2⟩
 have HB:=zh (HB1.out.below hb2)
 clear hb2 HFEW HB1 c0 c1
 cases fb with
 | false =>
  clear hfew HINP HFEP HPN HMN
  go_wp2_with fail
  go_ret
  exact⟨rfl,HB.out.bel⟩
 | true =>
 have HIN:=zh (HINP.out w2 HB.out.bel (hfew rfl))
 have HNM:=zh (HPN.out w2 HB.out.bel)
 have HMR:=zh (HMN.out w2 HB.out.bel)
 clear hfew HINP HPN HMN
 go_wp2_with (at_builtin;refine z65 (by rfl) _ _ rfl w2 (.slice ma M.length mc) M ⟨_,_,_,rfl⟩ HMR.out (by rfl) (by rfl) pa L pc (by rfl) HNM.out H5.out ?_;intro v' w3 hnv hsv hbx;have HNV:=zh hnv;have HBX:=zh hbx;clear hnv hbx;obtain⟨va,vc,rfl⟩:=hsv)
 refine(HFEP.out _ _ HNV.out).mono ?_
 rintro e w4 ⟨fb,rfl,hfew,rfl⟩
 have hbx:=HBX.out
 replace HB:=zh (HB.out.below hbx)
 replace HIN:=zh (HIN.out.on hbx)
 replace HNM:=zh (z03 HNM.out hbx)
 replace HMR:=zh (z4v HMR.out hbx)
 clear hbx HBX HNV HFEP
 cases fb with
 | false =>
  clear hfew
  go_wp2_with fail
  go_ret
  exact⟨rfl,HB.out.bel⟩
 | true =>
 have hfp:=hfew rfl
 have hml:M.length≤20:=(hfp.all M (by simp)).1
 have HLL:Hid (L.length≤20∧(∀ l∈L,l.length≤20)∧L.flatten.length≤400∧∀ p∈L.flatten,p.size≤maxLen):=zh (by
  have hl:=hfp.len
  simp only [List.length_cons]at hl
  have hf:=FewP.flat (L:=L) (fun l hl=>hfp.all l (by simp [hl]))
  exact⟨by omega,fun l hl=>(hfp.all l (by simp [hl])).1,by omega,fun p hp=>by have:=hf.2 p hp;unfold maxLen;omega⟩)
 clear hfew hfp
 have HBV:=zh (zjt X f t M)
 have HFT:Hid (f.length≤12∧t.length≤12):=zh ⟨HIN.out.fl,HIN.out.tl⟩
 have c0:=HB.out.c0
 have c1:=HB.out.c1
 have hco:=HIN.out.btw (M:=M) (by omega) HMS.out HMR.out
 unfold BtwR at hco
 have HCO:=zh hco
 clear hco
 go_wp2_with fail
 refine HCO.out.mono ?_
 rintro e w5 ⟨bv,rfl,hnx,hbx⟩
 replace HB:=zh (HB.out.below hbx)
 replace HIN:=zh (HIN.out.on hbx)
 replace HNM:=zh (z03 HNM.out hbx)
 replace HMR:=zh (z4v HMR.out hbx)
 have HS1:=zh hnx
 obtain⟨bva,bvc,rfl⟩:=zo hnx
 clear hnx hbx HCO c0 c1
 have c0:=HB.out.c0
 have c1:=HB.out.c1
 have hco:=HIN.out.rbtw (M:=M) (by omega) HMR.out
 unfold BtwR at hco
 have HCO:=zh hco
 clear hco
 go_wp2_with fail
 refine HCO.out.mono ?_
 rintro e w6 ⟨bv2,rfl,hnx,hbx⟩
 replace HB:=zh (HB.out.below hbx)
 replace HIN:=zh (HIN.out.on hbx)
 replace HNM:=zh (z03 HNM.out hbx)
 replace HMR:=zh (z4v HMR.out hbx)
 replace HS1:=zh (HS1.out.on hbx)
 have HS2:=zh hnx
 obtain⟨bv2a,bv2c,rfl⟩:=zo hnx
 clear hnx hbx HCO c0 c1
 obtain⟨BV,hBV⟩:∃ BV,btwV X f t M=BV:=⟨_,rfl⟩
 obtain⟨BS,hBS⟩:∃ BS,btwS X f t M=BS:=⟨_,rfl⟩
 obtain⟨PV,hPV⟩:∃ PV,planV X f t L=PV:=⟨_,rfl⟩
 have HPV:=zh hPV
 rw [hBS]at HS1 HS2 HBV
 rw [hBV,hBS]
 clear hBV hBS hPV
 have hbe:(BV == BV)=true:=by simp
 have hpe:(PV == PV)=true:=by simp
 go_upto_region 7 with fail
 have hbx:Below w6.heap.size w6 w6.drew:=(Below.refl _ _).drew
 replace HB:=zh (HB.out.below hbx)
 replace HIN:=zh (HIN.out.on hbx)
 replace HNM:=zh (z03 HNM.out hbx)
 replace HMR:=zh (z4v HMR.out hbx)
 replace HS1:=zh (HS1.out.on hbx)
 replace HS2:=zh (HS2.out.on hbx)
 clear hbx
 refine wp_region_noPanic ?_
 refine wp_region_held_drew (S:=HeldX w.heap.size (.slice a X.length c) iv) (by kernel_rfl) ⟨HB.out.c0,HB.out.c1⟩ (fun hS0=>?_)
 refine zt 0 _ rfl ?_;simp only [zl1];refine zt 1 _ rfl ?_;simp only [zl1]
 have hco:=zk0 _ _ BS BS _ (by have:=HBV.out;have:=HFT.out;omega) (by have:=HBV.out;have:=HFT.out;omega) HS1.out HS2.out
 rw [decide_eq_true rfl]at hco
 have HK1:=zh hco
 clear hco
 refine zr 2 rfl fun K hK=>?_
 go_simp
 refine(HK1.out).mono ?_
 rintro e w7 ⟨rfl,hbx⟩
 replace HB:=zh (HB.out.below hbx)
 replace HIN:=zh (HIN.out.on hbx)
 replace HNM:=zh (z03 HNM.out hbx)
 replace HMR:=zh (z4v HMR.out hbx)
 replace HS1:=zh (HS1.out.on hbx)
 replace HS2:=zh (HS2.out.on hbx)
 clear hS0
 have hS0:=(⟨HB.out.c0,HB.out.c1⟩:HeldX _ _ _ _)
 refine hK.out _ _ hS0 (fun _=>?_)
 clear hK K hbx
 (try simp only [zl1])
 refine zt 3 _ rfl ?_;simp only [zl1];refine zt 4 _ rfl ?_;simp only [zl1];refine zt 5 _ rfl ?_;simp only [zl1];refine zt 6 _ rfl ?_;simp only [zl1];refine zt 7 _ rfl ?_;simp only [zl1];refine zt 8 _ rfl ?_;simp only [zl1];refine zt 9 _ rfl ?_;simp only [zl1];refine zt 10 _ rfl ?_;simp only [zl1];refine zt 11 _ rfl ?_;simp only [zl1];refine zt 12 _ rfl ?_;simp only [zl1];refine zt 14 _ rfl ?_;simp only [zl1]
 refine zt 15 _ rfl ?_;simp only [zl1];refine zt 16 _ rfl ?_;simp only [zl1];refine zt 17 _ rfl ?_;simp only [zl1]
 have hco:=HIN.out.check (L:=L) (by have:=HLL.out;omega) (by have:=HLL.out;omega) HLL.out.2.2.2 HNM.out
 rw [HPV.out]at hco
 have HK2:=zh hco
 clear hco
 refine zr 13 rfl fun K hK=>?_
 go_simp
 refine(HK2.out).mono ?_
 rintro e w8 ⟨rfl,hbx⟩
 replace HB:=zh (HB.out.below hbx)
 replace HIN:=zh (HIN.out.on hbx)
 replace HNM:=zh (z03 HNM.out hbx)
 replace HMR:=zh (z4v HMR.out hbx)
 replace HS1:=zh (HS1.out.on hbx)
 replace HS2:=zh (HS2.out.on hbx)
 clear hS0
 have hS0:=(⟨HB.out.c0,HB.out.c1⟩:HeldX _ _ _ _)
 refine hK.out _ _ hS0 (fun _=>?_)
 clear hK K hbx
 (try simp only [zl1])
 have hco:=HIN.out.rcheck (L:=L) HLL.out.1 HLL.out.2.1 HNM.out
 rw [HPV.out]at hco
 have HK3:=zh hco
 clear hco
 refine zr 18 rfl fun K hK=>?_
 go_simp
 refine(HK3.out).mono ?_
 rintro e w9 ⟨rfl,hbx⟩
 replace HB:=zh (HB.out.below hbx)
 replace HIN:=zh (HIN.out.on hbx)
 replace HNM:=zh (z03 HNM.out hbx)
 replace HMR:=zh (z4v HMR.out hbx)
 replace HS1:=zh (HS1.out.on hbx)
 replace HS2:=zh (HS2.out.on hbx)
 clear hS0
 have hS0:=(⟨HB.out.c0,HB.out.c1⟩:HeldX _ _ _ _)
 refine hK.out _ _ hS0 (fun _=>?_)
 clear hK K hbx
 (try simp only [zl1])
 refine zt 19 _ rfl ?_;simp only [zl1];refine zt 20 _ rfl ?_;simp only [zl1];refine zt 21 _ rfl ?_;simp only [zl1]
 refine wpAnyH_done (by kernel_rfl) ?_ _
 refine NoPanic.normal ?_
 clear hS0
 go_wp2_with fail
 go_ret
 exact⟨rfl,HB.out.bel⟩
end Go.Proofs.YtapbhoodgnmnkaaGreatDoor
