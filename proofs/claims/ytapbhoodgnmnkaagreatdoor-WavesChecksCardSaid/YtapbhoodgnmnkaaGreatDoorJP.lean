/- Laws and contracts. -/
import Derived.Test.YtapbhoodgnmnkaaGreatDoorJO
set_option linter.unusedVariables false
set_option linter.unusedSimpArgs false
set_option maxRecDepth 100000
set_option maxHeartbeats 32000000
namespace Go.Proofs.YtapbhoodgnmnkaaGreatDoor
open Go.Proofs.Tryz Go Go.RowKit Go.Maps
def HeldU (g m1 m2:Nat)(W:World):Prop:=W.cell? ⟨g,0,none⟩=some (.map (some m1))∧W.cell? ⟨g,1,none⟩=some (.map (some m2))
theorem zia (X:List RelL)(f t:List SelL)(hGf:GoodS X f)(hGt:GoodS X t)(L:List ByteArray)(g:Nat)(w:World)(a b:ByteArray)(ha:a.size≤maxLen)(hb:b.size≤maxLen)(hU:UpV X f t L g w) :
  Calls prog 56 #[.pointer (some ⟨g,0,none⟩),.string a,.string b] w fun e w'=>e=.returned (.bool (needB X f t a b))∧Below w.heap.size w w':=by
 obtain⟨m1,m2,fv,tv,pv,B,hbx,hs1,hs2,_⟩:=hU
 have hgl:g<w.heap.size:=(zb hbx)
 have HC1:=zh (fun W (hw:Below w.heap.size w W)=>zau X t f hGt hGf a b ha m2 m1 W (hs2.below hw) (hs1.below hw))
 have HC2:=zh (fun W (hw:Below w.heap.size w W)=>zau X f t hGf hGt b a hb m1 m2 W (hs1.below hw) (hs2.below hw))
 have HSB:Hid (∀ W,Below w.heap.size w W→HeldU g m1 m2 W):=zh (fun W hw=>⟨(hw.cell (p:=⟨g,0,none⟩) hgl).trans (zw _ _ 0 _ _ _ hbx),(hw.cell (p:=⟨g,1,none⟩) hgl).trans (zw _ _ 1 _ _ _ hbx)⟩)
 have HBD:Hid (Below w.heap.size w w.drew):=zh (Below.refl _ _).drew
 have HNB:Hid (needB X f t a b=(decide (a≠b)&&(clashB X t a f b||clashB X f b t a))):=zh rfl
 generalize clashB X t a f b=x1 at *
 generalize clashB X f b t a=x2 at *
 obtain⟨eb,heb⟩:∃ eb,(a.toList == b.toList)=eb:=⟨_,rfl⟩
 have HDE:Hid (decide (a≠b)=!eb):=zh (by
  have h:=z0q a b
  rw [heb]at h
  rw [h]
  by_cases e:a=b<;>simp [e])
 have heb2:(a.toList != b.toList)=!eb:=by unfold bne;rw [heb]
 clear hbx hs1 hs2 hGf hGt
 go_enter func56,ntmps56
 cases eb with
 | true =>
  have HR:Hid (needB X f t a b=false):=zh (by rw [HNB.out,HDE.out];rfl)
  simp only [Bool.not_true]at heb2
  clear HC1 HC2 HNB HDE
  go_upto_region 2 with fail
  refine wp_region_noPanic ?_
  refine wp_region_held_drew (S:=HeldU g m1 m2) (by kernel_rfl) (HSB.out _ HBD.out) (fun hS0=>?_)
  refine zt 0 _ rfl ?_;simp only [zl1];refine zt 1 _ rfl ?_;simp only [zl1];refine zt 2 _ rfl ?_;simp only [zl1];refine zt 3 _ rfl ?_;simp only [zl1];refine zu 4 rfl ?_;simp only [zl1];refine zu 5 rfl ?_;simp only [zl1];refine zu 6 rfl ?_;simp only [zl1];refine zu 7 rfl ?_;simp only [zl1];refine zu 8 rfl ?_;simp only [zl1];refine zu 9 rfl ?_;simp only [zl1];refine zu 10 rfl ?_;simp only [zl1]
  refine zu 11 rfl ?_;simp only [zl1];refine zu 12 rfl ?_;simp only [zl1];refine zu 13 rfl ?_;simp only [zl1];refine zu 14 rfl ?_;simp only [zl1];refine zu 15 rfl ?_;simp only [zl1];refine zu 16 rfl ?_;simp only [zl1];refine zu 17 rfl ?_;simp only [zl1];refine zu 18 rfl ?_;simp only [zl1];refine zu 19 rfl ?_;simp only [zl1];refine zu 20 rfl ?_;simp only [zl1];refine zu 21 rfl ?_;simp only [zl1]
  refine zu 22 rfl ?_;simp only [zl1];refine zu 23 rfl ?_;simp only [zl1];refine zu 24 rfl ?_;simp only [zl1];refine zu 25 rfl ?_;simp only [zl1];refine zu 26 rfl ?_;simp only [zl1];refine zu 27 rfl ?_;simp only [zl1];refine zu 28 rfl ?_;simp only [zl1];refine zu 29 rfl ?_;simp only [zl1];refine zt 30 _ rfl ?_;simp only [zl1];refine zt 31 _ rfl ?_;simp only [zl1]
  refine wpAnyH_done (by kernel_rfl) ?_ _
  refine NoPanic.normal ?_
  go_wp2_with fail
  go_ret
  exact⟨by rw [HR.out];rfl,HBD.out⟩
 | false =>
  simp only [Bool.not_false]at heb2
  cases x1 with
  | true =>
   have HR:Hid (needB X f t a b=true):=zh (by rw [HNB.out,HDE.out];rfl)
   clear HC2 HNB HDE
   go_upto_region 2 with fail
   refine wp_region_noPanic ?_
   refine wp_region_held_drew (S:=HeldU g m1 m2) (by kernel_rfl) (HSB.out _ HBD.out) (fun hS0=>?_)
   refine zt 0 _ rfl ?_;simp only [zl1];refine zt 1 _ rfl ?_;simp only [zl1];refine zt 2 _ rfl ?_;simp only [zl1];refine zt 3 _ rfl ?_;simp only [zl1];refine zt 4 _ rfl ?_;simp only [zl1];refine zt 5 _ rfl ?_;simp only [zl1];refine zt 6 _ rfl ?_;simp only [zl1];refine zt 7 _ rfl ?_;simp only [zl1];refine zt 8 _ rfl ?_;simp only [zl1];refine zt 9 _ rfl ?_;simp only [zl1];refine zt 10 _ rfl ?_;simp only [zl1]
   refine zt 11 _ rfl ?_;simp only [zl1];refine zt 12 _ rfl ?_;simp only [zl1];refine zt 13 _ rfl ?_;simp only [zl1];refine zt 14 _ rfl ?_;simp only [zl1]
   refine zr 15 rfl fun K hK=>?_
   go_simp
   refine(HC1.out _ HBD.out).mono ?_
   rintro e w1 ⟨rfl,hb1⟩
   have HB1:=zj HBD hb1
   clear hS0
   have hS0:=HSB.out _ HB1.out
   refine hK.out _ _ hS0 (fun _=>?_)
   clear hK K hb1
   (try simp only [zl1])
   refine zt 16 _ rfl ?_;simp only [zl1];refine zu 17 rfl ?_;simp only [zl1];refine zu 18 rfl ?_;simp only [zl1];refine zu 19 rfl ?_;simp only [zl1];refine zu 20 rfl ?_;simp only [zl1];refine zu 21 rfl ?_;simp only [zl1];refine zu 22 rfl ?_;simp only [zl1];refine zu 23 rfl ?_;simp only [zl1];refine zu 24 rfl ?_;simp only [zl1];refine zu 25 rfl ?_;simp only [zl1];refine zu 26 rfl ?_;simp only [zl1]
   refine zu 27 rfl ?_;simp only [zl1];refine zu 28 rfl ?_;simp only [zl1];refine zt 29 _ rfl ?_;simp only [zl1];refine zt 30 _ rfl ?_;simp only [zl1];refine zt 31 _ rfl ?_;simp only [zl1]
   refine wpAnyH_done (by kernel_rfl) ?_ _
   refine NoPanic.normal ?_
   go_wp2_with fail
   go_ret
   exact⟨by rw [HR.out];rfl,HB1.out⟩
  | false =>
   have HR:Hid (needB X f t a b=x2):=zh (by rw [HNB.out,HDE.out];simp)
   clear HNB HDE
   go_upto_region 2 with fail
   refine wp_region_noPanic ?_
   refine wp_region_held_drew (S:=HeldU g m1 m2) (by kernel_rfl) (HSB.out _ HBD.out) (fun hS0=>?_)
   refine zt 0 _ rfl ?_;simp only [zl1];refine zt 1 _ rfl ?_;simp only [zl1];refine zt 2 _ rfl ?_;simp only [zl1];refine zt 3 _ rfl ?_;simp only [zl1];refine zt 4 _ rfl ?_;simp only [zl1];refine zt 5 _ rfl ?_;simp only [zl1];refine zt 6 _ rfl ?_;simp only [zl1];refine zt 7 _ rfl ?_;simp only [zl1];refine zt 8 _ rfl ?_;simp only [zl1];refine zt 9 _ rfl ?_;simp only [zl1];refine zt 10 _ rfl ?_;simp only [zl1]
   refine zt 11 _ rfl ?_;simp only [zl1];refine zt 12 _ rfl ?_;simp only [zl1];refine zt 13 _ rfl ?_;simp only [zl1];refine zt 14 _ rfl ?_;simp only [zl1]
   refine zr 15 rfl fun K hK=>?_
   go_simp
   refine(HC1.out _ HBD.out).mono ?_
   rintro e w1 ⟨rfl,hb1⟩
   have HB1:=zj HBD hb1
   clear hS0
   have hS0:=HSB.out _ HB1.out
   refine hK.out _ _ hS0 (fun _=>?_)
   clear hK K hb1
   (try simp only [zl1])
   refine zt 16 _ rfl ?_;simp only [zl1];refine zt 17 _ rfl ?_;simp only [zl1];refine zt 18 _ rfl ?_;simp only [zl1];refine zt 19 _ rfl ?_;simp only [zl1];refine zt 20 _ rfl ?_;simp only [zl1];refine zt 21 _ rfl ?_;simp only [zl1];refine zt 22 _ rfl ?_;simp only [zl1];refine zt 23 _ rfl ?_;simp only [zl1];refine zt 24 _ rfl ?_;simp only [zl1];refine zt 25 _ rfl ?_;simp only [zl1]
   refine zt 26 _ rfl ?_;simp only [zl1];refine zt 27 _ rfl ?_;simp only [zl1]
   refine zr 28 rfl fun K hK=>?_
   go_simp
   refine(HC2.out _ HB1.out).mono ?_
   rintro e w2 ⟨rfl,hb2⟩
   have HB2:=zj HB1 hb2
   clear hS0
   have hS0:=HSB.out _ HB2.out
   refine hK.out _ _ hS0 (fun _=>?_)
   clear hK K hb2
   (try simp only [zl1])
   refine zt 29 _ rfl ?_;simp only [zl1];refine zt 30 _ rfl ?_;simp only [zl1];refine zt 31 _ rfl ?_;simp only [zl1]
   refine wpAnyH_done (by kernel_rfl) ?_ _
   refine NoPanic.normal ?_
   go_wp2_with fail
   go_ret
   exact⟨by rw [HR.out];rfl,HB2.out⟩
def nodeL (X:List RelL)(f t:List SelL)(L:List ByteArray)(i k:Nat):List (Int×Int):=(List.range k).filterMap fun k=>if needB X f t (L.getD i default) (L.getD k default)=true then some ((i:Int),(k:Int)) else none
def edgeL (X:List RelL)(f t:List SelL)(L:List ByteArray)(i:Nat):List (Int×Int):=(List.range i).flatMap fun i=>nodeL X f t L i L.length
theorem z99 (X:List RelL)(f t:List SelL):edgeL X f t (movesP f t) (movesP f t).length=wavE X f t:=rfl
theorem z8p (X:List RelL)(f t:List SelL)(L:List ByteArray)(i k:Nat):nodeL X f t L i (k+1)=nodeL X f t L i k++(if needB X f t (L.getD i default) (L.getD k default)=true then [((i:Int),(k:Int))] else []):=by
 unfold nodeL
 rw [List.range_succ,List.filterMap_append]
 congr 1
 by_cases h:needB X f t (L.getD i default) (L.getD k default)=true
 ·rw [if_pos h];simp only [List.filterMap_cons,List.filterMap_nil];rw [if_pos h]
 ·rw [if_neg h];simp only [List.filterMap_cons,List.filterMap_nil];rw [if_neg h]
theorem z5b (X:List RelL)(f t:List SelL)(L:List ByteArray)(i:Nat):edgeL X f t L (i+1)=edgeL X f t L i++nodeL X f t L i L.length:=by
 unfold edgeL
 rw [List.range_succ,List.flatMap_append]
 simp
theorem z7d (X:List RelL)(f t:List SelL)(L:List ByteArray)(i k:Nat):(nodeL X f t L i k).length≤k:=by
 unfold nodeL
 have h:=List.length_filterMap_le (fun k:Nat=>if needB X f t (L.getD i default) (L.getD k default)=true then some ((i:Int),(k:Int)) else none) (List.range k)
 rwa [List.length_range]at h
theorem z6u (X:List RelL)(f t:List SelL)(L:List ByteArray):∀ i,(edgeL X f t L i).length≤i*L.length
 | 0=>by simp [edgeL]
 | i+1=>by
  rw [z5b,List.length_append,Nat.succ_mul]
  have:=z6u X f t L i
  have:=z7d X f t L i L.length
  omega
theorem sq_le {i n k:Nat}(hi:i<n)(hk:k≤n)(hn:n≤1000000):i*n+k≤1000000000000:=by
 have h1:i*n+n≤n*n:=by rw [← Nat.succ_mul];exact Nat.mul_le_mul_right n hi
 have h2:n*n≤1000000*1000000:=Nat.mul_le_mul hn hn
 omega
structure GrJ (w1:World)(g:Nat)(nv:Value)(es:List (Int×Int))(ev:Value)(W:World):Prop where
 bel:Below w1.heap.size w1 W
 lo:w1.heap.size≤g
 out:W.heap[g]? = some (.cells #[nv,ev] 32 (0,0))
 edges:W.ownsRow (g+1) 43 2 ev es.length (edgeCells es)
section
variable {w1:World} {g:Nat} {es:List (Int×Int)} {nv ev:Value} {W W':World}
theorem GrJ.lt (h:GrJ w1 g nv es ev W):g<W.heap.size:=(zb h.out)
theorem GrJ.below (h:GrJ w1 g nv es ev W)(hb:Below W.heap.size W W'):GrJ w1 g nv es ev W' :=
 ⟨h.bel.trans (hb.mono h.bel.size),h.lo,(hb.block g h.lt).trans h.out,z07 h.edges hb⟩
theorem GrJ.start (w1:World)(nv:Value):GrJ w1 w1.heap.size nv [] (.slice none 0 0) (w1.alloc (.cells #[nv,.slice none 0 0] 32)) :=
 ⟨belQ _ _,zq _,zn w1 _,World.ownsRow_nil _ _ _ _⟩
theorem GrJ.keep {W6:World}(h:GrJ w1 g nv es ev W)(hg:W.grownBy W6 ev.ownBlock):W6.heap[g]? = some (.cells #[nv,ev] 32 (0,0)) :=
 (hg.block g h.lt (fun e=>by have:=(z0g h.edges _ e.symm).1;omega)).trans h.out
theorem GrJ.edge {W6:World}{ev':Value}{x:Int×Int}(h:GrJ w1 g nv es ev W)(hown:W6.ownsRow (g+1) 43 2 ev' (es.length+1) (edgeCells es++[intC x.1,intC x.2]))(hg:W.grownBy W6 ev.ownBlock):GrJ w1 g nv (es++[x]) ev' (W6.setCell ⟨g,1,none⟩ ev'):=by
 have hk:=h.keep hg
 have hlt:=h.lt
 obtain⟨h1,h2,h3,h5⟩:=h
 have lo:∀ b,some b=ev.ownBlock→g<b:=fun b hb=>(z0g h5 b hb.symm).1
 have g2:=z0e W6 g 1 ev'
 refine⟨(h1.grown hg h1.size (fun b hb=>by have:=lo b hb.symm;omega)).setCell h2 _,h2,heap_setCell_same _ _ 1 _ _ ev' hk,?_⟩
 rw [List.length_append,List.length_singleton,z45]
 exact z1q hown g2 (by omega)
end
theorem zm9 {W:World}{b T:Nat}(hz:W.heap[b]? = some (.cells #[.slice none 0 0,.slice none 0 0] T (0,0))){j:Nat}{v:Value}(h:W.cell? ⟨b,j,none⟩=some v):v=.slice none 0 0:=by
 unfold World.cell? at h
 simp [hz]at h
 rcases j with _ | _ | j
 ·simpa using h.symm
 ·simpa using h.symm
 ·simp at h
theorem z6r {W:World}{b T:Nat}{u0 u1 v:Value}(hz:W.heap[b]? = some (.cells #[.slice none 0 0,.slice none 0 0] T (0,0))){k j:Nat}(hv:v≠.slice none 0 0)(h:W.cell? ⟨k,j,none⟩=some v):((W.setCell ⟨b,0,none⟩ u0).setCell ⟨b,1,none⟩ u1).cell? ⟨k,j,none⟩=some v:=by
 have hlt:=World.block_lt_of_cell? _ _ h
 simp only at hlt
 have hne:some k≠some b:=fun e=>by injection e with e;subst e;exact hv (zm9 hz h)
 have g1:=z0e W b 0 u0
 have g2:=z0e (W.setCell ⟨b,0,none⟩ u0) b 1 u1
 exact(World.cell?_of_block ((g2.block k (Nat.lt_of_lt_of_le hlt g1.size) hne).trans (g1.block k hlt hne))).trans h
theorem za9 {W:World}{B b T:Nat}{u0 u1 v:Value}{l:List ByteArray}(h:RowOf Value.string B v l W)(hz:W.heap[b]? = some (.cells #[.slice none 0 0,.slice none 0 0] T (0,0))):RowOf Value.string B v l ((W.setCell ⟨b,0,none⟩ u0).setCell ⟨b,1,none⟩ u1):=by
 rcases h with h | ⟨k,off,cap,rfl,hb,h⟩
 ·exact .inl h
 ·exact .inr ⟨k,off,cap,rfl,hb,fun i x hx=>z6r hz (by simp) (h i x hx)⟩
theorem z5c {W:World}{B b T:Nat}{u0 u1 v:Value}{l:List (Int×Int)}(h:EdgesOf B v l W)(hz:W.heap[b]? = some (.cells #[.slice none 0 0,.slice none 0 0] T (0,0))):EdgesOf B v l ((W.setCell ⟨b,0,none⟩ u0).setCell ⟨b,1,none⟩ u1):=by
 obtain⟨ao,cap,rfl,h⟩:=h
 refine⟨ao,cap,rfl,fun i x hx=>?_⟩
 obtain⟨k,off,e,hk,h1,h2⟩:=h i x hx
 exact⟨k,off,e,hk,z6r hz (by simp [intC]) h1,z6r hz (by simp [intC]) h2⟩
theorem zhr (X:List RelL)(f t:List SelL)(hGf:GoodS X f)(hGt:GoodS X t)(L:List ByteArray)(hLn:L.length≤1000000)(hLp:∀ p∈L,p.size≤maxLen)(gu:Nat)(w:World)(hU:UpV X f t L gu w) :
  Calls prog 27 #[.pointer (some ⟨gu,0,none⟩)] w fun e w'=>∃ nv ev,e=.returned (.agg #[nv,ev])∧RowOf Value.string w'.heap.size nv L w'∧EdgesOf w'.heap.size ev (edgeL X f t L L.length) w'∧Below w.heap.size w w':=by
 have HND:=zh (fun W a b (ha:a∈L) (hb:b∈L) (hw:Below w.heap.size w W)=>zia X f t hGf hGt L gu W a b (hLp a ha) (hLp b hb) (hU.below hw))
 obtain⟨m1,m2,fv,tv,pv,B,hbx,_,_,hrow,_,_⟩:=hU
 obtain⟨pa,pc,rfl⟩:=z05 hrow
 have hgl:gu<w.heap.size:=(zb hbx)
 have HUP:Hid (∀ W,Below w.heap.size w W→W.cell? ⟨gu,4,none⟩=some (.slice pa L.length pc)):=zh (fun W hw=>(hw.cell (p:=⟨gu,4,none⟩) hgl).trans (zw _ _ 4 _ _ _ hbx))
 have HPA:Hid (∀ W k p,Below w.heap.size w W→L[k]? = some p→∃ gp,pa=some ⟨gp,0,none⟩∧W.cell? ⟨gp,k,none⟩=some (.string p)):=zh (fun W k p hw hk=>by
  obtain⟨gp,h1,h2,h3⟩:=z7f hrow hk
  exact⟨gp,h1,(hw.cell (p:=⟨gp,k,none⟩) h2).trans h3⟩)
 have hq0:=belQ w (.cells #[.slice none 0 0,.slice none 0 0] 32)
 have HCL:=zh (zfq _ L (w.alloc (.cells #[.slice none 0 0,.slice none 0 0] 32)) hLn (z29 (z07 hrow hq0)).2)
 have HZ:=zh (zn w (.cells #[.slice none 0 0,.slice none 0 0] 32))
 have HB0:=zh hq0
 clear hq0 hrow hbx hLp
 go_enter func27,ntmps27
 go_upto_region 1 with fail
 generalize w.alloc (.cells #[.slice none 0 0,.slice none 0 0] 32)=w1 at *
 have u1:=HUP.out w1 HB0.out
 go_wp2_with fail
 refine HCL.out.mono ?_
 rintro e w2 ⟨na,nc,rfl,hrn,hb2⟩
 have HRN:=zh hrn
 have HB2:=zj HB0 hb2
 have hgz:w.heap.size<w1.heap.size:=(zb HZ.out)
 have HZ2:=zh ((hb2.block _ hgz).trans HZ.out)
 have HGZ2:=zh (Nat.lt_of_lt_of_le hgz hb2.size)
 have HJ0:=zh (GrJ.start w2 (.slice na L.length nc))
 have HBJ:=zh (HB2.out.trans ((belQ w2 (.cells #[.slice na L.length nc,.slice none 0 0] 32)).mono HB2.out.size))
 clear hrn hb2 hgz u1 HCL HB0
 go_upto_region 2 with fail
 generalize w2.alloc (.cells #[.slice na L.length nc,.slice none 0 0] 32)=w3 at *
 have u3:=HUP.out w3 HBJ.out
 obtain⟨g,hg⟩:∃ g,w2.heap.size=g:=⟨_,rfl⟩
 have HGE:=zh hg
 have HJ1:Hid (GrJ w2 g (.slice na L.length nc) [] (.slice none 0 0) w3):=zh (by rw [← hg];exact HJ0.out)
 simp only [hg]
 clear hg HJ0
 obtain⟨j0,hj0,hy0,hy1,hy2⟩:=info_parts z8h
 go_wp2_with fail
 go_loopw [19] (fun p wr=>Hid (∃ (i:Nat) (ev:Value),i≤L.length∧p=.int .i64 (i:Int)∧GrJ w2 g (.slice na L.length nc) (edgeL X f t L i) ev wr)) (fun p _=>L.length - (intOf p).toNat)
 case atStart=>exact zh ⟨0,_,Nat.zero_le _,rfl,HJ1.out⟩
 case round =>
  obtain⟨i,ev,hi,rfl,hj⟩:=hrel.out
  have HJ:=zh hj
  clear hrel hj u3 HJ1 HBJ
  have HBW:=zh (HB2.out.trans (HJ.out.bel.mono HB2.out.size))
  by_cases hlt:i<L.length
  case neg =>
   have hii:i=L.length:=Nat.le_antisymm hi (Nat.le_of_not_lt hlt)
   clear hi
   subst hii
   have HRE:Hid (RowOf Value.string wr.heap.size (.slice na L.length nc) L wr∧EdgesOf wr.heap.size ev (edgeL X f t L L.length) wr):=zh ⟨(HRN.out.below HJ.out.bel (zq _)).mono HJ.out.bel.size,zbw HJ.out.edges⟩
   have o0:wr.cell? ⟨g,0,none⟩=some (.slice na L.length nc):=zw _ _ 0 _ _ _ HJ.out.out
   have o1:wr.cell? ⟨g,1,none⟩=some ev:=zw _ _ 1 _ _ _ HJ.out.out
   have hz:=(HJ.out.bel.block w.heap.size HGZ2.out).trans HZ2.out
   have z0:wr.cell? ⟨w.heap.size,0,none⟩=some (.slice none 0 0):=zw _ _ 0 _ _ _ hz
   have z1:wr.cell? ⟨w.heap.size,1,none⟩=some (.slice none 0 0):=zw _ _ 1 _ _ _ hz
   have y0:=frozen_of_row _ _ 0 _ _ hz
   have y1:=frozen_of_row _ _ 1 _ _ hz
   have HSET:=zh (z7n (x':=.slice na L.length nc) (y':=ev) hz)
   obtain⟨ea,ec,rfl⟩:∃ a c,ev=.slice a (edgeL X f t L L.length).length c:=z05 HJ.out.edges
   have HB9:Hid (Below w.heap.size w ((wr.setCell ⟨w.heap.size,0,none⟩ (.slice na L.length nc)).setCell ⟨w.heap.size,1,none⟩ (.slice ea (edgeL X f t L L.length).length ec))):=zh ((HBW.out.setCell (p:=⟨w.heap.size,0,none⟩) (zq _) _).setCell (p:=⟨w.heap.size,1,none⟩) (zq _) _)
   have HR9:=zh (za9 (u0:=.slice na L.length nc) (u1:=.slice ea (edgeL X f t L L.length).length ec) HRE.out.1 hz)
   have HE9:=zh (z5c (u0:=.slice na L.length nc) (u1:=.slice ea (edgeL X f t L L.length).length ec) HRE.out.2 hz)
   have hs9:((wr.setCell ⟨w.heap.size,0,none⟩ (.slice na L.length nc)).setCell ⟨w.heap.size,1,none⟩ (.slice ea (edgeL X f t L L.length).length ec)).heap.size=wr.heap.size:=by rw [World.size_setCell,World.size_setCell]
   clear hz HJ
   generalize hee:edgeL X f t L L.length=E at *
   have HEE:=zh hee
   clear hee
   go_wp2_with fail
   refine bodyPost_ret (results_cell_row rfl _ _ w.heap.size _ _ _ _ rfl HSET.out underlying32 rfl (by kernel_rfl)) rfl ?_
   exact⟨_,_,rfl,by rw [hs9];exact HR9.out,by rw [hs9,HEE.out];exact HE9.out,HB9.out⟩
  case pos =>
   have hi0:(0:Int)≤(i:Int):=Int.natCast_nonneg i
   have hiz:(i:Int)<(L.length:Int):=Int.ofNat_lt.2 hlt
   obtain⟨gp,rfl,d0⟩:=HPA.out wr i _ HBW.out (ze hlt)
   have u4:=HUP.out wr HBW.out
   have HGI:Hid (L.getD i default=L[i]):=zh (by rw [zg,ze hlt];rfl)
   have HAM:Hid (L[i]∈L):=zh (List.getElem_mem hlt)
   generalize L[i]=a at *
   go_upto_region 6 with fail
   clear d0 u4
   go_wp2_with fail
   go_loopw [29] (fun p wr=>Hid (∃ (k:Nat) (ev:Value),k≤L.length∧p=.int .i64 (k:Int)∧GrJ w2 g (.slice na L.length nc) (edgeL X f t L i++nodeL X f t L i k) ev wr)) (fun p _=>L.length - (intOf p).toNat)
   case atStart=>exact zh ⟨0,ev,Nat.zero_le _,rfl,by simpa [nodeL]using HJ.out⟩
   case round =>
    clear HJ HBW
    obtain⟨k,ev2,hk,rfl,hj⟩:=hrel.out
    have HJ:=zh hj
    clear hrel hj
    have HBW:=zh (HB2.out.trans (HJ.out.bel.mono HB2.out.size))
    by_cases hlt2:k<L.length
    case neg =>
     have hkk:k=L.length:=Nat.le_antisymm hk (Nat.le_of_not_lt hlt2)
     clear hk
     subst hkk
     have HJE:Hid (GrJ w2 g (.slice na L.length nc) (edgeL X f t L (i+1)) ev2 wr):=zh (by rw [z5b];exact HJ.out)
     clear HJ
     go_wp2_with fail
     all_goals
      refine⟨zh ⟨i+1,_,hlt,by go_num,HJE.out⟩,?_⟩
      simp [intOf];omega
    case pos =>
     have hk0:(0:Int)≤(k:Int):=Int.natCast_nonneg k
     have hkz:(k:Int)<(L.length:Int):=Int.ofNat_lt.2 hlt2
     obtain⟨gq,e1,d0⟩:=HPA.out wr k _ HBW.out (ze hlt2)
     cases e1
     have HGK:Hid (L.getD k default=L[k]):=zh (by rw [zg,ze hlt2];rfl)
     have HBM:Hid (L[k]∈L):=zh (List.getElem_mem hlt2)
     generalize L[k]=b at *
     have HSU:Hid (nodeL X f t L i (k+1)=nodeL X f t L i k++(if needB X f t a b=true then [((i:Int),(k:Int))] else [])):=zh (by rw [z8p,HGI.out,HGK.out])
     have HNE:=zh (HND.out wr a b HAM.out HBM.out HBW.out)
     generalize needB X f t a b=nb at *
     go_wp2_with fail
     refine HNE.out.mono ?_
     rintro e w8 ⟨rfl,hb8⟩
     have hj8:=HJ.out.below hb8
     have hesl:(edgeL X f t L i++nodeL X f t L i k).length≤1000000000000:=by
      rw [List.length_append]
      exact Nat.le_trans (Nat.add_le_add (z6u X f t L i) (z7d X f t L i k)) (sq_le hlt hk hLn)
     have HAS:Hid (edgeL X f t L i++nodeL X f t L i (k+1)=edgeL X f t L i++nodeL X f t L i k++(if nb=true then [((i:Int),(k:Int))] else [])):=zh (by rw [HSU.out,List.append_assoc])
     obtain⟨el,hel⟩:∃ el,edgeL X f t L i++nodeL X f t L i k=el:=⟨_,rfl⟩
     rw [hel]at hj8 hesl HAS
     have HJ8:=zh hj8
     clear hb8 hj8 hel HSU HNE HJ d0 HBM HGK
     cases nb with
     | false =>
      have HJE:Hid (GrJ w2 g (.slice na L.length nc) (edgeL X f t L i++nodeL X f t L i (k+1)) ev2 w8):=zh (by rw [HAS.out];simpa using HJ8.out)
      clear HJ8
      go_wp2_with fail
      all_goals
       refine⟨zh ⟨k+1,_,hlt2,by go_num,HJE.out⟩,?_⟩
       simp [intOf];omega
     | true =>
      have o1:w8.cell? ⟨g,1,none⟩=some ev2:=zw _ _ 1 _ _ _ HJ8.out.out
      have HJ9:=zh (HJ8.out.below (belQ w8 (.cells #[intC (i:Int),intC (k:Int)] 43)))
      have HN9:=zh (zn w8 (.cells #[intC (i:Int),intC (k:Int)] 43))
      have hz9:g+1≤(w8.alloc (.cells #[intC (i:Int),intC (k:Int)] 43)).heap.size:=by have:=HJ9.out.lt;omega
      go_wp2_with (at_builtin;refine wpList_append_own _ rfl _ _ 30 rfl (g+1) 43 j0 _ 2 16 underlying30 hj0 hy0 hy1 hy2 rfl (by decide) ev2 _ _ (by rfl) HJ9.out.edges ⟨w8.heap.size,0,none⟩ 1 1 [intC (i:Int),intC (k:Int)] (by rfl) (by rfl) (World.news_of_block HN9.out) (by simp [Value.oneCell']) (by unfold maxLen;omega) (by omega) hz9 ?_;intro v' wA hown' hgrow _;have HOW2:=zh hown';have HGR2:=zh hgrow;have hkp:=HJ9.out.keep hgrow;have hc6:wA.cell? ⟨g,1,none⟩=some ev2:=zw _ _ 1 _ _ _ hkp;have hf6:=frozen_of_row _ _ 1 _ _ hkp;clear hown' hgrow hkp;obtain⟨g3,gc3,rfl⟩:=ownsRow_succ HOW2.out)
      all_goals
       have HJB:=zh (HJ9.out.edge (x:=((i:Int),(k:Int))) HOW2.out HGR2.out)
       refine⟨zh ⟨k+1,_,hlt2,by go_num,by rw [HAS.out];exact HJB.out⟩,?_⟩
       simp [intOf];omega
theorem z04 {X:List RelL}{f t:List SelL}(h:errW X f t=0):consV X f=0∧consV X t=0:=by
 have:=z6v.1 h
 exact⟨z0b.2 this.1,z0b.2 this.2⟩
theorem goodS {X:List RelL}{s:List SelL}(hq:∀ x∈X,RelBd x)(h:consV X s=0):GoodS X s:=⟨(z0f h).1,(z0f h).2.1,(z0f h).2.2,hq⟩
theorem zat {X:List RelL}(h:checkX X=0):X.length≤256:=by
 unfold checkX at h
 split at h
 ·cases h
 ·omega
theorem z66 {X:List RelL}{s:List SelL}(h:consV X s=0):s.length≤256:=by
 obtain⟨h1,h2,h3⟩:=z0f h
 have hn:s.Nodup:=by
  have:=z2z h2
  unfold List.Nodup at this ⊢
  rw [List.pairwise_map]at this
  exact this.imp fun {a b} hab e=>hab (by rw [e])
 have hs:∀ y∈s,y∈X.map keyL:=fun y hy=>by
  obtain⟨x,hx⟩:=Option.isSome_iff_exists.1 (h3 y hy)
  have hm:x∈X:=List.mem_of_find?_eq_some hx
  have hk:keyL x=y:=by have:=List.find?_some hx;simpa using this
  exact List.mem_map.2 ⟨x,hm,hk⟩
 have:=z1i hn hs
 rw [List.length_map]at this
 exact Nat.le_trans this (zat h1)
theorem zi8 {f t:List SelL}{p:ByteArray}(h:p∈movesP f t):(∃ y∈f,y.1=p)∨∃ y∈t,y.1=p:=by
 have h2:p∈allP f t:=(List.mem_filter.1 h).1
 rcases z68.1 h2 with h | h
 ·obtain⟨y,hy⟩:=Option.ne_none_iff_exists'.1 h
  exact .inl ⟨y,z02 hy⟩
 ·obtain⟨y,hy⟩:=Option.ne_none_iff_exists'.1 h
  exact .inr ⟨y,z02 hy⟩
noncomputable def graphV (X:List RelL)(f t:List SelL):(List ByteArray×List (Int×Int))×Int:=(if errW X f t=0 then(movesP f t,wavE X f t) else([],[]),errW X f t)
theorem z6g (v iv fv tv:Value)(X:List RelL)(f t:List SelL)(w:World)(hm:MaxOk w)(hX:X.length≤1000000)(hq:∀ x∈X,RelBd x)(hR:RelsOf w.heap.size v X w)
  (hf:f.length≤1000000) (hfy:∀ y∈f,SelBd y) (hF:SelsOf w.heap.size fv f w) (ht:t.length≤1000000) (hty:∀ y∈t,SelBd y) (hT:SelsOf w.heap.size tv t w) :
  Calls prog 7 #[.agg #[v,iv],fv,tv] w (GraphR w (graphV X f t)):=by
 have HU:=zh (fun W (hb:RowKit.Below w.heap.size w W)=>z2k v iv fv tv X f t W (hm.below hb hm.pos) hX hq (hR.on hb) hf hfy (hF.on hb) ht hty (hT.on hb))
 have HGA:=zh (fun W b (h0:errW X f t=0) (hU:UpV X f t (movesP f t) b W)=>zhr X f t (goodS hq (z04 h0).1) (goodS hq (z04 h0).2) (movesP f t) (by
  have h1:=z66 (z04 h0).1
  have h2:=z66 (z04 h0).2
  have h3:=z1s f t
  omega) (fun p hp=>by
  rcases zi8 hp with ⟨y,hy,e⟩ | ⟨y,hy,e⟩
  ·rw [← e];exact(hfy y hy).path
  ·rw [← e];exact(hty y hy).path) b W hU)
 have HG0:Hid (errW X f t=0→graphV X f t=((movesP f t,wavE X f t),0)):=zh (fun h=>by unfold graphV;rw [h,if_pos rfl])
 have HG1:Hid (errW X f t≠0→graphV X f t=(([],[]),errW X f t)):=zh (fun h=>by unfold graphV;rw [if_neg h])
 obtain⟨va,vn,vc,rfl⟩:∃ a n c,v=.slice a n c:=by obtain⟨a,c,_,e,_⟩:=hR.rv;exact⟨_,_,_,e⟩
 obtain⟨fa,fc,rfl⟩:=zo hF
 obtain⟨ta,tc,rfl⟩:=zo hT
 clear hm hq hR hF hT hfy hty
 have HB0:=zh (IdxBx.start w (.slice va vn vc) iv)
 have hq0:=belQ (w.alloc (.cells #[.slice va vn vc,iv] 25)) (.cells #[.slice none 0 0,.slice none 0 0] 32)
 have HB1:=zh (HB0.out.below hq0)
 have HZ1:=zh (zn (w.alloc (.cells #[.slice va vn vc,iv] 25)) (.cells #[.slice none 0 0,.slice none 0 0] 32))
 rw [World.size_alloc]at HZ1
 clear hq0
 unfold UpgR at HU
 obtain⟨E,hE⟩:∃ E,errW X f t=E:=⟨_,rfl⟩
 rw [hE]at HG0 HG1 HGA HU
 clear hE
 go_enter func7,ntmps7
 go_upto_region 1 with fail
 generalize (w.alloc (.cells #[.slice va vn vc,iv] 25)).alloc (.cells #[.slice none 0 0,.slice none 0 0] 32)=W at *
 have c0:=HB1.out.c0
 have c1:=HB1.out.c1
 go_wp2_with fail
 refine(HU.out _ HB1.out.bel).mono ?_
 rintro e w1 ⟨hb1,g,rfl,hg⟩
 have HZ2:=zk hb1 HZ1
 have HB2:=zh (HB1.out.below hb1)
 have HUP:=zh hg
 clear hb1 hg HU c0 c1 HB0 HB1 HZ1
 have r0:w1.cell? ⟨w.heap.size+1,0,none⟩=some (.slice none 0 0):=zw _ _ 0 _ _ _ HZ2.out
 have r1:w1.cell? ⟨w.heap.size+1,1,none⟩=some (.slice none 0 0):=zw _ _ 1 _ _ _ HZ2.out
 have q0:=frozen_of_row _ _ 0 _ _ HZ2.out
 have q1:=frozen_of_row _ _ 1 _ _ HZ2.out
 by_cases h0:E=0
 case neg =>
  have h0b:(E != 0)=true:=by simpa using h0
  have HBX:=zh (z7n (x':=.slice none 0 0) (y':=.slice none 0 0) HZ2.out)
  have HGR:Hid (GraphR w (graphV X f t) (.returned (.tuple #[.agg #[.slice none 0 0,.slice none 0 0],.int .i64 E])) ((w1.setCell ⟨w.heap.size+1,0,none⟩ (.slice none 0 0)).setCell ⟨w.heap.size+1,1,none⟩ (.slice none 0 0))):=zh (by
   rw [HG1.out h0]
   exact⟨_,_,rfl,.inl ⟨rfl,none,0,rfl⟩,⟨none,0,rfl,fun i x hx=>by cases hx⟩,(HB2.out.bel.setCell (p:=⟨w.heap.size+1,0,none⟩) (Nat.le_succ _) _).setCell (p:=⟨w.heap.size+1,1,none⟩) (Nat.le_succ _) _⟩)
  clear HG0 HG1 HGA HUP
  go_wp2_with fail
  refine bodyPost_ret (z0i rfl _ _ (w.heap.size+1) _ _ _ _ rfl HBX.out underlying32 rfl (by kernel_rfl)) rfl ?_
  exact HGR.out
 subst h0
 obtain⟨b,rfl,hup⟩:=HUP.out rfl
 have HGC:=zh (HGA.out w1 b rfl hup)
 clear hup HUP HG1 HGA r0 r1 q0 q1
 go_wp2_with fail
 refine HGC.out.mono ?_
 rintro e w2 ⟨nv,ev,rfl,hrn,hre,hb2⟩
 have hz:=(hb2.block _ (zb HZ2.out)).trans HZ2.out
 have HB3:=zh (HB2.out.below hb2)
 obtain⟨na,nc,rfl,_⟩:=z01 hrn
 obtain⟨ea,ec,rfl⟩:=zo hre
 have hwe:=z99 X f t
 rw [hwe]at hre
 simp only [hwe]
 have hs9:((w2.setCell ⟨w.heap.size+1,0,none⟩ (.slice na (movesP f t).length nc)).setCell ⟨w.heap.size+1,1,none⟩ (.slice ea (wavE X f t).length ec)).heap.size=w2.heap.size:=by rw [World.size_setCell,World.size_setCell]
 have HGR:Hid (GraphR w (graphV X f t) (.returned (.tuple #[.agg #[.slice na (movesP f t).length nc,.slice ea (wavE X f t).length ec],.int .i64 0])) ((w2.setCell ⟨w.heap.size+1,0,none⟩ (.slice na (movesP f t).length nc)).setCell ⟨w.heap.size+1,1,none⟩ (.slice ea (wavE X f t).length ec))):=zh (by
  rw [HG0.out trivial]
  exact⟨_,_,rfl,by rw [hs9];exact za9 hrn hz,by rw [hs9];exact z5c hre hz,(HB3.out.bel.setCell (p:=⟨w.heap.size+1,0,none⟩) (Nat.le_succ _) _).setCell (p:=⟨w.heap.size+1,1,none⟩) (Nat.le_succ _) _⟩)
 have r0:w2.cell? ⟨w.heap.size+1,0,none⟩=some (.slice none 0 0):=zw _ _ 0 _ _ _ hz
 have r1:w2.cell? ⟨w.heap.size+1,1,none⟩=some (.slice none 0 0):=zw _ _ 1 _ _ _ hz
 have q0:=frozen_of_row _ _ 0 _ _ hz
 have q1:=frozen_of_row _ _ 1 _ _ hz
 have HBX:=zh (z7n (x':=.slice na (movesP f t).length nc) (y':=.slice ea (wavE X f t).length ec) hz)
 clear hrn hre hb2 hz hs9 hwe HG0 HGC HZ2 HB2
 generalize wavE X f t=EL at *
 generalize movesP f t=ML at *
 go_wp2_with fail
 refine bodyPost_ret (z0i rfl _ _ (w.heap.size+1) _ _ _ _ rfl HBX.out underlying32 rfl (by kernel_rfl)) rfl ?_
 exact HGR.out
structure NamJ (B:Nat)(v:Value)(LL:List (List ByteArray))(xs:List Value)(W:World):Prop where
 own:W.ownsRow B 29 1 v LL.length xs
 row:∀ (i:Nat) (l:List ByteArray),LL[i]? = some l→∃ r,xs[i]? = some r∧W.ownsRow B 9 1 r l.length (strsC l)
section
variable {B:Nat} {v:Value} {LL:List (List ByteArray)} {xs:List Value} {W W':World}
theorem NamJ.below (h:NamJ B v LL xs W)(hb:Below W.heap.size W W'):NamJ B v LL xs W' :=
 ⟨z07 h.own hb,fun i l hl=>by obtain⟨r,h1,h2⟩:=h.row i l hl;exact⟨r,h1,z07 h2 hb⟩⟩
theorem NamJ.nil (B:Nat)(W:World):NamJ B (.slice none 0 0) [] [] W:=⟨World.ownsRow_nil _ _ _ _,fun i l hl=>by cases hl⟩
theorem NamJ.len (h:NamJ B v LL xs W):xs.length=LL.length:=by have:=h.own.1;omega
theorem NamJ.push {W6:World}{v' r:Value}{l:List ByteArray}(h:NamJ B v LL xs W)(hr:W.ownsRow B 9 1 r l.length (strsC l))(hown:W6.ownsRow B 29 1 v' (LL.length+1) (xs++[r]))(hg:W.grownBy W6 v.ownBlock):NamJ B v' (LL++[l]) (xs++[r]) W6:=by
 have hl:=h.len
 refine⟨by rw [List.length_append];exact hown,fun i l2 hl2=>?_⟩
 by_cases hi:i<LL.length
 ·rw [List.getElem?_append_left hi]at hl2
  obtain⟨r2,h1,h2⟩:=h.row i l2 hl2
  exact⟨r2,by rw [List.getElem?_append_left (by omega)];exact h1,h2.kept hg (z3k h2 h.own (by decide))⟩
 ·rw [List.getElem?_append_right (by omega)]at hl2
  have h0:=(zc hl2)
  simp only [List.length_singleton]at h0
  have hie:i=LL.length:=by omega
  subst hie
  simp only [Nat.sub_self,List.getElem?_cons_zero,Option.some.injEq]at hl2
  subst hl2
  exact⟨r,by rw [List.getElem?_append_right (by omega),hl];simp,hr.kept hg (z3k hr h.own (by decide))⟩
end
def NamesOf (B:Nat)(v:Value)(LL:List (List ByteArray))(W:World):Prop:=∃ ao cap,v=.slice ao LL.length cap∧∀ (i:Nat)(l:List ByteArray),LL[i]? = some l→∃ b off r,ao=some ⟨b,off,none⟩∧b<B∧W.cell? ⟨b,off+i,none⟩=some r∧RowOf Value.string B r l W
theorem NamJ.names {B:Nat}{v:Value}{LL:List (List ByteArray)}{xs:List Value}{W:World}(h:NamJ B v LL xs W):NamesOf W.heap.size v LL W:=by
 obtain⟨hl,h2⟩:=h.own
 have hn:NamesOf W.heap.size v LL W∨LL.length=0:=by
  rcases h2 with ⟨rfl,h0⟩ | ⟨g,cap,cur,rfl,h1,h2,h3,h4,h5,h6⟩
  ·exact .inr h0
  ·left
   refine⟨_,cap,rfl,fun i l hl2=>?_⟩
   obtain⟨r,e,ho⟩:=h.row i l hl2
   refine⟨g,0,r,rfl,(zb h2),?_,(z29 ho).2⟩
   have hi:=(zc e)
   rw [Nat.zero_add,zw _ _ _ _ _ _ h2,← e,← h6,List.getElem?_take,if_pos (by omega)]
   simp
 rcases hn with h | h0
 ·exact h
 ·have hv:=z05 h.own
  obtain⟨a,c,rfl⟩:=hv
  exact⟨a,c,rfl,fun i l hl2=>by have:=(zc hl2);omega⟩
def rowN (P:List ByteArray)(row:List Nat):List ByteArray:=row.map fun n=>P.getD n default
theorem zg4 {P:List ByteArray}{L:List (List Nat)}{k:Nat}(hk:k<L.length):nameL P (L.take (k+1))=nameL P (L.take k)++[rowN P L[k]]:=by
 unfold nameL
 rw [zs hk,List.map_append]
 rfl
theorem zio {P:List ByteArray}{L:List Nat}{k:Nat}(hk:k<L.length):rowN P (L.take (k+1))=rowN P (L.take k)++[P.getD L[k] default]:=by
 unfold rowN
 rw [zs hk,List.map_append]
 rfl
theorem zbb:(prog.info? 29).map (fun i=>(i.zero,i.size,i.bytes))=some (some (Value.slice none 0 0),1,24):=by kernel_rfl
theorem zke (a:Option Addr)(n c:Nat)(W:World):(Builtin.len_ #[73] 3 #[.slice a n c]).run prog W=.ok (.int .i64 (n:Int)) W:=by
 simp [Builtin.len_,run_underlying underlying73,goInt,Result.andThen]
def NamedR (w:World)(LL:List (List ByteArray))(E:Int)(e:Ending)(w':World):Prop:=∃ v,e=.returned (.tuple #[v,.int .i64 E])∧NamesOf w'.heap.size v LL w'∧Below w.heap.size w w'
theorem zbp (gf:Nat)(eg:∀ args w,(callFunc gf args).run prog w=.ok (.enter gf args) w)(v iv fv tv:Value)(X:List RelL)(f t:List SelL)(w:World)
  (hGR:∀ W,Below w.heap.size w W→Calls prog 7 #[.agg #[v,iv],fv,tv] W (GraphR W (graphV X f t)))
  (hv:∃ a n c,v=.slice a n c) (hfv:∃ a n c,fv=.slice a n c) (htv:∃ a n c,tv=.slice a n c) (P:List ByteArray) (hP:movesP f t=P) (S:List (List Nat)) (hS:errW X f t=0→∀ l∈S,∀ n∈l,n<P.length)
  (hSl:errW X f t=0→S.length≤1000000∧∀ l∈S,l.length≤1000000)
  (hC:errW X f t=0→∀ W nv ev,RowOf Value.string W.heap.size nv P W→EdgesOf W.heap.size ev (wavE X f t) W→Calls prog gf #[.agg #[nv,ev]] W fun e w'=>∃ v,e=.returned v∧RowsOf w'.heap.size v S w'∧Below W.heap.size W w') :
  Calls prog 31 #[.agg #[v,iv],fv,tv,.func (.func gf) #[] #[]] w (NamedR w (if errW X f t=0 then nameL P S else []) (errW X f t)):=by
 obtain⟨va,vn,vc,rfl⟩:=hv
 obtain⟨fa,fn,fc,rfl⟩:=hfv
 obtain⟨ta,tn,tc,rfl⟩:=htv
 have HGR:=zh hGR
 have HC:=zh hC
 have HS:=zh hS
 have HSL:=zh hSl
 clear hGR hC hS hSl
 have HG0:Hid (errW X f t=0→graphV X f t=((P,wavE X f t),0)):=zh (fun h=>by unfold graphV;rw [h,if_pos rfl,hP])
 have HG1:Hid (errW X f t≠0→graphV X f t=(([],[]),errW X f t)):=zh (fun h=>by unfold graphV;rw [if_neg h])
 clear hP
 obtain⟨E,hE⟩:∃ E,errW X f t=E:=⟨_,rfl⟩
 rw [hE]at HG0 HG1 HC HS HSL ⊢
 clear hE
 generalize graphV X f t=G at *
 generalize wavE X f t=es at *
 obtain⟨LL,hLL⟩:∃ LL,(if E=0 then nameL P S else [])=LL:=⟨_,rfl⟩
 have HLL:=zh hLL
 rw [hLL]
 clear hLL
 have HB0:=zh (IdxBx.start w (.slice va vn vc) iv)
 go_enter func31,ntmps31
 go_upto_region 1 with fail
 generalize w.alloc (.cells #[.slice va vn vc,iv] 25)=W at *
 have c0:=HB0.out.c0
 have c1:=HB0.out.c1
 go_wp2_with fail
 refine(HGR.out _ HB0.out.bel).mono ?_
 rintro e w1 ⟨nv,ev,rfl,hrn,hre,hb1⟩
 have HB1:=zh (HB0.out.below hb1)
 clear c0 c1 HGR HB0
 by_cases h0:E=0
 case neg =>
  have h0b:(E != 0)=true:=by simpa using h0
  have hG:=HG1.out h0
  subst hG
  obtain⟨na,nc,rfl,_⟩:=z01 hrn
  obtain⟨ea,ec,rfl⟩:∃ a c,ev=.slice a 0 c:=by obtain⟨a,c,e,_⟩:=hre;exact⟨a,c,e⟩
  have HR:Hid (∀ W2,Below w1.heap.size w1 W2→NamedR w LL E (.returned (.tuple #[.slice none 0 0,.int .i64 E])) W2):=zh (fun W2 h2=>by
   refine⟨_,rfl,?_,HB1.out.bel.trans (h2.mono HB1.out.bel.size)⟩
   rw [← HLL.out,if_neg h0]
   exact⟨none,0,rfl,fun i l hl=>by cases hl⟩)
  clear hrn hre hb1 HLL HC HS HSL HG0 HG1 HB1
  go_wp2_with fail
  go_ret2
  exact HR.out _ (belQ _ _)
 subst h0
 have hG:=HG0.out rfl
 subst hG
 simp only at hrn hre
 have HRN:=zh hrn
 obtain⟨na,nc,rfl,hna⟩:=z01 hrn
 obtain⟨ea,ec,rfl⟩:=zo hre
 have hq2:=belQ w1 (.cells #[.slice na P.length nc,.slice ea es.length ec] 32)
 have HN2:=zh (zn w1 (.cells #[.slice na P.length nc,.slice ea es.length ec] 32))
 have HCC:=zh (HC.out rfl _ _ _ ((hrn.below hq2 (zq _)).mono hq2.size) ((hre.below hq2 (zq _)).mono hq2.size))
 have HB2:=zh (HB1.out.bel.trans (hq2.mono HB1.out.bel.size))
 have HNA:Hid (∀ W2,Below w1.heap.size w1 W2→∀ i x,P[i]? = some x→∃ b off,na=some ⟨b,off,none⟩∧W2.cell? ⟨b,off+i,none⟩=some (.string x)):=zh (fun W2 h2 i x hx=>by
  obtain⟨b,off,h1,h3,h4⟩:=hna i x hx
  exact⟨b,off,h1,(h2.cell (p:=⟨b,off+i,none⟩) h3).trans h4⟩)
 have HSS:=zh (HS.out rfl)
 have HSLL:=zh (HSL.out rfl)
 have HLE:Hid (nameL P S=LL):=zh (by rw [← HLL.out,if_pos rfl])
 have HQ2:=zh hq2
 clear hrn hre hb1 hna hq2 HC HS HSL HLL HG0 HG1 HB1 HRN
 go_upto_region 2 with fail
 generalize w1.alloc (.cells #[.slice na P.length nc,.slice ea es.length ec] 32)=w2 at *
 have g0:w2.cell? ⟨w1.heap.size,0,none⟩=some (.slice na P.length nc):=zw _ _ 0 _ _ _ HN2.out
 have g1:w2.cell? ⟨w1.heap.size,1,none⟩=some (.slice ea es.length ec):=zw _ _ 1 _ _ _ HN2.out
 go_wp2_with (go_at_fn gf;refine HCC.out.mono ?_;rintro e w3 ⟨sv,rfl,hsv,hb3⟩)
 have HSV:=zh hsv
 have HB3:=zj HB2 hb3
 have HQ3:=zh (HQ2.out.trans (hb3.mono HQ2.out.size))
 have hgl:w1.heap.size<w2.heap.size:=(zb HN2.out)
 have HN3:=zh ((hb3.block _ hgl).trans HN2.out)
 obtain⟨sa,sc,rfl,hrow⟩:∃ sa sc,sv=.slice sa S.length sc∧∀ i l,S[i]? = some l→∃ b off r,sa=some ⟨b,off,none⟩∧b<w3.heap.size∧w3.cell? ⟨b,off+i,none⟩=some r∧RowOf natC w3.heap.size r l w3:=by
  rcases hsv with ⟨rfl,a,c,rfl⟩ | ⟨b,off,cap,rfl,hb,h⟩
  ·exact⟨a,c,rfl,fun i l hl=>by cases hl⟩
  ·exact⟨_,cap,rfl,fun i l hl=>by obtain⟨r,h1,h2⟩:=h i l hl;exact⟨b,off,r,rfl,hb,h1,h2⟩⟩
 have HROW:=zh hrow
 have HGL:=zh (Nat.lt_of_lt_of_le hgl hb3.size)
 clear hsv hb3 hgl hrow g0 g1 HCC HSV HB2 HQ2 HN2
 obtain⟨gg,hgg⟩:∃ gg,w1.heap.size=gg:=⟨_,rfl⟩
 rw [hgg]at HN3 HGL
 have HGG:=zh hgg
 simp only [hgg]
 clear hgg
 obtain⟨i0,hi0,hz0,hz1,hz2⟩:=info_parts z1z
 obtain⟨r0,hr0,hy0,hy1,hy2⟩:=info_parts zbb
 have hln:=zke sa S.length sc w3
 go_wp2_with fail
 rw [hln]
 clear hln
 go_wp2_with fail
 go_loopw [12,32] (fun ov p wr=>Hid (∃ (k:Nat) (xs:List Value),k≤S.length∧p=.int .i64 (k:Int)∧NamJ w3.heap.size ov (nameL P (S.take k)) xs wr∧Below w3.heap.size w3 wr)) (fun _ p _=>S.length - (intOf p).toNat)
 case atStart=>exact zh ⟨0,[],Nat.zero_le _,rfl,NamJ.nil _ _,Below.refl _ _⟩
 case round =>
  obtain⟨k,xs,hk,rfl,hj,hb⟩:=hrel.out
  have HJ:=zh hj
  have HB:=zh hb
  have hnl:(nameL P (S.take k)).length=k:=by unfold nameL;rw [List.length_map,List.length_take];omega
  obtain⟨oa,oc,he⟩:=z05 hj.own
  rw [hnl]at he
  subst he
  clear hrel hj hb
  by_cases hlt:k<S.length
  case neg =>
   have hkk:k=S.length:=Nat.le_antisymm hk (Nat.le_of_not_lt hlt)
   clear hk hnl
   subst hkk
   have HR:Hid (NamedR w LL 0 (.returned (.tuple #[.slice oa S.length oc,.int .i64 0])) wr):=zh (by
    have hj:=HJ.out
    rw [List.take_length,HLE.out]at hj
    exact⟨_,rfl,hj.names,HB3.out.trans (HB.out.mono HB3.out.size)⟩)
   clear HJ
   go_wp2_with fail
   go_ret2
   exact HR.out
  case pos =>
   have hk0:(0:Int)≤(k:Int):=Int.natCast_nonneg k
   have hkz:(k:Int)<(S.length:Int):=Int.ofNat_lt.2 hlt
   obtain⟨b,off,rv,rfl,hbl,d0,hrr⟩:=HROW.out k _ (ze hlt)
   have d0:=(HB.out.cell (p:=⟨b,off+k,none⟩) hbl).trans d0
   have HTK:=zh (zg4 (P:=P) hlt)
   have hsm:S[k]∈S:=List.getElem_mem hlt
   have HLT:=zh (HSS.out _ hsm)
   have hrl:=HSLL.out.2 _ hsm
   have hkl:k+1≤1000000:=Nat.le_trans hlt HSLL.out.1
   clear hsm
   generalize S[k]=row at *
   obtain⟨ra,rc,rfl,hra⟩:=z01 hrr
   have HRA:Hid (∀ W2,Below w3.heap.size w3 W2→∀ i x,row[i]? = some x→∃ b off,ra=some ⟨b,off,none⟩∧W2.cell? ⟨b,off+i,none⟩=some (natC x)):=zh (fun W2 h2 i x hx=>by
    obtain⟨b,off,h1,h3,h4⟩:=hra i x hx
    exact⟨b,off,h1,(h2.cell (p:=⟨b,off+i,none⟩) h3).trans h4⟩)
   clear hra hrr
   go_upto_region 10 with fail
   clear d0
   obtain⟨wb,hwb⟩:∃ wb,wr=wb:=⟨_,rfl⟩
   replace hwb:=hwb.symm
   subst hwb
   go_wp2_with fail
   go_loopw [15,38] (fun ov2 p wr=>Hid (∃ (j:Nat),j≤row.length∧p=.int .i64 (j:Int)∧wr.ownsRow wb.heap.size 9 1 ov2 j (strsC (rowN P (row.take j)))∧Below wb.heap.size wb wr)) (fun _ p _=>row.length - (intOf p).toNat)
   case atStart=>exact zh ⟨0,Nat.zero_le _,rfl,by simpa [strsC,rowN]using World.ownsRow_nil _ _ _ _,Below.refl _ _⟩
   case round =>
    obtain⟨j,hj,rfl,ho,hb2⟩:=hrel.out
    have HO:=zh ho
    have HB2:=zh hb2
    obtain⟨ja,jc,rfl⟩:=z05 ho
    clear hrel ho hb2
    have HB32:=zh (HB.out.trans (HB2.out.mono HB.out.size))
    by_cases hlt2:j<row.length
    case neg =>
     have hjj:j=row.length:=Nat.le_antisymm hj (Nat.le_of_not_lt hlt2)
     clear hj
     subst hjj
     have HJ2:=zh (HJ.out.below HB2.out)
     have hrn:(rowN P row).length=row.length:=by unfold rowN;rw [List.length_map]
     have hs2:w3.heap.size≤wb.heap.size:=HB.out.size
     have hbq:=belQ wr (.cells #[.slice ja row.length jc] 29)
     have HR2:Hid ((wr.alloc (.cells #[.slice ja row.length jc] 29)).ownsRow w3.heap.size 9 1 (.slice ja row.length jc) (rowN P row).length (strsC (rowN P row))):=zh (by
      have h:=HO.out
      rw [List.take_length]at h
      rw [hrn]
      exact(z07 h hbq).mono hs2)
     have HJ3:=zh (HJ2.out.below hbq)
     have HOW3:Hid ((wr.alloc (.cells #[.slice ja row.length jc] 29)).ownsRow w3.heap.size 29 1 (.slice oa k oc) k xs):=zh (by have h:=HJ3.out.own;rwa [hnl]at h)
     have HN4:=zh (zn wr (.cells #[.slice ja row.length jc] 29))
     have HB4:=zj HB32 hbq
     have hsz4:w3.heap.size≤(wr.alloc (.cells #[.slice ja row.length jc] 29)).heap.size:=HB4.out.size
     have HNL:=zh hnl
     clear hbq HO HJ HJ2 hrn hs2 hnl
     go_wp2_with (at_builtin;refine wpList_append_own _ rfl _ _ 36 rfl w3.heap.size 29 r0 _ 1 24 underlying36 hr0 hy0 hy1 hy2 rfl (by decide) (.slice oa k oc) k _ (by rfl) HOW3.out ⟨wr.heap.size,0,none⟩ 1 1 [.slice ja row.length jc] (by rfl) (by rfl) (World.news_of_block HN4.out) (by simp [Value.oneCell']) (by unfold maxLen;omega) (by omega) hsz4 ?_;intro v' wB hown' hgrow _;have HOW:=zh hown';have HGR:=zh hgrow;clear hown' hgrow;obtain⟨g3,gc3,rfl⟩:=ownsRow_succ HOW.out)
     all_goals
      have HJ5:Hid (NamJ w3.heap.size (.slice (some ⟨g3,0,none⟩) (k+1) gc3) (nameL P (S.take (k+1))) (xs++[.slice ja row.length jc]) wB):=zh (by
       rw [HTK.out]
       exact HJ3.out.push HR2.out (by rw [HNL.out];exact HOW.out) HGR.out)
      have HB5:=zh (HB4.out.grown HGR.out hsz4 (fun b hb=>(z0g HOW3.out b hb).1))
      refine⟨zh ⟨k+1,_,hlt,by go_num,HJ5.out,HB5.out⟩,?_⟩
      simp [intOf];omega
    case pos =>
     have hj0:(0:Int)≤(j:Int):=Int.natCast_nonneg j
     have hjz:(j:Int)<(row.length:Int):=Int.ofNat_lt.2 hlt2
     obtain⟨b2,off2,rfl,d1⟩:=HRA.out wr HB32.out j _ (ze hlt2)
     have HRT:=zh (zio (P:=P) hlt2)
     have hnp:=HLT.out _ (List.getElem_mem hlt2)
     generalize row[j]=n at *
     obtain⟨b3,off3,rfl,d2⟩:=HNA.out wr (HQ3.out.trans (HB32.out.mono HQ3.out.size)) n _ (ze hnp)
     have HPN:Hid (P.getD n default=P[n]):=zh (by rw [zg,ze hnp];rfl)
     have hn0:(0:Int)≤(n:Int):=Int.natCast_nonneg n
     have hnz:(n:Int)<(P.length:Int):=Int.ofNat_lt.2 hnp
     have g0:wr.cell? ⟨gg,0,none⟩=some (.slice (some ⟨b3,off3,none⟩) P.length nc):=(HB32.out.cell (p:=⟨gg,0,none⟩) HGL.out).trans (zw _ _ 0 _ _ _ HN3.out)
     generalize P[n]=p at *
     have hbq:=belQ wr (.cells #[.string p] 9)
     have HN4:=zh (zn wr (.cells #[.string p] 9))
     have HO4:=zh (z07 HO.out hbq)
     have HB4:=zj HB2 hbq
     have hsz4:wb.heap.size≤(wr.alloc (.cells #[.string p] 9)).heap.size:=HB4.out.size
     have HST:Hid (strsC (rowN P (row.take (j+1)))=strsC (rowN P (row.take j))++[.string p]):=zh (by rw [HRT.out,HPN.out,z1v])
     clear hbq HO HB2 HB32
     go_wp2_with (at_builtin;refine wpList_append_own _ rfl _ _ 29 rfl wb.heap.size 9 i0 _ 1 16 underlying29 hi0 hz0 hz1 hz2 rfl (by decide) (.slice ja j jc) j _ (by rfl) HO4.out ⟨wr.heap.size,0,none⟩ 1 1 [.string p] (by rfl) (by rfl) (World.news_of_block HN4.out) (by simp [Value.oneCell']) (by unfold maxLen;omega) (by omega) hsz4 ?_;intro v' wB hown' hgrow _;have HOW:=zh hown';have HGR:=zh hgrow;clear hown' hgrow;obtain⟨g3,gc3,rfl⟩:=ownsRow_succ HOW.out)
     all_goals
      have HB5:=zh (HB4.out.grown HGR.out hsz4 (fun b hb=>(z0g HO4.out b hb).1))
      refine⟨zh ⟨j+1,hlt2,by go_num,by rw [HST.out];exact HOW.out,HB5.out⟩,?_⟩
      simp [intOf];omega
section
open Go.Proofs.Tryz Go Go.RowKit
theorem zig {H:Type}{enc:TypeId×Value→H}{W:World}{fuel:Nat}{v:Value}{x:DataW H×List MemPlace}(h:DataW.trod enc prog W 0 (fun _=>true) true fuel 29 [v]=some x)
  (hlt:∀ y∈x.2,y.block<W.heap.size):∃ l:List ByteArray,RowOf Value.string W.heap.size v l W∧l.length≤maxLen∧∀ p∈l,p.size≤maxLen:=by
 obtain⟨ao,cap,l,rfl,hm,hl⟩:=z2q (fun(q:ByteArray) cs=>cs=[.string q]∧q.size≤maxLen) underlying29 (c:=1) (by as_aux_lemma=>kernel_rfl) (by omega) (fun n cs y hy _=>by
  have hcs:∃ c0,cs=[c0]:=by
   obtain⟨s,e,_⟩:=DataW.trod_string underlying9 hy
   exact⟨_,e⟩
  obtain⟨c0,rfl⟩:=hcs
  obtain⟨s,e,_,hs⟩:=DataW.trod_string underlying9 hy
  exact⟨s,e,hs⟩) h hlt
 refine⟨l,?_,hm,fun p hp=>?_⟩
 ·cases l with
  | nil=>exact .inl ⟨rfl,ao,cap,rfl⟩
  | cons p l =>
   obtain⟨b,off,cs,rfl,hb,_⟩:=hl 0 p rfl
   refine .inr ⟨b,off,cap,rfl,hb,fun i x hx=>?_⟩
   obtain⟨b2,off2,cs,e,_,⟨rfl,_⟩,hj⟩:=hl i x hx
   cases e
   have h0:=hj 0 (by omega)
   rw [Nat.mul_one,Nat.add_zero]at h0
   exact h0
 ·obtain⟨i,hi,rfl⟩:=List.mem_iff_getElem.1 hp
  obtain⟨_,_,_,_,_,⟨_,hs⟩,_⟩:=hl i l[i] (ze hi)
  exact hs
theorem zmt {H:Type}{enc:TypeId×Value→H}{W:World}{fuel:Nat}{v:Value}{x:DataW H×List MemPlace}(h:DataW.trod enc prog W 0 (fun _=>true) true fuel 36 [v]=some x)
  (hlt:∀ y∈x.2,y.block<W.heap.size):∃ ls:List (List ByteArray),NamesOf W.heap.size v ls W∧ls.length≤maxLen∧∀ l∈ls,l.length≤maxLen:=by
 obtain⟨ao,cap,l,rfl,hm,hl⟩:=z2q (fun(q:List ByteArray) cs=>∃ r,cs=[r]∧RowOf Value.string W.heap.size r q W∧q.length≤maxLen) underlying36 (c:=1) (by as_aux_lemma=>kernel_rfl) (by omega) (fun n cs y hy hp=>by
  have hcs:∃ c0,cs=[c0]:=by
   rcases Go.Deep.open_slice underlying29 hy with ⟨e,_⟩ | ⟨_,_,_,_,_,_,_,e,_⟩
   ·exact⟨_,e⟩
   ·exact⟨_,e⟩
  obtain⟨c0,rfl⟩:=hcs
  obtain⟨q,hq,hm,_⟩:=zig hy hp
  exact⟨q,c0,rfl,hq,hm⟩) h hlt
 refine⟨l,⟨ao,cap,rfl,fun i x hx=>?_⟩,hm,fun y hy=>?_⟩
 ·obtain⟨b,off,cs,rfl,hb,⟨r,rfl,hs,_⟩,hj⟩:=hl i x hx
  have h0:=hj 0 (by omega)
  rw [Nat.mul_one,Nat.add_zero]at h0
  exact⟨b,off,r,rfl,hb,h0,hs⟩
 ·obtain⟨i,hi,rfl⟩:=List.mem_iff_getElem.1 hy
  obtain⟨b,off,cs,_,_,⟨_,_,_,hs⟩,_⟩:=hl i l[i] (ze hi)
  exact hs
end
section
open Go.Proofs.Tryz Go Go.RowKit
theorem zmu {H:Type}{enc:TypeId×Value→H}{W:World}{fuel:Nat}{ka:Option Addr}{kl kc:Nat}{x:DataW H×List MemPlace}(h:DataW.trod enc prog W 0 (fun _=>true) true fuel 36 [.slice ka kl kc]=some x)
  (hs:∀ elems spare,x.1=.slice elems spare→(elems.length+spare.length)*prog.bytesOf 29≤reachBytes):kl*24≤140737488351232:=by
 rcases Go.Deep.open_slice underlying36 h with ⟨h2,_⟩ | ⟨a,len,cap,m,n2,D,Pl,h2,_,h3,h4,h5,h6,h7⟩
 ·cases h2;omega
 ·cases h2
  have h8:=hs _ _ (by rw [h6])
  have hb:prog.bytesOf 29=24:=by kernel_rfl
  rw [hb]at h8
  simp only [List.length_map,List.length_range,reachBytes]at h8
  have:kl*24≤(kl+(m - kl))*24:=Nat.mul_le_mul_right _ (Nat.le_add_right _ _)
  omega
theorem names_kl {B:Nat}{ka:Option Addr}{kl kc:Nat}{L:List (List ByteArray)}{W:World}(h:NamesOf B (.slice ka kl kc) L W):L.length=kl:=by
 obtain⟨_,_,e,_⟩:=h
 injection e with _ e2 _
 exact e2.symm
end
end Go.Proofs.YtapbhoodgnmnkaaGreatDoor
