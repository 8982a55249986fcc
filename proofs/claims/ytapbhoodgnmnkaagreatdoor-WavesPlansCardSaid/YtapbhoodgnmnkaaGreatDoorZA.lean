/- Laws and contracts. -/
import Derived.Test.YtapbhoodgnmnkaaGreatDoorYZ
set_option linter.unusedVariables false
set_option linter.unusedSimpArgs false
set_option maxRecDepth 100000
set_option maxHeartbeats 32000000
namespace Go.Proofs.YtapbhoodgnmnkaaGreatDoor
open Go.Proofs.Tryz Go Go.RowKit
theorem z8b {P:Program}{w:World}(base:Nat)(t ty e:TypeId)(i:TypeInfo)(size:Nat)(ht:P.underlying t=some (.slice e))(hi:P.info? e=some i)
  (v:Value) (n:Nat) (xs:List Value) (hown:w.ownsRow base e size v n xs) (na:Option Addr) (nc:Nat) :
  (Builtin.append_ #[t,t] ty #[v,.slice na 0 nc]).run P w=.ok v w:=by
 rcases hown.2 with ⟨rfl,rfl⟩ | ⟨g,cap,cur,rfl,_,_,hnc,_⟩<;>cases na
 all_goals simp [Builtin.append_,run_underlying ht,sizeOf,typeInfo,hi,Builtin.lenOf,Builtin.firstCells,storeCells, *]
 all_goals simp [loadCells,loadCellsFrom,storeCells]
theorem z4s {w:World}{ops:Array Oper}{rest:List Oper}{o:Oper}{a:Act}{Q:Exit→Act→World→Prop}(hgd:o.guard=none)(s x:Operand)
  (ho:o.op=.call { callee:=.builtin .append,args:=#[s,x],argTypes:=#[29,29] })
  (base:Nat) (v:Value) (hs:a.eval s=v) (hown:w.ownsRow base 9 1 v 0 []) (na:Option Addr) (nc:Nat) (ns:List ByteArray) (hx:a.eval x=.slice na ns.length nc) (hn:RowOf Value.string w.heap.size (.slice na ns.length nc) ns w)
  (hl:ns.length≤1000000) (hbase:base≤w.heap.size)
  (h:∀ v' w',w'.ownsRow base 9 1 v' ns.length (ns.map Value.string)→w.grownBy w' v.ownBlock→wpList prog ops Q rest (a.put o.dst v') w'):wpList prog ops Q (o::rest) a w:=by
 obtain⟨i0,hi0',hz0,hz1,hz2⟩:=info_parts (show(prog.info? 9).map (fun i=>(i.zero,i.size,i.bytes))=some (some (Value.string ⟨#[]⟩),1,16) by kernel_rfl)
 rcases hn with ⟨rfl,a',c',e⟩ | ⟨b,off,cap,e,hb,hc⟩
 ·refine wpList_plain hgd fun K hK=>?_
  have hrun:=z8b (P:=prog) (w:=w) base 29 o.type 9 i0 1 underlying29 hi0' v 0 [] hown na nc
  unfold Oper.wp
  have hx':a.eval x=.slice na 0 nc:=hx
  simp [execOp,ho,resolve,invoke,builtin,hs,hx',hrun,Result.andThen]
  exact hK _ _ (h v w hown ⟨rfl,rfl,rfl,zq _,fun _ _ _=>rfl⟩)
 ·cases e
  refine wpList_append_own w hgd s x 29 ho base 9 i0 (.string ⟨#[]⟩) 1 16 underlying29 hi0' hz0 hz1 hz2 rfl (by decide) v 0 [] hs hown ⟨b,off,none⟩ ns.length nc (ns.map Value.string) hx (by simp) (fun j u hu=>?_) (fun u hu=>?_) (by unfold maxLen;omega) (by omega) hbase (fun v' w' h1 h2 _=>?_)
  ·rw [List.getElem?_map,Option.map_eq_some_iff]at hu
   obtain⟨y,hy,rfl⟩:=hu
   rw [Addr.add_lit]
   exact hc j y hy
  ·obtain⟨y,_,rfl⟩:=List.mem_map.1 hu
   rfl
  ·rw [Nat.zero_add,List.nil_append]at h1
   exact h v' w' h1 h2
theorem zcq (na:Option Addr)(nc:Nat)(ev:Value)(ns:List ByteArray)(es:List (Int×Int))(w:World)(hE:EdgesOf w.heap.size ev es w)(hN:RowOf Value.string w.heap.size (.slice na ns.length nc) ns w)(hval:validG ns.length es=true) :
  Calls prog 98 #[.agg #[.slice na ns.length nc,ev]] w fun e w'=>∃ a c v',e=.returned (.agg #[.slice a ns.length c,v'])∧RowOf Value.string w'.heap.size (.slice a ns.length c) ns w'∧EdgesOf w'.heap.size v' (es.map swapE) w'∧Below w.heap.size w w':=by
 have hb1:Below w.heap.size w ((w.alloc (.cells #[.slice na ns.length nc,ev] 32)).alloc (.cells #[.slice none 0 0,.slice none 0 0] 32)):=((Below.refl _ _).alloc (zq _) _).alloc (by simp) _
 obtain⟨hNn,hNe⟩:=z1x hval
 have hv:=z4p na ns.length nc ev es _ (by omega) (by omega) ((hE.below hb1 (zq _)).mono hb1.size)
 rw [hval]at hv
 have hnew:((w.alloc (.cells #[.slice na ns.length nc,ev] 32)).alloc (.cells #[.slice none 0 0,.slice none 0 0] 32)).heap[w.heap.size+1]? = some (.cells #[.slice none 0 0,.slice none 0 0] 32 (0,0)):=by
  have:=zn (w.alloc (.cells #[.slice na ns.length nc,ev] 32)) (.cells #[.slice none 0 0,.slice none 0 0] 32)
  rw [World.size_alloc]at this
  exact this
 obtain⟨ao,ec,rfl,hE⟩:=hE
 have hgold:((w.alloc (.cells #[.slice na ns.length nc,.slice ao es.length ec] 32)).alloc (.cells #[.slice none 0 0,.slice none 0 0] 32)).heap[w.heap.size]? = some (.cells #[.slice na ns.length nc,.slice ao es.length ec] 32 (0,0)):=(Below.heap_alloc _ _ _ (by simp)).trans (zn w _)
 have HNEW:=zh hnew
 have HGOLD:=zh hgold
 have HV:=zh hv
 have HB1:=zh hb1
 have HE:=zh hE
 have HN:=zh hN
 clear hv hb1 hE hN hval hnew hgold
 go_enter func98,ntmps98
 go_wp2_with fail
 refine HV.out.mono ?_
 rintro e w1 ⟨rfl,hb⟩
 have hs1:=hb.size
 simp only [World.size_alloc]at hs1
 have HG1:=zh ((hb.block w.heap.size (by simp;omega)).trans HGOLD.out)
 have HR1:=zh ((hb.block (w.heap.size+1) (by simp)).trans HNEW.out)
 have HW1:=zh (HB1.out.trans (hb.mono (by simp;omega)))
 have hg0:=cellA (.cells #[] 9) (show w1.cell? ⟨w.heap.size,0,none⟩=some (.slice na ns.length nc)from zw _ _ 0 _ _ _ HG1.out)
 have HO1:=zh (z2j w1.heap.size 9 0 [] w1 (zq _) (by decide) rfl)
 have HN1:Hid (RowOf Value.string (w1.alloc (.cells #[] 9)).heap.size (.slice na ns.length nc) ns (w1.alloc (.cells #[] 9))):=zh ((HN.out.below (HW1.out.alloc (by omega) _) (zq _)).mono (by simp;omega))
 clear hb HV HB1 HNEW HGOLD
 go_wp2_with (at_builtin;refine z4s (by rfl) _ _ (by rfl) w1.heap.size _ (by rfl) HO1.out na nc ns (by rfl) HN1.out (by omega) (by simp) ?_;intro v2 w3 ho3 hg3;have HO3:=zh ho3;have HB3:=zh (((Below.refl w1.heap.size w1).alloc (zq _) (.cells #[] 9)).grown hg3 (by simp) (fun b hb=>(HO1.out.lt b hb).1));clear ho3 hg3;obtain⟨a',c',rfl⟩:=z09 HO3.out)
 have hs3:=HB3.out.size
 have HRN:Hid (RowOf Value.string w3.heap.size (.slice a' ns.length c') ns w3):=zh (z1q HO3.out).2
 have HG3:=zh ((HB3.out.block w.heap.size (by omega)).trans HG1.out)
 have HR3:=zh ((HB3.out.block (w.heap.size+1) (by omega)).trans HR1.out)
 have HW3:=zh (HW1.out.trans (HB3.out.mono (by omega)))
 clear HO1 HN1 hg0 HO3
 obtain⟨i0,hi0',hz0,hz1,hz2⟩:=info_parts z5w
 have HL0:Hid ((w3.alloc (.cells #[.slice a' ns.length c',.slice none 0 0] 32)).heap[w3.heap.size]? = some (.cells #[.slice a' ns.length c',.slice none 0 0] 32 (0,0))):=zh (zn w3 _)
 have HL1:Hid (Below w3.heap.size w3 (w3.alloc (.cells #[.slice a' ns.length c',.slice none 0 0] 32))):=zh ((Below.refl _ _).alloc (zq _) _)
 go_wp2_with fail
 go_loopw [4] (fun p wr=>∃ (k:Nat) (v:Value),k≤es.length∧p=.int .i64 k∧Hid (wr.heap[w3.heap.size]? = some (.cells #[.slice a' ns.length c',v] 32 (0,0)))∧Hid (wr.ownsRow w3.heap.size 43 2 v k (edgeCells ((es.take k).map swapE)))∧Hid (Below w3.heap.size w3 wr)) (fun p _=>es.length - (intOf p).toNat)
 case atStart=>exact⟨0,.slice none 0 0,by omega,rfl,HL0,zh (World.ownsRow_nil _ _ _ _),HL1⟩
 case round =>
  clear HL0 HL1
  obtain⟨k,v,hk,rfl,HBX,HO,HB⟩:=hrel
  have hszr:=HB.out.size
  have hg1:wr.cell? ⟨w.heap.size,1,none⟩=some (.slice ao es.length ec):=zw _ _ 1 _ _ _ ((HB.out.block _ (by omega)).trans HG3.out)
  by_cases hlt:k<es.length
  ·have hk0:(0:Int)≤(k:Int):=by omega
   have hk1:(k:Int)<(es.length:Int):=by omega
   obtain⟨b,off,rfl,hb,hc1,hc2⟩:=HE.out k es[k] (by simp [hlt])
   have HT:Hid ((es.take (k+1)).map swapE=(es.take k).map swapE++[swapE es[k]]):=zh (by rw [zs hlt,List.map_append];rfl)
   obtain⟨⟨x1,x2⟩,hx⟩:∃ x,x=es[k]:=⟨_,rfl⟩
   rw [← hx]at hc1 hc2 HT
   clear hx
   simp only at hc1 hc2
   have HBXL:=(zb HBX.out)
   have HSS:Hid (∀ W,Below w3.heap.size w3 W→W.heap[w3.heap.size]? = some (.cells #[.slice a' ns.length c',v] 32 (0,0))→HeldT ⟨w3.heap.size,1,none⟩ ⟨w.heap.size,1,none⟩ ⟨b,off+k*2,none⟩ ⟨b,off+k*2+1,none⟩ v (.slice (some ⟨b,off,none⟩) es.length ec) (.int .i64 x1) (.int .i64 x2) W):=zh fun W hW hbx=>⟨zw _ _ 1 _ _ _ hbx,zw _ _ 1 _ _ _ ((hW.block _ (by omega)).trans HG3.out),((HW3.out.trans (hW.mono (by omega))).cell (p:=⟨b,off+k*2,none⟩) hb).trans hc1,((HW3.out.trans (hW.mono (by omega))).cell (p:=⟨b,off+k*2+1,none⟩) hb).trans hc2⟩
   have HN2:Hid (∀ W1,((wr.alloc (.cells #[intC x2,intC x1] 43)).drew).grownBy W1 v.ownBlock→W1.heap[w3.heap.size]? = some (.cells #[.slice a' ns.length c',v] 32 (0,0))∧Below w3.heap.size w3 W1):=zh (fun W1 hg=>by
    refine⟨(hg.block _ (by simp;omega) (z4l HBX.out HO.out (by decide))).trans ((Below.heap_alloc _ _ _ HBXL).trans HBX.out),?_⟩
    exact((HB.out.alloc hszr _).drew).grown hg (by simp;omega) (fun b hb=>(HO.out.lt b hb).1))
   clear hc1 hc2
   go_wp2_with fail
   refine wp_region_noPanic ?_
   refine z0f (S:=HeldT ⟨w3.heap.size,1,none⟩ ⟨w.heap.size,1,none⟩ ⟨b,off+k*2,none⟩ ⟨b,off+k*2+1,none⟩ v (.slice (some ⟨b,off,none⟩) es.length ec) (.int .i64 x1) (.int .i64 x2)) 17 (by kernel_rfl) (by kernel_rfl) ?_
   simp only [List.take_succ_cons,List.take_zero]
   have hS0:=HSS.out wr.drew HB.out.drew HBX.out
   refine zt 0 _ rfl ?_;simp only [zl1];refine zt 1 _ rfl ?_;simp only [zl1];refine zt 2 _ rfl ?_;simp only [zl1];refine zt 3 _ rfl ?_;simp only [zl1];refine zt 4 _ rfl ?_;simp only [zl1];refine zt 5 _ rfl ?_;simp only [zl1];refine zt 6 _ rfl ?_;simp only [zl1];refine zt 7 _ rfl ?_;simp only [zl1];refine zt 8 _ rfl ?_;simp only [zl1];refine zt 9 _ rfl ?_;simp only [zl1];refine zt 10 _ rfl ?_;simp only [zl1]
   refine zt 11 _ rfl ?_;simp only [zl1];refine zt 12 _ rfl ?_;simp only [zl1];refine zt 13 _ rfl ?_;simp only [zl1];refine zt 14 _ rfl ?_;simp only [zl1]
   have hS1:=HSS.out (wr.drew.alloc (.cells #[intC x2,intC x1] 43)) (HB.out.drew.alloc hszr _) ((Below.heap_alloc _ _ _ HBXL).trans HBX.out)
   refine zr 15 rfl fun K hK=>?_
   go_simp
   refine hK.out _ _ hS1 (fun _=>?_)
   clear hK K hS0 hS1
   (try simp only [zl1])
   refine zr 16 rfl fun K hK=>?_
   refine step_append_lies _ (by rfl) _ _ _ (by rfl) w3.heap.size 43 i0 _ 2 16 underlying30 hi0' hz0 hz1 hz2 rfl (by decide) v k _ (by rfl) ((HO.out.alloc _).drew)
      ⟨wr.heap.size,0,none⟩ 1 1 [intC x2,intC x1] (by rfl) (by rfl) (World.news_of_block (cs:=#[intC x2,intC x1]) (t:=43) (fr:=(0,0)) (heap_alloc_new wr _)) (by simp [Value.oneCell'])
      (by decide) (by unfold maxLen;omega) (by omega) (by simp;omega) (wr.heap.size+1) (by simp) ?_
   intro gg cap w5 hown5 hgrow5 hat5 hlt5
   obtain⟨hbx5,hbb5⟩:=HN2.out _ hgrow5
   have hS5:=HSS.out w5 hbb5 hbx5
   have HBX5:=zh hbx5
   have HBB5:=zh hbb5
   have HOW5:=zh hown5
   have hfz:=frozen_of_row _ _ 1 _ _ hbx5
   have hcx:w5.cell? ⟨w3.heap.size,1,none⟩=some v:=zw _ _ 1 _ _ _ hbx5
   clear hbx5 hbb5 hown5 hgrow5 hat5
   refine hK.out _ _ hS5 (fun _=>?_)
   clear hK K hS5
   (try simp only [zl1])
   refine wpAnyH_done (by kernel_rfl) ?_ _
   show wpList _ _ _ _ _ _
   simp only [List.drop_succ_cons,List.drop_zero]
   go_wp2_with fail
   refine NoPanic.normal ?_
   all_goals go_wp2_with fail
   all_goals
    go_roundw
    case rel =>
     refine⟨k+1,.slice (some ⟨gg,0,none⟩) (k+1) cap,by omega,by go_num,zh ?_,zh ?_,zh ?_⟩
     ·exact heap_setCell_same _ w3.heap.size 1 _ _ _ HBX5.out
     ·rw [HT.out,z2l]
      refine HOW5.out.kept (row:=some w3.heap.size) ⟨rfl,rfl,rfl,by simp,fun k' _ hk'=>heap_setCell_other _ ⟨w3.heap.size,1,none⟩ k' _ (fun e=>hk' (by rw [e]))⟩ ?_
      exact .inr (Ne.symm (z4l HBX5.out HOW5.out (by decide)))
     ·exact HBB5.out.setCell (zq _) _
    case measure=>simp [intOf];omega
  ·have hkk:k=es.length:=by omega
   subst hkk
   rw [List.take_length]at HO
   have hc0:wr.cell? ⟨w3.heap.size,0,none⟩=some (.slice a' ns.length c'):=zw _ _ 0 _ _ _ HBX.out
   have hc1:wr.cell? ⟨w3.heap.size,1,none⟩=some v:=zw _ _ 1 _ _ _ HBX.out
   have hrb:=(HB.out.block (w.heap.size+1) (by omega)).trans HR3.out
   have hr0:wr.cell? ⟨w.heap.size+1,0,none⟩=some (.slice none 0 0):=zw _ _ 0 _ _ _ hrb
   have hr1:wr.cell? ⟨w.heap.size+1,1,none⟩=some (.slice none 0 0):=zw _ _ 1 _ _ _ hrb
   have hf0:=frozen_of_row _ _ 0 _ _ hrb
   have hf1:=frozen_of_row _ _ 1 _ _ hrb
   obtain⟨va,vn,vc,rfl⟩:∃ a n c,v=.slice a n c:=by
    rcases HO.out.2 with ⟨rfl,_⟩ | ⟨g,cap,cur,rfl,_⟩
    ·exact⟨_,_,_,rfl⟩
    ·exact⟨_,_,_,rfl⟩
   have HRB:=zh hrb
   clear hrb
   go_wp2_with fail
   have HR9:=z65 (x':=.slice a' ns.length c') (y':=.slice va vn vc) HRB.out
   have z0:((wr.setCell ⟨w.heap.size+1,0,none⟩ (.slice a' ns.length c')).setCell ⟨w.heap.size+1,1,none⟩ (.slice va vn vc)).cell? ⟨w.heap.size+1,0,none⟩=some (.slice a' ns.length c'):=zw _ _ 0 _ _ _ HR9
   have z1:((wr.setCell ⟨w.heap.size+1,0,none⟩ (.slice a' ns.length c')).setCell ⟨w.heap.size+1,1,none⟩ (.slice va vn vc)).cell? ⟨w.heap.size+1,1,none⟩=some (.slice va vn vc):=zw _ _ 1 _ _ _ HR9
   clear HR9 hc0 hc1 hr0 hr1 hf0 hf1
   refine bodyPost_ret (v:=.agg #[.slice a' ns.length c',.slice va vn vc]) (by simp [results,Tryz.results98,go_sem,z0,z1]) rfl ⟨a',c',.slice va vn vc,rfl,?_,?_,?_⟩
   ·have hr4:RowOf Value.string wr.heap.size (.slice a' ns.length c') ns wr:=(HRN.out.below HB.out (zq _)).mono hszr
    rcases hr4 with ⟨h1,h2⟩ | ⟨rb,ro,rc,h1,h2,h3⟩
    ·exact .inl ⟨h1,h2⟩
    ·refine .inr ⟨rb,ro,rc,h1,by simpa using h2,fun i x hx=>?_⟩
     have h4:=h3 i x hx
     have hne:rb≠w.heap.size+1:=fun e=>by
      rw [e,zw _ _ _ _ _ _ HRB.out]at h4
      match ro+i,h4 with
      | 0,h4=>cases h4
      | 1,h4=>cases h4
      | j+2,h4=>simp at h4
     rw [World.cell?_setCell_far _ _ _ _ (by exact Ne.symm hne),World.cell?_setCell_far _ _ _ _ (by exact Ne.symm hne)]
     exact h4
   ·refine z80 (B:=w3.heap.size) (n:=es.length) (z1c HO.out fun k' hk'=>?_)
    have:=(HO.out.lt k' hk').1
    rw [Below.heap_setCell _ _ _ _ (by show k'≠w.heap.size+1;omega),Below.heap_setCell _ _ _ _ (by show k'≠w.heap.size+1;omega)]
   ·exact((HW3.out.trans (HB.out.mono (by omega))).setCell (by show w.heap.size≤w.heap.size+1;omega) _).setCell (by show w.heap.size≤w.heap.size+1;omega) _
noncomputable def rchB (N:Nat)(es:List (Int×Int))(a b:Nat):Bool:=@decide (b<N∧Rch (sucs N es) a b) (Classical.propDecidable _)
theorem zfx {N:Nat}{es:List (Int×Int)}{a b:Nat}(h:Rch (sucs N es) a b):Rch (sucs N (es.map swapE)) b a:=by
 induction h with
 | refl a=>exact .refl a
 | @step a j b hj _ ih =>
  obtain⟨h1,h2,h3⟩:=z1v.1 hj
  exact ih.trans (.step (z1v.2 ⟨h2,h1,zlq.2 h3⟩) (.refl a))
theorem zk2 (es:List (Int×Int)):(es.map swapE).map swapE=es:=by
 rw [List.map_map]
 conv=>rhs;rw [← List.map_id es]
 exact List.map_congr_left fun x _=>rfl
def grpN (N:Nat)(es:List (Int×Int))(i:Nat):Nat:=((List.range' 0 N).find? fun k=>clG N es k == clG N es i).getD i
def grpK (N:Nat)(es:List (Int×Int))(i j:Nat):Nat:=((List.range' j (N - j)).find? fun k=>clG N es k == clG N es i).getD i
theorem zbv (N:Nat)(es:List (Int×Int))(i:Nat):grpK N es i 0=grpN N es i:=rfl
theorem zl0 (N:Nat)(es:List (Int×Int))(i:Nat):grpK N es i N=i:=by unfold grpK;rw [Nat.sub_self];rfl
theorem zii {N:Nat}{es:List (Int×Int)}{i j:Nat}(h:j<N):grpK N es i j=if (clG N es j == clG N es i)=true then j else grpK N es i (j+1):=by
 unfold grpK
 rw [show N - j=(N - (j+1))+1 by omega,List.range'_succ,List.find?_cons]
 cases clG N es j == clG N es i<;>rfl
theorem zih {N:Nat}{es:List (Int×Int)}{i:Nat}(hi:i<N)(j:Nat):grpK N es i j<N:=by
 unfold grpK
 cases e:(List.range' j (N - j)).find? (fun k=>clG N es k == clG N es i)with
 | none=>exact hi
 | some k =>
  have:=List.mem_of_find?_eq_some e
  rw [List.mem_range'_1]at this
  show k<N
  omega
def FlagV (N:Nat)(es:List (Int×Int))(i:Nat)(s:Value)(W:World):Prop:=∃ g f,s=.slice (some ⟨g,0,none⟩) N N∧Flags W g f∧MarkS N es [i] f
theorem FlagV.below {N:Nat}{es:List (Int×Int)}{i:Nat}{s:Value}{W W':World}(h:FlagV N es i s W)(hb:Below W.heap.size W W'):FlagV N es i s W':=by
 obtain⟨g,f,h1,h2,h3⟩:=h
 exact⟨g,f,h1,(hb.block g (zb h2)).trans h2,h3⟩
theorem zjc (W:World)(x:Nat):RowOf intC (W.alloc (.cells #[.int .i64 (x:Int)] 3)).heap.size (.slice (some ⟨W.heap.size,0,none⟩) 1 1) ([x].map Int.ofNat) (W.alloc (.cells #[.int .i64 (x:Int)] 3)):=.inr ⟨W.heap.size,0,1,rfl,by simp,fun i y hy=>by
 match i,hy with
 | 0,hy =>
  cases hy
  exact zw _ _ 0 _ _ _ (zn W _)
 | i+1,hy=>simp at hy⟩
structure GrpJ (N:Nat)(es:List (Int×Int))(i B:Nat)(w0 W:World)(l2 l3 l5 l7 l8 l9 l10:Bool)(s5 s6 s19 s20 s22 s24 s25:Value):Prop where
 bel:Below B w0 W
 hB:B≤W.heap.size
 m2:l2=true→RowOf intC W.heap.size s19 ([i].map Int.ofNat) W
 m3:l3=true→FlagV N es i s20 W
 m5:l5=true→∃ a c v',s22=.agg #[.slice a N c,v']∧EdgesOf W.heap.size v' (es.map swapE) W
 m7:l7=true→RowOf intC W.heap.size s24 ([i].map Int.ofNat) W
 m8:l8=true→FlagV N (es.map swapE) i s25 W
 m9:l9=true→l3=true∧s5=s20
 m10:l10=true→l8=true∧s6=s25
theorem GrpJ.keep {N:Nat}{es:List (Int×Int)}{i B:Nat}{w0 W W':World}{l2 l3 l5 l7 l8 l9 l10:Bool}{s5 s6 s19 s20 s22 s24 s25:Value}(h:GrpJ N es i B w0 W l2 l3 l5 l7 l8 l9 l10 s5 s6 s19 s20 s22 s24 s25)(hb:Below W.heap.size W W'):GrpJ N es i B w0 W' l2 l3 l5 l7 l8 l9 l10 s5 s6 s19 s20 s22 s24 s25 :=
 ⟨h.bel.trans (hb.mono h.hB),Nat.le_trans h.hB hb.size,fun hl=>((h.m2 hl).below hb (zq _)).mono hb.size,fun hl=>(h.m3 hl).below hb,fun hl=>by
  obtain⟨a,c,v',q1,q2⟩:=h.m5 hl
  exact⟨a,c,v',q1,(q2.below hb (zq _)).mono hb.size⟩,fun hl=>((h.m7 hl).below hb (zq _)).mono hb.size,fun hl=>(h.m8 hl).below hb,h.m9,h.m10⟩
theorem z94 (a:Option Addr)(ns:List ByteArray)(N c:Nat)(ev:Value)(es:List (Int×Int))(w:World)(hNN:N=ns.length)(hE:EdgesOf w.heap.size ev es w)(hR:RowOf Value.string w.heap.size (.slice a N c) ns w)(hval:validG N es=true) :
  Calls prog 65 #[.agg #[.slice a N c,ev]] w fun e w'=>∃ v,e=.returned v∧w'.ownsRow w.heap.size 3 1 v N (((List.range N).map (grpN N es)).map natC)∧Below w.heap.size w w':=by
 obtain⟨hNn,hNe⟩:=z1x hval
 have hE0:=hE
 obtain⟨ao,ec,rfl,_⟩:=hE
 have HE:=zh hE0
 have HR:=zh hR
 have HV:=zh hval
 have HNN:=zh hNN
 obtain⟨j0,hj0',hy0,hy1,hy2⟩:=info_parts z16
 have HG0:Hid (((w.alloc (.cells #[.slice a N c,.slice ao es.length ec] 32)).alloc (.cells #[] 3)).heap[w.heap.size]? = some (.cells #[.slice a N c,.slice ao es.length ec] 32 (0,0))):=zh ((Below.heap_alloc _ _ _ (by simp)).trans (zn w _))
 have HB0:Hid (Below w.heap.size w ((w.alloc (.cells #[.slice a N c,.slice ao es.length ec] 32)).alloc (.cells #[] 3))):=zh (((Below.refl _ _).alloc (zq _) _).alloc (by simp) _)
 have HO0:Hid (((w.alloc (.cells #[.slice a N c,.slice ao es.length ec] 32)).alloc (.cells #[] 3)).ownsRow w.heap.size 3 1 (.slice (some ⟨w.heap.size+1,0,none⟩) 0 0) 0 []):=zh (by
  have:=z2j w.heap.size 3 0 [] (w.alloc (.cells #[.slice a N c,.slice ao es.length ec] 32)) (by simp) (by decide) rfl
  rwa [World.size_alloc]at this)
 clear hE0 hR hval hNN
 go_enter func65,ntmps65
 go_wp2_with fail
 go_loopw [3,4] (fun o q wr=>∃ i:Nat,i≤N∧q=.int .i64 i∧Hid (wr.ownsRow w.heap.size 3 1 o i (((List.range i).map (grpN N es)).map natC))∧Hid (wr.heap[w.heap.size]? = some (.cells #[.slice a N c,.slice ao es.length ec] 32 (0,0)))∧Hid (Below w.heap.size w wr)) (fun _ q _=>N - (intOf q).toNat)
 case atStart=>exact⟨0,by omega,rfl,HO0,HG0,HB0⟩
 case round =>
  clear HO0 HG0 HB0
  obtain⟨i,hi,rfl,HO,HG,HB⟩:=hrel
  obtain⟨ba,bc,rfl⟩:=z09 HO.out
  have hsr:=HB.out.size
  have hgl:w.heap.size<wr.heap.size:=(zb HG.out)
  have hg0:wr.cell? ⟨w.heap.size,0,none⟩=some (.slice a N c):=zw _ _ 0 _ _ _ HG.out
  have hg1:wr.cell? ⟨w.heap.size,1,none⟩=some (.slice ao es.length ec):=zw _ _ 1 _ _ _ HG.out
  by_cases hlt:i<N
  case neg =>
   have hii:i=N:=by omega
   subst hii
   go_wp2_with fail
   go_ret
   exact⟨_,rfl,HO.out,HB.out⟩
  case pos =>
   have hi0:(0:Int)≤(i:Int):=by omega
   have hi1:(i:Int)<(N:Int):=by omega
   go_wp2_with fail
   refine z3b (S:=HeldC ⟨w.heap.size,0,none⟩ ⟨w.heap.size,1,none⟩ (.slice a N c) (.slice ao es.length ec)) (by kernel_rfl) ?_
   have hSd:HeldC ⟨w.heap.size,0,none⟩ ⟨w.heap.size,1,none⟩ (.slice a N c) (.slice ao es.length ec) wr.drew:=⟨hg0,hg1⟩
   refine zt 0 _ rfl ?_;simp only [zl1];refine zt 1 _ rfl ?_;simp only [zl1];refine zt 4 _ rfl ?_;simp only [zl1];refine zt 6 _ rfl ?_;simp only [zl1]
   have HSW:Hid (∀ W':World,Below wr.heap.size wr W'→HeldC ⟨w.heap.size,0,none⟩ ⟨w.heap.size,1,none⟩ (.slice a N c) (.slice ao es.length ec) W'):=zh fun W' h=>⟨zw _ _ 0 _ _ _ ((h.block _ hgl).trans HG.out),zw _ _ 1 _ _ _ ((h.block _ hgl).trans HG.out)⟩
   have HEV:Hid (∀ V:World,Below wr.heap.size wr V→EdgesOf V.heap.size (.slice ao es.length ec) es V):=zh fun V h=>(HE.out.below (HB.out.trans (h.mono hsr)) (zq _)).mono (by have:=h.size;omega)
   have HRV:Hid (∀ V:World,Below wr.heap.size wr V→RowOf Value.string V.heap.size (.slice a ns.length c) ns V):=zh fun V h=>by rw [← HNN.out];exact(HR.out.below (HB.out.trans (h.mono hsr)) (zq _)).mono (by have:=h.size;omega)
   refine z4j (fun listed a' W=>∃ (l2 l3 l5 l7 l8 l9 l10:Bool) (s5 s6 s19 s20 s22 s24 s25:Value),listed=#[true,true,l2,l3,true,l5,true,l7,l8,l9,l10]∧a'={ tmps:=#[.agg #[.slice a N c,.slice ao es.length ec],.pointer (some ⟨w.heap.size,0,none⟩),.slice none 0 0,.slice ba i bc,.int .i64 (i:Int),s5,s6,u7,u8,.slice (some ⟨w.heap.size+1,0,none⟩) 0 0,.int .i64 (i:Int),.pointer (some ⟨w.heap.size,0,none⟩),.slice a N c,.int .i64 (N:Int),.bool true,u15,u16,.agg #[.slice a N c,.slice ao es.length ec],.int .i64 (i:Int),s19,s20,.agg #[.slice a N c,.slice ao es.length ec],s22,.int .i64 (i:Int),s24,s25,u26,u27,u28,u29,u30,u31,u32,u33,u34,u35,u36,u37,u38,u39,u40,u41,u42,u43,u44,u45,u46,u47,u48,u49,undef],defers:=[] }∧GrpJ N es i wr.heap.size wr W l2 l3 l5 l7 l8 l9 l10 s5 s6 s19 s20 s22 s24 s25) ?step ?fin _ _ _ _ (by decide) ?start
   case start=>exact⟨false,false,false,false,false,false,false,_,_,_,_,_,_,_,rfl,rfl,⟨(Below.refl _ _).drew,zq _,fun h=>(by cases h),fun h=>(by cases h),fun h=>(by cases h),fun h=>(by cases h),fun h=>(by cases h),fun h=>(by cases h),fun h=>(by cases h)⟩⟩
   case step =>
    rintro listed a' W x ⟨l2,l3,l5,l7,l8,l9,l10,s5,s6,s19,s20,s22,s24,s25,rfl,rfl,hJ⟩ hx
    obtain⟨h1,h2,h3⟩:=z2x hx
    have hx11:x<11:=h1
    have hx:x=0∨x=1∨x=2∨x=3∨x=4∨x=5∨x=6∨x=7∨x=8∨x=9∨x=10:=by omega
    clear h1 hx11
    rcases hx with rfl | rfl | rfl | rfl | rfl | rfl | rfl | rfl | rfl | rfl | rfl
    ·cases h2
    ·cases h2
    ·obtain rfl:l2=false:=h2
     refine z0o rfl (fun K hK=>?_)
     have HJ:=zh hJ
     clear h3 hJ
     go_simp
     have k:=HJ.out.keep (z0h W (.cells #[.int .i64 (i:Int)] 3))
     exact hK.out _ _ ⟨HSW.out _ k.bel,true,l3,l5,l7,l8,l9,l10,_,_,_,_,_,_,_,rfl,rfl,⟨k.bel,k.hB,fun _=>zjc W i,k.m3,k.m5,k.m7,k.m8,k.m9,k.m10⟩⟩
    ·obtain rfl:l3=false:=h2
     obtain rfl:l2=true:=by
      cases l2 with
      | true=>rfl
      | false=>exact Bool.noConfusion (h3.symm.trans (by kernel_rfl:_=false))
     refine z0o rfl (fun K hK=>?_)
     have HMK:=zh (zc8 a N c (.slice ao es.length ec) s19 es [i] W HV.out (HEV.out W hJ.bel) (by simp) (hJ.m2 rfl) (by simpa using hlt))
     have HJ:=zh hJ
     clear h3 hJ
     go_simp
     refine HMK.out.mono ?_
     rintro e W' ⟨g,f,rfl,_,hF,hM,hb⟩
     have k:=HJ.out.keep hb
     exact hK.out _ _ ⟨HSW.out _ k.bel,true,true,l5,l7,l8,l9,l10,_,_,_,_,_,_,_,rfl,rfl,⟨k.bel,k.hB,k.m2,fun _=>⟨g,f,rfl,hF,hM⟩,k.m5,k.m7,k.m8,fun hl=>absurd (k.m9 hl).1 (by decide),k.m10⟩⟩
    ·cases h2
    ·obtain rfl:l5=false:=h2
     refine z0o rfl (fun K hK=>?_)
     have hrv:=zcq a c (.slice ao es.length ec) ns es W (HEV.out W hJ.bel) (HRV.out W hJ.bel) (by rw [← HNN.out];exact HV.out)
     rw [← HNN.out]at hrv
     have HRR:=zh hrv
     have HJ:=zh hJ
     clear h3 hJ hrv
     go_simp
     refine HRR.out.mono ?_
     rintro e W' ⟨ax,cx,vx,rfl,_,hex,hb⟩
     have k:=HJ.out.keep hb
     exact hK.out _ _ ⟨HSW.out _ k.bel,l2,l3,true,l7,l8,l9,l10,_,_,_,_,_,_,_,rfl,rfl,⟨k.bel,k.hB,k.m2,k.m3,fun _=>⟨ax,cx,vx,rfl,hex⟩,k.m7,k.m8,k.m9,k.m10⟩⟩
    ·cases h2
    ·obtain rfl:l7=false:=h2
     refine z0o rfl (fun K hK=>?_)
     have HJ:=zh hJ
     clear h3 hJ
     go_simp
     have k:=HJ.out.keep (z0h W (.cells #[.int .i64 (i:Int)] 3))
     exact hK.out _ _ ⟨HSW.out _ k.bel,l2,l3,l5,true,l8,l9,l10,_,_,_,_,_,_,_,rfl,rfl,⟨k.bel,k.hB,k.m2,k.m3,k.m5,fun _=>zjc W i,k.m8,k.m9,k.m10⟩⟩
    ·obtain rfl:l8=false:=h2
     obtain⟨rfl,rfl⟩:l5=true∧l7=true:=by
      cases l5<;>cases l7<;>first | exact⟨rfl,rfl⟩ | exact Bool.noConfusion (h3.symm.trans (by kernel_rfl:_=false))
     obtain⟨ax,cx,vx,hs22,hex⟩:=hJ.m5 rfl
     subst hs22
     refine z0o rfl (fun K hK=>?_)
     have HMK:=zh (zc8 ax N cx vx s24 (es.map swapE) [i] W (zes HV.out) hex (by simp) (hJ.m7 rfl) (by simpa using hlt))
     have HJ:=zh hJ
     clear h3 hJ hex
     go_simp
     refine HMK.out.mono ?_
     rintro e W' ⟨g,f,rfl,_,hF,hM,hb⟩
     have k:=HJ.out.keep hb
     exact hK.out _ _ ⟨HSW.out _ k.bel,l2,l3,true,true,true,l9,l10,_,_,_,_,_,_,_,rfl,rfl,⟨k.bel,k.hB,k.m2,k.m3,k.m5,k.m7,fun _=>⟨g,f,rfl,hF,hM⟩,k.m9,fun hl=>absurd (k.m10 hl).1 (by decide)⟩⟩
    ·obtain rfl:l9=false:=h2
     obtain⟨rfl,rfl,rfl⟩:l2=true∧l3=true∧l8=true:=by
      cases l2<;>cases l3<;>cases l8<;>first | exact⟨rfl,rfl,rfl⟩ | exact Bool.noConfusion (h3.symm.trans (by kernel_rfl:_=false))
     refine z0o rfl (fun K hK=>?_)
     have k:=hJ
     clear h3 hJ
     go_simp
     exact hK.out _ _ ⟨HSW.out _ k.bel,true,true,l5,l7,true,true,l10,_,_,_,_,_,_,_,rfl,rfl,⟨k.bel,k.hB,k.m2,k.m3,k.m5,k.m7,k.m8,fun _=>⟨rfl,rfl⟩,k.m10⟩⟩
    ·obtain rfl:l10=false:=h2
     obtain⟨rfl,rfl,rfl⟩:l3=true∧l8=true∧l9=true:=by
      cases l3<;>cases l8<;>cases l9<;>cases l2<;>cases l5<;>cases l7<;>first | exact⟨rfl,rfl,rfl⟩ | exact Bool.noConfusion (h3.symm.trans (by kernel_rfl:_=false))
     refine z0o rfl (fun K hK=>?_)
     have k:=hJ
     clear h3 hJ
     go_simp
     exact hK.out _ _ ⟨HSW.out _ k.bel,l2,true,l5,l7,true,true,true,_,_,_,_,_,_,_,rfl,rfl,⟨k.bel,k.hB,k.m2,k.m3,k.m5,k.m7,k.m8,k.m9,fun _=>⟨rfl,rfl⟩⟩⟩
   case fin =>
    rintro listed a' W ⟨l2,l3,l5,l7,l8,l9,l10,s5,s6,s19,s20,s22,s24,s25,rfl,rfl,hJ⟩ hr
    have q2:=z0j hr 2 (by kernel_rfl)
    obtain rfl:l2=true:=q2
    have q7:=z0j hr 7 (by kernel_rfl)
    obtain rfl:l7=true:=q7
    have q3:=z0j hr 3 (by kernel_rfl)
    obtain rfl:l3=true:=q3
    have q5:=z0j hr 5 (by kernel_rfl)
    obtain rfl:l5=true:=q5
    have q8:=z0j hr 8 (by kernel_rfl)
    obtain rfl:l8=true:=q8
    have q9:=z0j hr 9 (by kernel_rfl)
    obtain rfl:l9=true:=q9
    have q10:=z0j hr 10 (by kernel_rfl)
    obtain rfl:l10=true:=q10
    obtain⟨_,e5⟩:=hJ.m9 rfl
    obtain⟨_,e6⟩:=hJ.m10 rfl
    obtain⟨g3,f3,e20,hF3,hM3⟩:=hJ.m3 rfl
    obtain⟨g8,f8,e25,hF8,hM8⟩:=hJ.m8 rfl
    subst e5
    subst e6
    subst e20
    subst e25
    have hbW:=hJ.bel
    have hsW:=hJ.hB
    have HBW:=zh (HB.out.trans (hbW.mono hsr))
    have HOW:Hid (W.ownsRow w.heap.size 3 1 (.slice ba i bc) i (((List.range i).map (grpN N es)).map natC)):=zh (z1c HO.out (fun j hj=>hbW.block j (HO.out.lt j hj).2))
    have HGW:=zh ((hbW.block _ hgl).trans HG.out)
    have HF3:=zh hF3
    have HF8:=zh hF8
    have hf3l:=hM3.1
    have hf8l:=hM8.1
    have HCL:Hid (∀ k,k<N→(clG N es k == clG N es i)=(bD f3 k&&bD f8 k)):=zh (fun k hk=>by
     rw [Bool.eq_iff_iff,Bool.and_eq_true,beq_iff_eq,hM3.2,hM8.2,zbd hk hlt]
     constructor
     ·rintro⟨h1,h2⟩
      exact⟨⟨hk,i,by simp,h2⟩,hk,i,by simp,zfx h1⟩
     ·rintro⟨⟨_,x,hx,h1⟩,_,y,hy,h2⟩
      have hx:=List.mem_singleton.1 hx
      have hy:=List.mem_singleton.1 hy
      subst hx
      subst hy
      have:=zfx h2
      rw [zk2]at this
      exact⟨this,h1⟩)
    have hgN:W.cell? ⟨w.heap.size,0,none⟩=some (.slice a N c):=zw _ _ 0 _ _ _ HGW.out
    have hwN:IntKind.i64.wrap ((N:Int) - 1)=(N:Int) - 1:=IntWalk.i64_in _ (by omega)
    clear hJ hr hF3 hF8 hM3 hM8 hbW hg0 hg1 HO HG HB
    refine NoPanic.normal ?_
    go_wp2_with fail
    go_loopw [7,8] (fun s q wr=>∃ j:Nat,j≤N∧q=.int .i64 ((j:Int) - 1)∧s=.int .i64 (grpK N es i j:Int)∧wr=W) (fun _ q _=>(intOf q+1).toNat)
    case atStart=>exact⟨N,zq _,rfl,by rw [zl0],rfl⟩
    case round =>
     obtain⟨j,hj,hq,rfl,rfl⟩:=hrel
     have hgk:=zih (es:=es) hlt j
     cases j with
     | zero =>
      rw [show((0:Nat):Int) - 1=-1 from by decide]at hq
      subst hq
      have HOA:Hid (((List.range (i+1)).map (grpN N es)).map natC=((List.range i).map (grpN N es)).map natC++[natC (grpN N es i)]):=zh (by rw [List.range_succ,List.map_append,List.map_append];rfl)
      rw [zbv]
      go_wp2_with (at_builtin;refine wpList_append_own _ rfl _ _ 109 rfl w.heap.size 3 j0 (.int .i64 0) 1 8 underlying109 hj0' hy0 hy1 hy2 rfl (by decide) _ i _ (by rfl) (HOW.out.alloc _) ⟨wr.heap.size,0,none⟩ 1 1 [natC (grpN N es i)] (by rfl) (by rfl) (World.news_of_block (cs:=#[natC (grpN N es i)]) (t:=3) (fr:=(0,0)) (heap_alloc_new wr _)) (by simp [Value.oneCell']) (by unfold maxLen;omega) (by omega) (by simp;have:=HBW.out.size;omega) ?_;intro v' w5 hown' hgrow _)
      go_roundw
      case rel =>
       refine⟨i+1,by omega,by go_num,zh (by rw [HOA.out];exact hown'),zh ?_,zh ((HBW.out.alloc (by have:=HBW.out.size;omega) _).grown hgrow (by simp;have:=HBW.out.size;omega) (fun b hb=>(HOW.out.lt b hb).1))⟩
       refine(hgrow.block _ (by rw [World.size_alloc];have:=HBW.out.size;omega) (z4l HGW.out HOW.out (by decide))).trans ((Below.heap_alloc _ _ _ (by omega)).trans HGW.out)
      case measure=>simp [intOf];omega
     | succ k =>
      rw [show((k+1:Nat):Int) - 1=(k:Int)from by omega]at hq
      subst hq
      have hk0:(0:Int)≤(k:Int):=by omega
      have hk1:(k:Int)<(N:Int):=by omega
      have hwk:IntKind.i64.wrap ((k:Int) - 1)=(k:Int) - 1:=IntWalk.i64_in _ (by omega)
      have hbd:∀ f:List Bool,f.length=N→f[k]? = some (bD f k):=fun f hf=>by
       unfold bD
       rw [zg,ze (by omega)]
       rfl
      have hc3:=HF3.out.cell k _ (hbd f3 hf3l)
      have hc8:=HF8.out.cell k _ (hbd f8 hf8l)
      have hst:=zii (N:=N) (es:=es) (i:=i) (j:=k) (by omega)
      rw [HCL.out k (by omega)]at hst
      have HST:=zh hst
      clear hst
      generalize bD f3 k=y3 at *
      generalize bD f8 k=y8 at *
      cases y3<;>cases y8
      all_goals
       go_wp2_with fail
       go_roundw
       case rel=>exact⟨k,by omega,rfl,by rw [HST.out];rfl,trivial⟩
       case measure=>(show((k:Int) - 1+1).toNat<((k:Int)+1).toNat;omega)
section
open Go.Proofs.Tryz
theorem zd5 {l m:List Nat}(h:l.Pairwise (· < ·))(k:m.Pairwise (· < ·))(e:∀ a,a∈l ↔ a∈m):l=m :=
 ((List.perm_ext_iff_of_nodup (h.imp fun h=>Nat.ne_of_lt h) (k.imp fun h=>Nat.ne_of_lt h)).2 e).eq_of_pairwise (fun a b _ _ h1 h2=>by omega) h k
theorem z3a (N:Nat)(es:List (Int×Int))(p:Nat):(nodesG N es).getD p []=(List.range N).filter fun k=>clG N es k == p:=by
 refine zd5 (z61 N es p) (List.Pairwise.filter _ List.pairwise_lt_range) fun a=>?_
 rw [z0s,List.mem_filter,List.mem_range,beq_iff_eq]
def hdG (N:Nat)(es:List (Int×Int))(p:Nat):Nat:=((List.range N).find? fun k=>clG N es k == p).getD 0
theorem z20 {N:Nat}{es:List (Int×Int)}{p:Nat}(hp:p<(nodesG N es).length):((nodesG N es).getD p []).head? = some (hdG N es p)∧hdG N es p<N∧clG N es (hdG N es p)=p:=by
 obtain⟨a,ha,_⟩:=z5a hp
 have h1:=ha
 rw [z3a,List.head?_filter]at h1
 have h2:hdG N es p=a:=by unfold hdG;rw [h1];rfl
 rw [h2]
 exact⟨ha,(z0s.1 (List.mem_of_mem_head? ha)).1,(z0s.1 (List.mem_of_mem_head? ha)).2⟩
theorem hdG_lt {N:Nat}{es:List (Int×Int)}{p q:Nat}(hq:q<(nodesG N es).length)(h:p<q):hdG N es p<hdG N es q:=by
 obtain⟨a,ha,hl⟩:=z5a (N:=N) (es:=es) (p:=p) (by omega)
 have h1:=(z20 (N:=N) (es:=es) (p:=p) (by omega)).1
 rw [ha]at h1
 have h2:=Option.some.inj h1
 rw [← h2]
 have h3:=z20 hq
 exact hl q h _ (z0s.2 ⟨h3.2.1,h3.2.2⟩)
theorem z1z {N:Nat}{es:List (Int×Int)}{i:Nat}(hi:i<N):grpN N es i=hdG N es (clG N es i):=by
 unfold grpN hdG
 rw [← List.range_eq_range']
 cases e:(List.range N).find? (fun k=>clG N es k == clG N es i)with
 | some k=>rfl
 | none =>
  have:=List.find?_eq_none.1 e i (List.mem_range.2 hi)
  simp at this
theorem z3q {N:Nat}{es:List (Int×Int)}{i j:Nat}(hi:i<N)(hj:j<N):grpN N es i=grpN N es j ↔ clG N es i=clG N es j:=by
 rw [z1z hi,z1z hj]
 refine⟨fun h=>?_,fun h=>by rw [h]⟩
 have h1:=(z20 (z1h (es:=es) hi)).2.2
 have h2:=(z20 (z1h (es:=es) hj)).2.2
 rw [← h1,← h2,h]
def rdyN (N:Nat)(es:List (Int×Int))(fl:List Bool)(i:Nat):Bool:=(grpN N es i == i&&!bD fl i)&&es.all fun x=>decide (grpN N es x.1.toNat≠i)||(decide (grpN N es x.2.toNat=i)||bD fl (grpN N es x.2.toNat))
def rcStepN (N:Nat)(es:List (Int×Int))(st:List Bool×List (List Nat)):List Bool×List (List Nat) :=
 match (List.range N).find? (rdyN N es st.1)with
 | some n=>(st.1.set n true,st.2++[(List.range N).filter fun i=>grpN N es i == n])
 | none=>st
def rcRunN (N:Nat)(es:List (Int×Int)):Nat→List Bool×List (List Nat)
 | 0=>(List.replicate N false,[])
 | k+1=>rcStepN N es (rcRunN N es k)
theorem z85 {N:Nat}{es:List (Int×Int)}(hv:validG N es=true):∀ k,k≤(nodesG N es).length→(rcRunN N es k).1.length=N∧(∀ n,n<N→(bD (rcRunN N es k).1 n=true ↔ clG N es n∈(listF (condG N es)).take k∧grpN N es n=n)) ∧
  (rcRunN N es k).2=((listF (condG N es)).take k).map (fun c=>(nodesG N es).getD c []) ∧
  (∀ i,i<N→(rdyN N es (rcRunN N es k).1 i=true ↔ grpN N es i=i∧clG N es i ∉ (listF (condG N es)).take k∧∀ d∈(condG N es).getD (clG N es i) [],d∈(listF (condG N es)).take k)):=by
 intro k
 have key:∀ (fl:List Bool) (P:List Nat),(∀ n,n<N→(bD fl n=true ↔ clG N es n∈P∧grpN N es n=n))→∀ i,i<N→(rdyN N es fl i=true ↔ grpN N es i=i∧clG N es i ∉ P∧∀ d∈(condG N es).getD (clG N es i) [],d∈P):=fun fl P hfl i hi=>by
  unfold rdyN
  rw [Bool.and_eq_true,Bool.and_eq_true,beq_iff_eq,Bool.not_eq_true',List.all_eq_true]
  have hlist:∀ n,n<N→(bD fl (grpN N es n)=true ↔ clG N es n∈P):=fun n hn=>by
   have h1:=z20 (z1h (es:=es) hn)
   have h2:=z1z (es:=es) hn
   have h3:clG N es (grpN N es n)=clG N es n:=by rw [h2];exact h1.2.2
   have h4:grpN N es n<N:=by rw [h2];exact h1.2.1
   have h5:grpN N es (grpN N es n)=grpN N es n:=(z3q h4 hn).2 h3
   rw [hfl _ h4,h3]
   exact⟨fun h=>h.1,fun h=>⟨h,h5⟩⟩
  constructor
  ·rintro⟨⟨h1,h2⟩,h3⟩
   have h4:clG N es i ∉ P:=fun hm=>by
    have:=(hfl i hi).2 ⟨hm,h1⟩
    rw [h2]at this
    cases this
   refine⟨h1,h4,fun d hd=>?_⟩
   obtain⟨n,j,hn,hj,hp,hdj,hne⟩:=z1i.1 hd
   have hjN:j<N:=by have:=z1u (N:=N) (es:=es) n j hj;rwa [z05]at this
   have h5:=h3 _ (z1v.1 hj).2.2
   simp only [Int.toNat_natCast,Bool.or_eq_true,decide_eq_true_iff]at h5
   rcases h5 with h5 | h5 | h5
   ·exact absurd ((z3q hn hi).2 hp |>.trans h1) h5
   ·have h6:=(z3q hjN hi).1 (h5.trans h1.symm)
    exact absurd (h6.symm.trans hdj) hne
   ·rw [← hdj]
    exact(hlist j hjN).1 h5
  ·rintro⟨h1,h2,h3⟩
   refine⟨⟨h1,?_⟩,fun x hx=>?_⟩
   ·cases e:bD fl i with
    | false=>rfl
    | true=>exact absurd ((hfl i hi).1 e).1 h2
   ·have hed:=z11 hv hx
    obtain⟨x1,x2⟩:=x
    simp only at hed
    obtain⟨n,rfl⟩:∃ n:Nat,x1=(n:Int):=⟨x1.toNat,by omega⟩
    obtain⟨j,rfl⟩:∃ j:Nat,x2=(j:Int):=⟨x2.toNat,by omega⟩
    have hn:n<N:=by omega
    have hj:j<N:=by omega
    simp only [Int.toNat_natCast,Bool.or_eq_true,decide_eq_true_iff]
    by_cases e1:grpN N es n=i
    ·by_cases e2:grpN N es j=i
     ·exact .inr (.inl e2)
     ·have c1:clG N es n=clG N es i:=(z3q hn hi).1 (e1.trans h1.symm)
      have c2:clG N es i≠clG N es j:=fun e=>e2 (((z3q hj hi).2 e.symm).trans h1)
      exact .inr (.inr ((hlist j hj).2 (h3 _ (z1i.2 ⟨n,j,hn,z1v.2 ⟨hn,hj,hx⟩,c1,rfl,c2⟩))))
    ·exact .inl e1
 induction k with
 | zero =>
  intro _
  have h0:∀ n,bD (rcRunN N es 0).1 n=false:=fun n=>by
   show(List.replicate N false).getD n false=false
   rw [zg,List.getElem?_replicate]
   split<;>rfl
  have h1:∀ n,n<N→(bD (rcRunN N es 0).1 n=true ↔ clG N es n∈(listF (condG N es)).take 0∧grpN N es n=n):=fun n hn=>by rw [h0];simp
  exact⟨by simp [rcRunN],h1,by simp [rcRunN],key _ _ h1⟩
 | succ k ih =>
  intro hk
  obtain⟨i1,i2,i3,i4⟩:=ih (by omega)
  have hlen:(listF (condG N es)).length=(nodesG N es).length:=by rw [z0x,(z0p N es).1]
  have hkl:k<(listF (condG N es)).length:=by omega
  have ho:=z6s N es
  have hget:(listF (condG N es))[k]? = some (listF (condG N es))[k]:=by simp [hkl]
  have htk:=zs hkl
  obtain⟨c,hc⟩:∃ c,c=(listF (condG N es))[k]:=⟨_,rfl⟩
  rw [← hc]at hget htk
  have hcM:c<(nodesG N es).length:=(z0q c).1 (by rw [hc];exact List.getElem_mem _)
  obtain⟨_,hN,hcl⟩:=z20 hcM
  have hgh:grpN N es (hdG N es c)=hdG N es c:=by rw [z1z hN,hcl]
  have hcn:c ∉ (listF (condG N es)).take k:=fun hm=>by
   have h2:((listF (condG N es)).take (k+1)).Nodup:=List.Nodup.sublist (List.take_sublist _ _) ho.nod
   rw [htk]at h2
   exact(List.nodup_append.1 h2).2.2 _ hm _ (by simp) rfl
  have hfind:(List.range N).find? (rdyN N es (rcRunN N es k).1)=some (hdG N es c):=by
   rw [List.find?_eq_some_iff_append]
   refine⟨(i4 _ hN).2 ⟨hgh,by rw [hcl];exact hcn,by rw [hcl];exact ho.top k c hget⟩,List.range (hdG N es c),(List.range (N - hdG N es c - 1)).map (·+(hdG N es c+1)),?_,fun y hy=>?_⟩
   ·have e:N=hdG N es c+(1+(N - hdG N es c - 1)):=by omega
    conv=>lhs;rw [e,List.range_add,List.range_add]
    simp [List.range_succ,Function.comp_def,Nat.add_comm,Nat.add_left_comm]
    intro a _
    omega
   ·have hyl:=List.mem_range.1 hy
    cases er:rdyN N es (rcRunN N es k).1 y with
    | false=>rfl
    | true =>
     obtain⟨r1,r2,r3⟩:=(i4 y (by omega)).1 er
     have hyN:y<N:=by omega
     have hlt:clG N es y<c:=by
      rcases Nat.lt_trichotomy (clG N es y) c with h | h | h
      ·exact h
      ·have:=z1z (es:=es) hyN
       rw [h]at this
       omega
      ·have h1:=hdG_lt (z1h (es:=es) hyN) h
       rw [← z1z hyN]at h1
       omega
     obtain⟨j,hj,hjn⟩:=ho.least k c hget (clG N es y) hlt r2
     exact absurd (r3 j hj) hjn
  have hrun:rcRunN N es (k+1)=((rcRunN N es k).1.set (hdG N es c) true,(rcRunN N es k).2++[(List.range N).filter fun i=>grpN N es i == hdG N es c]):=by
   show rcStepN N es (rcRunN N es k)=_
   unfold rcStepN
   rw [hfind]
  have hnew:∀ n,n<N→(bD (rcRunN N es (k+1)).1 n=true ↔ clG N es n∈(listF (condG N es)).take (k+1)∧grpN N es n=n):=fun n hn=>by
   rw [hrun,htk,List.mem_append,List.mem_singleton]
   show bD ((rcRunN N es k).1.set (hdG N es c) true) n=true ↔ _
   unfold bD
   by_cases e:n=hdG N es c
   ·subst e
    rw [zg,List.getElem?_set_self (by rw [i1];exact hn)]
    exact⟨fun _=>⟨.inr hcl,hgh⟩,fun _=>rfl⟩
   ·rw [zg,List.getElem?_set_ne (Ne.symm e),← zg]
    refine(i2 n hn).trans ⟨fun h=>⟨.inl h.1,h.2⟩,fun h=>⟨h.1.resolve_right fun e2=>e ?_,h.2⟩⟩
    have:=z1z (es:=es) hn
    rw [e2,h.2]at this
    exact this
  refine⟨by rw [hrun];show(List.set _ _ _).length=_;rw [List.length_set];exact i1,hnew,?_,key _ _ hnew⟩
  rw [hrun,htk,List.map_append]
  show(rcRunN N es k).2++_=_
  rw [i3]
  congr 1
  show [_]=[(nodesG N es).getD c []]
  rw [z3a]
  congr 1
  refine List.filter_congr fun i hi=>?_
  have hiN:=List.mem_range.1 hi
  rw [Bool.eq_iff_iff,beq_iff_eq,beq_iff_eq]
  constructor
  ·intro h
   have:=(z3q hiN hN).1 (h.trans hgh.symm)
   rw [this,hcl]
  ·intro h
   rw [z1z hiN,h]
theorem z9k {N:Nat}{es:List (Int×Int)}(hv:validG N es=true):(rcRunN N es (nodesG N es).length).2=compsG N es∧∀ i,i<N→rdyN N es (rcRunN N es (nodesG N es).length).1 i=false:=by
 obtain⟨_,_,h3,h4⟩:=z85 hv _ (zq _)
 have hlen:(listF (condG N es)).length=(nodesG N es).length:=by rw [z0x,(z0p N es).1]
 rw [← hlen,List.take_length]at h3 h4
 rw [← hlen]
 refine⟨h3,fun i hi=>?_⟩
 cases e:rdyN N es (rcRunN N es (listF (condG N es)).length).1 i with
 | false=>rfl
 | true=>exact absurd ((z0q _).2 (z1h hi)) ((h4 i hi).1 e).2.1
end
end Go.Proofs.YtapbhoodgnmnkaaGreatDoor
