/- Laws and contracts. -/
import Derived.Test.YtapbhoodgnmnkaaGreatDoorJM
set_option linter.unusedVariables false
set_option linter.unusedSimpArgs false
set_option maxRecDepth 100000
set_option maxHeartbeats 32000000
namespace Go.Proofs.YtapbhoodgnmnkaaGreatDoor
open Go.Proofs.Tryz
abbrev bD (d:List Bool)(a:Nat):Bool:=d.getD a false
def lrdy (S:List (List Nat))(done:List Bool)(k:Nat):Bool:=!bD done k&&!((S.getD k []).any fun j=>!bD done j)
def lpick (S:List (List Nat))(done:List Bool):Nat:=((List.range S.length).find? (lrdy S done)).getD 0
def lstep (S:List (List Nat))(st:List Bool×List Nat):List Bool×List Nat:=(st.1.set (lpick S st.1) true,st.2++[lpick S st.1])
def lrun (S:List (List Nat)):Nat→List Bool×List Nat
 | 0=>(List.replicate S.length false,[])
 | k+1=>lstep S (lrun S k)
def listF (S:List (List Nat)):List Nat:=(lrun S S.length).2
theorem z4q (S:List (List Nat)):∀ k,(lrun S k).1.length=S.length∧(lrun S k).2.length=k
 | 0=>by simp [lrun]
 | k+1=>by
  obtain⟨h1,h2⟩:=z4q S k
  unfold lrun lstep
  simp [h1,h2]
theorem zkg (S:List (List Nat))(done:List Bool)(h:0<S.length):lpick S done<S.length:=by
 unfold lpick
 cases e:(List.range S.length).find? (lrdy S done)with
 | none=>exact h
 | some x=>exact List.mem_range.1 (List.mem_of_find?_eq_some e)
theorem zi4 (S:List (List Nat)):∀ k,k≤S.length→∀ x∈(lrun S k).2,x<S.length
 | 0,_,x,hx=>by simp [lrun]at hx
 | k+1,hk,x,hx=>by
  unfold lrun lstep at hx
  simp only [List.mem_append,List.mem_singleton]at hx
  rcases hx with hx | rfl
  ·exact zi4 S k (by omega) x hx
  ·exact zkg S _ (by omega)
theorem z1m (S:List (List Nat)):(listF S).length=S.length:=(z4q S _).2
theorem zet (S:List (List Nat)):∀ x∈listF S,x<S.length:=zi4 S _ (zq _)
def NoneRdy (S:List (List Nat))(done:List Bool)(k:Nat):Prop:=∀ j,j<k→lrdy S done j=false
theorem zkf {S:List (List Nat)}{done:List Bool}{k:Nat}(hk:k<S.length)(hn:NoneRdy S done k)(hr:lrdy S done k=true):lpick S done=k:=by
 unfold lpick
 have:(List.range S.length).find? (lrdy S done)=some k:=by
  rw [List.find?_eq_some_iff_append]
  refine⟨hr,List.range k,(List.range (S.length - k - 1)).map (·+(k+1)),?_,fun a ha=>?_⟩
  ·have e:S.length=k+(1+(S.length - k - 1)):=by omega
   rw [e,List.range_add,List.range_add]
   have e2:k+(1+(S.length - k - 1)) - k - 1=S.length - k - 1:=by omega
   simp [List.range_succ,Function.comp_def,Nat.add_comm,Nat.add_left_comm]
  ·rw [hn a (List.mem_range.1 ha)];rfl
 rw [this];rfl
theorem zfy {S:List (List Nat)}{done:List Bool}(hn:NoneRdy S done S.length):lpick S done=0:=by
 unfold lpick
 have:(List.range S.length).find? (lrdy S done)=none:=by
  rw [List.find?_eq_none]
  intro x hx
  rw [hn x (List.mem_range.1 hx)];simp
 rw [this];rfl
section
open Go.Proofs.Tryz Go Go.RowKit
def vlen:Value→Nat
 | .slice _ n _=>n
 | _=>0
theorem zad {W:World}{B e s n:Nat}{v:Value}{xs:List Value}(h:W.ownsRow B e s v n xs):vlen v=n:=by
 obtain⟨a,c,rfl⟩:=z05 h
 rfl
theorem zgj {B:Nat}{v:Value}{l:List Nat}{W:World}(h:RowOf natC B v l W):RowOf intC B v (l.map (fun n:Nat=>(n:Int))) W:=by
 rcases h with ⟨rfl,h⟩ | ⟨b,off,cap,rfl,hb,h⟩
 ·exact .inl ⟨rfl,h⟩
 ·refine .inr ⟨b,off,cap,by rw [List.length_map],hb,fun i x hx=>?_⟩
  rw [List.getElem?_map]at hx
  cases e:l[i]? with
  | none=>rw [e]at hx;cases hx
  | some y=>rw [e]at hx;cases hx;exact h i y e
theorem zdd (j g N B:Nat)(done:List Bool)(w:World)(hd:done.length=N)(hj:j<N)(hx:w.cell? ⟨B,0,none⟩=some (.slice (some ⟨g,0,none⟩) N N))(hf:Flags w g done) :
  Calls prog 96 #[natC j,.pointer (some ⟨B,0,none⟩)] w fun e w'=>e=.returned (.bool (!bD done j))∧w=w':=by
 have hj0:(0:Int)≤(j:Int):=by omega
 have hj1:(j:Int)<(N:Int):=by omega
 have hc:=hf.cell j done[j] (by simp [hd,hj])
 have e:bD done j=done[j]:=by unfold bD;rw [zg,ze (by omega)];rfl
 rw [e]
 generalize done[j]=b at *
 clear hf e
 cases b with
 | true =>
  go_enter func96,ntmps96
  go_wp2
  go_ret
  exact⟨rfl,rfl⟩
 | false =>
  go_enter func96,ntmps96
  go_wp2
  go_ret
  exact⟨rfl,rfl⟩
theorem z8k (v:Value)(S:List (List Nat))(w:World)(hR:RowsOf w.heap.size v S w)(hS:S.length≤1000000)(hSl:∀ a,(S.getD a []).length≤1000000000)(hSk:∀ a,∀ k∈S.getD a [],k<S.length) :
  Calls prog 63 #[v] w fun e w'=>∃ u,e=.returned u∧w'.ownsRow w.heap.size 3 1 u (listF S).length ((listF S).map natC)∧Below w.heap.size w w':=by
 have hv:∃ a c,v=.slice a S.length c:=by
  rcases hR with ⟨rfl,a,c,rfl⟩ | ⟨b,off,cap,rfl,_⟩
  ·exact⟨a,c,rfl⟩
  ·exact⟨_,cap,rfl⟩
 obtain⟨va,vc,rfl⟩:=hv
 have hmk:=zg0 S.length (by omega)
 have HR:=zh hR
 have HSK:=zh hSk
 have HSL:=zh hSl
 clear hR hSl hSk
 obtain⟨i0,hi0',hz0,hz1,hz2⟩:=info_parts z1l
 go_enter func63,ntmps63
 go_wp2_with fail
 clear hmk
 have hF0:Flags ((w.alloc (.cells (Array.replicate S.length (.bool false)) 4)).alloc (.cells #[.slice (some ⟨w.heap.size,0,none⟩) S.length S.length] 116)) w.heap.size (List.replicate S.length false):=by
  unfold Flags
  refine(Below.heap_alloc _ _ _ (by simp)).trans ((zn w _).trans ?_)
  simp
 have hX0:Boxed ((w.alloc (.cells (Array.replicate S.length (.bool false)) 4)).alloc (.cells #[.slice (some ⟨w.heap.size,0,none⟩) S.length S.length] 116)) (w.heap.size+1) 116 (.slice (some ⟨w.heap.size,0,none⟩) S.length S.length):=by
  have:=Boxed.new (w.alloc (.cells (Array.replicate S.length (.bool false)) 4)) 116 (.slice (some ⟨w.heap.size,0,none⟩) S.length S.length)
  rwa [World.size_alloc]at this
 have hB0:Below w.heap.size w ((w.alloc (.cells (Array.replicate S.length (.bool false)) 4)).alloc (.cells #[.slice (some ⟨w.heap.size,0,none⟩) S.length S.length] 116)):=((Below.refl _ _).alloc (zq _) _).alloc (by simp) _
 go_loopw [4] (fun o wr=>∃ k:Nat,k≤S.length∧Hid (wr.ownsRow w.heap.size 3 1 o k ((lrun S k).2.map natC))∧Hid (Flags wr w.heap.size (lrun S k).1)∧Hid (Boxed wr (w.heap.size+1) 116 (.slice (some ⟨w.heap.size,0,none⟩) S.length S.length))∧Hid (Below w.heap.size w wr)) (fun o _=>S.length - vlen o)
 case atStart=>exact⟨0,by omega,zh (World.ownsRow_nil _ _ _ _),zh hF0,zh hX0,zh hB0⟩
 case round =>
  clear hF0 hX0 hB0
  obtain⟨k,hk,HO0,HF0,HX0,HB0⟩:=hrel
  obtain⟨oa,oc,rfl⟩:=z05 HO0.out
  by_cases hlt:k<S.length
  ·have hkl:(k:Int)<(S.length:Int):=by omega
   have hdl:=(z4q S k).1
   go_wp2_with fail
   obtain⟨wo,rfl⟩:∃ wo:World,wo=wr:=⟨_,rfl⟩
   go_loopw [5,17] (fun n5 q wr=>n5=.int .i64 0∧∃ j:Nat,j≤S.length∧q=.int .i64 j∧Hid (NoneRdy S (lrun S k).1 j)∧Hid (wr.ownsRow w.heap.size 3 1 (.slice oa k oc) k ((lrun S k).2.map natC))∧Hid (Flags wr w.heap.size (lrun S k).1)∧Hid (Boxed wr (w.heap.size+1) 116 (.slice (some ⟨w.heap.size,0,none⟩) S.length S.length))∧Hid (Below w.heap.size w wr)) (fun _ q _=>S.length - (intOf q).toNat)
   case atStart=>exact⟨rfl,0,by omega,rfl,zh (fun j hj=>by omega),HO0,HF0,HX0,HB0⟩
   case round =>
    clear HO0 HF0 HX0 HB0
    obtain⟨rfl,j,hj,rfl,HNR,HO,HF,HX,HB⟩:=hrel
    by_cases hjl:j<S.length
    ·have hj0:(0:Int)≤(j:Int):=by omega
     have hj1:(j:Int)<(S.length:Int):=by omega
     have hcx:=HX.out.cell
     have hcf:=HF.out.cell j (lrun S k).1[j] (by simp [hdl,hjl])
     have ebd:bD (lrun S k).1 j=(lrun S k).1[j]:=by unfold bD;rw [zg,ze (by omega)];rfl
     rw [← ebd]at hcf
     clear ebd
     have HRR:=(HR.out.below HB.out (zq _))
     obtain⟨b,off,cap,hva,hbw,hrow⟩:∃ b off cap,(.slice va S.length vc:Value)=.slice (some ⟨b,off,none⟩) S.length cap∧b<w.heap.size∧∀ i l,S[i]? = some l→∃ r,wr.cell? ⟨b,off+i,none⟩=some r∧RowOf natC w.heap.size r l wr:=by
      rcases HRR with ⟨h,_⟩ | h
      ·rw [h]at hjl;simp at hjl
      ·exact h
     cases hva
     have hgS:S.getD j []=S[j]:=by rw [zg,ze hjl];rfl
     obtain⟨r,hcr,hrr⟩:=hrow j (S.getD j []) (by rw [hgS];simp)
     obtain⟨lj,hlj⟩:∃ lj,lj=S.getD j []:=⟨_,rfl⟩
     have hskj:=HSK.out j
     have hslj:=HSL.out j
     rw [← hlj]at hrr hskj hslj
     have HLJ:=zh hlj
     have hpd:PredI 96 #[.pointer (some ⟨w.heap.size+1,0,none⟩)] (lj.map (fun n:Nat=>(n:Int))) (fun x=>!bD (lrun S k).1 x.toNat) wr:=by
      intro W x hx hW
      obtain⟨y,hy,rfl⟩:=List.mem_map.1 hx
      have hxl:=HX.out.lt
      refine(zdd y w.heap.size S.length (w.heap.size+1) (lrun S k).1 W hdl (hskj y hy) ?_ ?_).mono ?_
      ·exact(hW.cell (p:=⟨w.heap.size+1,0,none⟩) (by show w.heap.size+1<_;omega)).trans hcx
      ·exact(hW.block _ (by omega)).trans HF.out
      ·rintro e w' ⟨rfl,rfl⟩
       exact⟨rfl,hW⟩
     have hhas:=zlv 96 _ (enters_of func96 (by kernel_rfl) rfl) _ r _ wr (by rw [List.length_map];omega) ((zgj hrr).mono (by have:=HB.out.size;omega)) hpd
     have hany:(lj.map (fun n:Nat=>(n:Int))).any (fun x=>!bD (lrun S k).1 x.toNat)=lj.any fun y=>!bD (lrun S k).1 y:=by rw [List.any_map];rfl
     rw [hany]at hhas
     obtain⟨ra,rc,rfl,_⟩:=z01 hrr
     have HHAS:=zh hhas
     have HLR:Hid (lrdy S (lrun S k).1 j=(!bD (lrun S k).1 j&&!(lj.any fun y=>!bD (lrun S k).1 y))):=zh (by rw [hlj];rfl)
     clear hhas hpd hany hrow hrr HRR hgS hlj hskj hslj
     generalize bD (lrun S k).1 j=dj at *
     generalize (lj.any fun y=>!bD (lrun S k).1 y)=qj at *
     have HNX:Hid (lrdy S (lrun S k).1 j=false→NoneRdy S (lrun S k).1 (j+1)):=zh fun h i hi=>by
      by_cases e:i=j
      ·rw [e];exact h
      ·exact HNR.out i (by omega)
     cases dj with
     | true =>
      go_wp2_with fail
      go_roundw
      case rel=>exact⟨rfl,j+1,by omega,by go_num,zh (HNX.out (by rw [HLR.out];rfl)),HO,HF,HX,HB⟩
      case measure=>simp [intOf];omega
     | false =>
      cases qj with
      | true =>
       go_wp2_with fail
       refine HHAS.out.mono ?_
       rintro e w5 ⟨rfl,hb5⟩
       go_wp2_with fail
       go_roundw
       case rel =>
        refine⟨rfl,j+1,by omega,by go_num,zh (HNX.out (by rw [HLR.out];rfl)),zh (z1p HO.out (fun i hi=>hb5.block i (HO.out.lt i hi).2)),zh ((hb5.block _ (by have:=HX.out.lt;omega)).trans HF.out),zh ((hb5.block _ HX.out.lt).trans HX.out),zh (HB.out.trans (hb5.mono HB.out.size))⟩
       case measure=>simp [intOf];omega
      | false =>
       have HST:Hid (lrun S (k+1)=((lrun S k).1.set j true,(lrun S k).2++[j])):=zh (by
        show lstep S (lrun S k)=_
        unfold lstep
        rw [zkf hjl HNR.out (by rw [HLR.out];rfl)])
       go_wp2_with fail
       refine HHAS.out.mono ?_
       rintro e w5 ⟨rfl,hb5⟩
       have HO2:Hid (w5.ownsRow w.heap.size 3 1 (.slice oa k oc) k ((lrun S k).2.map natC)):=zh (z1p HO.out (fun i hi=>hb5.block i (HO.out.lt i hi).2))
       have HF2:Hid (Flags w5 w.heap.size (lrun S k).1):=zh ((hb5.block _ (by have:=HX.out.lt;omega)).trans HF.out)
       have HX2:Hid (Boxed w5 (w.heap.size+1) 116 (.slice (some ⟨w.heap.size,0,none⟩) S.length S.length)):=zh ((hb5.block _ HX.out.lt).trans HX.out)
       have HB2:Hid (Below w.heap.size w w5):=zh (HB.out.trans (hb5.mono HB.out.size))
       clear HO HF HX HB hcx hcf hcr hb5
       have HO:=HO2
       have HF:=HF2
       have HX:=HX2
       have HB:=HB2
       clear HO2 HF2 HX2 HB2
       have hsb:=HB.out.size
       have hxl:=HX.out.lt
       have hnl:j<(lrun S k).1.length:=by rw [(z4q S k).1];omega
       have hcX:=HX.out.cell
       have hcF:=HF.out.cell j _ (ze hnl)
       have hfz:w5.frozen? ⟨w.heap.size,j,none⟩=false:=frozen_of_row _ _ j _ _ HF.out
       have hn0:(0:Int)≤((j:Nat):Int):=by omega
       have hn1:((j:Nat):Int)<(S.length:Int):=by omega
       have HO5:Hid (((w5.setCell ⟨w.heap.size,j,none⟩ (.bool true)).alloc (.cells #[natC j] 3)).ownsRow w.heap.size 3 1 (.slice oa k oc) k ((lrun S k).2.map natC)):=zh ((z1p HO.out (fun j hj=>heap_setCell_other _ _ _ _ (fun e=>by
        have e:j=w.heap.size:=e
        rw [e]at hj
        exact z6q HF.out HO.out (by decide) hj.symm))).alloc _)
       have hz5:(w5.setCell ⟨w.heap.size,j,none⟩ (.bool true)).heap.size=w5.heap.size:=by simp
       have HN5:Hid (∀ (t9:Nat) (u:Value),[natC j][t9]? = some u→((w5.setCell ⟨w.heap.size,j,none⟩ (.bool true)).alloc (.cells #[natC j] 3)).cell? ((⟨w5.heap.size,0,none⟩:Addr).add t9)=some u):=zh (by
        have:=World.news_of_block (cs:=#[natC j]) (t:=3) (fr:=(0,0)) (heap_alloc_new (w5.setCell ⟨w.heap.size,j,none⟩ (.bool true)) (.cells #[natC j] 3))
        rw [hz5]at this
        exact this)
       go_wp2_with (at_builtin;refine wpList_append_own _ rfl _ _ 109 rfl w.heap.size 3 i0 (.int .i64 0) 1 8 underlying109 hi0' hz0 hz1 hz2 rfl (by decide) _ _ _ (by rfl) HO5.out ⟨w5.heap.size,0,none⟩ 1 1 [natC j] (by rfl) (by rfl) HN5.out (by simp [Value.oneCell']) (by unfold maxLen;omega) (by omega) (by simp;omega) ?_;intro v' w7 hown' hgrow _)
       go_roundw
       case rel =>
        have hb5:Below w.heap.size w ((w5.setCell ⟨w.heap.size,j,none⟩ (.bool true)).alloc (.cells #[natC j] 3)):=(HB.out.setCell (by exact zq _) _).alloc (by rw [hz5];omega) _
        have hf5:Flags ((w5.setCell ⟨w.heap.size,j,none⟩ (.bool true)).alloc (.cells #[natC j] 3)) w.heap.size ((lrun S k).1.set j true):=(Below.heap_alloc _ _ _ (by rw [hz5];omega)).trans (HF.out.set j true)
        have hx5:Boxed ((w5.setCell ⟨w.heap.size,j,none⟩ (.bool true)).alloc (.cells #[natC j] 3)) (w.heap.size+1) 116 (.slice (some ⟨w.heap.size,0,none⟩) S.length S.length):=(Below.heap_alloc _ _ _ (by rw [hz5];have:=HX.out.lt;omega)).trans ((heap_setCell_other _ _ _ _ (fun e=>by have e:w.heap.size+1=w.heap.size:=e;omega)).trans HX.out)
        refine⟨k+1,by omega,zh (by rw [HST.out,List.map_append];exact hown'),zh ?_,zh ?_,zh (hb5.grown hgrow (by rw [World.size_alloc,hz5];omega) (fun j hj=>(HO5.out.lt j hj).1))⟩
        ·rw [HST.out]
         exact(hgrow.block _ (by have:=(zb hf5);exact this) (z6q hf5 HO5.out (by decide))).trans hf5
        ·exact(hgrow.block _ hx5.lt (z6q hx5 HO5.out (by decide))).trans hx5
       case measure =>
        have e9:=zad hown'
        simp only [vlen]at e9 ⊢
        omega
    ·have hjj:j=S.length:=by omega
     subst hjj
     have HST:Hid (lrun S (k+1)=((lrun S k).1.set 0 true,(lrun S k).2++[0])):=zh (by
      show lstep S (lrun S k)=_
      unfold lstep
      rw [zfy HNR.out])
     have hsb:=HB.out.size
     have hxl:=HX.out.lt
     have hnl:0<(lrun S k).1.length:=by rw [(z4q S k).1];omega
     have hcX:=HX.out.cell
     have hcF:=HF.out.cell 0 _ (ze hnl)
     have hfz:wr.frozen? ⟨w.heap.size,0,none⟩=false:=frozen_of_row _ _ 0 _ _ HF.out
     have hn0:(0:Int)≤((0:Nat):Int):=by omega
     have hn1:((0:Nat):Int)<(S.length:Int):=by omega
     have HO5:Hid (((wr.setCell ⟨w.heap.size,0,none⟩ (.bool true)).alloc (.cells #[natC 0] 3)).ownsRow w.heap.size 3 1 (.slice oa k oc) k ((lrun S k).2.map natC)):=zh ((z1p HO.out (fun j hj=>heap_setCell_other _ _ _ _ (fun e=>by
      have e:j=w.heap.size:=e
      rw [e]at hj
      exact z6q HF.out HO.out (by decide) hj.symm))).alloc _)
     have hz5:(wr.setCell ⟨w.heap.size,0,none⟩ (.bool true)).heap.size=wr.heap.size:=by simp
     have HN5:Hid (∀ (t9:Nat) (u:Value),[natC 0][t9]? = some u→((wr.setCell ⟨w.heap.size,0,none⟩ (.bool true)).alloc (.cells #[natC 0] 3)).cell? ((⟨wr.heap.size,0,none⟩:Addr).add t9)=some u):=zh (by
      have:=World.news_of_block (cs:=#[natC 0]) (t:=3) (fr:=(0,0)) (heap_alloc_new (wr.setCell ⟨w.heap.size,0,none⟩ (.bool true)) (.cells #[natC 0] 3))
      rw [hz5]at this
      exact this)
     go_wp2_with (at_builtin;refine wpList_append_own _ rfl _ _ 109 rfl w.heap.size 3 i0 (.int .i64 0) 1 8 underlying109 hi0' hz0 hz1 hz2 rfl (by decide) _ _ _ (by rfl) HO5.out ⟨wr.heap.size,0,none⟩ 1 1 [natC 0] (by rfl) (by rfl) HN5.out (by simp [Value.oneCell']) (by unfold maxLen;omega) (by omega) (by simp;omega) ?_;intro v' w7 hown' hgrow _)
     go_roundw
     case rel =>
      have hb5:Below w.heap.size w ((wr.setCell ⟨w.heap.size,0,none⟩ (.bool true)).alloc (.cells #[natC 0] 3)):=(HB.out.setCell (by exact zq _) _).alloc (by rw [hz5];omega) _
      have hf5:Flags ((wr.setCell ⟨w.heap.size,0,none⟩ (.bool true)).alloc (.cells #[natC 0] 3)) w.heap.size ((lrun S k).1.set 0 true):=(Below.heap_alloc _ _ _ (by rw [hz5];omega)).trans (HF.out.set 0 true)
      have hx5:Boxed ((wr.setCell ⟨w.heap.size,0,none⟩ (.bool true)).alloc (.cells #[natC 0] 3)) (w.heap.size+1) 116 (.slice (some ⟨w.heap.size,0,none⟩) S.length S.length):=(Below.heap_alloc _ _ _ (by rw [hz5];have:=HX.out.lt;omega)).trans ((heap_setCell_other _ _ _ _ (fun e=>by have e:w.heap.size+1=w.heap.size:=e;omega)).trans HX.out)
      refine⟨k+1,by omega,zh (by rw [HST.out,List.map_append];exact hown'),zh ?_,zh ?_,zh (hb5.grown hgrow (by rw [World.size_alloc,hz5];omega) (fun j hj=>(HO5.out.lt j hj).1))⟩
      ·rw [HST.out]
       exact(hgrow.block _ (by have:=(zb hf5);exact this) (z6q hf5 HO5.out (by decide))).trans hf5
      ·exact(hgrow.block _ hx5.lt (z6q hx5 HO5.out (by decide))).trans hx5
     case measure =>
      have e9:=zad hown'
      simp only [vlen]at e9 ⊢
      omega
  ·have hkk:k=S.length:=by omega
   subst hkk
   go_wp2_with fail
   go_ret
   refine⟨_,rfl,?_,HB0.out⟩
   rw [z1m]
   exact HO0.out
end
section
open Go.Proofs.Tryz Go Go.RowKit
abbrev tarG (N:Nat)(es:List (Int×Int)):TS:=tarjan (sucs N es)
def nodesG (N:Nat)(es:List (Int×Int)):List (List Nat):=(crun (tarG N es).co (tarG N es).ct N).2
def condG (N:Nat)(es:List (Int×Int)):List (List Nat):=couts (tarG N es).co (crun (tarG N es).co (tarG N es).ct N).1 (sucs N es) (nodesG N es).length N
def compsG (N:Nat)(es:List (Int×Int)):List (List Nat):=(listF (condG N es)).map fun c=>(nodesG N es).getD c []
def Numbered (N:Nat)(es:List (Int×Int)):Prop:=∀ n,n<N→0≤gD (tarG N es).co n∧gD (tarG N es).co n<((tarG N es).ct:Int)
theorem zj8 (N:Nat)(es:List (Int×Int)):(tarG N es).co.length=N∧(tarG N es).ct≤N:=by
 have h:=z6d (S:=sucs N es) z2c (sucs N es).length (zq _)
 rw [z08]at h
 have e:trun (sucs N es) N=tarG N es:=by unfold tarG tarjan trun;rw [z08]
 rw [e]at h
 exact⟨h.lc,by have:=h.ct;have:=h.nz;omega⟩
theorem z5h {N:Nat}{es:List (Int×Int)}(h:Numbered N es):(nodesG N es).length≤N∧∀ i,((nodesG N es).getD i []).length≤N:=by
 have:=z2e (N:=N) h N (zq _)
 exact⟨this.few,this.row⟩
theorem z0s (N:Nat)(es:List (Int×Int)):(condG N es).length=(nodesG N es).length∧∀ i,((condG N es).getD i []).length≤N*N:=z4g (fun a=>z50 a) N
theorem zju {co pl:List Int}{n M:Nat}{out:List (List Nat)}(h:∀ a,∀ k∈out.getD a [],k<M)(k:Nat)(hk:(gD pl (gD co k).toNat).toNat<M):∀ a,∀ j∈(cedge co pl n out k).getD a [],j<M:=by
 unfold cedge
 split
 ·exact h
 ·intro a j hj
  rw [z0m]at hj
  split at hj
  ·rcases List.mem_append.1 hj with hj | hj
   ·exact h _ j hj
   ·rw [List.mem_singleton]at hj;omega
  ·exact h a j hj
theorem zaq {co pl:List Int}{n M:Nat}:∀ (l:List Nat){out:List (List Nat)},(∀ a,∀ k∈out.getD a [],k<M)→(∀ k∈l,(gD pl (gD co k).toNat).toNat<M)→∀ a,∀ j∈(l.foldl (cedge co pl n) out).getD a [],j<M
 | [],_,h,_=>h
 | k::l,out,h,hl=>zaq l (zju h k (hl k (by simp))) (fun j hj=>hl j (by simp [hj]))
theorem zed {N:Nat}{es:List (Int×Int)}(h:Numbered N es):∀ a,∀ k∈(condG N es).getD a [],k<(condG N es).length:=by
 have hi:=z2e (N:=N) h N (zq _)
 have key:∀ m,m≤N→∀ a,∀ k∈(couts (tarG N es).co (crun (tarG N es).co (tarG N es).ct N).1 (sucs N es) (nodesG N es).length m).getD a [],k<(nodesG N es).length:=by
  intro m
  induction m with
  | zero =>
   intro _ a k hk
   have:(List.replicate (nodesG N es).length ([]:List Nat)).getD a []=[]:=by
    rw [zg,List.getElem?_replicate]
    split<;>rfl
   have hk2:k∈(List.replicate (nodesG N es).length ([]:List Nat)).getD a []:=hk
   rw [this]at hk2
   cases hk2
  | succ m ih =>
   intro hm
   rw [z3u]
   refine zaq _ (ih (by omega)) (fun k hk=>?_)
   have hkN:=z2c (N:=N) (es:=es) m k hk
   rw [z08]at hkN
   have h1:=hi.hi (gD (tarG N es).co k).toNat
   have h2:=hi.old k hkN
   unfold nodesG
   omega
 intro a k hk
 rw [(z0s N es).1]
 exact key N (zq _) a k hk
theorem z7s (nv ev:Value)(ns:List ByteArray)(es:List (Int×Int))(w:World)(hE:EdgesOf w.heap.size ev es w)(hN:RowOf Value.string w.heap.size nv ns w)(hval:validG ns.length es=true)(hco:Numbered ns.length es) :
  Calls prog 32 #[.agg #[nv,ev]] w fun e w'=>∃ v,e=.returned v∧RowsOf w'.heap.size v (compsG ns.length es) w'∧Below w.heap.size w w':=by
 obtain⟨hNn,hNe⟩:=z6f hval
 have hN0:=hN
 obtain⟨na,nc,rfl,_⟩:=z01 hN
 have hb1:Below w.heap.size w (w.alloc (.cells #[.slice na ns.length nc,ev] 32)):=(Below.refl _ _).alloc (zq _) _
 have hx:=z82 na ns.length nc _ es _ (by omega) ((hE.below hb1 (zq _)).mono hb1.size)
 rw [hval]at hx
 have hE0:=hE
 obtain⟨ao,ec,rfl,_⟩:=hE
 have HX:=zh hx
 have HB1:=zh hb1
 have HV:=zh hval
 have HE:=zh hE0
 have HN:=zh hN0
 have HCO:=zh hco
 obtain⟨hcl,hct⟩:=zj8 ns.length es
 clear hx hb1 hval hN hE0 hN0 hco
 obtain⟨i1,hi1',hy0,hy1,hy2⟩:=info_parts z4n
 go_enter func32,ntmps32
 go_wp2_with fail
 refine HX.out.mono ?_
 rintro e w1 ⟨rfl,hb⟩
 have hs1:=hb.size
 simp only [World.size_alloc]at hs1
 have hblk:=(hb.block w.heap.size (by simp)).trans (zn w _)
 have hg0:w1.cell? ⟨w.heap.size,0,none⟩=some (.slice na ns.length nc):=zw _ _ 0 _ _ _ hblk
 have hg1:w1.cell? ⟨w.heap.size,1,none⟩=some (.slice ao es.length ec):=zw _ _ 1 _ _ _ hblk
 have HW1:=zh (HB1.out.trans (hb.mono (by simp)))
 have hcond:=z4f (.slice na ns.length nc) (.slice ao es.length ec) ns es w1 ((HE.out.below HW1.out (zq _)).mono (by omega)) ((HN.out.below HW1.out (zq _)).mono (by omega)) HV.out HCO.out hcl hct
 have HCOND:=zh hcond
 clear hb hblk hcond
 go_wp2_with fail
 refine HCOND.out.mono ?_
 rintro e w2 ⟨v1,v2,rfl,hr1,hr2,hb2⟩
 have hs2:=hb2.size
 have hr1':RowsOf w2.heap.size v1 (nodesG ns.length es) w2:=hr1
 have hr2':RowsOf w2.heap.size v2 (condG ns.length es) w2:=hr2
 have HW2:=zh (HW1.out.trans (hb2.mono (by omega)))
 have hnl:=z5h HCO.out
 have hlist:=z8k v2 (condG ns.length es) w2 hr2' (by rw [(z0s _ _).1];omega) (fun a=>by have:=(z0s ns.length es).2 a;have:=Nat.mul_le_mul hNn hNn;omega) (zed HCO.out)
 have hln:=z1m (condG ns.length es)
 rw [(z0s ns.length es).1]at hln
 have HLT:=zh (zet (condG ns.length es))
 have HCP:Hid (compsG ns.length es=(listF (condG ns.length es)).map fun c=>(nodesG ns.length es).getD c []):=zh rfl
 rw [hln]at hlist
 generalize listF (condG ns.length es)=L at *
 have hcn:=(z0s ns.length es).1
 rw [hcn]at HLT
 obtain⟨va1,vc1,hv1⟩:∃ a c,v1=.slice a (nodesG ns.length es).length c:=by
  rcases hr1' with ⟨h0,a,c,rfl⟩ | ⟨b,off,cap,rfl,_⟩
  ·exact⟨a,c,by rw [h0];rfl⟩
  ·exact⟨_,cap,rfl⟩
 obtain⟨va2,vl2,vc2,hv2⟩:∃ a l c,v2=.slice a l c:=by
  rcases hr2' with ⟨h0,a,c,rfl⟩ | ⟨b,off,cap,rfl,_⟩
  ·exact⟨_,_,_,rfl⟩
  ·exact⟨_,_,_,rfl⟩
 have HR1:=zh hr1'
 clear hr1 hr2 hr1' hr2' hb2 hg0 hg1 hcn
 generalize nodesG ns.length es=nd at *
 subst hv1
 subst hv2
 have HLIST:=zh hlist
 clear hlist
 go_wp2_with fail
 refine HLIST.out.mono ?_
 rintro e w3 ⟨u,rfl,hou,hb3⟩
 obtain⟨ua,uc,rfl⟩:=z05 hou
 have hs3:=hb3.size
 have HR3:Hid (RowsOf w2.heap.size (.slice va1 nd.length vc1) nd w3):=zh (HR1.out.below hb3 (zq _))
 have HW3:=zh (HW2.out.trans (hb3.mono (by omega)))
 have HU:=zh hou
 clear hou hb3 HLIST HCOND
 have hndl:nd.length≤1024:=by omega
 go_wp2_with fail
 go_loopw [5,19] (fun o q wr=>∃ (k:Nat) (hs:List Value),k≤nd.length∧q=.int .i64 k∧Hid (wr.ownsRow w3.heap.size 109 1 o k hs)∧Hid (∀ i r,hs[i]? = some r→RowOf natC w2.heap.size r ((compsG ns.length es).getD i []) wr)∧Hid (Below w3.heap.size w3 wr)) (fun _ q _=>nd.length - (intOf q).toNat)
 case atStart=>exact⟨0,[],by omega,rfl,zh (World.ownsRow_nil _ _ _ _),zh (fun i r h=>by simp at h),zh (Below.refl _ _)⟩
 case round =>
  obtain⟨k,hs,hk,rfl,HO,HH,HB⟩:=hrel
  have hsb:=HB.out.size
  have hlh:hs.length=k:=by have:=HO.out.1;omega
  by_cases hlt:k<nd.length
  ·have hk0:(0:Int)≤(k:Int):=by omega
   have hk1:(k:Int)<(nd.length:Int):=by omega
   have hLl:k<L.length:=by omega
   have hcU:∀ j x,(L.map natC)[j]? = some x→∃ g,(ua=some ⟨g,0,none⟩∧g<w3.heap.size∧w3.cell? ⟨g,j,none⟩=some x):=fun j x hx=>by
    obtain⟨g,cap,hv,_,hg,_⟩:=z1a HU.out (by omega)
    cases hv
    exact⟨g,rfl,hg,z0o HU.out j x hx⟩
   obtain⟨g,rfl,hgl,hcg⟩:=hcU k (natC L[k]) (by rw [List.getElem?_map,ze hLl];rfl)
   have hcg:=(HB.out.cell (p:=⟨g,k,none⟩) hgl).trans hcg
   have hcl2:L[k]<nd.length:=HLT.out _ (List.getElem_mem hLl)
   have HCK:Hid ((compsG ns.length es).getD k []=nd.getD L[k] []):=zh (by rw [HCP.out,zg,List.getElem?_map,ze hLl];rfl)
   generalize L[k]=c at *
   have hc0:(0:Int)≤(c:Int):=by omega
   have hc1:(c:Int)<(nd.length:Int):=by omega
   obtain⟨b,off,cap,hva,hbw,hrow⟩:∃ b off cap,(.slice va1 nd.length vc1:Value)=.slice (some ⟨b,off,none⟩) nd.length cap∧b<w2.heap.size∧∀ i l,nd[i]? = some l→∃ r,w3.cell? ⟨b,off+i,none⟩=some r∧RowOf natC w2.heap.size r l w3:=by
    rcases HR3.out with ⟨h,_⟩ | h
    ·rw [h]at hlt;simp at hlt
    ·exact h
   cases hva
   have hgS:nd.getD c []=nd[c]:=by rw [zg,ze hcl2];rfl
   obtain⟨r,hcr,hrr⟩:=hrow c (nd.getD c []) (by rw [hgS];simp)
   have hcr:=(HB.out.cell (p:=⟨b,off+c,none⟩) (by show b<_;omega)).trans hcr
   obtain⟨oa,oc,rfl⟩:=z05 HO.out
   have hone:r.oneCell'=true:=by
    obtain⟨ra,rc,rfl,_⟩:=z01 hrr
    rfl
   have HRR:=zh hrr
   clear hrow hrr hgS hcU
   obtain⟨ra,rl,rc,rfl⟩:∃ a l c,r=.slice a l c:=by
    obtain⟨ra,rc,h,_⟩:=z01 HRR.out
    exact⟨_,_,_,h⟩
   go_wp2_with (at_builtin;refine wpList_append_own _ rfl _ _ 73 rfl w3.heap.size 109 i1 (.slice none 0 0) 1 24 underlying73 hi1' hy0 hy1 hy2 rfl (by decide) _ _ _ (by rfl) (HO.out.alloc _) ⟨wr.heap.size,0,none⟩ 1 1 [.slice ra rl rc] (by rfl) (by rfl) (World.news_of_block (cs:=#[.slice ra rl rc]) (t:=109) (fr:=(0,0)) (heap_alloc_new wr _)) (by simp [Value.oneCell']) (by unfold maxLen;omega) (by omega) (by simp;omega) ?_;intro v' w5 hown' hgrow _)
   go_roundw
   case rel =>
    have hb5:Below w3.heap.size wr w5:=((Below.refl _ _).alloc hsb (.cells #[.slice ra rl rc] 109)).grown hgrow (by rw [World.size_alloc];omega) (fun j hj=>(HO.out.lt j hj).1)
    refine⟨k+1,hs++[.slice ra rl rc],by omega,by go_num,zh hown',zh ?_,zh (HB.out.trans hb5)⟩
    intro i r hr
    rw [List.getElem?_append]at hr
    split at hr
    ·exact(HH.out i r hr).below (hb5.mono (by omega)) (zq _)
    ·have h1:=(zc hr)
     simp at h1
     have hik:i=k:=by omega
     subst hik
     rw [show i - hs.length=0 by omega]at hr
     simp at hr
     subst hr
     rw [HCK.out]
     exact(HRR.out.below (HB.out.mono (by omega)) (zq _)).below (hb5.mono (by omega)) (zq _)
   case measure=>simp [intOf];omega
  ·have hkk:k=nd.length:=by omega
   subst hkk
   go_wp2_with fail
   go_ret
   have hcpl:(compsG ns.length es).length=nd.length:=by rw [HCP.out,List.length_map];exact hln
   refine⟨_,rfl,?_,HW3.out.trans (HB.out.mono (by omega))⟩
   rcases HO.out.2 with ⟨rfl,h0⟩ | ⟨g,cap,cur,rfl,hbg,hg,hcc,_⟩
   ·exact .inl ⟨List.eq_nil_of_length_eq_zero (by omega),_,_,rfl⟩
   ·refine .inr ⟨g,0,cap,by rw [hcpl];rfl,(zb hg),fun i l hl=>?_⟩
    have hil:i<hs.length:=by have:=(zc hl);omega
    refine⟨hs[i],by rw [Nat.zero_add];exact z0o HO.out i _ (by simp [hil]),?_⟩
    have:=HH.out i hs[i] (by simp [hil])
    rw [zg,hl]at this
    exact this.mono (by omega)
end
section
open Go.Proofs.Tryz
open Go.RowKit
def lvstep (c:Nat)(lv:List Int)(d:Nat):List Int:=lv.set c (max (gD lv c) (gD lv d+1))
def lvpad (out:List (List Nat))(m:Nat):List (List Nat):=out++List.replicate (m+1 - out.length) []
def lvput (nd out:List (List Nat))(m c:Nat):List (List Nat):=(lvpad out m).set m ((lvpad out m).getD m []++nd.getD c [])
def lvadd (S nd:List (List Nat))(st:List Int×List (List Nat))(c:Nat):List Int×List (List Nat) :=
 ((S.getD c []).foldl (lvstep c) st.1,lvput nd st.2 (gD ((S.getD c []).foldl (lvstep c) st.1) c).toNat c)
def lvrun (S nd:List (List Nat))(L:List Nat):List Int×List (List Nat):=L.foldl (lvadd S nd) (List.replicate nd.length 0,[])
def sortN (r:List Nat):List Nat:=((r.map fun n:Nat=>(n:Int)).mergeSort fun x y=>decide (x≤y)).map Int.toNat
def levelsG (N:Nat)(es:List (Int×Int)):List (List Nat):=(lvrun (condG N es) (nodesG N es) (listF (condG N es))).2.map sortN
theorem zdu (r:List Nat):(sortN r).map natC=((r.map fun n:Nat=>(n:Int)).mergeSort fun x y=>decide (x≤y)).map intC:=by
 unfold sortN
 rw [List.map_map]
 apply List.map_congr_left
 intro x hx
 have h1:=(List.mergeSort_perm (r.map fun n:Nat=>(n:Int)) fun x y=>decide (x≤y)).subset hx
 obtain⟨y,_,rfl⟩:=List.mem_map.1 h1
 rfl
theorem z3y {c M B:Nat}(hc:c<M):∀ (l:List Nat)(lv:List Int)(m:Nat),lv.length=M→(∀ d∈l,d<M)→(∀ a,a<M→0≤gD lv a∧gD lv a≤(m:Int))→l.length≤B →
  (l.foldl (lvstep c) lv).length=M∧∀ a,a<M→0≤gD (l.foldl (lvstep c) lv) a∧gD (l.foldl (lvstep c) lv) a≤((m+l.length:Nat):Int)
 | [],lv,m,h1,_,h3,_=>⟨h1,h3⟩
 | d::l,lv,m,h1,h2,h3,hB=>by
  have hd:=h3 d (h2 d (by simp))
  have hcc:=h3 c hc
  have:=z3y (B:=B) hc l (lvstep c lv d) (m+1) (by unfold lvstep;rw [List.length_set];exact h1) (fun j hj=>h2 j (by simp [hj])) (fun a ha=>by
   unfold lvstep
   have:=h3 a ha
   rw [z3h]
   split<;>omega) (by simp at hB;omega)
  rw [List.foldl_cons,List.length_cons]
  refine⟨this.1,fun a ha=>?_⟩
  have:=this.2 a ha
  omega
theorem z76 (out:List (List Nat))(m:Nat):(lvpad out m).length=max out.length (m+1):=by
 unfold lvpad
 rw [List.length_append,List.length_replicate]
 omega
theorem z20 (out:List (List Nat))(m i:Nat):(lvpad out m).getD i []=out.getD i []:=by
 unfold lvpad
 rw [zg,zg,List.getElem?_append]
 split
 ·rfl
 ·rw [List.getElem?_replicate,List.getElem?_eq_none (by omega)]
  split<;>rfl
structure LInv (M R N k:Nat)(st:List Int×List (List Nat)):Prop where
 len:st.1.length=M
 lv:∀ a,a<M→0≤gD st.1 a∧gD st.1 a≤((k*R:Nat):Int)
 out:st.2.length≤k*R+1
 row:∀ i,(st.2.getD i []).length≤k*N
theorem LInv.add {M R N k:Nat}{st:List Int×List (List Nat)}{S nd:List (List Nat)}(h:LInv M R N k st)(c:Nat)(hc:c<M)(hS:∀ a,∀ j∈S.getD a [],j<M)(hR:∀ a,(S.getD a []).length≤R)(hN:∀ i,(nd.getD i []).length≤N):LInv M R N (k+1) (lvadd S nd st c):=by
 obtain⟨h1,h2⟩:=z3y (B:=R) hc (S.getD c []) st.1 (k*R) h.len (hS c) h.lv (hR c)
 have hr:=hR c
 have e1:(k+1)*R=k*R+R:=Nat.succ_mul k R
 have e2:(k+1)*N=k*N+N:=Nat.succ_mul k N
 unfold lvadd
 refine⟨h1,fun a ha=>?_,?_,fun i=>?_⟩
 ·have t:=h2 a ha
  refine⟨t.1,?_⟩
  rw [e1]
  exact Int.le_trans t.2 (by omega)
 ·show(lvput _ _ _ _).length≤_
  unfold lvput
  rw [List.length_set,z76,e1]
  have:=h2 c hc
  have:=h.out
  omega
 ·show((lvput _ _ _ _).getD i []).length≤_
  unfold lvput
  rw [z0m]
  split
  ·rw [List.length_append,z20]
   have:=h.row (gD ((S.getD c []).foldl (lvstep c) st.1) c).toNat
   have:=hN c
   omega
  ·rw [z20]
   have:=h.row i
   omega
theorem zi6 {M R N:Nat}{S nd:List (List Nat)}(hnd:nd.length=M)(hS:∀ a,∀ j∈S.getD a [],j<M)(hR:∀ a,(S.getD a []).length≤R)(hN:∀ i,(nd.getD i []).length≤N)(L:List Nat)(hL:∀ c∈L,c<M) :
  ∀ k,k≤L.length→LInv M R N k (lvrun S nd (L.take k)):=by
 intro k
 induction k with
 | zero =>
  intro _
  have hg:∀ a,a<M→gD (List.replicate nd.length (0:Int)) a=0:=fun a ha=>by
   unfold gD
   rw [zg,List.getElem?_replicate,if_pos (by omega)]
   rfl
  refine⟨by simp [lvrun,hnd],fun a ha=>?_,by simp [lvrun],fun i=>by simp [lvrun]⟩
  show 0≤gD (List.replicate nd.length (0:Int)) a∧gD (List.replicate nd.length (0:Int)) a≤_
  rw [hg a ha]
  omega
 | succ k ih =>
  intro hk
  have e:lvrun S nd (L.take (k+1))=lvadd S nd (lvrun S nd (L.take k)) L[k]:=by
   unfold lvrun
   rw [zs (by omega),List.foldl_append]
   rfl
  rw [e]
  exact(ih (by omega)).add _ (hL _ (List.getElem_mem _)) hS hR hN
theorem zee {co:List Int}{ct N:Nat}(hco:∀ n,n<N→0≤gD co n∧gD co n<(ct:Int)):∀ k,k≤N→∀ i,i<(crun co ct k).2.length→0<((crun co ct k).2.getD i []).length
 | 0,_,i,hi=>by simp [crun]at hi
 | k+1,hk,i,hi=>by
  have h:=z2e hco k (by omega)
  have ih:=zee hco k (by omega)
  have hp:=h.put (gD co k).toNat (by have:=hco k (by omega);omega)
  rw [z4h]at hi ⊢
  unfold cstepN crow at hi ⊢
  simp only [List.length_set]at hi
  show 0<((List.set _ _ _).getD i []).length
  rw [z0m]
  split
  ·rw [List.length_append,List.length_singleton];omega
  ·rename_i hne
   have hni:i≠(gD (cput (crun co ct k) (gD co k).toNat).1 (gD co k).toNat).toNat:=fun e=>hne ⟨e,by omega⟩
   have hcl:(gD co k).toNat<ct:=by have:=hco k (by omega);omega
   generalize (gD co k).toNat=c at *
   unfold cput at hi hni ⊢
   split
   ·rename_i hlt
    rw [if_pos hlt]at hi hni
    simp only at hi hni ⊢
    rw [z3h,if_pos ⟨rfl,by have h9:=h.len;omega⟩]at hni
    have hi2:i<(crun co ct k).2.length:=by simp at hi;omega
    have:=ih i hi2
    rw [zg,List.getElem?_append_left hi2]
    rwa [zg]at this
   ·rename_i hlt
    rw [if_neg hlt]at hi
    exact ih i hi
end
theorem zk3 {d:List Int}{a b:Nat}{x:Int}(h:a≠b):gD (d.set a x) b=gD d b:=by
 unfold gD
 rw [zg,zg,List.getElem?_set_ne h]
theorem zk2 {d:List Int}{a:Nat}{x:Int}(h:a<d.length):gD (d.set a x) a=x:=by
 unfold gD
 rw [zg,List.getElem?_set_self h]
 rfl
structure SInv (S:List (List Nat))(G:List Nat)(s:TS):Prop where
 li:s.ix.length=S.length
 ll:s.lo.length=S.length
 lc:s.co.length=S.length
 n1:1≤s.nx
 ixb:∀ k,k<S.length→0≤gD s.ix k∧gD s.ix k<s.nx
 cob:∀ k,k<S.length→gD s.co k<s.ct
 wh:∀ k,k<S.length→gD s.ix k=0→gD s.co k<0
 stm:∀ k,k∈s.st ↔ k<S.length∧gD s.ix k≠0∧gD s.co k<0
 srt:s.st.Pairwise (fun a b=>gD s.ix a<gD s.ix b)
 up:∀ x∈s.st,∀ y∈s.st,gD s.ix x≤gD s.ix y→Rch S x y
 gr:∀ y∈s.st,∃ x∈G,x∈s.st∧gD s.ix x≤gD s.ix y∧Rch S y x
 gs:∀ g∈G,g∈s.st
 bl:∀ k,k<S.length→gD s.ix k≠0→k ∉ G→∀ j∈S.getD k [],gD s.ix j≠0
 dn:∀ k,k<S.length→0≤gD s.co k→∀ j∈S.getD k [],0≤gD s.co j
 sc:∀ a b,a<S.length→b<S.length→0≤gD s.co a→0≤gD s.co b→(gD s.co a=gD s.co b ↔ Rch S a b∧Rch S b a)
structure VPost (S:List (List Nat))(G:List Nat)(s:TS)(n:Nat)(s':TS):Prop where
 inv:SInv S G s'
 fi:∀ k,k<S.length→gD s.ix k≠0→gD s'.ix k=gD s.ix k
 fl:∀ k,k<S.length→gD s.ix k≠0→gD s'.lo k=gD s.lo k
 nx:s.nx≤s'.nx
 st:∃ zs,s'.st=s.st++zs∧∀ x∈zs,∀ y∈S.getD x [],y∈s.st→gD s'.lo n≤gD s.ix y
 nw:gD s'.ix n≠0
 low:(∃ y∈s.st,gD s.ix y=gD s'.lo n∧Rch S n y)∨(s.nx:Int)≤gD s'.lo n
structure FInv (S:List (List Nat))(G:List Nat)(s:TS)(n:Nat)(pre:List Nat)(t:TS):Prop where
 inv:SInv S (n::G) t
 fi:∀ k,k<S.length→gD s.ix k≠0→gD t.ix k=gD s.ix k
 fl:∀ k,k<S.length→gD s.ix k≠0→gD t.lo k=gD s.lo k
 nx:s.nx+1≤t.nx
 ixn:gD t.ix n=(s.nx:Int)
 lon:gD t.lo n≤(s.nx:Int)
 st:∃ zs,t.st=s.st++n::zs∧∀ x∈zs,∀ y∈S.getD x [],y∈s.st→gD t.lo n≤gD s.ix y
 pre:∀ k∈pre,gD t.ix k≠0∧(k∈s.st→gD t.lo n≤gD s.ix k)
 low:∃ y∈t.st,gD t.ix y=gD t.lo n∧Rch S n y
theorem SInv.low {S:List (List Nat)}{G:List Nat}{s:TS}(h:SInv S G s)(n:Nat)(x:Int):SInv S G (tlow s n x) :=
 ⟨h.li,by show(s.lo.set n _).length=_;rw [List.length_set,h.ll],h.lc,h.n1,h.ixb,h.cob,h.wh,h.stm,h.srt,h.up,h.gr,h.gs,h.bl,h.dn,h.sc⟩
theorem SInv.mark {S:List (List Nat)}{G:List Nat}{s:TS}(h:SInv S G s){n:Nat}(hn:n<S.length)(h0:gD s.ix n=0)(hg:∀ g∈G,Rch S g n):FInv S G s n [] (tmark s n):=by
 have hnst:n ∉ s.st:=fun hm=>((h.stm n).1 hm).2.1 h0
 have hn1:=h.n1
 have e1:gD (tmark s n).ix n=(s.nx:Int):=zk2 (by rw [h.li];exact hn)
 have e2:∀ k,k≠n→gD (tmark s n).ix k=gD s.ix k:=fun k hk=>zk3 (fun e=>hk e.symm)
 have e3:gD (tmark s n).lo n=(s.nx:Int):=zk2 (by rw [h.ll];exact hn)
 have e4:∀ k,k≠n→gD (tmark s n).lo k=gD s.lo k:=fun k hk=>zk3 (fun e=>hk e.symm)
 have es:∀ k,k∈(tmark s n).st ↔ k∈s.st∨k=n:=fun k=>by show k∈s.st++[n] ↔ _;simp
 have hne:∀ k∈s.st,k≠n:=fun k hk e=>hnst (e ▸ hk)
 refine⟨⟨by show(s.ix.set n _).length=_;rw [List.length_set,h.li],by show(s.lo.set n _).length=_;rw [List.length_set,h.ll],h.lc,by show 1≤s.nx+1;omega,?_,h.cob,?_,?_,?_,?_,?_,fun g hgG=>(es g).2 ((List.mem_cons.1 hgG).symm.imp (h.gs g) id),?_,h.dn,h.sc⟩,?_,?_,zq _,e1,by rw [e3];exact Int.le_refl _,⟨[],rfl,fun x hx=>by simp at hx⟩,fun k hk=>by simp at hk,⟨n,(es n).2 (.inr rfl),e1.trans e3.symm,.refl n⟩⟩
 ·intro k hk
  show 0≤gD (tmark s n).ix k∧gD (tmark s n).ix k<((s.nx+1:Nat):Int)
  by_cases e:k=n
  ·subst e;rw [e1];omega
  ·rw [e2 k e];have:=h.ixb k hk;omega
 ·intro k hk hz
  by_cases e:k=n
  ·subst e;rw [e1]at hz;omega
  ·rw [e2 k e]at hz;exact h.wh k hk hz
 ·intro k
  rw [es]
  show _ ↔ k<S.length∧gD (tmark s n).ix k≠0∧gD s.co k<0
  by_cases e:k=n
  ·subst e;rw [e1];exact⟨fun _=>⟨hn,by omega,h.wh k hn h0⟩,fun _=>.inr rfl⟩
  ·rw [e2 k e,h.stm];exact⟨fun h=>h.resolve_right e,.inl⟩
 ·show(s.st++[n]).Pairwise _
  refine List.pairwise_append.2 ⟨h.srt.imp_of_mem fun ha hb hab=>?_,by simp,fun a ha b hb=>?_⟩
  ·rw [e2 _ (hne _ ha),e2 _ (hne _ hb)];exact hab
  ·rw [List.mem_singleton]at hb
   subst hb
   rw [e1,e2 _ (hne _ ha)]
   exact(h.ixb a ((h.stm a).1 ha).1).2
 ·intro x hx y hy hxy
  rcases(es x).1 hx with hx' | hx'<;>rcases(es y).1 hy with hy' | hy'
  ·rw [e2 _ (hne _ hx'),e2 _ (hne _ hy')]at hxy;exact h.up x hx' y hy' hxy
  ·subst hy'
   obtain⟨g,hg1,_,_,hg2⟩:=h.gr x hx'
   exact hg2.trans (hg g hg1)
  ·subst hx'
   rw [e1,e2 _ (hne _ hy')]at hxy
   have:=(h.ixb y ((h.stm y).1 hy').1).2
   omega
  ·subst hx';subst hy';exact .refl _
 ·intro y hy
  rcases(es y).1 hy with hy | hy
  ·obtain⟨x,h1,h2,h3,h4⟩:=h.gr y hy
   exact⟨x,List.mem_cons_of_mem _ h1,(es x).2 (.inl h2),by rw [e2 _ (hne _ h2),e2 _ (hne _ hy)];exact h3,h4⟩
  ·subst hy;exact⟨y,by simp,(es y).2 (.inr rfl),Int.le_refl _,.refl y⟩
 ·intro k hk hz hkG j hj
  have hkn:k≠n:=fun e=>hkG (by rw [e];simp)
  rw [e2 k hkn]at hz
  have:=h.bl k hk hz (fun e=>hkG (by simp [e])) j hj
  by_cases e:j=n
  ·subst e;rw [e1];omega
  ·rw [e2 j e];exact this
 ·intro k hk hz
  exact e2 k (fun e=>hz (by rw [e];exact h0))
 ·intro k hk hz
  exact e4 k (fun e=>hz (by rw [e];exact h0))
theorem FInv.step {S:List (List Nat)}{G:List Nat}{s t:TS}{n k:Nat}{pre:List Nat}{v:TS→Nat→TS}(hs:SInv S G s)(hn:n<S.length)(h0:gD s.ix n=0)(h:FInv S G s n pre t)(hk:k∈S.getD n [])(hkl:k<S.length)
  (hv:gD t.ix k=0→VPost S (n::G) t k (v t k)):FInv S G s n (pre++[k]) (tstep v n t k):=by
 have hsm:∀ y,y∈s.st→y∈t.st:=fun y hy=>by obtain⟨zs,hz,_⟩:=h.st;rw [hz];simp [hy]
 have hsx:∀ y,y∈s.st→gD t.ix y=gD s.ix y:=fun y hy=>h.fi y ((hs.stm y).1 hy).1 ((hs.stm y).1 hy).2.1
 have hn1:=hs.n1
 have hnt:gD t.ix n≠0:=by rw [h.ixn];omega
 have hw:∀ j,j<S.length→gD s.ix j≠0→gD t.ix j≠0:=fun j hj h1=>by rw [h.fi j hj h1];exact h1
 have hjn:∀ j,gD s.ix j≠0→j≠n:=fun j h1 e=>h1 (by rw [e];exact h0)
 have hlow:∀ (u:TS) (x:Int),u.lo.length=S.length→gD (tlow u n x).lo n=min (gD u.lo n) x:=fun u x hu=>zk2 (by rw [hu];exact hn)
 have hlo2:∀ (u:TS) (x:Int) (j:Nat),j≠n→gD (tlow u n x).lo j=gD u.lo j:=fun u x j hj=>zk3 (fun e=>hj e.symm)
 unfold tstep
 split
 ·rename_i hz
  have p:=hv hz
  have hks:k ∉ s.st:=fun hm=>by
   have:=hw k hkl ((hs.stm k).1 hm).2.1
   exact this hz
  have hl1:gD (v t k).lo n=gD t.lo n:=p.fl n hn hnt
  have hl2:=hlow (v t k) (gD (v t k).lo k) p.inv.ll
  rw [hl1]at hl2
  have hlon:=h.lon
  have hnx:=h.nx
  refine⟨p.inv.low _ _,fun j hj h1=>?_,fun j hj h1=>?_,Nat.le_trans h.nx p.nx,(p.fi n hn hnt).trans h.ixn,?_,?_,?_,?_⟩
  ·exact(p.fi j hj (hw j hj h1)).trans (h.fi j hj h1)
  ·exact(hlo2 _ _ j (hjn j h1)).trans ((p.fl j hj (hw j hj h1)).trans (h.fl j hj h1))
  ·rw [hl2];omega
  ·obtain⟨zs,hz1,hz2⟩:=h.st
   obtain⟨ys,hy1,hy2⟩:=p.st
   refine⟨zs++ys,by show(v t k).st=_;rw [hy1,hz1];simp,fun x hx y hy hys=>?_⟩
   rw [hl2]
   rcases List.mem_append.1 hx with hx | hx
   ·have:=hz2 x hx y hy hys;omega
   ·have h5:=hy2 x hx y hy (hsm y hys)
    rw [hsx y hys]at h5
    omega
  ·intro j hj
   rcases List.mem_append.1 hj with hj | hj
   ·obtain⟨h1,h2⟩:=h.pre j hj
    by_cases hjl:j<S.length
    ·exact⟨by rw [show gD (tlow (v t k) n (gD (v t k).lo k)).ix j=gD (v t k).ix j from rfl,p.fi j hjl h1];exact h1,fun hm=>by have:=h2 hm;rw [hl2];omega⟩
    ·refine⟨?_,fun hm=>absurd ((hs.stm j).1 hm).1 hjl⟩
     show gD (v t k).ix j≠0
     intro e
     have:=gD_lt (d:=(v t k).ix) (a:=j) (by rw [e];exact Int.le_refl _)
     rw [p.inv.li]at this
     exact hjl this
   ·rw [List.mem_singleton]at hj
    subst hj
    exact⟨p.nw,fun hm=>absurd hm hks⟩
  ·obtain⟨y,hy1,hy2,hy3⟩:=h.low
   obtain⟨ys,hz1,_⟩:=p.st
   have hyt:∀ z,z∈t.st→z∈(v t k).st∧gD (v t k).ix z=gD t.ix z:=fun z hz=>⟨by rw [hz1];simp [hz],p.fi z ((h.inv.stm z).1 hz).1 ((h.inv.stm z).1 hz).2.1⟩
   rcases p.low with ⟨z,hz2,hz3,hz4⟩ | hz2
   ·by_cases hc:gD t.lo n≤gD (v t k).lo k
    ·exact⟨y,(hyt y hy1).1,by rw [hl2];show gD (v t k).ix y=_;rw [(hyt y hy1).2,hy2];omega,hy3⟩
    ·exact⟨z,(hyt z hz2).1,by rw [hl2];show gD (v t k).ix z=_;rw [(hyt z hz2).2,hz3];omega,.step hk hz4⟩
   ·exact⟨y,(hyt y hy1).1,by rw [hl2];show gD (v t k).ix y=_;rw [(hyt y hy1).2,hy2];omega,hy3⟩
 ·rename_i hz
  split
  ·rename_i hc
   have hl2:=hlow t (gD t.ix k) h.inv.ll
   have hlon:=h.lon
   have hkt:k∈t.st:=(h.inv.stm k).2 ⟨hkl,hz,hc⟩
   refine⟨h.inv.low _ _,h.fi,fun j hj h1=>(hlo2 _ _ j (hjn j h1)).trans (h.fl j hj h1),h.nx,h.ixn,by rw [hl2];omega,?_,?_,?_⟩
   ·obtain⟨zs,hz1,hz2⟩:=h.st
    refine⟨zs,hz1,fun x hx y hy hys=>?_⟩
    have:=hz2 x hx y hy hys
    rw [hl2];omega
   ·intro j hj
    rcases List.mem_append.1 hj with hj | hj
    ·obtain⟨h1,h2⟩:=h.pre j hj
     exact⟨h1,fun hm=>by have:=h2 hm;rw [hl2];omega⟩
    ·rw [List.mem_singleton]at hj
     subst hj
     exact⟨hz,fun hm=>by rw [hl2,hsx j hm];omega⟩
   ·obtain⟨y,hy1,hy2,hy3⟩:=h.low
    by_cases hc2:gD t.lo n≤gD t.ix k
    ·exact⟨y,hy1,by rw [hl2];show gD t.ix y=_;omega,hy3⟩
    ·exact⟨k,hkt,by rw [hl2];show gD t.ix k=_;omega,.step hk (.refl k)⟩
  ·rename_i hc
   refine⟨h.inv,h.fi,h.fl,h.nx,h.ixn,h.lon,h.st,?_,h.low⟩
   intro j hj
   rcases List.mem_append.1 hj with hj | hj
   ·exact h.pre j hj
   ·rw [List.mem_singleton]at hj
    subst hj
    exact⟨hz,fun hm=>absurd ((h.inv.stm j).1 (hsm j hm)).2.2 hc⟩
theorem zfe (ct:Int)(n:Nat):∀ (l r:List Nat)(co:List Int),n ∉ l→tpopL ct n (l++n::r) co=(r,(l++[n]).foldl (fun co k=>co.set k ct) co)
 | [],r,co,_=>by
  show(if n=n then(r,co.set n ct) else _)=_
  rw [if_pos rfl]
  rfl
 | k::l,r,co,h=>by
  show(if k=n then _ else tpopL ct n (l++n::r) (co.set k ct))=_
  rw [if_neg (fun e=>h (by rw [e];simp)),zfe ct n l r _ (fun e=>h (by simp [e]))]
  rfl
theorem z3d (ct:Int):∀ (l:List Nat)(co:List Int),(l.foldl (fun co k=>co.set k ct) co).length=co.length
 | [],_=>rfl
 | k::l,co=>by rw [List.foldl_cons,z3d ct l,List.length_set]
theorem z4k (ct:Int)(a:Nat):∀ (l:List Nat)(co:List Int),a<co.length→gD (l.foldl (fun co k=>co.set k ct) co) a=if a∈l then ct else gD co a
 | [],_,_=>by simp
 | k::l,co,h=>by
  rw [List.foldl_cons,z4k ct a l _ (by rw [List.length_set];exact h)]
  by_cases h1:a∈l
  ·rw [if_pos h1,if_pos (by simp [h1])]
  ·rw [if_neg h1]
   by_cases h2:k=a
   ·subst h2;rw [zk2 h,if_pos (by simp)]
   ·rw [zk3 h2,if_neg (by simp [h1,Ne.symm h2])]
theorem FInv.fin {S:List (List Nat)}{G:List Nat}{s t:TS}{n:Nat}(hS:∀ a,∀ k∈S.getD a [],k<S.length)(hs:SInv S G s)(hn:n<S.length)(h0:gD s.ix n=0)(hg:∀ g∈G,Rch S g n)(h:FInv S G s n (S.getD n []) t):VPost S G s n (tfin t n):=by
 have hn1:=hs.n1
 have hnt:gD t.ix n≠0:=by rw [h.ixn];omega
 have hsx:∀ y,y∈s.st→gD t.ix y=gD s.ix y:=fun y hy=>h.fi y ((hs.stm y).1 hy).1 ((hs.stm y).1 hy).2.1
 have hsl:∀ y,y∈s.st→gD t.ix y<(s.nx:Int):=fun y hy=>by rw [hsx y hy];exact(hs.ixb y ((hs.stm y).1 hy).1).2
 obtain⟨zs,hz1,hz2⟩:=h.st
 have hmem:∀ y,y∈t.st ↔ y∈s.st∨y=n∨y∈zs:=fun y=>by rw [hz1];simp
 have hsrt:=h.inv.srt
 rw [hz1]at hsrt
 obtain⟨_,hp1,hp2⟩:=List.pairwise_append.1 hsrt
 rw [List.pairwise_cons]at hp1
 have hzx:∀ y∈zs,(s.nx:Int)<gD t.ix y:=fun y hy=>by have:=hp1.1 y hy;rw [h.ixn]at this;exact this
 have hzn:n ∉ zs:=fun hm=>by have:=hzx n hm;rw [h.ixn]at this;omega
 have hbl:∀ k,k<S.length→gD t.ix k≠0→k ∉ G→∀ j∈S.getD k [],gD t.ix j≠0:=fun k hk hz hkG j hj=>by
  by_cases e:k=n
  ·subst e;exact(h.pre j hj).1
  ·exact h.inv.bl k hk hz (fun hm=>by rcases List.mem_cons.1 hm with hm | hm;exact e hm;exact hkG hm) j hj
 have hlon:=h.lon
 have hnx:=h.nx
 unfold tfin
 split
 ·rename_i hlt
  rw [h.ixn]at hlt
  obtain⟨y0,hy1,hy2,hy3⟩:=h.low
  have hy0:y0∈s.st:=by
   rcases(hmem y0).1 hy1 with e | e | e
   ·exact e
   ·subst e;rw [h.ixn]at hy2;omega
   ·have:=hzx y0 e;omega
  obtain⟨g,hg1,hg2,hg3,hg4⟩:=hs.gr y0 hy0
  refine⟨⟨h.inv.li,h.inv.ll,h.inv.lc,h.inv.n1,h.inv.ixb,h.inv.cob,h.inv.wh,h.inv.stm,h.inv.srt,h.inv.up,?_,fun g hgG=>h.inv.gs g (by simp [hgG]),hbl,h.inv.dn,h.inv.sc⟩,h.fi,h.fl,by omega,⟨n::zs,hz1,fun x hx y hy hys=>?_⟩,hnt,.inl ⟨y0,hy0,by rw [← hsx y0 hy0];exact hy2,hy3⟩⟩
  ·intro y hy
   obtain⟨x,hx1,hx2,hx3,hx4⟩:=h.inv.gr y hy
   rcases List.mem_cons.1 hx1 with e | e
   ·subst e
    refine⟨g,hg1,(hmem g).2 (.inl hg2),?_,hx4.trans (hy3.trans hg4)⟩
    have:=hsl g hg2
    rw [h.ixn]at hx3
    omega
   ·exact⟨x,e,hx2,hx3,hx4⟩
  ·rcases List.mem_cons.1 hx with e | e
   ·subst e;exact(h.pre y hy).2 hys
   ·exact hz2 x e y hy hys
 ·rename_i hlt
  rw [h.ixn]at hlt
  have hrev:t.st.reverse=zs.reverse++n::s.st.reverse:=by rw [hz1];simp
  have hpop:=zfe (t.ct:Int) n zs.reverse s.st.reverse t.co (by simpa using hzn)
  rw [← hrev]at hpop
  have hst:(tpop t n).st=s.st:=by show(tpopL _ _ _ _).1.reverse=_;rw [hpop];simp
  have hlc:(tpop t n).co.length=S.length:=by show(tpopL _ _ _ _).2.length=_;rw [hpop,z3d];exact h.inv.lc
  have hco:∀ a,a<S.length→gD (tpop t n).co a=if a=n∨a∈zs then(t.ct:Int) else gD t.co a:=fun a ha=>by
   show gD (tpopL _ _ _ _).2 a=_
   rw [hpop,z4k _ _ _ _ (by rw [h.inv.lc];exact ha)]
   by_cases e:a=n∨a∈zs
   ·rw [if_pos e,if_pos (by simp;exact e.symm)]
   ·rw [if_neg e,if_neg (by simp;exact⟨fun hm=>e (.inr hm),fun hm=>e (.inl hm)⟩)]
  have hct:(0:Int)≤(t.ct:Int):=by omega
  have hcC:∀ a,a=n∨a∈zs→a∈t.st:=fun a ha=>(hmem a).2 (.inr ha)
  have hcN:∀ a,a=n∨a∈zs→a<S.length:=fun a ha=>((h.inv.stm a).1 (hcC a ha)).1
  have hsC:∀ a,a∈s.st→¬ (a=n∨a∈zs):=fun a ha hc=>by
   have h1:=hsl a ha
   rcases hc with e | e
   ·subst e;rw [h.ixn]at h1;omega
   ·have:=hzx a e;omega
  have hgeC:∀ a,a=n∨a∈zs→(s.nx:Int)≤gD t.ix a:=fun a ha=>by
   rcases ha with e | e
   ·subst e;rw [h.ixn];exact Int.le_refl _
   ·have:=hzx a e;omega
  have hnC:n∈t.st:=hcC n (.inl rfl)
  have hto:∀ a,a=n∨a∈zs→Rch S n a∧Rch S a n:=fun a ha=>by
   refine⟨h.inv.up n hnC a (hcC a ha) (by rw [h.ixn];exact hgeC a ha),?_⟩
   obtain⟨x,hx1,hx2,hx3,hx4⟩:=h.inv.gr a (hcC a ha)
   rcases List.mem_cons.1 hx1 with e | e
   ·subst e;exact hx4
   ·exact hx4.trans (hg x e)
  have hdn:∀ (a:Nat),a<S.length→0≤gD (tpop t n).co a→∀ j∈S.getD a [],0≤gD (tpop t n).co j:=fun a ha hz j hj=>by
   rw [hco j (hS a j hj)]
   split
   ·exact hct
   ·rename_i hjC
    rw [hco a ha]at hz
    by_cases hc:a=n∨a∈zs
    ·have hjx:gD t.ix j≠0:=by
      rcases hc with e | e
      ·subst e;exact(h.pre j hj).1
      ·exact h.inv.bl a ha ((h.inv.stm a).1 (hcC a (.inr e))).2.1 (fun hm=>by
        rcases List.mem_cons.1 hm with e2 | e2
        ·exact hzn (e2 ▸ e)
        ·exact hsC a (hs.gs a e2) (.inr e)) j hj
     refine Int.not_lt.1 fun hneg=>?_
     have hjt:=(h.inv.stm j).2 ⟨hS a j hj,hjx,hneg⟩
     rcases(hmem j).1 hjt with e | e
     ·have h5:gD t.lo n≤gD s.ix j:=by
       rcases hc with e2 | e2
       ·subst e2;exact(h.pre j hj).2 e
       ·exact hz2 a e2 j hj e
      have:=hsl j e
      rw [hsx j e]at this
      omega
     ·exact hjC e
    ·rw [if_neg hc]at hz
     exact h.inv.dn a ha hz j hj
  have hold:∀ a b,Rch S a b→a<S.length→0≤gD t.co a→0≤gD t.co b∧b<S.length:=fun a b hr=>by
   induction hr with
   | refl a=>exact fun h1 h2=>⟨h2,h1⟩
   | step hb _ ih=>exact fun h1 h2=>ih (hS _ _ hb) (h.inv.dn _ h1 h2 _ hb)
  refine⟨⟨h.inv.li,h.inv.ll,hlc,h.inv.n1,h.inv.ixb,?_,?_,?_,?_,?_,?_,by rw [hst];exact hs.gs,hbl,hdn,?_⟩,h.fi,h.fl,by show s.nx≤t.nx;omega,⟨[],by rw [hst];simp,fun x hx=>by simp at hx⟩,hnt,.inr (by show(s.nx:Int)≤gD t.lo n;omega)⟩
  ·intro k hk
   rw [hco k hk]
   show _<((t.ct+1:Nat):Int)
   have:=h.inv.cob k hk
   split<;>omega
  ·intro k hk hz
   rw [hco k hk,if_neg (fun hc=>((h.inv.stm k).1 (hcC k hc)).2.1 hz)]
   exact h.inv.wh k hk hz
  ·intro k
   rw [hst]
   constructor
   ·intro hk
    have h1:=(h.inv.stm k).1 ((hmem k).2 (.inl hk))
    exact⟨h1.1,h1.2.1,by rw [hco k h1.1,if_neg (hsC k hk)];exact h1.2.2⟩
   ·rintro⟨h1,h2,h3⟩
    rw [hco k h1]at h3
    by_cases hc:k=n∨k∈zs
    ·rw [if_pos hc]at h3;omega
    ·rw [if_neg hc]at h3
     exact((hmem k).1 ((h.inv.stm k).2 ⟨h1,h2,h3⟩)).resolve_right hc
  ·rw [hst]
   exact(List.pairwise_append.1 hsrt).1
  ·rw [hst]
   exact fun x hx y hy hxy=>h.inv.up x ((hmem x).2 (.inl hx)) y ((hmem y).2 (.inl hy)) hxy
  ·rw [hst]
   intro y hy
   obtain⟨x,hx1,hx2,hx3,hx4⟩:=h.inv.gr y ((hmem y).2 (.inl hy))
   have h1:=hsl y hy
   have hxs:x∈s.st:=by
    rcases(hmem x).1 hx2 with e | e
    ·exact e
    ·have:=hgeC x e;omega
   refine⟨x,?_,hxs,hx3,hx4⟩
   rcases List.mem_cons.1 hx1 with e | e
   ·exact absurd (.inl e) (hsC x hxs)
   ·exact e
  ·intro a b ha hb hca hcb
   rw [hco a ha]at hca ⊢
   rw [hco b hb]at hcb ⊢
   by_cases ca:a=n∨a∈zs<;>by_cases cb:b=n∨b∈zs
   ·rw [if_pos ca,if_pos cb]
    exact⟨fun _=>⟨(hto a ca).2.trans (hto b cb).1,(hto b cb).2.trans (hto a ca).1⟩,fun _=>rfl⟩
   ·rw [if_pos ca,if_neg cb]
    rw [if_neg cb]at hcb
    have h1:=h.inv.cob b hb
    have h2:=((h.inv.stm a).1 (hcC a ca)).2.2
    exact⟨fun e=>by omega,fun e=>by have:=(hold b a e.2 hb hcb).1;omega⟩
   ·rw [if_neg ca,if_pos cb]
    rw [if_neg ca]at hca
    have h1:=h.inv.cob a ha
    have h2:=((h.inv.stm b).1 (hcC b cb)).2.2
    exact⟨fun e=>by omega,fun e=>by have:=(hold a b e.1 ha hca).1;omega⟩
   ·rw [if_neg ca,if_neg cb]
    rw [if_neg ca]at hca
    rw [if_neg cb]at hcb
    exact h.inv.sc a b ha hb hca hcb
theorem FInv.fold {S:List (List Nat)}{G:List Nat}{s:TS}{n f:Nat}{v:TS→Nat→TS}(hs:SInv S G s)(hn:n<S.length)(h0:gD s.ix n=0)
  (hv:∀ (t:TS) (k:Nat),zeros t.ix≤f→TInv S.length t→SInv S (n::G) t→k<S.length→gD t.ix k=0→k∈S.getD n []→VPost S (n::G) t k (v t k)∧TInv S.length (v t k)∧TRel t (v t k)) :
  ∀ (l pre:List Nat) (t:TS),(∀ k∈l,k∈S.getD n []∧k<S.length)→zeros t.ix≤f→TInv S.length t→FInv S G s n pre t→FInv S G s n (pre++l) (l.foldl (tstep v n) t)
 | [],pre,t,_,_,_,h=>by rw [List.append_nil];exact h
 | k::l,pre,t,hl,hz,ht,h=>by
  have hk:=hl k (by simp)
  have h1:=h.step (v:=v) hs hn h0 hk.1 hk.2 (fun e=>(hv t k hz ht h.inv hk.2 e hk.1).1)
  have h2:TInv S.length (tstep v n t k)∧zeros (tstep v n t k).ix≤f:=by
   unfold tstep
   split
   ·obtain⟨_,a,b⟩:=hv t k hz ht h.inv hk.2 ‹_› hk.1
    exact⟨a.low _ _,Nat.le_trans b.z hz⟩
   ·split
    ·exact⟨ht.low _ _,hz⟩
    ·exact⟨ht,hz⟩
  have:=FInv.fold hs hn h0 hv l (pre++[k]) (tstep v n t k) (fun j hj=>hl j (by simp [hj])) h2.2 h2.1 h1
  rw [List.append_assoc]at this
  exact this
theorem z98 {S:List (List Nat)}(hS:∀ a,∀ k∈S.getD a [],k<S.length):∀ (f:Nat)(G:List Nat)(s:TS)(n:Nat),zeros s.ix≤f→TInv S.length s→SInv S G s→n<S.length→gD s.ix n=0→(∀ g∈G,Rch S g n)→VPost S G s n (visitT S f s n)
 | 0,G,s,n,hz,ht,h,hn,h0,hg=>by
  have:=z2v s.ix n 1 (by rw [h.li];exact hn) h0 (by decide)
  omega
 | f+1,G,s,n,hz,ht,h,hn,h0,hg=>by
  obtain⟨m1,m2⟩:=ht.mark hn h0
  have hf:=FInv.fold (v:=visitT S f) (f:=f) h hn h0 (fun t k a b c d e hk=>⟨z98 hS f (n::G) t k a b c d e (fun g hgG=>by
   rcases List.mem_cons.1 hgG with e | e
   ·subst e;exact .step hk (.refl k)
   ·exact(hg g e).trans (.step hk (.refl k))),z2u hS f t k a b d e⟩) (S.getD n []) [] (tmark s n) (fun k hk=>⟨hk,hS n k hk⟩) (by omega) m1 (h.mark hn h0 hg)
  rw [List.nil_append]at hf
  exact hf.fin hS h hn h0 hg
theorem zj9 (S:List (List Nat)):SInv S [] (tinit S.length):=by
 have h1:∀ k,k<S.length→gD (tinit S.length).ix k=0:=fun k hk=>by
  show(List.replicate S.length (0:Int)).getD k (-1)=0
  rw [zg,List.getElem?_replicate,if_pos hk];rfl
 have h2:∀ k,k<S.length→gD (tinit S.length).co k=-1:=fun k hk=>zll _ _
 refine⟨by simp [tinit],by simp [tinit],by simp [tinit],zq _,?_,?_,?_,?_,by simp [tinit],by simp [tinit],by simp [tinit],by simp,?_,?_,?_⟩
 ·intro k hk;rw [h1 k hk];exact⟨Int.le_refl _,by show(0:Int)<((1:Nat):Int);decide⟩
 ·intro k hk;rw [h2 k hk];show(-1:Int)<((0:Nat):Int);decide
 ·intro k hk _;rw [h2 k hk];decide
 ·intro k
  constructor
  ·intro h;simp [tinit]at h
  ·rintro⟨a,b,_⟩;exact absurd (h1 k a) b
 ·intro k hk h;exact absurd (h1 k hk) h
 ·intro k hk h;rw [h2 k hk]at h;omega
 ·intro a b ha _ h;rw [h2 a ha]at h;omega
theorem zff {S:List (List Nat)}(hS:∀ a,∀ k∈S.getD a [],k<S.length):∀ k,k≤S.length→SInv S [] (trun S k)∧∀ j,j<k→gD (trun S k).ix j≠0
 | 0,_=>⟨zj9 S,fun j hj=>absurd hj (Nat.not_lt_zero _)⟩
 | k+1,h=>by
  obtain⟨h1,h2⟩:=zff hS k (by omega)
  have ht:=z6d hS k (by omega)
  rw [z51]
  unfold tround
  split
  ·rename_i hz
   have p:=z98 hS S.length [] (trun S k) k (by have:=zah (trun S k).ix;rw [h1.li]at this;exact this) ht h1 (by omega) hz (by simp)
   refine⟨p.inv,fun j hj=>?_⟩
   by_cases e:j=k
   ·subst e;exact p.nw
   ·rw [p.fi j (by omega) (h2 j (by omega))];exact h2 j (by omega)
  ·rename_i hz
   refine⟨h1,fun j hj=>?_⟩
   by_cases e:j=k
   ·subst e;exact hz
   ·exact h2 j (by omega)
theorem z95 {S:List (List Nat)}(hS:∀ a,∀ k∈S.getD a [],k<S.length):(∀ k,k<S.length→0≤gD (tarjan S).co k∧gD (tarjan S).co k<(tarjan S).ct) ∧
  ∀ a b,a<S.length→b<S.length→(gD (tarjan S).co a=gD (tarjan S).co b ↔ Rch S a b∧Rch S b a):=by
 obtain⟨h1,h2⟩:=zff hS S.length (zq _)
 have he:trun S S.length=tarjan S:=rfl
 rw [he]at h1 h2
 have h3:∀ k,k<S.length→0≤gD (tarjan S).co k:=fun k hk=>by
  refine Int.not_lt.1 fun hneg=>?_
  obtain⟨x,hx,_⟩:=h1.gr k ((h1.stm k).2 ⟨hk,h2 k hk,hneg⟩)
  simp at hx
 exact⟨fun k hk=>⟨h3 k hk,h1.cob k hk⟩,fun a b ha hb=>h1.sc a b ha hb (h3 a ha) (h3 b hb)⟩
theorem numbered (N:Nat)(es:List (Int×Int)):Numbered N es:=fun n hn=>(z95 (S:=sucs N es) z2c).1 n (by rw [z08];exact hn)
structure KInv (co:List Int)(k:Nat)(st:List Int×List (List Nat)):Prop where
 inj:∀ c c',0≤gD st.1 c→gD st.1 c=gD st.1 c'→c=c'
 row:∀ p n,n∈st.2.getD p [] ↔ n<k∧gD st.1 (gD co n).toNat=(p:Int)
 srt:∀ p,(st.2.getD p []).Pairwise (· < ·)
 hd:∀ p,p<st.2.length→∃ a,(st.2.getD p []).head? = some a∧∀ q,p<q→∀ b∈st.2.getD q [],a<b
theorem zhl {co:List Int}{ct k:Nat}{st:List Int×List (List Nat)}(h:CInv co ct k st)(hc:(gD co k).toNat<ct) :
  ∃ p0:Nat,(gD st.1 (gD co k).toNat=(p0:Int)∨(gD st.1 (gD co k).toNat<0∧p0=st.2.length))∧p0≤st.2.length∧(∀ c,gD (cstepN co st k).1 c=if c=(gD co k).toNat then(p0:Int) else gD st.1 c) ∧
   (∀ p,(cstepN co st k).2.getD p []=if p=p0 then st.2.getD p []++[k] else st.2.getD p [])∧(cstepN co st k).2.length=max st.2.length (p0+1):=by
 unfold cstepN
 generalize (gD co k).toNat=c0 at *
 unfold cput
 by_cases hlt:gD st.1 c0<0
 ·rw [if_pos hlt]
  have hg:gD (st.1.set c0 (st.2.length:Int)) c0=(st.2.length:Int):=by rw [z3h,if_pos ⟨rfl,by rw [h.len];exact hc⟩]
  refine⟨st.2.length,.inr ⟨hlt,rfl⟩,zq _,fun c=>?_,fun p=>?_,?_⟩
  ·show gD (st.1.set c0 _) c=_
   rw [z3h]
   by_cases e:c=c0
   ·rw [if_pos e,if_pos ⟨e,by rw [h.len];exact hc⟩]
   ·rw [if_neg e,if_neg (fun h=>e h.1)]
  ·show(List.set (st.2++[[]]) (gD (st.1.set c0 _) c0).toNat _).getD p []=_
   rw [z0m,hg,Int.toNat_natCast]
   have e1:∀ q,(st.2++[[]]).getD q []=st.2.getD q []:=fun q=>by
    rw [zg,zg,List.getElem?_append]
    split
    ·rfl
    ·rename_i hq
     rw [List.getElem?_eq_none (l:=st.2) (by omega)]
     cases e:[([]:List Nat)][q - st.2.length]? with
     | none=>rfl
     | some r=>have:=List.mem_of_getElem? e;simp at this;simp [this]
   rw [e1,e1]
   by_cases e:p=st.2.length
   ·rw [if_pos e,if_pos ⟨e,by simp⟩,e]
   ·rw [if_neg e,if_neg (fun h=>e h.1)]
  ·show(List.set (st.2++[[]]) _ _).length=_
   rw [List.length_set,List.length_append,List.length_singleton];omega
 ·rw [if_neg hlt]
  obtain⟨p0,hp⟩:∃ p0:Nat,gD st.1 c0=(p0:Int):=⟨(gD st.1 c0).toNat,by omega⟩
  have hhi:=h.hi c0
  refine⟨p0,.inl hp,by omega,fun c=>?_,fun p=>?_,?_⟩
  ·show gD st.1 c=_
   by_cases e:c=c0
   ·rw [if_pos e,e,hp]
   ·rw [if_neg e]
  ·show(List.set st.2 (gD st.1 c0).toNat _).getD p []=_
   rw [z0m,hp,Int.toNat_natCast]
   by_cases e:p=p0
   ·rw [if_pos e,if_pos ⟨e,by omega⟩,e]
   ·rw [if_neg e,if_neg (fun h=>e h.1)]
  ·show(List.set st.2 _ _).length=_
   rw [List.length_set];omega
theorem KInv.step {co:List Int}{ct k:Nat}{st:List Int×List (List Nat)}(h:CInv co ct k st)(hk:KInv co k st)(hc:(gD co k).toNat<ct):KInv co (k+1) (cstepN co st k):=by
 obtain⟨p0,h1,h2,h3,h4,h5⟩:=zhl h hc
 have hold:∀ n,n<k→(gD co n).toNat=(gD co k).toNat→gD st.1 (gD co k).toNat=(p0:Int):=fun n hn e=>by
  have:=h.old n hn
  rw [e]at this
  rcases h1 with h1 | ⟨h1,_⟩
  ·exact h1
  ·omega
 have hrow:∀ p n,n∈st.2.getD p []→n<k:=fun p n hn=>((hk.row p n).1 hn).1
 refine⟨fun c c' hz he=>?_,fun p n=>?_,fun p=>?_,fun p hp=>?_⟩
 ·rw [h3]at hz
  rw [h3,h3]at he
  by_cases e1:c=(gD co k).toNat<;>by_cases e2:c'=(gD co k).toNat
  ·rw [e1,e2]
  ·rw [if_pos e1,if_neg e2]at he
   rcases h1 with h1 | ⟨_,h1⟩
   ·exact e1.trans (hk.inj _ _ (by omega) (h1.trans he))
   ·have:=h.hi c';omega
  ·rw [if_neg e1,if_pos e2]at he
   rw [if_neg e1]at hz
   rcases h1 with h1 | ⟨_,h1⟩
   ·exact(hk.inj _ _ hz (he.trans h1.symm)).trans e2.symm
   ·have:=h.hi c;omega
  ·rw [if_neg e1,if_neg e2]at he
   rw [if_neg e1]at hz
   exact hk.inj c c' hz he
 ·rw [h4,h3]
  by_cases ep:p=p0
  ·rw [if_pos ep,List.mem_append,List.mem_singleton,hk.row]
   by_cases e:n=k
   ·subst e;rw [if_pos rfl,ep];exact⟨fun _=>⟨by omega,rfl⟩,fun _=>.inr rfl⟩
   ·by_cases ec:(gD co n).toNat=(gD co k).toNat
    ·rw [if_pos ec,ec,ep]
     exact⟨fun hh=>⟨by have:=hh.resolve_right e;omega,rfl⟩,fun hh=>.inl ⟨by omega,hold n (by omega) ec⟩⟩
    ·rw [if_neg ec]
     exact⟨fun hh=>⟨by have:=hh.resolve_right e;omega,(hh.resolve_right e).2⟩,fun hh=>.inl ⟨by omega,hh.2⟩⟩
  ·rw [if_neg ep,hk.row]
   by_cases e:n=k
   ·subst e;rw [if_pos rfl];exact⟨fun hh=>by omega,fun hh=>by omega⟩
   ·by_cases ec:(gD co n).toNat=(gD co k).toNat
    ·rw [if_pos ec,ec]
     refine⟨fun hh=>?_,fun hh=>by omega⟩
     have:=hold n hh.1 ec
     omega
    ·rw [if_neg ec]
     exact⟨fun hh=>⟨by omega,hh.2⟩,fun hh=>⟨by omega,hh.2⟩⟩
 ·rw [h4]
  split
  ·exact List.pairwise_append.2 ⟨hk.srt p,by simp,fun a ha b hb=>by rw [List.mem_singleton]at hb;have:=hrow p a ha;omega⟩
  ·exact hk.srt p
 ·rw [h5]at hp
  by_cases hpl:p<st.2.length
  ·obtain⟨a,ha,hq⟩:=hk.hd p hpl
   refine⟨a,?_,fun q hpq b hb=>?_⟩
   ·rw [h4]
    split
    ·rw [List.head?_append,ha];rfl
    ·exact ha
   ·rw [h4]at hb
    have hak:a<k:=hrow p a (List.mem_of_mem_head? ha)
    split at hb
    ·rcases List.mem_append.1 hb with hb | hb
     ·exact hq q hpq b hb
     ·rw [List.mem_singleton]at hb;omega
    ·exact hq q hpq b hb
  ·have ep:p=p0:=by omega
   have hnil:∀ q,st.2.length≤q→st.2.getD q []=[]:=fun q hq=>by rw [zg,List.getElem?_eq_none (by omega)];rfl
   refine⟨k,?_,fun q hpq b hb=>?_⟩
   ·rw [h4,if_pos ep,hnil p (by omega)];rfl
   ·rw [h4,if_neg (by omega),hnil q (by omega)]at hb;simp at hb
theorem z3g {co:List Int}{ct N:Nat}(hco:∀ n,n<N→0≤gD co n∧gD co n<(ct:Int)):∀ k,k≤N→KInv co k (crun co ct k)
 | 0,_=>by
  have hg:∀ c,gD (List.replicate ct (-1:Int)) c=-1:=fun c=>zll _ _
  refine⟨fun c c' hz=>?_,fun p n=>?_,fun p=>by simp [crun],fun p hp=>by simp [crun]at hp⟩
  ·have:gD (crun co ct 0).1 c=-1:=hg c
   omega
  ·simp [crun]
 | k+1,h=>by
  rw [z4h]
  exact(z3g hco k (by omega)).step (z2e hco k (by omega)) (by have:=hco k (by omega);omega)
def clG (N:Nat)(es:List (Int×Int))(n:Nat):Nat:=(gD (crun (tarG N es).co (tarG N es).ct N).1 (gD (tarG N es).co n).toNat).toNat
theorem z9l {N:Nat}{es:List (Int×Int)}{n:Nat}(hn:n<N):gD (crun (tarG N es).co (tarG N es).ct N).1 (gD (tarG N es).co n).toNat=(clG N es n:Int):=by
 have:=(z2e (numbered N es) N (zq _)).old n hn
 unfold clG
 omega
theorem z3b {N:Nat}{es:List (Int×Int)}{n:Nat}(hn:n<N):clG N es n<(nodesG N es).length:=by
 have h1:=(z2e (numbered N es) N (zq _)).hi (gD (tarG N es).co n).toNat
 rw [z9l hn]at h1
 unfold nodesG
 omega
theorem z1t {N:Nat}{es:List (Int×Int)}{p n:Nat}:n∈(nodesG N es).getD p [] ↔ n<N∧clG N es n=p:=by
 have h:=(z3g (numbered N es) N (zq _)).row p n
 refine h.trans (and_congr_right fun hn=>?_)
 rw [z9l hn]
 omega
theorem z8q (N:Nat)(es:List (Int×Int))(p:Nat):((nodesG N es).getD p []).Pairwise (· < ·):=(z3g (numbered N es) N (zq _)).srt p
theorem zbt {N:Nat}{es:List (Int×Int)}{p:Nat}(hp:p<(nodesG N es).length):∃ a,((nodesG N es).getD p []).head? = some a∧∀ q,p<q→∀ b∈(nodesG N es).getD q [],a<b:=(z3g (numbered N es) N (zq _)).hd p hp
theorem zha {N:Nat}{es:List (Int×Int)}{a b:Nat}(ha:a<N)(hb:b<N):clG N es a=clG N es b ↔ gD (tarG N es).co a=gD (tarG N es).co b:=by
 constructor
 ·intro e
  have h1:=z9l (es:=es) ha
  have h2:=z9l (es:=es) hb
  have:=(z3g (numbered N es) N (zq _)).inj (gD (tarG N es).co a).toNat (gD (tarG N es).co b).toNat (by rw [h1];omega) (by rw [h1,h2,e])
  have h3:=numbered N es a ha
  have h4:=numbered N es b hb
  omega
 ·intro e
  unfold clG
  rw [e]
theorem zec {N:Nat}{es:List (Int×Int)}{a b:Nat}(ha:a<N)(hb:b<N):clG N es a=clG N es b ↔ Rch (sucs N es) a b∧Rch (sucs N es) b a :=
 (zha ha hb).trans ((z95 (S:=sucs N es) z2c).2 a b (by rw [z08];exact ha) (by rw [z08];exact hb))
theorem z88 {N:Nat}{es:List (Int×Int)}{n:Nat}(hn:n<N)(p d:Nat):∀ (l:List Nat)(out:List (List Nat)),(∀ k∈l,k<N)→out.length=(nodesG N es).length →
  (d∈(l.foldl (cedge (tarG N es).co (crun (tarG N es).co (tarG N es).ct N).1 n) out).getD p [] ↔ d∈out.getD p []∨∃ k∈l,clG N es n=p∧clG N es k=d∧p≠d)
 | [],out,_,_=>by simp
 | k::l,out,hl,ho=>by
  have hk:=hl k (by simp)
  have hcl:=z3b (es:=es) hn
  rw [List.foldl_cons,z88 hn p d l _ (fun j hj=>hl j (by simp [hj])) (by unfold cedge;split;exact ho;rw [List.length_set];exact ho)]
  have key:d∈(cedge (tarG N es).co (crun (tarG N es).co (tarG N es).ct N).1 n out k).getD p [] ↔ d∈out.getD p []∨(clG N es n=p∧clG N es k=d∧p≠d):=by
   unfold cedge
   by_cases e:gD (tarG N es).co k=gD (tarG N es).co n
   ·rw [if_pos e]
    have:=(zha (es:=es) hk hn).2 e
    exact⟨.inl,fun h=>h.resolve_right fun⟨h1,h2,h3⟩=>h3 (by omega)⟩
   ·rw [if_neg e,z0m]
    have hne:clG N es k≠clG N es n:=fun e2=>e ((zha (es:=es) hk hn).1 e2)
    show d∈(if p=clG N es n∧clG N es n<out.length then out.getD (clG N es n) []++[clG N es k] else out.getD p []) ↔ _
    by_cases ep:p=clG N es n
    ·rw [if_pos ⟨ep,by omega⟩,List.mem_append,List.mem_singleton,← ep]
     exact or_congr_right ⟨fun e2=>⟨rfl,e2.symm,by omega⟩,fun h=>h.2.1.symm⟩
    ·rw [if_neg (fun h=>ep h.1)]
     exact⟨.inl,fun h=>h.resolve_right fun h=>ep h.1.symm⟩
  rw [key,or_assoc]
  refine or_congr_right ⟨?_,?_⟩
  ·rintro(h | ⟨j,hj,h⟩)
   ·exact⟨k,by simp,h⟩
   ·exact⟨j,by simp [hj],h⟩
  ·rintro⟨j,hj,h⟩
   rcases List.mem_cons.1 hj with rfl | hj
   ·exact .inl h
   ·exact .inr ⟨j,hj,h⟩
theorem zb2 {N:Nat}{es:List (Int×Int)}(p d:Nat):∀ k,k≤N →
  (d∈(couts (tarG N es).co (crun (tarG N es).co (tarG N es).ct N).1 (sucs N es) (nodesG N es).length k).getD p [] ↔ ∃ n j,n<k∧j∈(sucs N es).getD n []∧clG N es n=p∧clG N es j=d∧p≠d)
 | 0,_=>by
  have:(couts (tarG N es).co (crun (tarG N es).co (tarG N es).ct N).1 (sucs N es) (nodesG N es).length 0).getD p []=[]:=by
   show(List.replicate (nodesG N es).length []).getD p []=[]
   rw [zg,List.getElem?_replicate]
   split<;>rfl
  rw [this]
  exact⟨fun h=>by simp at h,fun⟨n,j,h,_⟩=>by omega⟩
 | k+1,hk=>by
  rw [z3u,z88 (by omega) p d _ _ (fun j hj=>by have:=z2c (N:=N) (es:=es) k j hj;rwa [z08]at this) (z4g (fun a=>z50 a) k).1,zb2 p d k (by omega)]
  constructor
  ·rintro(⟨n,j,h1,h2⟩ | ⟨j,hj,h2⟩)
   ·exact⟨n,j,by omega,h2⟩
   ·exact⟨k,j,by omega,hj,h2⟩
  ·rintro⟨n,j,h1,h2,h3⟩
   by_cases e:n=k
   ·subst e;exact .inr ⟨j,h2,h3⟩
   ·exact .inl ⟨n,j,by omega,h2,h3⟩
theorem z3f {N:Nat}{es:List (Int×Int)}{p d:Nat}:d∈(condG N es).getD p [] ↔ ∃ n j,n<N∧j∈(sucs N es).getD n []∧clG N es n=p∧clG N es j=d∧p≠d:=zb2 p d N (zq _)
noncomputable def rankG (N:Nat)(es:List (Int×Int))(p:Nat):Nat:=((List.range N).filter fun k=>@decide (∃ n,n<N∧clG N es n=p∧Rch (sucs N es) n k) (Classical.propDecidable _)).length
theorem zb3 {α:Type}(P Q:α→Bool)(x:α):∀ (l:List α),(∀ a∈l,P a=true→Q a=true)→x∈l→P x=false→Q x=true→(l.filter P).length<(l.filter Q).length
 | [],_,hx,_,_=>by simp at hx
 | y::l,h,hx,h1,h2=>by
  have hle:∀ (m:List α),(∀ a∈m,P a=true→Q a=true)→(m.filter P).length≤(m.filter Q).length:=fun m=>by
   induction m with
   | nil=>intro _;simp
   | cons z m ih =>
    intro hm
    have:=ih (fun a ha=>hm a (by simp [ha]))
    rw [List.filter_cons,List.filter_cons]
    have hz:=hm z (by simp)
    cases hp:P z<;>cases hq:Q z<;>simp [hp,hq] at*<;> omega
  rw [List.filter_cons,List.filter_cons]
  rcases List.mem_cons.1 hx with rfl | hx
  ·rw [h1,h2]
   have:=hle l (fun a ha=>h a (by simp [ha]))
   simp
   omega
  ·have:=zb3 P Q x l (fun a ha=>h a (by simp [ha])) hx h1 h2
   have hy:=h y (by simp)
   cases hp:P y<;>cases hq:Q y<;>simp [hp,hq] at*<;> omega
theorem zkx {N:Nat}{es:List (Int×Int)}{p d:Nat}(h:d∈(condG N es).getD p []):rankG N es d<rankG N es p:=by
 obtain⟨n,j,hn,hj,hp,hd,hne⟩:=z3f.1 h
 have hjN:j<N:=by have:=z2c (N:=N) (es:=es) n j hj;rwa [z08]at this
 refine zb3 _ _ n _ (fun k hk hq=>?_) (List.mem_range.2 hn) ?_ ?_
 ·obtain⟨m,hm,hmd,hr⟩:=@of_decide_eq_true _ (_) hq
  refine @decide_eq_true _ (_) ⟨n,hn,hp,.step hj ((((zec hjN hm).1 (hd.trans hmd.symm)).1).trans hr)⟩
 ·refine @decide_eq_false _ (_) ?_
  rintro⟨m,hm,hmd,hr⟩
  have h1:=((zec hm hjN).1 (hmd.trans hd.symm))
  have h2:Rch (sucs N es) n m:=.step hj h1.2
  exact hne (hp.symm.trans (((zec hn hm).2 ⟨h2,hr⟩).trans hmd))
 ·exact @decide_eq_true _ (_) ⟨n,hn,hp,.refl n⟩
end Go.Proofs.YtapbhoodgnmnkaaGreatDoor
