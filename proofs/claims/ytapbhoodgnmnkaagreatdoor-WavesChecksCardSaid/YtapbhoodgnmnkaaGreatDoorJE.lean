/- Laws and contracts. -/
import Derived.Test.YtapbhoodgnmnkaaGreatDoorJD
import Derived.Maps.Ext
import Derived.Deep.Upon
import Derived.DeepKeys4
set_option linter.unusedVariables false
set_option linter.unusedSimpArgs false
set_option maxRecDepth 100000
set_option maxHeartbeats 32000000
namespace Go.Proofs.YtapbhoodgnmnkaaGreatDoor
open Go.Proofs.Tryz Go Go.RowKit
theorem keep4x {W w':World}{g k:Nat}{a0 a1 a2 a3 b0 b1 b2 b3:Value}(hg:g<W.heap.size)(hk:k<W.heap.size)
  (h:(W.cell? ⟨g,0,none⟩=some a0∧W.cell? ⟨g,1,none⟩=some a1∧W.cell? ⟨g,2,none⟩=some a2∧W.cell? ⟨g,3,none⟩=some a3)∧W.cell? ⟨k,0,none⟩=some b0∧W.cell? ⟨k,1,none⟩=some b1∧W.cell? ⟨k,2,none⟩=some b2∧W.cell? ⟨k,3,none⟩=some b3) (hb:Below W.heap.size W w') :
  (w'.cell? ⟨g,0,none⟩=some a0∧w'.cell? ⟨g,1,none⟩=some a1∧w'.cell? ⟨g,2,none⟩=some a2∧w'.cell? ⟨g,3,none⟩=some a3)∧w'.cell? ⟨k,0,none⟩=some b0∧w'.cell? ⟨k,1,none⟩=some b1∧w'.cell? ⟨k,2,none⟩=some b2∧w'.cell? ⟨k,3,none⟩=some b3:=by
 obtain⟨⟨h0,h1,h2,h3⟩,i0,i1,i2,i3⟩:=h
 exact⟨⟨(hb.cell hg).trans h0,(hb.cell hg).trans h1,(hb.cell hg).trans h2,(hb.cell hg).trans h3⟩,(hb.cell hk).trans i0,(hb.cell hk).trans i1,(hb.cell hk).trans i2,(hb.cell hk).trans i3⟩
theorem zhc (a b:RelL):cmpR a b=(if cmpS a.path b.path≠0 then cmpS a.path b.path else cmpV a.ver.1 a.ver.2.1 a.ver.2.2 b.ver.1 b.ver.2.1 b.ver.2.2):=rfl
theorem zb0 (a b:RelL)(ra rb:Value)(w:World):Calls prog 139 #[.agg (relC a ra),.agg (relC b rb)] w fun e w'=>e=.returned (.int .i64 (cmpR a b))∧Below w.heap.size w w':=by
 obtain⟨ap,⟨a1,a2,a3⟩,aq,aa,ai,ac,ay⟩:=a
 obtain⟨bp,⟨b1,b2,b3⟩,bq,ba,bi,bc,byk⟩:=b
 rw [zhc]
 simp only [relC]
 have HC1:=zh (fun W=>zjv ap bp W)
 have HC2:=zh (fun W=>zcr a1 a2 a3 b1 b2 b3 W)
 generalize cmpS ap bp=c1 at *
 generalize cmpV a1 a2 a3 b1 b2 b3=c2 at *
 have HO:=zh (fun g W=>zmb g c1 c2 W)
 generalize (if c1≠0 then c1 else c2)=cr at *
 go_enter func139,ntmps139
 go_upto_region 1 with fail
 obtain⟨W,hW⟩:∃ W,(w.alloc (.cells #[.string ap,intC a1,intC a2,intC a3,ra,.string aa,.string ai,.string ac,.bool ay] 82)).alloc (.cells #[.string bp,intC b1,intC b2,intC b3,rb,.string ba,.string bi,.string bc,.bool byk] 82)=W:=⟨_,rfl⟩
 rw [hW]
 have HB0:Hid (Below w.heap.size w W):=zh (by rw [← hW];exact((Below.refl _ _).alloc (zq _) _).alloc (by simp) _)
 have hz:w.heap.size<W.heap.size:=by rw [← hW];simp only [World.size_alloc];omega
 have hz1:w.heap.size+1<W.heap.size:=by rw [← hW];simp only [World.size_alloc];omega
 have HS:Hid ((W.cell? ⟨w.heap.size,0,none⟩=some (.string ap)∧W.cell? ⟨w.heap.size,1,none⟩=some (.int .i64 a1)∧W.cell? ⟨w.heap.size,2,none⟩=some (.int .i64 a2)∧W.cell? ⟨w.heap.size,3,none⟩=some (.int .i64 a3)) ∧
   W.cell? ⟨w.heap.size+1,0,none⟩=some (.string bp)∧W.cell? ⟨w.heap.size+1,1,none⟩=some (.int .i64 b1)∧W.cell? ⟨w.heap.size+1,2,none⟩=some (.int .i64 b2)∧W.cell? ⟨w.heap.size+1,3,none⟩=some (.int .i64 b3)) :=
  zh (by rw [← hW];exact⟨⟨by simp [go_sem],by simp [go_sem],by simp [go_sem],by simp [go_sem]⟩,by simp [go_sem],by simp [go_sem],by simp [go_sem],by simp [go_sem]⟩)
 clear hW
 have HBC:Hid (Below W.heap.size W W):=zh (Below.refl _ _)
 go_region_held3 (fun w'=>(w'.cell? ⟨w.heap.size,0,none⟩=some (.string ap)∧w'.cell? ⟨w.heap.size,1,none⟩=some (.int .i64 a1)∧w'.cell? ⟨w.heap.size,2,none⟩=some (.int .i64 a2)∧w'.cell? ⟨w.heap.size,3,none⟩=some (.int .i64 a3)) ∧
   w'.cell? ⟨w.heap.size+1,0,none⟩=some (.string bp)∧w'.cell? ⟨w.heap.size+1,1,none⟩=some (.int .i64 b1)∧w'.cell? ⟨w.heap.size+1,2,none⟩=some (.int .i64 b2)∧w'.cell? ⟨w.heap.size+1,3,none⟩=some (.int .i64 b3))
  ((first | (exact keep4x hz hz1 HS.out HBC.out) | (exact keep4x hz hz1 HS.out HBC.out.drew) | (exact keep4x hz hz1 HS.out (HBC.out.alloc HBC.out.size _))))
  (first | (go_at_call 170;refine(HC1.out _).mono ?_;rintro e wq ⟨rfl,rfl⟩)
           | (go_at_call 171;refine(HC2.out _).mono ?_;rintro e wq ⟨rfl,hbc⟩;(first | (replace HBC:=zh (HBC.out.trans (hbc.mono HBC.out.size))) | (replace HBC:=zh (HBC.out.drew.trans (hbc.mono HBC.out.size))));clear hbc)
           | (go_at_call 169;refine(HO.out _ _ (by simp [go_sem]) (by simp [go_sem])).mono ?_;rintro e wq ⟨rfl,rfl⟩))
 all_goals
  go_wp2_with fail
  go_ret
  exact⟨rfl,HB0.out.trans (((HBC.out.alloc HBC.out.size _)).mono HB0.out.size)⟩
def BoxR (W:World)(g:Nat)(x:RelL)(r:Value):Prop:=W.heap[g]? = some (.cells (relC x r) 82 (0,0))
theorem BoxR.lt {W:World}{g:Nat}{x:RelL}{r:Value}(h:BoxR W g x r):g<W.heap.size:=by
 unfold BoxR at h
 exact(zb h)
theorem BoxR.made (W:World)(x:RelL)(r:Value):BoxR (W.alloc (.cells (relC x r) 82)) W.heap.size x r:=zn W _
theorem BoxR.below {W W':World}{g B:Nat}{x:RelL}{r:Value}(h:BoxR W g x r)(hb:Below B W W')(hg:g<B):BoxR W' g x r:=(hb.block g hg).trans h
theorem BoxR.on {W W':World}{g:Nat}{x:RelL}{r:Value}(h:BoxR W g x r)(hb:Below W.heap.size W W'):BoxR W' g x r:=h.below hb h.lt
theorem BoxR.cells {W:World}{g:Nat}{x:RelL}{r:Value}(h:BoxR W g x r) :
  W.cell? ⟨g,0,none⟩=some (.string x.path)∧W.cell? ⟨g,1,none⟩=some (.int .i64 x.ver.1)∧W.cell? ⟨g,2,none⟩=some (.int .i64 x.ver.2.1)∧W.cell? ⟨g,3,none⟩=some (.int .i64 x.ver.2.2)∧W.cell? ⟨g,4,none⟩=some r ∧
   W.cell? ⟨g,5,none⟩=some (.string x.ar)∧W.cell? ⟨g,6,none⟩=some (.string x.ifc)∧W.cell? ⟨g,7,none⟩=some (.string x.cert)∧W.cell? ⟨g,8,none⟩=some (.bool x.yk) :=
 ⟨zw _ _ 0 _ _ _ h,zw _ _ 1 _ _ _ h,zw _ _ 2 _ _ _ h,zw _ _ 3 _ _ _ h,zw _ _ 4 _ _ _ h,zw _ _ 5 _ _ _ h,zw _ _ 6 _ _ _ h,zw _ _ 7 _ _ _ h,zw _ _ 8 _ _ _ h⟩
theorem z9p {s:ByteArray}(h:digB s=true):((s.size:Int) != 0)=false∨(((s.size:Int) != 0)=true∧((s.size:Int) != 32)=false):=by
 unfold digB at h
 by_cases h0:s.size=0
 ·left;simp [h0]
 ·right
  have:s.size=32:=by simpa [h0]using h
  simp [this]
theorem zd1 {s:ByteArray}(h:digB s=false):((s.size:Int) != 0)=true∧((s.size:Int) != 32)=true:=by
 unfold digB at h
 rw [Bool.or_eq_false_iff,decide_eq_false_iff_not,decide_eq_false_iff_not]at h
 exact⟨bne_iff_ne.2 (by omega),bne_iff_ne.2 (by omega)⟩
theorem zar (x:RelL)(r:Value)(w:World)(hm:MaxOk w)(hp:x.path.size≤1000000)(hl:x.reqs.length≤1000000000)(hq:∀ q∈x.reqs,q.1.size≤1000000∧q.2.length≤1000000000)(hR:ReqsOf w.heap.size r x.reqs w) :
  Calls prog 137 #[.agg (relC x r)] w fun e w'=>e=.returned (.int .i64 (relE x))∧Below w.heap.size w w':=by
 obtain⟨E,hE⟩:∃ E,relE x=E:=⟨_,rfl⟩
 have HE:=zh hE
 rw [hE]
 clear hE
 have HB0:Hid (Below w.heap.size w (w.alloc (.cells (relC x r) 82))):=zh (belQ _ _)
 have HG0:Hid (BoxR (w.alloc (.cells (relC x r) 82)) w.heap.size x r):=zh (BoxR.made w x r)
 have HM:=zh hm
 have HL:=zh (ze4 x.path (w.alloc (.cells (relC x r) 82)) hp (hm.alloc _))
 have HCR:=zh (fun W (hb:Below w.heap.size w W)=>z9f r x.reqs W (hm.below hb hm.pos) hl hq ((hR.below hb (zq _)).mono hb.size))
 obtain⟨ra,rc,hr⟩:∃ ra rc,r=.slice ra x.reqs.length rc:=by obtain⟨a,c,e,_⟩:=hR;exact⟨a,c,e⟩
 clear hm hp hl hq hR
 obtain⟨p,⟨v1,v2,v3⟩,rq,sa,si,sc,yk⟩:=x
 simp only [relC]at HL HCR hr HB0 HG0 ⊢
 obtain⟨⟨ln,lm,le⟩,hln⟩:∃ z,lineV p=z:=⟨_,rfl⟩
 rw [hln]at HL
 obtain⟨cr,hcr⟩:∃ z,checkReqs rq=z:=⟨_,rfl⟩
 rw [hcr]at HCR
 have HV:=zh (fun W=>z6j v1 v2 v3 W)
 obtain⟨vb,hvb⟩:∃ z,validB v1 v2 v3=z:=⟨_,rfl⟩
 rw [hvb]at HV
 obtain⟨da,hda⟩:∃ z,digB sa=z:=⟨_,rfl⟩
 obtain⟨di,hdi⟩:∃ z,digB si=z:=⟨_,rfl⟩
 obtain⟨dc,hdc⟩:∃ z,digB sc=z:=⟨_,rfl⟩
 have hX:E=(if le≠0 then 4 else if (vb&&decide (v1=lm))=false then 2 else if cr≠0 then cr else if (da&&(di&&dc))=true then 0 else 1):=by
  rw [← HE.out,← hvb,← hcr,← hda,← hdi,← hdc];unfold relE;simp only [hln]
 have F1:=zh (show le≠0→E=4 from fun h=>by rw [hX,if_pos h])
 have F2:=zh (show le=0→vb=false∨v1≠lm→E=2 from fun h h2=>by rw [hX,if_neg (by simp [h]),if_pos (by rcases h2 with h2 | h2<;>simp [h2])])
 have F3:=zh (show le=0→vb=true→v1=lm→cr≠0→E=cr from fun h h2 h3 h4=>by rw [hX,if_neg (by simp [h]),if_neg (by simp [h2,h3]),if_pos h4])
 have F4:=zh (show le=0→vb=true→v1=lm→cr=0→E=(if (da&&(di&&dc))=true then 0 else 1)from fun h h2 h3 h4=>by rw [hX,if_neg (by simp [h]),if_neg (by simp [h2,h3]),if_neg (by simp [h4])])
 have F5:=zh (show le=0→vb=true→v1=lm→cr=0→(da=false∨di=false∨dc=false)→E=1 from fun h h2 h3 h4 h5=>by rw [F4.out h h2 h3 h4,if_neg (by rcases h5 with h5 | h5 | h5<;>simp [h5])])
 have F6:=zh (show le=0→vb=true→v1=lm→cr=0→da=true→di=true→dc=true→E=0 from fun h h2 h3 h4 h5 h6 h7=>by rw [F4.out h h2 h3 h4,if_pos (by simp [h5,h6,h7])])
 clear hX F4
 have HD:=zh (And.intro hda (And.intro hdi hdc))
 clear hln hcr hvb hda hdi hdc HE
 subst hr
 simp only at HL
 go_enter func137,ntmps137
 go_wp2_with fail
 refine HL.out.mono ?_
 rintro e w1 ⟨rfl,hb1⟩
 have HB1:=zj HB0 hb1
 have HG1:=zh (HG0.out.on hb1)
 obtain⟨g0,g1,g2,g3,g4,g5,g6,g7,_⟩:=HG1.out.cells
 simp only at g0 g1 g2 g3 g4 g5 g6 g7
 clear hb1 HL HB0 HG0
 by_cases h1:le=0
 case neg =>
  have h1b:(le != 0)=true:=by simpa using h1
  have HY:=zh (F1.out h1)
  go_wp2_with fail
  go_ret
  exact⟨by rw [HY.out];rfl,HB1.out⟩
 subst h1
 go_wp2_with fail
 refine(HV.out _).mono ?_
 rintro e w2 ⟨rfl,hw2⟩
 have hb2:Below w1.heap.size w1 w2:=by rw [hw2];exact(by repeat (first | exact Below.refl _ _ | refine Below.drew ?_ | refine Below.alloc ?_ (by simp<;>omega) _ | refine Below.setCell ?_ (by simp<;>omega) _))
 have HB2:=zj HB1 hb2
 have HG2:=zh (HG1.out.on hb2)
 clear hw2 hb2 g0 g1 g2 g3 g4 g5 g6 g7 HV HB1 HG1
 obtain⟨g0,g1,g2,g3,g4,g5,g6,g7,_⟩:=HG2.out.cells
 simp only at g0 g1 g2 g3 g4 g5 g6 g7
 cases vb with
 | false =>
  have HY:=zh (F2.out (by trivial) (.inl (by trivial)))
  go_wp2_with fail
  go_ret
  exact⟨by rw [HY.out];rfl,HB2.out⟩
 | true =>
 by_cases h2:v1=lm
 case neg =>
  have h2b:(v1 != lm)=true:=by simpa using h2
  have h2c:(v1 == lm)=false:=by simpa using h2
  have HY:=zh (F2.out (by trivial) (.inr h2))
  go_wp2_with fail
  go_ret
  exact⟨by rw [HY.out];rfl,HB2.out⟩
 subst h2
 go_wp2_with fail
 refine(HCR.out _ HB2.out).mono ?_
 rintro e w3 ⟨rfl,hb3⟩
 have HB3:=zj HB2 hb3
 have HG3:=zh (HG2.out.on hb3)
 clear hb3 g0 g1 g2 g3 g4 g5 g6 g7 HB2 HG2
 obtain⟨g0,g1,g2,g3,g4,g5,g6,g7,_⟩:=HG3.out.cells
 simp only at g0 g1 g2 g3 g4 g5 g6 g7
 by_cases h3:cr=0
 case neg =>
  have h3b:(cr != 0)=true:=by simpa using h3
  have HY:=zh (F3.out (by trivial) (by trivial) (by trivial) h3)
  go_wp2_with fail
  go_ret
  exact⟨by rw [HY.out];rfl,HB3.out⟩
 subst h3
 have HZ:=zh (show Below w.heap.size w (w3.alloc (.cells #[.string sa,.string si,.string sc] 9))from HB3.out.alloc HB3.out.size _)
 go_wp2_with fail
 go_loopw [43] (fun i wr=>((i=.int .i64 0)∨(i=.int .i64 1∧Hid (da=true))∨(i=.int .i64 2∧Hid (da=true∧di=true))∨(i=.int .i64 3∧Hid (da=true∧di=true∧dc=true)))∧wr=w3.alloc (.cells #[.string sa,.string si,.string sc] 9)) (fun i _=>3 - (intOf i).toNat)
 case atStart=>exact⟨.inl rfl,rfl⟩
 case round =>
  obtain⟨hrel,rfl⟩:=hrel
  rcases hrel with rfl | ⟨rfl,H1⟩ | ⟨rfl,H2⟩ | ⟨rfl,H3⟩
  ·cases da with
   | true =>
    rcases z9p HD.out.1 with k0 | ⟨k0,k1⟩
    ·go_wp2_with fail
     go_roundw
     case rel=>exact⟨(.inr (.inl ⟨rfl,zh (by trivial)⟩)),by trivial⟩
     case measure=>simp [intOf]
    ·go_wp2_with fail
     go_roundw
     case rel=>exact⟨(.inr (.inl ⟨rfl,zh (by trivial)⟩)),by trivial⟩
     case measure=>simp [intOf]
   | false =>
    obtain⟨k0,k1⟩:=zd1 HD.out.1
    have HY:=zh (F5.out (by trivial) (by trivial) (by trivial) (by trivial) (by simp))
    go_wp2_with fail
    go_ret
    exact⟨by rw [HY.out];rfl,HZ.out⟩
  ·cases di with
   | true =>
    rcases z9p HD.out.2.1 with k0 | ⟨k0,k1⟩
    ·go_wp2_with fail
     go_roundw
     case rel=>exact⟨(.inr (.inr (.inl ⟨rfl,zh ⟨H1.out,by trivial⟩⟩))),by trivial⟩
     case measure=>simp [intOf]
    ·go_wp2_with fail
     go_roundw
     case rel=>exact⟨(.inr (.inr (.inl ⟨rfl,zh ⟨H1.out,by trivial⟩⟩))),by trivial⟩
     case measure=>simp [intOf]
   | false =>
    obtain⟨k0,k1⟩:=zd1 HD.out.2.1
    have HY:=zh (F5.out (by trivial) (by trivial) (by trivial) (by trivial) (by simp))
    go_wp2_with fail
    go_ret
    exact⟨by rw [HY.out];rfl,HZ.out⟩
  ·cases dc with
   | true =>
    rcases z9p HD.out.2.2 with k0 | ⟨k0,k1⟩
    ·go_wp2_with fail
     go_roundw
     case rel=>exact⟨(.inr (.inr (.inr ⟨rfl,zh ⟨H2.out.1,H2.out.2,by trivial⟩⟩))),by trivial⟩
     case measure=>simp [intOf]
    ·go_wp2_with fail
     go_roundw
     case rel=>exact⟨(.inr (.inr (.inr ⟨rfl,zh ⟨H2.out.1,H2.out.2,by trivial⟩⟩))),by trivial⟩
     case measure=>simp [intOf]
   | false =>
    obtain⟨k0,k1⟩:=zd1 HD.out.2.2
    have HY:=zh (F5.out (by trivial) (by trivial) (by trivial) (by trivial) (by simp))
    go_wp2_with fail
    go_ret
    exact⟨by rw [HY.out];rfl,HZ.out⟩
  ·have HY:=zh (F6.out (by trivial) (by trivial) (by trivial) (by trivial) H3.out.1 H3.out.2.1 H3.out.2.2)
   go_wp2_with fail
   go_ret
   exact⟨by rw [HY.out];rfl,HZ.out⟩
section
open Go.Proofs.Tryz Go Go.RowKit Go.Shelf Go.Lib
def selC (y:SelL):List Value:=[.string y.1,.int .i64 y.2.1,.int .i64 y.2.2.1,.int .i64 y.2.2.2]
theorem z53 (d:Nat)(a b c x y z:Int)(w:World):(Op.equalIn (d+5) 51 (.agg #[.int .i64 a,.int .i64 b,.int .i64 c]) (.agg #[.int .i64 x,.int .i64 y,.int .i64 z])).run prog w=.ok (a == x&&(b == y&&c == z)) w:=by
 have hS2:prog.underlying 51=some (.struct (prog.fieldsOf 51)):=by kernel_rfl
 have hp2:prog.stoodInHeld 51=false:=by kernel_rfl
 rw [run_equalIn_agg w (d+4) 51 _ _ hS2 hp2]
 clear hS2 hp2
 have u3:=underlying3
 have a3:=isAgg3
 have z3:=sizeOf3
 simp only [Program.fieldsOf,underlying51]
 go_simp
 by_cases h1:a=x<;>by_cases h2:b=y<;>by_cases h3:c=z<;>simp [h1,h2,h3]
theorem zmg:EqlAt prog 53 (fun x=>.agg (selC x).toArray) (fun x y=>decide (x=y)):=by
 refine⟨fun x y w=>?_,GuardAt.agg _ (by kernel_rfl)⟩
 have hS:prog.underlying 53=some (.struct (prog.fieldsOf 53)):=by kernel_rfl
 have hp:prog.stoodInHeld 53=false:=by kernel_rfl
 simp only [selC]
 rw [run_eql_struct,show(10000:Nat)=9999+1 from rfl,run_equalIn_agg w 9999 53 _ _ hS hp]
 clear hS hp
 obtain⟨d,hd⟩:∃ d,(9999:Nat)=d+9:=⟨9990,rfl⟩
 rw [hd]
 clear hd
 have u9:=underlying9
 have a9:=isAgg9
 have z9:=sizeOf9
 have a4:=isAgg51
 have z4:=sizeOf51
 have hv:=z53
 simp only [Program.fieldsOf,underlying53]
 go_simp
 obtain⟨xp,x1,x2,x3⟩:=x
 obtain⟨yp,y1,y2,y3⟩:=y
 by_cases h0:xp.toList=yp.toList
 ·have h0':=z3e h0
  subst h0'
  by_cases h1:x1=y1<;>by_cases h2:x2=y2<;>by_cases h3:x3=y3<;>simp [h1,h2,h3]
 ·have h0':¬ xp=yp:=fun e=>h0 (by rw [e])
  simp [h0,h0']
end
structure RelBd (x:RelL):Prop where
 path:x.path.size≤1000000
 len:x.reqs.length≤1000000
 reqs:∀ q∈x.reqs,q.1.size≤1000000∧q.2.length≤1000000
theorem RelAt.box {B b o:Nat}{x:RelL}{W:World}(h:RelAt B b o x W):∃ r,ReqsOf B r x.reqs W ∧
  W.cell? ⟨b,o,none⟩=some (.string x.path)∧W.cell? ⟨b,o+1,none⟩=some (intC x.ver.1)∧W.cell? ⟨b,o+2,none⟩=some (intC x.ver.2.1)∧W.cell? ⟨b,o+3,none⟩=some (intC x.ver.2.2)∧W.cell? ⟨b,o+4,none⟩=some r ∧
  W.cell? ⟨b,o+5,none⟩=some (.string x.ar)∧W.cell? ⟨b,o+6,none⟩=some (.string x.ifc)∧W.cell? ⟨b,o+7,none⟩=some (.string x.cert)∧W.cell? ⟨b,o+8,none⟩=some (.bool x.yk):=by
 obtain⟨r,h0,h1,h2,h3,h4,h5,h6,h7,h8,h9⟩:=h
 exact⟨r,h9,h0,h1,h2,h3,h4,h5,h6,h7,h8⟩
theorem z5n (v iv:Value)(X:List RelL)(w:World)(hm:MaxOk w)(hX:X.length≤1000000)(hq:∀ x∈X,RelBd x)(hR:RelsOf w.heap.size v X w) :
  Calls prog 100 #[.agg #[v,iv]] w fun e w'=>e=.returned (.int .i64 (checkX X))∧Below w.heap.size w w':=by
 obtain⟨E,hE⟩:∃ E,checkX X=E:=⟨_,rfl⟩
 have HE:=zh hE
 rw [hE]
 clear hE
 obtain⟨ao,cap,rfl,hR⟩:=hR
 have HR:=zh hR
 have HQ:=zh hq
 have HM:=zh hm
 clear hR hq hm
 have HB0:Hid (Below w.heap.size w (w.alloc (.cells #[.slice ao X.length cap,iv] 25))):=zh (belQ _ _)
 by_cases h256:256<X.length
 ·have h256a:(256:Int)<(X.length:Int):=by omega
  have h256b:decide ((256:Int)<(X.length:Int))=true:=decide_eq_true h256a
  have HX:=zh (show E=7 by rw [← HE.out];unfold checkX;rw [if_pos h256])
  go_enter func100,ntmps100
  go_wp2_with fail
  go_ret
  exact⟨by rw [HX.out];rfl,HB0.out⟩
 have h256a:¬ ((256:Int)<(X.length:Int)):=by omega
 have h256b:decide ((256:Int)<(X.length:Int))=false:=decide_eq_false h256a
 have HF:=zh (show E=firstE X.length (idxErr X) by rw [← HE.out];unfold checkX;rw [if_neg h256])
 clear h256
 go_enter func100,ntmps100
 go_wp2_with fail
 go_loopw [14] (fun p wr=>∃ k:Nat,k≤X.length∧p=.int .i64 k∧Hid (∀ j,j<k→idxErr X j=0)∧Hid (Below (w.heap.size+1) (w.alloc (.cells #[.slice ao X.length cap,iv] 25)) wr)) (fun p _=>X.length - (intOf p).toNat)
 case atStart=>exact⟨0,Nat.zero_le _,rfl,zh (fun j hj=>absurd hj (Nat.not_lt_zero _)),zh (Below.refl _ _)⟩
 case round =>
  obtain⟨k,hk,rfl,HZ,HB⟩:=hrel
  have HW:Hid (Below w.heap.size w wr):=zh (HB0.out.trans (HB.out.mono (by omega)))
  have hws:=HB.out.size
  simp only [World.size_alloc]at hws
  by_cases hlt:k<X.length
  case neg =>
   have hk2:k=X.length:=by omega
   subst hk2
   have HX:=zh (show E=0 by rw [HF.out];exact z2y fun j hj=>HZ.out j hj)
   go_wp2_with fail
   go_ret
   exact⟨by rw [HX.out];rfl,HW.out⟩
  case pos =>
   obtain⟨b,off,rfl,hbl,hra⟩:=HR.out k X[k] (by simp [hlt])
   have hgd:X.getD k default=X[k]:=by rw [zg,ze hlt];rfl
   obtain⟨q1,q2,q3⟩:=HQ.out X[k] (List.getElem_mem hlt)
   obtain⟨x,hx⟩:∃ x,X[k]=x:=⟨_,rfl⟩
   have HXK:=zh hx
   rw [hx]at hgd hra q1 q2 q3
   have HGD:=zh hgd
   clear hx hgd
   obtain⟨r,hr,d0,d1,d2,d3,d4,d5,d6,d7,d8⟩:=(hra.below HW.out (zq _) hbl).box
   have HRA:=zh hra
   clear hra
   have hbw:b<wr.heap.size:=by omega
   have HB2:Hid (Below w.heap.size w (wr.alloc (.cells (relC x r) 82))):=zh (HW.out.trans ((belQ wr _).mono HW.out.size))
   have HC:=zh (zar x r (wr.alloc (.cells (relC x r) 82)) (HM.out.below HB2.out HM.out.pos) q1 (by omega) (fun q hq=>⟨(q3 q hq).1,by have:=(q3 q hq).2;omega⟩) ((hr.below (belQ wr _) (by omega)).mono (by simp;omega)))
   have HG2:Hid (BoxR (wr.alloc (.cells (relC x r) 82)) wr.heap.size x r):=zh (BoxR.made _ _ _)
   obtain⟨ra,rc,rfl,_⟩:=hr
   clear q1 q2 q3
   have HD0:=zh (And.intro d0 (And.intro d1 (And.intro d2 d3)))
   simp only [relC]at HC HB2
   go_wp2_with fail
   refine HC.out.mono ?_
   rintro e w3 ⟨rfl,hb3⟩
   have HB3:=zj HB2 hb3
   have HG3:=zh (HG2.out.on hb3)
   have HT3:=zh ((HB.out.trans ((belQ wr _).mono hws)).trans (hb3.mono (by simp;omega)))
   have hs3:=HB3.out.size
   clear hb3 d0 d1 d2 d3 d4 d5 d6 d7 d8 HC HG2
   by_cases hz:relE x=0
   case neg =>
    have HX:=zh (show E=relE x by
     have e1:idxErr X k=relE x:=by unfold idxErr;rw [HGD.out,if_pos hz]
     rw [HF.out,z18 hlt (fun j hj=>HZ.out j hj) (by rw [e1];exact hz),e1])
    generalize relE x=er at *
    have hz2:(er != 0)=true:=by simpa using hz
    go_wp2_with fail
    go_ret
    exact⟨by rw [HX.out];rfl,HB3.out⟩
   have HZR:=zh hz
   rw [hz]
   clear hz
   cases k with
   | zero =>
    have HZ2:=zh (show ∀ j,j<0+1→idxErr X j=0 from fun j hj=>by
     obtain rfl:j=0:=by omega
     unfold idxErr
     rw [HGD.out,if_neg (by rw [HZR.out];simp),if_pos rfl])
    go_wp2_with fail
    go_roundw
    case rel=>exact⟨0+1,by omega,by simp,HZ2,HT3⟩
    case measure=>simp [intOf];omega
   | succ k =>
    have hgk:k<X.length:=by omega
    obtain⟨b2,off2,e2,_,hra2⟩:=HR.out k X[k] (by simp [hgk])
    cases e2
    have hgd2:X.getD k default=X[k]:=by rw [zg,ze hgk];rfl
    obtain⟨y,hy⟩:∃ y,X[k]=y:=⟨_,rfl⟩
    rw [hy]at hra2 hgd2
    have HGD2:=zh hgd2
    clear hy hgd2
    obtain⟨r2,hr2,f0,f1,f2,f3,f4,f5,f6,f7,f8⟩:=(hra2.below HB3.out (zq _) hbl).box
    obtain⟨ra2,rc2,rfl,_⟩:=hr2
    have c0:w3.cell? ⟨w.heap.size,0,none⟩=some (.slice (some ⟨b,off,none⟩) X.length cap):=(HT3.out.cell (p:=⟨w.heap.size,0,none⟩) (by simp)).trans (by simp [go_sem])
    have hne:(((k+1:Nat):Int) == 0)=false:=by simp;omega
    have hsub:wrap64 (((k+1:Nat):Int) - 1)=(k:Int):=by rw [show((k+1:Nat):Int) - 1=(k:Int) by omega];unfold wrap64;omega
    have ht3:=HT3.out.size
    simp only [World.size_alloc]at ht3
    obtain⟨kb,hkb⟩:∃ kb,decide (keyL y=keyL x)=kb:=⟨_,rfl⟩
    have HKB:=zh hkb
    have hq1:∀ W,(binOp .eql 53 (.agg #[.string y.path,intC y.ver.1,intC y.ver.2.1,intC y.ver.2.2]) (.agg #[.string x.path,intC x.ver.1,intC x.ver.2.1,intC x.ver.2.2])).run prog W=.ok (.bool kb) W:=fun W=>by rw [← hkb];exact zmg.1 (keyL y) (keyL x) W
    clear hkb
    have hbw3:b<w3.heap.size:=by omega
    clear hra2
    go_upto_region 11 with fail
    obtain⟨W,hW⟩:∃ W,w3.alloc (.cells #[.string y.path,intC y.ver.1,intC y.ver.2.1,intC y.ver.2.2,.slice ra2 y.reqs.length rc2,.string y.ar,.string y.ifc,.string y.cert,.bool y.yk] 82)=W:=⟨_,rfl⟩
    rw [hW]
    have HGY:Hid (BoxR W w3.heap.size y (.slice ra2 y.reqs.length rc2)):=zh (by rw [← hW];exact BoxR.made _ _ _)
    have HGX:Hid (BoxR W wr.heap.size x (.slice ra x.reqs.length rc)):=zh (by rw [← hW];exact HG3.out.on (belQ _ _))
    have HBW:Hid (Below w.heap.size w W):=zh (by rw [← hW];exact HB3.out.trans ((belQ _ _).mono HB3.out.size))
    have HTW:=zh (HT3.out.trans (show Below (w.heap.size+1) w3 W by rw [← hW];exact(belQ _ _).mono (by omega)))
    have hw3W:w3.heap.size<W.heap.size:=by rw [← hW];simp
    clear hW f0 f1 f2 f3 f4 f5 f6 f7 f8 c0 hne hsub
    have HBC:Hid (Below W.heap.size W W):=zh (Below.refl _ _)
    have HK1:=zh (fun W=>zd9 x (.slice ra x.reqs.length rc) W)
    have HK2:=zh (fun W=>zd9 y (.slice ra2 y.reqs.length rc2) W)
    simp only [relC]at HK1 HK2
    go_region_held3 (fun w'=>(w'.cell? ⟨wr.heap.size,0,none⟩=some (.string x.path)∧w'.cell? ⟨wr.heap.size,1,none⟩=some (.int .i64 x.ver.1)∧w'.cell? ⟨wr.heap.size,2,none⟩=some (.int .i64 x.ver.2.1)∧w'.cell? ⟨wr.heap.size,3,none⟩=some (.int .i64 x.ver.2.2)∧w'.cell? ⟨wr.heap.size,4,none⟩=some (.slice ra x.reqs.length rc)∧w'.cell? ⟨wr.heap.size,5,none⟩=some (.string x.ar)∧w'.cell? ⟨wr.heap.size,6,none⟩=some (.string x.ifc)∧w'.cell? ⟨wr.heap.size,7,none⟩=some (.string x.cert)∧w'.cell? ⟨wr.heap.size,8,none⟩=some (.bool x.yk))∧w'.cell? ⟨w3.heap.size,0,none⟩=some (.string y.path)∧w'.cell? ⟨w3.heap.size,1,none⟩=some (.int .i64 y.ver.1)∧w'.cell? ⟨w3.heap.size,2,none⟩=some (.int .i64 y.ver.2.1)∧w'.cell? ⟨w3.heap.size,3,none⟩=some (.int .i64 y.ver.2.2)∧w'.cell? ⟨w3.heap.size,4,none⟩=some (.slice ra2 y.reqs.length rc2)∧w'.cell? ⟨w3.heap.size,5,none⟩=some (.string y.ar)∧w'.cell? ⟨w3.heap.size,6,none⟩=some (.string y.ifc)∧w'.cell? ⟨w3.heap.size,7,none⟩=some (.string y.cert)∧w'.cell? ⟨w3.heap.size,8,none⟩=some (.bool y.yk))
     ((first | (exact⟨(HGX.out.on HBC.out).cells,(HGY.out.on HBC.out).cells⟩) | (exact⟨(HGX.out.on HBC.out.drew).cells,(HGY.out.on HBC.out.drew).cells⟩)))
     (first | (go_at_call 138;refine(HK1.out _).mono ?_;rintro e wq ⟨rfl,hbc⟩;(first | (replace HBC:=zh (HBC.out.trans (hbc.mono HBC.out.size))) | (replace HBC:=zh (HBC.out.drew.trans (hbc.mono HBC.out.size))));clear hbc)
              | (go_at_call 138;refine(HK2.out _).mono ?_;rintro e wq ⟨rfl,hbc⟩;(first | (replace HBC:=zh (HBC.out.trans (hbc.mono HBC.out.size))) | (replace HBC:=zh (HBC.out.drew.trans (hbc.mono HBC.out.size))));clear hbc))
    all_goals
     have HI:=zh (show idxErr X (k+1)=relE2 y x by unfold idxErr;rw [HGD.out,if_neg (by rw [HZR.out];simp),if_neg (by omega),show k+1 - 1=k from rfl,HGD2.out])
     have HTQ:=zh (HTW.out.trans (HBC.out.mono (by omega)))
     have HBQ:=zh (HBW.out.trans (HBC.out.mono HBW.out.size))
     cases kb with
     | true =>
      have HX:=zh (show E=5 by
       have e1:idxErr X (k+1)=5:=by rw [HI.out];unfold relE2;rw [if_pos (of_decide_eq_true HKB.out)]
       rw [HF.out,z18 hlt (fun j hj=>HZ.out j hj) (by rw [e1];decide),e1])
      go_wp2_with fail
      go_ret
      exact⟨by rw [HX.out];rfl,HBQ.out⟩
     | false =>
      obtain⟨f0,f1,f2,f3,f4,f5,f6,f7,f8⟩:=(HGX.out.on HBC.out).cells
      obtain⟨e0,e1,e2,e3,e4,e5,e6,e7,e8⟩:=(HGY.out.on HBC.out).cells
      have HCM:=zh (fun W=>zb0 y x (.slice ra2 y.reqs.length rc2) (.slice ra x.reqs.length rc) W)
      simp only [relC]at HCM
      obtain⟨cm,hcm⟩:∃ cm,cmpR y x=cm:=⟨_,rfl⟩
      rw [hcm]at HCM
      have HI2:=zh (show idxErr X (k+1)=if 0<cm then 1 else 0 by rw [HI.out];unfold relE2;rw [if_neg (of_decide_eq_false HKB.out),hcm])
      clear hcm HI HKB
      go_wp2_with fail
      refine(HCM.out _).mono ?_
      rintro e w9 ⟨rfl,hb9⟩
      have HB9:=zj HBQ hb9
      have HT9:=zh (HTQ.out.trans (hb9.mono (by have:=HTQ.out.size;simp only [World.size_alloc]at this;omega)))
      clear hb9 e0 e1 e2 e3 e4 e5 e6 e7 e8 f0 f1 f2 f3 f4 f5 f6 f7 f8
      by_cases hc:0<cm
      ·have hc2:decide (0<cm)=true:=decide_eq_true hc
       have HX:=zh (show E=1 by
        have e1:idxErr X (k+1)=1:=by rw [HI2.out,if_pos hc]
        rw [HF.out,z18 hlt (fun j hj=>HZ.out j hj) (by rw [e1];decide),e1])
       go_wp2_with fail
       go_ret
       exact⟨by rw [HX.out];rfl,HB9.out⟩
      ·have hc2:decide (0<cm)=false:=decide_eq_false hc
       have HZ2:=zh (show ∀ j,j<k+1+1→idxErr X j=0 from fun j hj=>by
        by_cases e:j=k+1
        ·rw [e,HI2.out,if_neg hc]
        ·exact HZ.out j (by omega))
       go_wp2_with fail
       go_roundw
       case rel=>exact⟨k+1+1,by omega,by go_num,HZ2,HT9⟩
       case measure=>simp [intOf];omega
section
open Go.Proofs.Tryz Go Go.RowKit Go.Maps
def RV (v:Value):Option (DataW Value×List MemPlace):=some (.held v,[])
def MapF (P:Program)(k:TypeId)(W:World)(b n:Nat)(f:Lit→Option Value):Prop :=
 ∃ D:DataW Value,W.ownsMap P k RV b n D∧Tidy D∧(∀ q,Maps.has D q=(f q).isSome)∧∀ q z,D.atKey q z=match f q with | some v=>.held v | none=>z
variable {P:Program} {k:TypeId} {W:World} {b n:Nat} {f:Lit→Option Value}
theorem MapF.made (P:Program)(k:TypeId)(W:World):MapF P k (W.alloc (.map #[] 0)) W.heap.size 0 (fun _=>none):=⟨.map [],World.ownsMap_made W P k RV,tidy_empty,fun _=>rfl,fun _ _=>rfl⟩
theorem MapF.lt (h:MapF P k W b n f):b<W.heap.size:=by
 obtain⟨D,h1,_⟩:=h
 exact h1.lt
theorem MapF.kept {W':World}{row:Option Nat}(h:MapF P k W b n f)(hg:W.grownBy W' row)(hne:some b≠row):MapF P k W' b n f:=by
 obtain⟨D,h1,h2⟩:=h
 exact⟨D,h1.kept hg hne,h2⟩
theorem MapF.below {W':World}(h:MapF P k W b n f)(hb:Below W.heap.size W W'):MapF P k W' b n f:=h.kept (row:=none) ⟨hb.os,hb.tape,hb.output,hb.size,fun i hi _=>hb.block i hi⟩ (by simp)
theorem MapF.alloc (h:MapF P k W b n f)(o:Obj):MapF P k (W.alloc o) b n f:=by
 obtain⟨D,h1,h2⟩:=h
 exact⟨D,h1.alloc o,h2⟩
theorem MapF.setCell (h:MapF P k W b n f){a:Addr}(ha:b≠a.block)(u:Value):MapF P k (W.setCell a u) b n f:=by
 obtain⟨D,h1,h2⟩:=h
 exact⟨D,h1.setCell ha u,h2⟩
open Classical in
noncomputable def putF (f:Lit→Option Value)(kl:Lit)(v:Value):Lit→Option Value:=fun q=>if q=kl then some v else f q
theorem z2r (f:Lit→Option Value)(kl:Lit)(v:Value):putF f kl v kl=some v:=by unfold putF;exact if_pos rfl
theorem z1f (f:Lit→Option Value){kl q:Lit}(v:Value)(h:q≠kl):putF f kl v q=f q:=by unfold putF;exact if_neg h
theorem z17 {ops:Array Oper}{rest:List Oper}{o:Oper}{a:Act}{Q:Exit→Act→World→Prop}
  (hg:o.guard=none) (m x v:Operand) (t:TypeId) (hop:o.op=Op.mapUpdate t m x v)
  (k e:TypeId) (K:Keyed P k) (ht:P.underlying t=some (.map k e)) (b n:Nat) (f:Lit→Option Value)
  (hm:a.eval m=.map (some b)) (hown:MapF P k W b n f) (hn:n<maxLen) (key val:Value) (kl:Lit) (hx:a.eval x=key) (hv:a.eval v=val) (hkey:keyOf P k key=some kl)
  (hK:∀ W',MapF P k W' b (n+1) (putF f kl val)→W.grownBy W' (some b)→wpList P ops Q rest (a.put o.dst undef) W') :
  wpList P ops Q (o::rest) a W:=by
 obtain⟨D,h1,h2,h3,h4⟩:=hown
 have hkl:=K.key hkey
 refine wpList_mapUpdate_own W hg m x v t hop k e K ht RV b n D hm h1 hn key val kl hx hv hkey (.held val) [] rfl fun W' g1 g2=>hK W' ⟨_,g1,h2.put hkl _,fun q=>?_,fun q z=>?_⟩ g2
 ·by_cases hq:q=kl
  ·subst hq
   rw [has_put_same h2.isMap hkl,z2r]
   rfl
  ·rw [has_put_other hq,h3,z1f f val hq]
 ·by_cases hq:q=kl
  ·subst hq
   rw [atKey_put_same h2.isMap hkl,z2r]
  ·rw [atKey_put_other hq,h4,z1f f val hq]
theorem z1c {ops:Array Oper}{rest:List Oper}{o:Oper}{a:Act}{Q:Exit→Act→World→Prop}
  (hg:o.guard=none) (m x:Operand) (t:TypeId) (hop:o.op=Op.lookup t m x false)
  (k e:TypeId) (K:Keyed P k) (ht:P.underlying t=some (.map k e)) {z:Value} (hz:(zeroValue e).run P W=.ok z W) (b n:Nat) (f:Lit→Option Value)
  (hm:a.eval m=.map (some b)) (hown:MapF P k W b n f) (key:Value) (kl:Lit) (hx:a.eval x=key) (hkey:keyOf P k key=some kl)
  (hK:wpList P ops Q rest (a.put o.dst ((f kl).getD z)) W):wpList P ops Q (o::rest) a W:=by
 obtain⟨D,h1,h2,h3,h4⟩:=hown
 refine wpList_plain hg fun K' hK'=>?_
 obtain⟨v,ps,hrun,hv⟩:=h1.lookup K ht hz (zd:=.held z) (zp:=[]) rfl hkey
 rw [h4]at hv
 have e:v=(f kl).getD z:=by
  unfold RV at hv
  cases hf:f kl with
  | none=>rw [hf]at hv;injection hv with hv;injection hv with hv _;injection hv
  | some u=>rw [hf]at hv;injection hv with hv;injection hv with hv _;injection hv
 subst e
 unfold Oper.wp
 simp [execOp,hop,hm,hx,hrun,Result.andThen]
 exact hK' _ _ hK
theorem z0w {ops:Array Oper}{rest:List Oper}{o:Oper}{a:Act}{Q:Exit→Act→World→Prop}
  (hg:o.guard=none) (m x:Operand) (t:TypeId) (hop:o.op=Op.lookup t m x true)
  (k e:TypeId) (K:Keyed P k) (ht:P.underlying t=some (.map k e)) {z:Value} (hz:(zeroValue e).run P W=.ok z W) (b n:Nat) (f:Lit→Option Value)
  (hm:a.eval m=.map (some b)) (hown:MapF P k W b n f) (key:Value) (kl:Lit) (hx:a.eval x=key) (hkey:keyOf P k key=some kl)
  (hK:wpList P ops Q rest (a.put o.dst (.tuple #[(f kl).getD z,.bool (f kl).isSome])) W):wpList P ops Q (o::rest) a W:=by
 obtain⟨D,h1,h2,h3,h4⟩:=hown
 refine wpList_lookup_own_ok W hg m x t hop k e K ht RV hz (.held z) [] rfl b n D hm h1 key kl hx hkey fun v ps hv=>?_
 rw [h4]at hv
 have e:v=(f kl).getD z:=by
  unfold RV at hv
  cases hf:f kl with
  | none=>rw [hf]at hv;injection hv with hv;injection hv with hv _;injection hv
  | some u=>rw [hf]at hv;injection hv with hv;injection hv with hv _;injection hv
 subst e
 rw [h3]
 exact hK
end
def segK:Value→Option Nat
 | .slice (some a) _ (_+1)=>some a.block
 | _=>none
structure SegC (W:World)(B c:Nat)(v:Value)(n:Nat)(xs:List Value):Prop where
 len:xs.length=n*c
 val:(∃ ao,v=.slice ao 0 0∧n=0)∨∃ g off cap,v=.slice (some ⟨g,off,none⟩) n (cap+1)∧n≤cap+1∧cap+1≤maxLen∧B≤g∧g<W.heap.size∧(∀ j,j<n*c→W.cell? ⟨g,off+j,none⟩=xs[j]?) ∧
  ∀ j,j<(cap+1)*c→(W.cell? ⟨g,off+j,none⟩).isSome=true∧W.frozen? ⟨g,off+j,none⟩=false
theorem SegC.nil (W:World)(B c:Nat)(ao:Option Addr):SegC W B c (.slice ao 0 0) 0 []:=⟨by simp,.inl ⟨ao,rfl,rfl⟩⟩
theorem SegC.lt {W:World}{B c n:Nat}{v:Value}{xs:List Value}(h:SegC W B c v n xs):∀ k,segK v=some k→B≤k∧k<W.heap.size:=by
 intro k hk
 rcases h.val with ⟨ao,rfl,_⟩ | ⟨g,off,cap,rfl,_,_,hb,hg,_⟩
 ·cases ao<;>simp [segK]at hk
 ·simp [segK]at hk;subst hk;exact⟨hb,hg⟩
theorem SegC.far {W W':World}{B c n:Nat}{v:Value}{xs:List Value}(h:SegC W B c v n xs)(hs:W.heap.size≤W'.heap.size)(hk:∀ k,segK v=some k→W'.heap[k]? = W.heap[k]?):SegC W' B c v n xs:=by
 refine⟨h.len,h.val.imp id fun⟨g,off,cap,hv,h1,h2,h3,h4,h5,h6⟩=>?_⟩
 have e:=hk g (by rw [hv];rfl)
 exact⟨g,off,cap,hv,h1,h2,h3,by omega,fun j hj=>(World.cell?_of_block (a:=⟨g,off+j,none⟩) e).trans (h5 j hj),fun j hj=>⟨by rw [World.cell?_of_block (a:=⟨g,off+j,none⟩) e];exact(h6 j hj).1,(World.frozen?_of_block (a:=⟨g,off+j,none⟩) e).trans (h6 j hj).2⟩⟩
theorem SegC.shape {W:World}{B c n:Nat}{v:Value}{xs:List Value}(h:SegC W B c v n xs):∃ a k,v=.slice a n k:=by
 rcases h.val with ⟨ao,rfl,rfl⟩ | ⟨g,off,cap,rfl,_⟩
 ·exact⟨ao,0,rfl⟩
 ·exact⟨_,_,rfl⟩
theorem zac (w:World)(g o:Nat)(vs:List Value):(w.setCells g o vs).tape=w.tape:=by
 induction vs generalizing w o with
 | nil=>rfl
 | cons v vs ih=>simp only [World.setCells];rw [ih];rfl
theorem z3o {P:Program}(w:World)(t tx ty e:TypeId)(i:TypeInfo)(z:Value)(bytes c:Nat)(ht:P.underlying t=some (.slice e))(hi:P.info? e=some i)(hz:i.zero=some z)(hsize:i.size=c)(hby:i.bytes=bytes)(hzs:z.cells.size=c)
  (B:Nat) (v:Value) (n:Nat) (xs:List Value) (h:SegC w B c v n xs) (hB:B≤w.heap.size) (x:Value) (m:Nat) (news:List Value) (hs:Src P c tx x m news w) (h63:n+m≤maxLen) (hbytes:(n+m)*bytes≤140737488355328) :
  ∃ v' w',(Builtin.append_ #[t,tx] ty #[v,x]).run P w=.ok v' w'∧SegC w' B c v' (n+m) (xs++news)∧w.grownBy w' (segK v)∧(segK v'=segK v∨∀ k,segK v'=some k→w.heap.size≤k):=by
 subst hsize
 subst hby
 have hl:=h.len
 have hnl:=hs.newsLen
 have hlen':(xs++news).length=(n+m)*i.size:=by rw [List.length_append,hl,hnl,Nat.add_mul]
 have grow:∀ (bs:Option Addr) (sc:Nat),v=.slice bs n sc→sc<n+m →
   (Builtin.firstCells i.size n (.slice bs n sc)).run P w.drew=.ok xs.toArray w.drew →
   ∃ v' w',(Builtin.append_ #[t,tx] ty #[v,x]).run P w=.ok v' w'∧SegC w' B i.size v' (n+m) (xs++news)∧w.grownBy w' (segK v)∧(segK v'=segK v∨∀ k,segK v'=some k→w.heap.size≤k):=by
  rintro bs sc rfl hg hold
  have hrun:=run_append_grow_src (P:=P) w t tx ty e i z ht hi hz bs n sc xs hold x m news hs hg (by simp only [maxLen]at h63;omega) (growslice_fits hg hbytes)
  have hge:=grownCap_ge w (n+m) sc e
  have hcm:=grownCap_le_maxLen w (n+m) sc e h63
  obtain⟨K,hK⟩:∃ K,grownCap w (n+m) sc e=K+1:=⟨grownCap w (n+m) sc e - 1,by omega⟩
  rw [hK]at hrun hge hcm
  have hsz:((xs++news).toArray++Builtin.zeroCells z.cells (K+1 - (n+m))).size=(K+1)*i.size:=by
   rw [Array.size_append,List.size_toArray,hlen',size_zeroCells,hzs,← Nat.add_mul]
   congr 1
   omega
  refine⟨_,_,hrun,⟨hlen',.inr ⟨w.heap.size,0,K,rfl,hge,hcm,hB,by simp,fun j hj=>?_,fun j hj=>?_⟩⟩,⟨rfl,rfl,rfl,by simp,fun k hk _=>Below.heap_alloc w.drew _ k hk⟩,.inr fun k hk=>by simp [segK]at hk;omega⟩
  ·have e1:(w.drew.alloc (.cells ((xs++news).toArray++Builtin.zeroCells z.cells (K+1 - (n+m))) e)).cell? ⟨w.heap.size,0+j,none⟩=_:=World.cell?_alloc_new w.drew _ _ _
   rw [e1,Array.getElem?_append_left (by simp only [List.size_toArray];rw [hlen'];omega),List.getElem?_toArray,Nat.zero_add]
  ·have e1:(w.drew.alloc (.cells ((xs++news).toArray++Builtin.zeroCells z.cells (K+1 - (n+m))) e)).cell? ⟨w.heap.size,0+j,none⟩=_:=World.cell?_alloc_new w.drew _ _ _
   exact⟨by rw [e1,Array.getElem?_eq_getElem (by rw [hsz];omega)];rfl,World.frozen?_alloc_new w.drew _ _ _⟩
 rcases h.val with ⟨ao,rfl,rfl⟩ | ⟨g,off,cap,rfl,h1,h2,h3,h4,h5,h6⟩
 ·obtain rfl:xs=[]:=List.eq_nil_of_length_eq_zero (by simpa using hl)
  rcases Nat.eq_zero_or_pos m with h0 | h0
  ·subst h0
   obtain rfl:news=[]:=List.eq_nil_of_length_eq_zero (by simpa using hnl)
   exact⟨_,_,run_append_nothing (P:=P) w t tx ty e i ht hi ao 0 0 (zq _) x hs,h,⟨rfl,rfl,rfl,zq _,fun _ _ _=>rfl⟩,.inl rfl⟩
  ·refine grow ao 0 rfl (by omega) ?_
   cases ao with
   | none=>exact run_firstCells_none w.drew i.size 0 0 0
   | some a'=>exact run_firstCells_some w.drew i.size 0 a' 0 0 [] (by simp) (by intro _ _ h';simp at h')
 ·by_cases hfit:n+m≤cap+1
  ·have hrc:(n+m)*i.size≤(cap+1)*i.size:=Nat.mul_le_mul_right _ hfit
   rw [Nat.add_mul]at hrc
   have hsome:∀ j,j<news.length→(w.cell? ⟨g,off+n*i.size+j,none⟩).isSome=true:=fun j hj=>by rw [Nat.add_assoc];exact(h6 _ (by omega)).1
   have hrun:=run_append_room_src (P:=P) w t tx ty e i ht hi g off n (cap+1) x m news hs hfit hsome (fun j hj=>by rw [Nat.add_assoc];exact(h6 _ (by omega)).2)
   have hk:=World.keptBut_setCells g (may:=fun _=>True) news (off+n*i.size) w (fun _ _=>trivial)
   refine⟨_,_,hrun,⟨hlen',.inr ⟨g,off,cap,rfl,hfit,h2,h3,Nat.lt_of_lt_of_le h4 hk.size,fun j hj=>?_,fun j hj=>⟨?_,(World.frozen?_setCells g _ _ _ _).trans (h6 j hj).2⟩⟩⟩,
    ⟨World.os_setCells _ _ _ _,zac _ _ _ _,World.output_setCells _ _ _ _,hk.size,fun k hk hne=>World.heap_setCells_other w g _ news hk (fun e=>hne (by simp [segK,e]))⟩,.inl rfl⟩
   ·rw [Nat.add_mul]at hj
    by_cases hjo:j<n*i.size
    ·rw [World.cell?_setCells_out g _ _ _ _ (fun _ _=>Or.inl (by show off+j<off+n*i.size;omega)),List.getElem?_append_left (by omega)]
     exact h5 j hjo
    ·have ht':j - n*i.size<news.length:=by omega
     have:=World.cell?_setCells_in g news (off+n*i.size) w hsome (j - n*i.size) ht'
     rw [show off+n*i.size+(j - n*i.size)=off+j by omega]at this
     rw [this,List.getElem?_append_right (by omega),hl,ze ht']
   ·by_cases hin:n*i.size≤j∧j<n*i.size+news.length
    ·have:=World.cell?_setCells_in g news (off+n*i.size) w hsome (j - n*i.size) (by omega)
     rw [show off+n*i.size+(j - n*i.size)=off+j by omega]at this
     rw [this];rfl
    ·rw [World.cell?_setCells_out g _ _ _ _ (fun _ _=>by show off+j<off+n*i.size∨off+n*i.size+news.length≤off+j;omega)]
     exact(h6 j hj).1
  ·refine grow (some ⟨g,off,none⟩) (cap+1) rfl (by omega) ?_
   refine run_firstCells_some w.drew i.size n ⟨g,off,none⟩ n (cap+1) xs hl (fun j u hu=>?_)
   rw [Addr.add_lit]
   have hj:j<n*i.size:=by rw [← hl];exact(zc hu)
   exact(h5 j hj).trans hu
theorem z54 {P:Program}(w:World){ops:Array Oper}{rest:List Oper}{o:Oper}{a:Act}{Q:Exit→Act→World→Prop}
  (hg:o.guard=none) (s x:Operand) (t tx:TypeId) (hop:o.op=Op.call { callee:=Callee.builtin Builtin.append,args:=#[s,x],argTypes:=#[t,tx] })
  (e:TypeId) (i:TypeInfo) (z:Value) (bytes c:Nat) (ht:P.underlying t=some (.slice e)) (hi:P.info? e=some i) (hz:i.zero=some z) (hsize:i.size=c) (hby:i.bytes=bytes) (hzs:z.cells.size=c)
  (B:Nat) (v:Value) (n:Nat) (xs:List Value) (hv:a.eval s=v) (h:SegC w B c v n xs) (hB:B≤w.heap.size) (m:Nat) (news:List Value) (hs:Src P c tx (a.eval x) m news w) (h63:n+m≤maxLen) (hbytes:(n+m)*bytes≤140737488355328)
  (hK:∀ v' w',SegC w' B c v' (n+m) (xs++news)→w.grownBy w' (segK v)→(segK v'=segK v∨∀ k,segK v'=some k→w.heap.size≤k)→wpList P ops Q rest (a.put o.dst v') w') :
  wpList P ops Q (o::rest) a w:=by
 refine wpList_plain hg fun K hK'=>?_
 obtain⟨v',w',hrun,r1,r2,r3⟩:=z3o (P:=P) w t tx o.type e i z bytes c ht hi hz hsize hby hzs B v n xs h hB (a.eval x) m news hs h63 hbytes
 unfold Oper.wp
 simp [execOp,hop,resolve,invoke,builtin,hv,hrun,Result.andThen]
 exact hK' _ _ (hK v' w' r1 r2 r3)
section
open Go.Proofs.Tryz Go Go.RowKit Go.Maps
theorem laidOutM:laidOutB prog=true:=by kernel_rfl
theorem rowSel:(53:TypeId)<prog.types.size:=of_decide_eq_true (by kernel_rfl)
theorem wideSel:(match prog.underlying 53 with | some (.array _ _) | some (.struct _)=>true | _=>false)=true:=by rw [underlying53]
theorem lawSel:Keyed prog 53:=Keyed.of_law (deep_law_laid laidOutM (m:=3) (by omega) rowSel (by kernel_rfl) wideSel)
def IntOk (a:Int):Prop:=-9223372036854775808≤a∧a≤9223372036854775807
structure SelBd (y:SelL):Prop where
 path:y.1.size≤maxLen
 v1:IntOk y.2.1
 v2:IntOk y.2.2.1
 v3:IntOk y.2.2.2
theorem wfI64 {a:Int}(h:IntOk a):(Lit.int .i64 a).wf=true:=by
 unfold IntOk at h
 simp [Lit.wf,IntKind.min,IntKind.max,IntKind.signed,IntKind.bits]
 omega
theorem zm0 (y:SelL)(h:SelBd y):∃ l,keyOf prog 53 (Value.agg #[.string y.1,intC y.2.1,intC y.2.2.1,intC y.2.2.2])=some l:=by
 unfold keyOf
 have hf:(Value.agg #[.string y.1,intC y.2.1,intC y.2.2.1,intC y.2.2.2]).formed prog 53=true:=by simp [Value.formed,underlying53];kernel_rfl
 have hkt:prog.keyType 53=true:=by kernel_rfl
 simp only [underlying53,hf,hkt,Bool.and_true,if_true]
 have:∃ ls,prog.keyLits (prog.types.size+1) 53 (Value.agg #[.string y.1,intC y.2.1,intC y.2.2.1,intC y.2.2.2]).cells.toList=some ls:=by
  have h2:3≤prog.types.size:=of_decide_eq_true (by kernel_rfl)
  obtain⟨n,hn⟩:∃ n,prog.types.size+1=n+4:=⟨prog.types.size - 3,by omega⟩
  rw [hn]
  have c9:prog.cellsOf 9=1:=by kernel_rfl
  have c3:prog.cellsOf 3=1:=by kernel_rfl
  have c41:prog.cellsOf 51=3:=by kernel_rfl
  have c43:prog.cellsOf 53=4:=by kernel_rfl
  simp [Program.keyLits,underlying53,underlying51,underlying9,underlying3,c9,c3,c41,c43,Value.cells,wfI64 h.v1,wfI64 h.v2,wfI64 h.v3,h.path]
  rw [if_pos (by
   intro i hi
   obtain rfl | rfl | rfl:i=0∨i=1∨i=2:=by omega
   all_goals simp)]
  exact⟨_,rfl⟩
 obtain⟨ls,hls⟩:=this
 rw [hls]
 exact⟨_,rfl⟩
theorem zl4 {a b:SelL}(h:(Value.agg (selC a).toArray)=.agg (selC b).toArray):a=b:=by
 injection h with h
 have h:=congrArg Array.toList h
 simp [selC]at h
 exact Prod.ext h.1 (Prod.ext h.2.1 (Prod.ext h.2.2.1 h.2.2.2))
noncomputable def keyS (y:SelL):Lit:=(keyOf prog 53 (.agg (selC y).toArray)).getD (.bool false)
theorem z9x {y:SelL}(h:SelBd y):keyOf prog 53 (.agg (selC y).toArray)=some (keyS y):=by
 obtain⟨l,hl⟩:=zm0 y h
 have hl:keyOf prog 53 (.agg (selC y).toArray)=some l:=hl
 unfold keyS
 rw [hl]
 rfl
theorem zkc {a b:SelL}(ha:SelBd a)(hb:SelBd b)(h:keyS a=keyS b):a=b:=by
 have h1:=z9x ha
 have h2:=z9x hb
 rw [← h]at h2
 exact zl4 (lawSel.inj h1 h2)
def lookK (X:List RelL)(k:Nat)(y:SelL):Option Nat:=(List.range k).find? fun i=>decide (keyL (X.getD i default)=y)
theorem zfx {X:List RelL}(hX:IdxOk X){k:Nat}(hk:k<X.length)(y:SelL):lookK X (k+1) y=if keyL (X.getD k default)=y then some k else lookK X k y:=by
 unfold lookK
 rw [List.range_succ,List.find?_append]
 by_cases h:keyL (X.getD k default)=y
 ·rw [if_pos h]
  have:(List.range k).find? (fun i=>decide (keyL (X.getD i default)=y))=none:=List.find?_eq_none.2 fun i hi=>by
   intro e
   have e:=of_decide_eq_true e
   have hi:=List.mem_range.1 hi
   have:=hX.inj (by omega) hk (e.trans h.symm)
   omega
  have h2:[k].find? (fun i=>decide (keyL (X.getD i default)=y))=some k:=by rw [List.find?_cons_of_pos (by simpa only [decide_eq_true_eq]using h)]
  rw [this,h2]
  rfl
 ·rw [if_neg h]
  have:[k].find? (fun i=>decide (keyL (X.getD i default)=y))=none:=by rw [List.find?_cons_of_neg (by simpa only [decide_eq_true_eq]using h)];rfl
  rw [this,Option.or_none]
theorem z8l {X:List RelL}{y:SelL}{i:Nat}(h:lookK X X.length y=some i):i<X.length∧keyL (X.getD i default)=y:=by
 unfold lookK at h
 have h1:=List.find?_some h
 have h2:=List.mem_of_find?_eq_some h
 exact⟨List.mem_range.1 h2,of_decide_eq_true h1⟩
theorem zfw {X:List RelL}(hX:IdxOk X)(y:SelL):findR X y=(lookK X X.length y).map fun i=>X.getD i default:=by
 cases h:lookK X X.length y with
 | some i =>
  obtain⟨hi,e⟩:=z8l h
  rw [← e,zeg hX hi]
  rfl
 | none =>
  cases hf:findR X y with
  | none=>rfl
  | some r =>
   obtain⟨i,hi,e0,e⟩:=z1d hf
   unfold lookK at h
   have:=List.find?_eq_none.1 h i (List.mem_range.2 hi)
   exfalso
   apply this
   rw [e0]
   exact decide_eq_true e
def TabF (X:List RelL)(rv:Nat→Value)(k:Nat)(f:Lit→Option Value):Prop:=∀ y,SelBd y→f (keyS y)=(lookK X k y).map fun i=>.agg (relC (X.getD i default) (rv i))
theorem TabF.start (X:List RelL)(rv:Nat→Value):TabF X rv 0 (fun _=>none):=fun _ _=>rfl
theorem TabF.step {X:List RelL}{rv:Nat→Value}{k:Nat}{f:Lit→Option Value}(h:TabF X rv k f)(hX:IdxOk X)(hk:k<X.length)(hb:SelBd (keyL (X.getD k default))) :
  TabF X rv (k+1) (putF f (keyS (keyL (X.getD k default))) (.agg (relC (X.getD k default) (rv k)))):=fun y hy=>by
 rw [zfx hX hk]
 by_cases e:keyL (X.getD k default)=y
 ·subst e
  rw [z2r,if_pos rfl]
  rfl
 ·rw [z1f _ _ (fun e2=>e (zkc hb hy e2.symm)),if_neg e]
  exact h y hy
structure PathsI (W:World)(B c k:Nat)(f:Lit→Option Value):Prop where
 seg:∀ q v,f q=some v→∃ n xs,SegC W B c v n xs∧n≤k
 inj:∀ q1 q2 v1 v2 g,f q1=some v1→f q2=some v2→segK v1=some g→segK v2=some g→q1=q2
theorem PathsI.start (W:World)(B c:Nat):PathsI W B c 0 (fun _=>none):=⟨fun _ _ h=>(by cases h),fun _ _ _ _ _ h=>(by cases h)⟩
theorem PathsI.far {W W':World}{B c k:Nat}{f:Lit→Option Value}(h:PathsI W B c k f)(hs:W.heap.size≤W'.heap.size)(hk:∀ g,B≤g→g<W.heap.size→W'.heap[g]? = W.heap[g]?):PathsI W' B c k f :=
 ⟨fun q v hv=>by
  obtain⟨n,xs,h1,h2⟩:=h.seg q v hv
  exact⟨n,xs,h1.far hs fun g hg=>hk g (h1.lt g hg).1 (h1.lt g hg).2,h2⟩,h.inj⟩
theorem PathsI.below {W W':World}{B c k:Nat}{f:Lit→Option Value}(h:PathsI W B c k f)(hb:RowKit.Below W.heap.size W W'):PathsI W' B c k f:=h.far hb.size fun g _ hg=>hb.block g hg
theorem PathsI.get {W:World}{B c k:Nat}{f:Lit→Option Value}(h:PathsI W B c k f)(q:Lit):∃ n xs,SegC W B c ((f q).getD (.slice none 0 0)) n xs∧n≤k:=by
 cases e:f q with
 | some v=>exact h.seg q v e
 | none=>exact⟨0,[],SegC.nil W B c none,Nat.zero_le _⟩
theorem PathsI.put {W W':World}{B c k n:Nat}{f:Lit→Option Value}{q:Lit}{v':Value}{xs:List Value}(h:PathsI W B c k f)(hs:SegC W' B c v' (n+1) xs)(hn:n≤k)(hg:W.grownBy W' (segK ((f q).getD (.slice none 0 0))))
  (hb:segK v'=segK ((f q).getD (.slice none 0 0))∨∀ g,segK v'=some g→W.heap.size≤g):PathsI W' B c (k+1) (putF f q v'):=by
 have old:∀ g,segK ((f q).getD (.slice none 0 0))=some g→∃ v,f q=some v∧segK v=some g:=fun g h=>by
  cases e:f q with
  | some v=>rw [e]at h;exact⟨v,rfl,h⟩
  | none=>rw [e]at h;simp [segK]at h
 have lt:∀ q2 v2 g,f q2=some v2→segK v2=some g→g<W.heap.size:=fun q2 v2 g h1 h2=>by
  obtain⟨m,ys,h3,_⟩:=h.seg q2 v2 h1
  exact(h3.lt g h2).2
 refine⟨fun q2 v2 h2=>?_,fun q1 q2 v1 v2 g h1 h2 g1 g2=>?_⟩
 ·by_cases e:q2=q
  ·subst e
   rw [z2r]at h2
   cases h2
   exact⟨n+1,xs,hs,by omega⟩
  ·rw [z1f f v' e]at h2
   obtain⟨m,ys,h3,h4⟩:=h.seg q2 v2 h2
   refine⟨m,ys,h3.far hg.size fun g hgb=>hg.block g (h3.lt g hgb).2 fun e2=>?_,by omega⟩
   obtain⟨v,hv,hvb⟩:=old g e2.symm
   exact e (h.inj q2 q v2 v g h2 hv hgb hvb)
 ·by_cases e1:q1=q
  ·by_cases e2:q2=q
   ·rw [e1,e2]
   ·subst e1
    rw [z2r]at h1
    cases h1
    rw [z1f f _ e2]at h2
    rcases hb with hb | hb
    ·rw [hb]at g1
     obtain⟨v,hv,hvb⟩:=old g g1
     exact h.inj q1 q2 v v2 g hv h2 hvb g2
    ·have:=hb g g1
     have:=lt q2 v2 g h2 g2
     omega
  ·rw [z1f f _ e1]at h1
   by_cases e2:q2=q
   ·subst e2
    rw [z2r]at h2
    cases h2
    rcases hb with hb | hb
    ·rw [hb]at g2
     obtain⟨v,hv,hvb⟩:=old g g2
     exact h.inj q1 q2 v1 v g h1 hv g1 hvb
    ·have:=hb g g2
     have:=lt q1 v1 g h1 g1
     omega
   ·rw [z1f f _ e2]at h2
    exact h.inj q1 q2 v1 v2 g h1 h2 g1 g2
def TabOf (W:World)(B m:Nat)(X:List RelL):Prop:=∃ (f:Lit→Option Value)(rv:Nat→Value)(n:Nat),MapF prog 53 W m n f∧TabF X rv X.length f∧∀ i,i<X.length→ReqsOf B (rv i) (X.getD i default).reqs W
theorem TabOf.below {W W':World}{B m:Nat}{X:List RelL}(h:TabOf W B m X)(hb:RowKit.Below W.heap.size W W')(hB:B≤W.heap.size):TabOf W' B m X:=by
 obtain⟨f,rv,n,h1,h2,h3⟩:=h
 exact⟨f,rv,n,h1.below hb,h2,fun i hi=>(h3 i hi).below hb hB⟩
theorem z0i {P:Program}{fn:Func}{p q:Tmp}{ty:TypeId}(h:fn.results=#[.cell p ty,.tmp q])(tmps:Array Value)(w:World)(g:Nat)(t:TypeId)(cs:Array Value)(fr:Nat×Nat)(d:TypeDesc)
  (hp:tmps.getD p undef=.pointer (some ⟨g,0,none⟩)) (hg:w.heap[g]? = some (.cells cs t fr))
  (hu:P.underlying ty=some d) (hd:(match d with | .struct _ | .array _ _=>true | _=>false)=true) (hi:(P.info? ty).map (·.size)=some cs.size) :
  (results fn tmps).run P w=.ok (.tuple #[.agg cs,tmps.getD q undef]) w:=by
 have hp':tmps[p]?.getD undef=.pointer (some ⟨g,0,none⟩):=by simpa using hp
 simp [results,h,hp',asAddr,run_loadVar_row w g t ty cs fr d hg hu hd hi]
theorem setTwo (W:World)(g:Nat)(x y:Value)(t:TypeId)(x' y':Value)(h:W.heap[g]? = some (.cells #[x,y] t (0,0))):((W.setCell ⟨g,0,none⟩ x').setCell ⟨g,1,none⟩ y').heap[g]? = some (.cells #[x',y'] t (0,0)):=by
 have h1:=heap_setCell_same W g 0 #[x,y] t x' h
 exact heap_setCell_same _ g 1 _ t y' h1
theorem z64 {P:Program}{w:World}{ops:Array Oper}{o:Oper}{a:Act}{K:Act→World→Prop}{Q:Exit→Act→World→Prop}{E:Prop}
  (hgd:o.guard=none) (s x:Operand) (t tx:TypeId) (hop:o.op=Op.call { callee:=Callee.builtin Builtin.append,args:=#[s,x],argTypes:=#[t,tx] })
  (e:TypeId) (i:TypeInfo) (z:Value) (bytes c:Nat) (ht:P.underlying t=some (.slice e)) (hi:P.info? e=some i) (hz:i.zero=some z) (hsize:i.size=c) (hby:i.bytes=bytes) (hzs:z.cells.size=c)
  (B:Nat) (v:Value) (n:Nat) (xs:List Value) (hv:a.eval s=v) (h:SegC w B c v n xs) (hB:B≤w.heap.size) (m:Nat) (news:List Value) (hs:Src P c tx (a.eval x) m news w) (h63:n+m≤maxLen) (hbytes:(n+m)*bytes≤140737488355328)
  (hK:∀ v' w',SegC w' B c v' (n+m) (xs++news)→w.grownBy w' (segK v)→(segK v'=segK v∨∀ k,segK v'=some k→w.heap.size≤k)→K (a.put o.dst v') w') :
  if Region.wanted o (yielded ops a.tmps)=true then Oper.wp P o a w K Q else E:=by
 have hw:Region.wanted o (yielded ops a.tmps)=true:=by simp [Region.wanted,hgd]
 rw [if_pos hw]
 obtain⟨v',w',hrun,r1,r2,r3⟩:=z3o (P:=P) w t tx o.type e i z bytes c ht hi hz hsize hby hzs B v n xs h hB (a.eval x) m news hs h63 hbytes
 unfold Oper.wp
 simp [execOp,hop,resolve,invoke,builtin,hv,hrun,Result.andThen]
 exact hK v' w' r1 r2 r3
theorem zag {P:Program}{S:World→Prop}{ops:Array Oper}{o:Oper}{a:Act}(hg:o.guard=none)(m x:Operand)(t:TypeId)(hop:o.op=Op.lookup t m x false)
  (k e:TypeId) (K:Keyed P k) (ht:P.underlying t=some (.map k e)) {z:Value} (hz:∀ W,(zeroValue e).run P W=.ok z W) (b n:Nat) (f:Lit→Option Value)
  (hm:a.eval m=.map (some b)) (hown:∀ W,S W→MapF P k W b n f) (key:Value) (kl:Lit) (hx:a.eval x=key) (hkey:keyOf P k key=some kl):YieldsIf P ops S o ((f kl).getD z) a:=by
 refine .inl ⟨by simp [Region.wanted,hg],fun W hW=>?_⟩
 obtain⟨D,h1,h2,h3,h4⟩:=hown W hW
 obtain⟨v,ps,hrun,hv⟩:=h1.lookup K ht (hz W) (zd:=.held z) (zp:=[]) rfl hkey
 rw [h4]at hv
 have e:v=(f kl).getD z:=by
  unfold RV at hv
  cases hf:f kl with
  | none=>rw [hf]at hv;injection hv with hv;injection hv with hv _;injection hv
  | some u=>rw [hf]at hv;injection hv with hv;injection hv with hv _;injection hv
 subst e
 simp [execOp,hop,hm,hx,hrun,Result.andThen]
theorem lawStr:Keyed prog 9:=string_keyed underlying9
theorem keyStr {p:ByteArray}(h:p.size≤maxLen):keyOf prog 9 (.string p)=some (.string p.data.toList):=Go.WideMaps.keyOf_string_mk underlying9 h
theorem zhw:(prog.info? 82).map (fun i=>(i.zero,i.size,i.bytes))=some (some (.agg #[.string ⟨#[]⟩,.int .i64 0,.int .i64 0,.int .i64 0,.slice none 0 0,.string ⟨#[]⟩,.string ⟨#[]⟩,.string ⟨#[]⟩,.bool false]),9,120):=by kernel_rfl
def CellsAt (W:World)(b o:Nat)(x:RelL)(r:Value):Prop :=
 W.cell? ⟨b,o,none⟩=some (.string x.path)∧W.cell? ⟨b,o+1,none⟩=some (intC x.ver.1)∧W.cell? ⟨b,o+2,none⟩=some (intC x.ver.2.1)∧W.cell? ⟨b,o+3,none⟩=some (intC x.ver.2.2)∧W.cell? ⟨b,o+4,none⟩=some r ∧
  W.cell? ⟨b,o+5,none⟩=some (.string x.ar)∧W.cell? ⟨b,o+6,none⟩=some (.string x.ifc)∧W.cell? ⟨b,o+7,none⟩=some (.string x.cert)∧W.cell? ⟨b,o+8,none⟩=some (.bool x.yk)
theorem CellsAt.below {W W':World}{B b o:Nat}{x:RelL}{r:Value}(h:CellsAt W b o x r)(hb:RowKit.Below B W W')(hlt:b<B):CellsAt W' b o x r:=by
 obtain⟨h0,h1,h2,h3,h4,h5,h6,h7,h8⟩:=h
 have key:∀ j,W'.cell? ⟨b,j,none⟩=W.cell? ⟨b,j,none⟩:=fun j=>hb.cell (p:=⟨b,j,none⟩) hlt
 exact⟨(key _).trans h0,(key _).trans h1,(key _).trans h2,(key _).trans h3,(key _).trans h4,(key _).trans h5,(key _).trans h6,(key _).trans h7,(key _).trans h8⟩
theorem RelsOf.rv {B:Nat}{v:Value}{X:List RelL}{w:World}(h:RelsOf B v X w):∃ ao cap,∃ rv:Nat→Value,v=.slice ao X.length cap∧∀ i x,X[i]? = some x→∃ b off,ao=some ⟨b,off,none⟩∧b<B∧CellsAt w b (off+i*9) x (rv i)∧ReqsOf B (rv i) x.reqs w:=by
 obtain⟨ao,cap,rfl,h⟩:=h
 refine⟨ao,cap,fun i=>match ao with | some a=>(w.cell? ⟨a.block,a.off+i*9+4,none⟩).getD undef | none=>undef,rfl,fun i x hx=>?_⟩
 obtain⟨b,off,rfl,hb,r,h0,h1,h2,h3,h4,h5,h6,h7,h8,h9⟩:=h i x hx
 simp only
 rw [h4]
 exact⟨b,off,rfl,hb,⟨h0,h1,h2,h3,h4,h5,h6,h7,h8⟩,h9⟩
end
def BoolR (w:World)(P:Prop)(e:Ending)(w':World):Prop:=∃ b:Bool,e=.returned (.bool b)∧(b=true→P)∧w'=w
structure FewQ (l:List ReqL):Prop where
 len:l.length≤20
 all:∀ q∈l,q.1.size≤100∧q.2.length≤8
structure FewR (X:List RelL)(most:Nat):Prop where
 len:X.length≤most
 all:∀ x∈X,x.path.size≤100∧x.ar.size≤100∧x.ifc.size≤100∧x.cert.size≤100∧FewQ x.reqs
theorem ze3 (v:Value)(l:List ReqL)(w:World)(hl:l.length≤9223372036854775807)(hR:ReqsOf w.heap.size v l w) :
  Calls prog 53 #[v] w (BoolR w (FewQ l)):=by
 obtain⟨ao,cap,rfl,hR⟩:=hR
 have HR:=zh hR
 clear hR
 go_enter func53,ntmps53
 go_wp2_with fail
 go_loopw [3] (fun p wr=>Hid (∃ k:Nat,k≤l.length∧p=.int .i64 k∧∀ q∈l.take k,q.1.size≤100∧q.2.length≤8)∧wr=w) (fun p _=>l.length - (intOf p).toNat)
 case atStart=>exact⟨zh ⟨0,Nat.zero_le _,rfl,by simp⟩,rfl⟩
 case round =>
  obtain⟨hr,rfl⟩:=hrel
  obtain⟨k,hk,rfl,ha⟩:=hr.out
  have HA:=zh ha
  clear hr ha
  by_cases hlt:k<l.length
  case neg =>
   have hk2:k=l.length:=by omega
   subst hk2
   rw [List.take_length]at HA
   by_cases h20:l.length≤20
   ·have h20a:(l.length:Int)≤20:=by omega
    have h20b:decide ((l.length:Int)≤20)=true:=decide_eq_true h20a
    go_wp2_with fail
    go_ret
    exact⟨_,rfl,fun _=>⟨h20,HA.out⟩,rfl⟩
   ·have h20a:¬ (l.length:Int)≤20:=by omega
    have h20b:decide ((l.length:Int)≤20)=false:=decide_eq_false h20a
    go_wp2_with fail
    go_ret
    exact⟨_,rfl,fun h=>(by simp at h),rfl⟩
  case pos =>
   obtain⟨b,off,r,rfl,hbl,d0,d1,hsp⟩:=HR.out k l[k] (by simp [hlt])
   have HT:Hid (l.take (k+1)=l.take k++[l[k]]):=zh (zs hlt)
   generalize l[k]=q at *
   obtain⟨sa,sc,rfl,_⟩:=hsp
   by_cases h1:q.1.size≤100
   case neg =>
    have h1a:(100:Int)<(q.1.size:Int):=by omega
    have h1b:decide ((100:Int)<(q.1.size:Int))=true:=decide_eq_true h1a
    go_wp2_with fail
    go_ret
    exact⟨false,rfl,fun h=>(by cases h),rfl⟩
   have h1a:¬ (100:Int)<(q.1.size:Int):=by omega
   have h1b:decide ((100:Int)<(q.1.size:Int))=false:=decide_eq_false h1a
   by_cases h2:q.2.length≤8
   case neg =>
    have h2a:(8:Int)<(q.2.length:Int):=by omega
    have h2b:decide ((8:Int)<(q.2.length:Int))=true:=decide_eq_true h2a
    go_wp2_with fail
    go_ret
    exact⟨false,rfl,fun h=>(by cases h),rfl⟩
   have h2a:¬ (8:Int)<(q.2.length:Int):=by omega
   have h2b:decide ((8:Int)<(q.2.length:Int))=false:=decide_eq_false h2a
   have HA2:=zh (show ∀ x∈l.take (k+1),x.1.size≤100∧x.2.length≤8 from fun x hx=>by
    rw [HT.out]at hx
    rcases List.mem_append.1 hx with hx | hx
    ·exact HA.out x hx
    ·rw [List.mem_singleton.1 hx];exact⟨h1,h2⟩)
   go_wp2_with fail
   all_goals
    refine⟨⟨zh ⟨k+1,by omega,by go_num,HA2.out⟩,by trivial⟩,?_⟩
    simp [intOf];omega
theorem zji (v:Value)(X:List RelL)(most:Nat)(w:World)(hm:most≤1000)(hl:X.length≤9223372036854775807)(hq:∀ x∈X,x.reqs.length≤9223372036854775807)(hR:RelsOf w.heap.size v X w) :
  Calls prog 52 #[v,.int .i64 (most:Int)] w (BoolR w (FewR X most)):=by
 obtain⟨ao,cap,rfl,hR⟩:=hR
 have HR:=zh hR
 have HQ:=zh hq
 clear hR hq
 go_enter func52,ntmps52
 go_wp2_with fail
 go_loopw [5] (fun p wr=>Hid (∃ k:Nat,k≤X.length∧p=.int .i64 k∧∀ x∈X.take k,x.path.size≤100∧x.ar.size≤100∧x.ifc.size≤100∧x.cert.size≤100∧FewQ x.reqs)∧wr=w) (fun p _=>X.length - (intOf p).toNat)
 case atStart=>exact⟨zh ⟨0,Nat.zero_le _,rfl,by simp⟩,rfl⟩
 case round =>
  obtain⟨hr,rfl⟩:=hrel
  obtain⟨k,hk,rfl,ha⟩:=hr.out
  have HA:=zh ha
  clear hr ha
  by_cases hlt:k<X.length
  case neg =>
   have hk2:k=X.length:=by omega
   subst hk2
   rw [List.take_length]at HA
   by_cases h20:X.length≤most
   ·have h20a:(X.length:Int)≤(most:Int):=by omega
    have h20b:decide ((X.length:Int)≤(most:Int))=true:=decide_eq_true h20a
    go_wp2_with fail
    go_ret
    exact⟨_,rfl,fun _=>⟨h20,HA.out⟩,rfl⟩
   ·have h20a:¬ (X.length:Int)≤(most:Int):=by omega
    have h20b:decide ((X.length:Int)≤(most:Int))=false:=decide_eq_false h20a
    go_wp2_with fail
    go_ret
    exact⟨_,rfl,fun h=>(by simp at h),rfl⟩
  case pos =>
   obtain⟨b,off,rfl,hbl,hra⟩:=HR.out k X[k] (by simp [hlt])
   obtain⟨r,hr,d0,d1,d2,d3,d4,d5,d6,d7,d8⟩:=hra.box
   have hql:=HQ.out X[k] (List.getElem_mem hlt)
   have HT:Hid (X.take (k+1)=X.take k++[X[k]]):=zh (zs hlt)
   generalize X[k]=x at *
   have HF:=zh (ze3 r x.reqs wr hql hr)
   obtain⟨ra,rc,rfl,_⟩:=hr
   clear hra
   by_cases h1:x.path.size≤100
   case neg =>
    have h1a:(100:Int)<(x.path.size:Int):=by omega
    have h1b:decide ((100:Int)<(x.path.size:Int))=true:=decide_eq_true h1a
    go_wp2_with fail
    go_ret
    exact⟨false,rfl,fun h=>(by cases h),rfl⟩
   have h1a:¬ (100:Int)<(x.path.size:Int):=by omega
   have h1b:decide ((100:Int)<(x.path.size:Int))=false:=decide_eq_false h1a
   by_cases h2:x.ar.size≤100
   case neg =>
    have h2a:(100:Int)<(x.ar.size:Int):=by omega
    have h2b:decide ((100:Int)<(x.ar.size:Int))=true:=decide_eq_true h2a
    go_wp2_with fail
    go_ret
    exact⟨false,rfl,fun h=>(by cases h),rfl⟩
   have h2a:¬ (100:Int)<(x.ar.size:Int):=by omega
   have h2b:decide ((100:Int)<(x.ar.size:Int))=false:=decide_eq_false h2a
   by_cases h3:x.ifc.size≤100
   case neg =>
    have h3a:(100:Int)<(x.ifc.size:Int):=by omega
    have h3b:decide ((100:Int)<(x.ifc.size:Int))=true:=decide_eq_true h3a
    go_wp2_with fail
    go_ret
    exact⟨false,rfl,fun h=>(by cases h),rfl⟩
   have h3a:¬ (100:Int)<(x.ifc.size:Int):=by omega
   have h3b:decide ((100:Int)<(x.ifc.size:Int))=false:=decide_eq_false h3a
   by_cases h4:x.cert.size≤100
   case neg =>
    have h4a:(100:Int)<(x.cert.size:Int):=by omega
    have h4b:decide ((100:Int)<(x.cert.size:Int))=true:=decide_eq_true h4a
    go_wp2_with fail
    go_ret
    exact⟨false,rfl,fun h=>(by cases h),rfl⟩
   have h4a:¬ (100:Int)<(x.cert.size:Int):=by omega
   have h4b:decide ((100:Int)<(x.cert.size:Int))=false:=decide_eq_false h4a
   go_wp2_with fail
   refine HF.out.mono ?_
   rintro e w1 ⟨fb,rfl,hfb,rfl⟩
   have HFB:=zh hfb
   clear hfb
   cases fb with
   | false =>
    go_wp2_with fail
    go_ret
    exact⟨false,rfl,fun h=>(by cases h),rfl⟩
   | true =>
    have HA2:=zh (show ∀ y∈X.take (k+1),y.path.size≤100∧y.ar.size≤100∧y.ifc.size≤100∧y.cert.size≤100∧FewQ y.reqs from fun y hy=>by
     rw [HT.out]at hy
     rcases List.mem_append.1 hy with hy | hy
     ·exact HA.out y hy
     ·rw [List.mem_singleton.1 hy];exact⟨h1,h2,h3,h4,HFB.out rfl⟩)
    go_wp2_with fail
    all_goals
     refine⟨⟨zh ⟨k+1,by omega,by go_num,HA2.out⟩,by trivial⟩,?_⟩
     simp [intOf];omega
end Go.Proofs.YtapbhoodgnmnkaaGreatDoor
