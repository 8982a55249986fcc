/- Laws and contracts. -/
import Derived.Test.YtapbhoodgnmnkaaGreatDoorJT
import Derived.Shelf.SlicesQ.Contains
import Derived.Shelf.Spec.SlicesGrow
set_option linter.unusedVariables false
set_option linter.unusedSimpArgs false
set_option maxRecDepth 100000
set_option maxHeartbeats 32000000
namespace Go.Proofs.YtapbhoodgnmnkaaGreatDoor
open Go.Proofs.Tryz Go Go.RowKit
theorem wx_bd:∀ x∈wX,RelBd x:=fun x hx=>by
 have h:(wX.all fun x=>decide (x.path.size≤1000000)&&(decide (x.reqs.length≤1000000)&&x.reqs.all fun q=>decide (q.1.size≤1000000)&&decide (q.2.length≤1000000)))=true:=by decide +kernel
 have h1:=List.all_eq_true.1 h x hx
 simp only [Bool.and_eq_true,decide_eq_true_eq,List.all_eq_true]at h1
 exact⟨h1.1,h1.2.1,fun q hq=>h1.2.2 q hq⟩
theorem zmr {s:List SelL}(h:∀ y∈s,y=wS wA 0∨y=wS wA 1∨y=wS wB 0∨y=wS wB 1∨y=wS wC 0):∀ y∈s,SelBd y:=fun y hy=>by
 rcases h y hy with rfl | rfl | rfl | rfl | rfl<;>exact⟨of_decide_eq_true (by decide +kernel),⟨by decide,by decide⟩,⟨by decide,by decide⟩,⟨by decide,by decide⟩⟩
theorem wf_bd:∀ y∈wF,SelBd y:=zmr (fun y hy=>by simp only [wF,List.mem_cons,List.not_mem_nil,or_false]at hy;rcases hy with rfl | rfl<;>simp)
theorem wt_bd:∀ y∈wT,SelBd y:=zmr (fun y hy=>by simp only [wT,List.mem_cons,List.not_mem_nil,or_false]at hy;rcases hy with rfl | rfl | rfl<;>simp)
theorem wm_bd:∀ y∈[wS wA 0,wS wB 0,wS wC 0],SelBd y:=zmr (fun y hy=>by simp only [List.mem_cons,List.not_mem_nil,or_false]at hy;rcases hy with rfl | rfl | rfl<;>simp)
theorem row1W {W:World}{g:Nat}{t:TypeId}{a:ByteArray}(h:W.heap[g]? = some (.cells #[.string a] t (0,0))):RowOf Value.string W.heap.size (.slice (some ⟨g,0,none⟩) 1 1) [a] W:=ziq [a] h
theorem row2W {W:World}{g:Nat}{t:TypeId}{a b:ByteArray}(h:W.heap[g]? = some (.cells #[.string a,.string b] t (0,0))):RowOf Value.string W.heap.size (.slice (some ⟨g,0,none⟩) 2 2) [a,b] W:=ziq [a,b] h
def HeldW (bx bg:Nat)(v iv nv ev:Value)(W:World):Prop:=W.cell? ⟨bx,0,none⟩=some v∧W.cell? ⟨bx,1,none⟩=some iv∧W.cell? ⟨bg,0,none⟩=some nv∧W.cell? ⟨bg,1,none⟩=some ev
theorem zlf:grpV wX wF wT=[[wC],[wA,wB]]:=by unfold grpV;rw [if_pos z39,zjf]
theorem zlh:wavV wX wF wT=[[wC],[wA,wB]]:=by unfold wavV;rw [if_pos z39,zmp]
theorem zfh:btwV wX wF wT [wC]=0:=by
 unfold btwV
 rw [if_neg (fun h=>h z39),z5m,if_neg (by decide +kernel)]
theorem zld:btwS wX wF wT [wC]=[wS wA 0,wS wB 0,wS wC 0]:=by
 unfold btwS
 rw [if_pos zfh,zmn]
theorem zgw:graphV wX wF wT=(([wA,wB,wC],wEs),0):=by
 unfold graphV
 rw [if_pos z39,z39,z5m,zae]
theorem z6c:∀ i,(([[wC],[wA,wB]]:List (List ByteArray)).getD i []).length≤1000000000:=fun i=>by
 match i with
 | 0=>decide
 | 1=>decide
 | i+2=>simp
theorem zli:∀ p∈([[wC],[wA,wB]]:List (List ByteArray)).flatten,p.size≤maxLen:=fun p hp=>by
 have h:([[wC],[wA,wB]]:List (List ByteArray)).flatten.all (fun p=>decide (p.size≤maxLen))=true:=by decide +kernel
 exact of_decide_eq_true (List.all_eq_true.1 h p hp)
theorem zjh:∀ p∈([[wA,wB],[wC]]:List (List ByteArray)).flatten,p.size≤maxLen:=fun p hp=>by
 have h:([[wA,wB],[wC]]:List (List ByteArray)).flatten.all (fun p=>decide (p.size≤maxLen))=true:=by decide +kernel
 exact of_decide_eq_true (List.all_eq_true.1 h p hp)
theorem zcu (w:World)(hm:MaxOk w):Calls prog 5 #[] w fun e w'=>e=.returned (.bool true)∧Below w.heap.size w w':=by
 have HEX:=zh (z9q w)
 have HM:=zh hm
 clear hm
 go_enter func5,ntmps5
 go_wp2_with fail
 refine HEX.out.mono ?_
 rintro e w1 ⟨gs1,gq1,gs2,gs3,gq2,gr,gf,gt,rfl,hx,hb1⟩
 have HB:=zh hb1
 have HIN:Hid (InW (.slice (some ⟨gr,0,none⟩) 5 5) (.slice none 0 0) (.slice (some ⟨gf,0,none⟩) 2 2) (.slice (some ⟨gt,0,none⟩) 3 3) wX wF wT w1):=zh ⟨HM.out.below hb1 HM.out.pos,by decide,wx_bd,hx.rels,by decide,wf_bd,hx.sf,by decide,wt_bd,hx.st⟩
 clear hx hb1 HEX HM
 go_upto_region 2 with fail
 have hbx:=belQ w1 (.cells #[.slice (some ⟨gr,0,none⟩) 5 5,.slice none 0 0] 25)
 have hnx:=zn w1 (.cells #[.slice (some ⟨gr,0,none⟩) 5 5,.slice none 0 0] 25)
 replace HB:=zj HB hbx
 replace HIN:=zh (HIN.out.on hbx)
 have HBX:=zh hnx
 clear hbx hnx
 generalize w1.alloc (.cells #[.slice (some ⟨gr,0,none⟩) 5 5,.slice none 0 0] 25)=w2 at *
 generalize w1.heap.size=bx at *
 go_upto_region 3 with fail
 have hbx:=belQ w2 (.cells #[.string ⟨#[99,47,118,49]⟩] 9)
 have hnx:=zn w2 (.cells #[.string ⟨#[99,47,118,49]⟩] 9)
 have zHR1:=World.size_alloc w2 (.cells #[.string ⟨#[99,47,118,49]⟩] 9)
 replace HB:=zj HB hbx
 replace HIN:=zh (HIN.out.on hbx)
 replace HBX:=zk hbx HBX
 have HR1:=zh hnx
 clear hbx hnx
 generalize w2.alloc (.cells #[.string ⟨#[99,47,118,49]⟩] 9)=w3 at *
 generalize w2.heap.size=b1 at *
 have hbx:=belQ w3 (.cells #[.string ⟨#[97,47,118,49]⟩,.string ⟨#[98,47,118,49]⟩] 9)
 have hnx:=zn w3 (.cells #[.string ⟨#[97,47,118,49]⟩,.string ⟨#[98,47,118,49]⟩] 9)
 have zHR2:=World.size_alloc w3 (.cells #[.string ⟨#[97,47,118,49]⟩,.string ⟨#[98,47,118,49]⟩] 9)
 replace HB:=zj HB hbx
 replace HIN:=zh (HIN.out.on hbx)
 replace HBX:=zk hbx HBX
 replace HR1:=zk hbx HR1
 have HR2:=zh hnx
 clear hbx hnx
 generalize w3.alloc (.cells #[.string ⟨#[97,47,118,49]⟩,.string ⟨#[98,47,118,49]⟩] 9)=w4 at *
 rw [zHR1]at HR2
 rw [zHR1]at zHR2
 clear zHR1
 generalize b1+1=b2 at *
 have hbx:=belQ w4 (.cells #[.slice (some ⟨b1,0,none⟩) 1 1,.slice (some ⟨b2,0,none⟩) 2 2] 29)
 have hnx:=zn w4 (.cells #[.slice (some ⟨b1,0,none⟩) 1 1,.slice (some ⟨b2,0,none⟩) 2 2] 29)
 replace HB:=zj HB hbx
 replace HIN:=zh (HIN.out.on hbx)
 replace HBX:=zk hbx HBX
 replace HR1:=zk hbx HR1
 replace HR2:=zk hbx HR2
 have HR3:=zh hnx
 clear hbx hnx
 generalize w4.alloc (.cells #[.slice (some ⟨b1,0,none⟩) 1 1,.slice (some ⟨b2,0,none⟩) 2 2] 29)=w5 at *
 rw [zHR2]at HR3
 clear zHR2
 generalize b2+1=b3 at *
 have HW:Hid (NamesOf w5.heap.size (.slice (some ⟨b3,0,none⟩) 2 2) [[wC],[wA,wB]] w5):=zh (zbr HR3.out (row1W HR1.out) (row2W HR2.out))
 clear HR1 HR2 HR3
 have c0:=blk0 HBX.out
 have c1:=blk1 HBX.out
 have hco:=HIN.out.groups
 rw [zlf,z39]at hco
 have HCO:=zh hco
 clear hco
 go_wp2_with fail
 refine HCO.out.mono ?_
 rintro e w6 ⟨lv,rfl,hnx,hbx⟩
 replace HB:=zj HB hbx
 replace HIN:=zh (HIN.out.on hbx)
 replace HBX:=zk hbx HBX
 replace HW:=zh (z03 HW.out hbx)
 have HL:=zh hnx
 obtain⟨la,lc,rfl⟩:∃ a c,lv=.slice a 2 c:=by obtain⟨a,c,e,_⟩:=hnx;exact⟨a,c,e⟩
 clear hnx hbx HCO c0 c1
 have c0:=blk0 HBX.out
 have c1:=blk1 HBX.out
 have hco:=HIN.out.waves
 rw [zlh,z39]at hco
 have HCO:=zh hco
 clear hco
 go_wp2_with fail
 refine HCO.out.mono ?_
 rintro e w7 ⟨mv,rfl,hnx,hbx⟩
 replace HB:=zj HB hbx
 replace HIN:=zh (HIN.out.on hbx)
 replace HBX:=zk hbx HBX
 replace HW:=zh (z03 HW.out hbx)
 replace HL:=zh (z03 HL.out hbx)
 have HMM:=zh hnx
 obtain⟨ma,mc,rfl⟩:∃ a c,mv=.slice a 2 c:=by obtain⟨a,c,e,_⟩:=hnx;exact⟨a,c,e⟩
 clear hnx hbx HCO c0 c1
 have c0:=blk0 HBX.out
 have c1:=blk1 HBX.out
 have hbq:=belQ w7 (.cells #[.string ⟨#[99,47,118,49]⟩] 9)
 have hrq:=row1W (zn w7 (.cells #[.string ⟨#[99,47,118,49]⟩] 9))
 have hco:=(HIN.out.on hbq).btw (M:=[wC]) (by decide) (fun p hp=>by rw [List.mem_singleton.1 hp];exact of_decide_eq_true (by decide +kernel)) hrq
 unfold BtwR at hco
 rw [zfh,zld]at hco
 have HCO:=zh hco
 have HBQ:=zh hbq
 clear hco hbq hrq
 go_wp2_with fail
 refine HCO.out.mono ?_
 rintro e w8 ⟨sv,rfl,hnx,hby⟩
 have hbx:=HBQ.out.trans (hby.mono HBQ.out.size)
 replace HB:=zj HB hbx
 replace HIN:=zh (HIN.out.on hbx)
 replace HBX:=zk hbx HBX
 replace HW:=zh (z03 HW.out hbx)
 replace HL:=zh (z03 HL.out hbx)
 replace HMM:=zh (z03 HMM.out hbx)
 have HS:=zh hnx
 obtain⟨sa,sc,rfl⟩:∃ a c,sv=.slice a 3 c:=by obtain⟨a,c,e,_⟩:=hnx;exact⟨a,c,e⟩
 clear hnx hbx hby HBQ HCO c0 c1
 have c0:=blk0 HBX.out
 have c1:=blk1 HBX.out
 have hco:=HIN.out.graph
 unfold GraphR at hco
 rw [zgw]at hco
 have HCO:=zh hco
 clear hco
 go_wp2_with fail
 refine HCO.out.mono ?_
 rintro e w9 ⟨nv,ev,rfl,hnr,hnx,hbx⟩
 replace HB:=zj HB hbx
 replace HIN:=zh (HIN.out.on hbx)
 replace HBX:=zk hbx HBX
 replace HW:=zh (z03 HW.out hbx)
 replace HL:=zh (z03 HL.out hbx)
 replace HMM:=zh (z03 HMM.out hbx)
 replace HS:=zh (HS.out.on hbx)
 obtain⟨ea,ec,rfl⟩:∃ a c,ev=.slice a 3 c:=by obtain⟨a,c,e,_⟩:=hnx;exact⟨a,c,e⟩
 clear hnx hbx HCO c0 c1
 obtain⟨na,nn,nc,rfl⟩:∃ a n c,nv=.slice a n c:=by obtain⟨a,c,e,_⟩:=z01 hnr;exact⟨a,_,c,e⟩
 clear hnr
 go_upto_region 7 with fail
 have hbx:=belQ w9 (.cells #[.slice na nn nc,.slice ea 3 ec] 32)
 have hnx:=zn w9 (.cells #[.slice na nn nc,.slice ea 3 ec] 32)
 replace HB:=zj HB hbx
 replace HIN:=zh (HIN.out.on hbx)
 replace HBX:=zk hbx HBX
 replace HW:=zh (z03 HW.out hbx)
 replace HL:=zh (z03 HL.out hbx)
 replace HMM:=zh (z03 HMM.out hbx)
 replace HS:=zh (HS.out.on hbx)
 have HBG:=zh hnx
 clear hbx hnx
 generalize w9.alloc (.cells #[.slice na nn nc,.slice ea 3 ec] 32)=w10 at *
 generalize w9.heap.size=bg at *
 have hco:=z85 (.slice la 2 lc) (.slice (some ⟨b3,0,none⟩) 2 2) [[wC],[wA,wB]] [[wC],[wA,wB]] w10 HL.out HW.out (by decide) (by decide) z6c z6c
 rw [decide_eq_true rfl]at hco
 have HCO:=zh hco
 clear hco
 have c0:=blk0 HBX.out
 have c1:=blk1 HBX.out
 have c2:=blk1 HBG.out
 go_wp2_with fail
 refine HCO.out.mono ?_
 rintro e w11 ⟨rfl,hbx⟩
 replace HB:=zj HB hbx
 replace HIN:=zh (HIN.out.on hbx)
 replace HBX:=zk hbx HBX
 replace HW:=zh (z03 HW.out hbx)
 replace HL:=zh (z03 HL.out hbx)
 replace HMM:=zh (z03 HMM.out hbx)
 replace HS:=zh (HS.out.on hbx)
 replace HBG:=zk hbx HBG
 clear hbx HCO c0 c1 c2
 have hco:=z85 (.slice ma 2 mc) (.slice (some ⟨b3,0,none⟩) 2 2) [[wC],[wA,wB]] [[wC],[wA,wB]] w11 HMM.out HW.out (by decide) (by decide) z6c z6c
 rw [decide_eq_true rfl]at hco
 have HCO:=zh hco
 clear hco
 have c0:=blk0 HBX.out
 have c1:=blk1 HBX.out
 have c2:=blk1 HBG.out
 go_wp2_with fail
 refine HCO.out.mono ?_
 rintro e w12 ⟨rfl,hbx⟩
 replace HB:=zj HB hbx
 replace HIN:=zh (HIN.out.on hbx)
 replace HBX:=zk hbx HBX
 replace HW:=zh (z03 HW.out hbx)
 replace HL:=zh (z03 HL.out hbx)
 replace HMM:=zh (z03 HMM.out hbx)
 replace HS:=zh (HS.out.on hbx)
 replace HBG:=zk hbx HBG
 clear hbx HCO c0 c1 c2
 have hco:=HIN.out.cons (s:=[wS wA 0,wS wB 0,wS wC 0]) (by decide) wm_bd HS.out
 rw [zle]at hco
 have HCO:=zh hco
 clear hco
 have c0:=blk0 HBX.out
 have c1:=blk1 HBX.out
 have c2:=blk1 HBG.out
 go_wp2_with fail
 refine HCO.out.mono ?_
 rintro e w13 ⟨rfl,hbx⟩
 replace HB:=zj HB hbx
 replace HIN:=zh (HIN.out.on hbx)
 replace HBX:=zk hbx HBX
 replace HW:=zh (z03 HW.out hbx)
 replace HL:=zh (z03 HL.out hbx)
 replace HMM:=zh (z03 HMM.out hbx)
 replace HS:=zh (HS.out.on hbx)
 replace HBG:=zk hbx HBG
 clear hbx HCO c0 c1 c2
 have hco:=HIN.out.check (L:=[[wC],[wA,wB]]) (by decide) (by decide) zli HW.out
 rw [zlg]at hco
 have HCO:=zh hco
 clear hco
 have c0:=blk0 HBX.out
 have c1:=blk1 HBX.out
 have c2:=blk1 HBG.out
 go_wp2_with fail
 refine HCO.out.mono ?_
 rintro e w14 ⟨rfl,hbx⟩
 replace HB:=zj HB hbx
 replace HIN:=zh (HIN.out.on hbx)
 replace HBX:=zk hbx HBX
 replace HW:=zh (z03 HW.out hbx)
 replace HL:=zh (z03 HL.out hbx)
 replace HMM:=zh (z03 HMM.out hbx)
 replace HS:=zh (HS.out.on hbx)
 replace HBG:=zk hbx HBG
 clear hbx HCO c0 c1 c2
 have HBX0:=HBX
 have HBG0:=HBG
 have c2:=blk1 HBG0.out
 have z1:=World.size_alloc w14 (.cells #[.string ⟨#[97,47,118,49]⟩,.string ⟨#[98,47,118,49]⟩] 9)
 have z2:=World.size_alloc (w14.alloc (.cells #[.string ⟨#[97,47,118,49]⟩,.string ⟨#[98,47,118,49]⟩] 9)) (.cells #[.string ⟨#[99,47,118,49]⟩] 9)
 have hbx:=belQ w14 (.cells #[.string ⟨#[97,47,118,49]⟩,.string ⟨#[98,47,118,49]⟩] 9)
 have hnx:=zn w14 (.cells #[.string ⟨#[97,47,118,49]⟩,.string ⟨#[98,47,118,49]⟩] 9)
 replace HB:=zj HB hbx
 replace HIN:=zh (HIN.out.on hbx)
 replace HBX:=zk hbx HBX
 replace HW:=zh (z03 HW.out hbx)
 replace HL:=zh (z03 HL.out hbx)
 replace HMM:=zh (z03 HMM.out hbx)
 replace HS:=zh (HS.out.on hbx)
 replace HBG:=zk hbx HBG
 have HR4:=zh hnx
 clear hbx hnx
 have hbx:=belQ (w14.alloc (.cells #[.string ⟨#[97,47,118,49]⟩,.string ⟨#[98,47,118,49]⟩] 9)) (.cells #[.string ⟨#[99,47,118,49]⟩] 9)
 have hnx:=zn (w14.alloc (.cells #[.string ⟨#[97,47,118,49]⟩,.string ⟨#[98,47,118,49]⟩] 9)) (.cells #[.string ⟨#[99,47,118,49]⟩] 9)
 replace HB:=zj HB hbx
 replace HIN:=zh (HIN.out.on hbx)
 replace HBX:=zk hbx HBX
 replace HW:=zh (z03 HW.out hbx)
 replace HL:=zh (z03 HL.out hbx)
 replace HMM:=zh (z03 HMM.out hbx)
 replace HS:=zh (HS.out.on hbx)
 replace HBG:=zk hbx HBG
 replace HR4:=zk hbx HR4
 have HR5:=zh hnx
 clear hbx hnx
 rw [z1]at HR5
 have hbx:=belQ ((w14.alloc (.cells #[.string ⟨#[97,47,118,49]⟩,.string ⟨#[98,47,118,49]⟩] 9)).alloc (.cells #[.string ⟨#[99,47,118,49]⟩] 9)) (.cells #[.slice (some ⟨w14.heap.size,0,none⟩) 2 2,.slice (some ⟨w14.heap.size+1,0,none⟩) 1 1] 29)
 have hnx:=zn ((w14.alloc (.cells #[.string ⟨#[97,47,118,49]⟩,.string ⟨#[98,47,118,49]⟩] 9)).alloc (.cells #[.string ⟨#[99,47,118,49]⟩] 9)) (.cells #[.slice (some ⟨w14.heap.size,0,none⟩) 2 2,.slice (some ⟨w14.heap.size+1,0,none⟩) 1 1] 29)
 replace HB:=zj HB hbx
 replace HIN:=zh (HIN.out.on hbx)
 replace HBX:=zk hbx HBX
 replace HW:=zh (z03 HW.out hbx)
 replace HL:=zh (z03 HL.out hbx)
 replace HMM:=zh (z03 HMM.out hbx)
 replace HS:=zh (HS.out.on hbx)
 replace HBG:=zk hbx HBG
 replace HR4:=zk hbx HR4
 replace HR5:=zk hbx HR5
 have HR6:=zh hnx
 clear hbx hnx
 rw [z2,z1]at HR6
 have hco:=HIN.out.check (L:=[[wA,wB],[wC]]) (by decide) (by decide) zjh (zbr HR6.out (row2W HR4.out) (row1W HR5.out))
 rw [zjg]at hco
 clear z1 z2 HR4 HR5 HR6
 have HCO:=zh hco
 clear hco
 have c0:=blk0 HBX0.out
 have c1:=blk1 HBX0.out
 go_wp2_with fail
 refine HCO.out.mono ?_
 rintro e w18 ⟨rfl,hbx⟩
 replace HB:=zj HB hbx
 replace HIN:=zh (HIN.out.on hbx)
 replace HBX:=zk hbx HBX
 replace HW:=zh (z03 HW.out hbx)
 replace HL:=zh (z03 HL.out hbx)
 replace HMM:=zh (z03 HMM.out hbx)
 replace HS:=zh (HS.out.on hbx)
 replace HBG:=zk hbx HBG
 go_wp2_with fail
 go_ret
 exact⟨rfl,HB.out⟩
section
open Go.Proofs.Tryz Go Go.RowKit Go.Shelf Go.Lib
theorem zmh:NeqAt prog 53 (fun x=>.agg (selC x).toArray) (fun x y=>decide (x=y)):=by
 refine⟨fun x y w=>?_,GuardAt.agg _ (by kernel_rfl)⟩
 have hS:prog.underlying 53=some (.struct (prog.fieldsOf 53)):=by kernel_rfl
 have hp:prog.stoodInHeld 53=false:=by kernel_rfl
 simp only [selC]
 rw [run_neq_struct,show(10000:Nat)=9999+1 from rfl,run_equalIn_agg w 9999 53 _ _ hS hp]
 clear hS hp
 obtain⟨d,hd⟩:∃ d,(9999:Nat)=d+9:=⟨9990,rfl⟩
 rw [hd]
 clear hd
 have u9:=underlying9
 have a9:=isAgg9
 have z9:=sizeOf9
 have a4:=isAgg51
 have z4:=sizeOf51
 have hv:=z53
 simp only [Program.fieldsOf,underlying53]
 go_simp
 obtain⟨xp,x1,x2,x3⟩:=x
 obtain⟨yp,y1,y2,y3⟩:=y
 by_cases h0:xp.toList=yp.toList
 ·have h0':=z3e h0
  subst h0'
  by_cases h1:x1=y1<;>by_cases h2:x2=y2<;>by_cases h3:x3=y3<;>simp [h1,h2,h3]
 ·have h0':¬ xp=yp:=fun e=>h0 (by rw [e])
  simp [h0,h0']
theorem z8z {B b off cap:Nat}{es:List SelL}{w:World}(h:SelsOf B (.slice (some ⟨b,off,none⟩) es.length cap) es w):∀ j,j<es.length→∀ i v,(selC es[j]!)[i]? = some v→w.cell? ⟨b,off+j*4+i,none⟩=some v:=by
 obtain⟨ao,c,e,h⟩:=h
 cases e
 intro j hj i v hv
 rw [getElem!_pos es j hj]at hv
 obtain⟨b',off',e,_,h1,h2,h3,h4⟩:=h j es[j] (by simp [hj])
 cases e
 match i,hv with
 | 0,hv=>cases hv;exact h1
 | 1,hv=>cases hv;exact h2
 | 2,hv=>cases hv;exact h3
 | 3,hv=>cases hv;exact h4
 | i+4,hv=>simp [selC]at hv
theorem ze6:∀ {l m:List SelL},Lib.allEq (fun x y=>decide (x=y)) l m=decide (l=m)
 | [],[]=>rfl
 | [],_::_=>by simp [Lib.allEq]
 | _::_,[]=>by simp [Lib.allEq]
 | x::l,y::m=>by
  unfold Lib.allEq
  rw [ze6]
  by_cases h1:x=y<;>by_cases h2:l=m<;>simp [h1,h2]
end
section
open Go.Proofs.Tryz Go Go.RowKit Go.Lib Go.Shelf
def selRenW:Ren:=⟨fun _=>21,fun x=>if x=0 then 0 else if x=3 then 3 else if x=4 then 4 else if x=22 then 26 else 53,fun x=>x⟩
theorem selLaysW:SlLaysQ.n8 prog selRenW:={
 mixed:=by kernel_rfl
 f8:=⟨Tryz.f21.name,by decide,func21.trans (congrArg some (by kernel_rfl))⟩
 t0:=underlying0
 a0:=isAgg0
 z0:=sizeOf0
 v0:=zeroValue0
 t3:=underlying3
 a3:=isAgg3
 z3:=sizeOf3
 v3:=zeroValue3
 t4:=underlying4
 a4:=isAgg4
 z4:=sizeOf4
 v4:=zeroValue4
 t22:=underlying26
 a22:=isAgg26
 z22:=sizeOf26
 v22:=zeroValue26 }
theorem zk0 (v u:Value)(l m:List SelL)(w:World)(hl:l.length≤1000000000)(hm:m.length≤1000000000)(h1:SelsOf w.heap.size v l w)(h2:SelsOf w.heap.size u m w) :
  Calls prog 21 #[v,u] w fun e w'=>e=.returned (.bool (decide (l=m)))∧Below w.heap.size w w':=by
 have g1:=h1
 have g2:=h2
 obtain⟨a1,c1,rfl,k1⟩:=h1
 obtain⟨a2,c2,rfl,k2⟩:=h2
 by_cases hlm:l.length=m.length
 ·by_cases hp:0<l.length
  ·obtain⟨b1,o1,rfl,_⟩:=k1 0 l[0] (by simp [hp])
   obtain⟨b2,o2,rfl,_⟩:=k2 0 m[0] (by simp [show 0<m.length by omega])
   refine(AnyQ.slices_Equal selLaysW 4 isAgg53 sizeOf53 selC (fun _=>rfl) _ zmh b1 o1 l.length c1 b2 o2 m.length c2 l m w (zq _) (zq _) (by omega) (by omega) (z8z g1) (z8z g2)).mono ?_
   rintro e w' ⟨rfl,q,rfl⟩
   refine⟨?_,below_drewN_q (Below.refl _ _) _⟩
   rw [List.take_length,List.take_length,ze6]
  ·have e1:l=[]:=List.length_eq_zero_iff.1 (by omega)
   have e2:m=[]:=List.length_eq_zero_iff.1 (by omega)
   subst e1
   subst e2
   clear k1 k2 g1 g2 hlm hp hl hm
   go_enter func21,ntmps21
   go_wp2_with fail
   go_loopw [13] (fun q wr=>q=.int .i64 0∧wr=w) (fun _ _=>0)
   case atStart=>exact⟨rfl,rfl⟩
   case round =>
    obtain⟨rfl,rfl⟩:=hrel
    go_wp2_with fail
    go_ret
    exact⟨by simp,Below.refl _ _⟩
 ·have hne:((l.length:Int) != (m.length:Int))=true:=by simp;omega
  have hd:decide (l=m)=false:=decide_eq_false fun e=>hlm (by rw [e])
  rw [hd]
  clear k1 k2 g1 g2
  go_enter func21,ntmps21
  go_wp2_with fail
  go_ret
  exact⟨rfl,Below.refl _ _⟩
end
theorem zlt {X:List RelL}{m:Nat}(h:FewR X m):∀ x∈X,RelBd x:=fun x hx=>by
 obtain⟨h1,_,_,_,h5⟩:=h.all x hx
 exact⟨by omega,by have:=h5.len;omega,fun q hq=>by have:=h5.all q hq;omega⟩
theorem InW.of_few {v iv fv tv:Value}{X:List RelL}{f t:List SelL}{w W:World}(hm:MaxOk w)(hR:RelsOf w.heap.size v X w)(hF:SelsOf w.heap.size fv f w)(hfy:∀ y∈f,SelBd y)(hT:SelsOf w.heap.size tv t w)(hty:∀ y∈t,SelBd y)
  (h:FewR X 16∧f.length≤12∧t.length≤12) (hb:Below w.heap.size w W):InW v iv fv tv X f t W :=
 ⟨hm.below hb hm.pos,by have:=h.1.len;omega,zlt h.1,hR.on hb,h.2.1,hfy,hF.on hb,h.2.2,hty,hT.on hb⟩
def PredN (g:Nat)(lb:Array Value)(es:List (List ByteArray))(p:List ByteArray→Bool)(w:World):Prop :=
 ∀ (W:World) (x:List ByteArray) (r:Value),x∈es→Below w.heap.size w W→RowOf Value.string W.heap.size r x W→Calls prog g (#[r]++lb) W fun e w'=>e=.returned (.bool (p x))∧Below W.heap.size W w'
def FirstN (es:List (List ByteArray))(p:List ByteArray→Bool)(n:Int):Prop:=(n=-1∧∀ x∈es,p x=false)∨∃ i:Nat,i<es.length∧n=(i:Int)∧p (es.getD i [])=true∧∀ j,j<i→p (es.getD j [])=false

theorem zjy (c:UInt8)(w:World):(convert 236 9 (.slice (some ⟨w.heap.size,0,none⟩) 1 1)).run prog (w.alloc (.cells #[.int .u8 c.toNat] 5)).drew=.ok (.string ⟨#[c]⟩) (w.alloc (.cells #[.int .u8 c.toNat] 5)).drew :=
 zjz 0 _ [c] _ (zh (Mine.new 5 1 0 1 [.int .u8 c.toNat] _ w (Nat.zero_le _) rfl rfl (by decide)).out)
theorem Mine.set {e B g cap n:Nat}{xs:List Value}{w:World}(h:Hid (Mine e 1 B (.slice (some ⟨g,0,none⟩) n cap) n xs w))(j:Nat)(u:Value):Hid (Mine e 1 B (.slice (some ⟨g,0,none⟩) n cap) n (xs.set j u) (w.setCell ⟨g,j,none⟩ u)):=by
 obtain⟨h1,h2⟩:=h.out
 refine zh ⟨(h1.stored j u).1,?_⟩
 have:(w.setCell ⟨g,j,none⟩ u).heap.size=w.heap.size:=by simp
 omega
def strVs (l:List (List UInt8)):List Value:=l.map fun x=>.string ⟨x.toArray⟩
theorem zl0 (l:List UInt8):0<(segsL l).length:=List.length_pos_iff.2 (z31 l)
theorem zj4 (sg:List (List UInt8))(hne:sg≠[])(l:List UInt8)(nn:Nat)(hn:sg.length=nn+1)(x:ByteArray)(hx:x=⟨l.toArray⟩):(strVs sg).set nn (.string x)=strVs (sg.dropLast++[l]):=by
 subst hx
 have e:sg=sg.dropLast++[sg.getLast hne]:=(List.dropLast_concat_getLast hne).symm
 have hl:nn=(sg.dropLast.map fun x=>Value.string ⟨x.toArray⟩).length:=by simp;omega
 unfold strVs
 conv=>lhs;rw [e]
 rw [List.map_append,List.map_append,hl,List.set_append_right _ _ (zq _)]
 simp
theorem zmi (s:ByteArray):strVs (segsL s.data.toList)=(segB s).map Value.string:=by
 unfold strVs segB;rw [List.map_map];rfl
theorem zaj (s:ByteArray)(w:World)(hs:s.size≤1000000) :
  Calls prog 187 #[.string s] w fun e w'=>∃ v,e=.returned v∧Mine 9 1 w.heap.size v (segsL s.data.toList).length (strVs (segsL s.data.toList)) w'∧Below w.heap.size w w':=by
 obtain⟨B,hB⟩:∃ B,B=w.heap.size:=⟨_,rfl⟩
 have HBB:=zh hB
 have hB2:B≤w.heap.size:=by omega
 have hcn:Hid (Mine 9 1 B (.slice (some ⟨w.heap.size,0,none⟩) 1 1) 1 [.string ⟨#[]⟩] (w.alloc (.cells #[.string ⟨#[]⟩] 9))):=Mine.new _ _ _ _ _ _ _ hB2 rfl rfl (by decide)
 have hb0:Below B w (w.alloc (.cells #[.string ⟨#[]⟩] 9)):=(Below.refl _ _).alloc hB2 _
 clear hB hB2
 go_enter func187,ntmps187
 go_wp2_with fail
 go_loopw [3,4] (fun o i wr=>∃ k:Nat,k≤s.size∧i=.int .i64 k∧Hid (Mine 9 1 B o (segsL (s.data.toList.take k)).length (strVs (segsL (s.data.toList.take k))) wr)∧Hid (Below B w wr)) (fun _ i _=>s.size - (intOf i).toNat)
 case atStart=>exact⟨0,by omega,rfl,hcn,zh hb0⟩
 case round =>
  clear hcn hb0
  obtain⟨k,hk,rfl,HO,hbel⟩:=hrel
  by_cases hlt:k<s.size
  ·have HT:Hid (s.data.toList.take (k+1)=s.data.toList.take k++[s[k]]):=zh (by rw [zs (by simpa using hlt)];rfl)
   have hp:=zl0 (s.data.toList.take k)
   have hle:=z5y (s.data.toList.take k)
   rw [List.length_take,← Lib.size_eq]at hle
   have hne:=z31 (s.data.toList.take k)
   have hsl:=zf9 (s.data.toList.take k)
   have htl:(s.data.toList.take k).length≤s.size:=by rw [List.length_take,← Lib.size_eq];omega
   have h255:(s[k]).toNat≤255:=by have:=(s[k]).toNat_lt;omega
   generalize hcs:s[k]=c at *
   by_cases h1:c=47
   ·subst h1
    have HE:Hid (segsL (s.data.toList.take (k+1))=segsL (s.data.toList.take k)++[[]]):=zh (by rw [HT.out,z63])
    obtain⟨sg,hsg⟩:∃ sg,segsL (s.data.toList.take k)=sg:=⟨_,rfl⟩
    rw [hsg]at HO HE hp hle hne
    clear hsg HT hne hsl htl
    obtain⟨nn,hnn⟩:∃ nn,sg.length=nn:=⟨_,rfl⟩
    have HN:=zh hnn
    rw [hnn]at HO hp hle
    clear hnn
    go_wp2_with (at_builtin;refine zjn _ rfl _ _ (by rfl) B _ _ _ (by rfl) HO 1 [.string ⟨#[]⟩] _ (by rfl) (by rfl) (by rfl) (by simp [Value.oneCell']) (by decide) (by omega) ?_;intro g cap w2 HO2 hb2)
    go_roundw
    case rel=>exact⟨k+1,by omega,by go_num,zh (by have:=HO2.out;rw [HE.out,List.length_append,HN.out];simpa [strVs]using this),zh (hbel.out.trans hb2)⟩
    case measure=>simp [intOf];omega
   ·have e1:((c.toNat:Int) == 47)=false:=by rw [beq_eq_false_iff_ne];intro e;exact h1 (UInt8.toNat_inj.1 (by have:((47:UInt8).toNat)=47:=rfl;omega))
    have HE:Hid (segsL (s.data.toList.take (k+1))=(segsL (s.data.toList.take k)).dropLast++[(segsL (s.data.toList.take k)).getLast hne++[c]]):=zh (by rw [HT.out,z62 _ _ h1])
    clear h1
    clear HT
    generalize segsL (s.data.toList.take k)=sg at *
    obtain⟨nn,hnn⟩:∃ nn,sg.length=nn+1:=⟨sg.length - 1,by omega⟩
    have HN:=zh hnn
    rw [hnn]at HO hle
    obtain⟨g,cap,rfl⟩:=HO.out.shape (by omega)
    obtain⟨lb,hlb⟩:∃ lb:ByteArray,⟨(sg.getLast hne).toArray⟩=lb:=⟨_,rfl⟩
    have hcell:wr.cell? ⟨g,nn,none⟩=some (.string lb):=by
     rw [HO.out.cell nn (by omega),← hlb,strVs,List.getElem?_map]
     rw [show sg[nn]? = some (sg.getLast hne) by rw [List.getLast_eq_getElem];rw [ze (by omega)];congr 2;omega]
     rfl
    have hfz:wr.frozen? ⟨g,nn,none⟩=false:=HO.out.1.frozenAt nn
    have hbw:Below wr.heap.size wr (wr.alloc (.cells #[.int .u8 c.toNat] 5)):=(Below.refl _ _).alloc (zq _) _
    have hge:=HO.out.ge.2
    have hcell2:=(hbw.cell (p:=⟨g,nn,none⟩) hge).trans hcell
    have hfz2:=(hbw.frozen (p:=⟨g,nn,none⟩) hge).trans hfz
    have HO3:=Mine.set (Mine.below HO hbw) nn (.string (lb++⟨#[c]⟩))
    have HB3:Hid (Below B w ((wr.alloc (.cells #[.int .u8 c.toNat] 5)).setCell ⟨g,nn,none⟩ (.string (lb++⟨#[c]⟩)))):=zh ((hbel.out.trans (hbw.mono HO.out.2)).setCell (p:=⟨g,nn,none⟩) HO.out.ge.1 _)
    clear hbw hge
    have hcv:=zjy c wr
    have hls:lb.size≤1000000:=by
     have:=hsl _ (List.getLast_mem hne)
     rw [← hlb,Lib.size_eq]
     show(sg.getLast hne).toArray.toList.length≤_
     simp
     omega
    have hno:¬ 9223372036854775807<lb.size+(⟨#[c]⟩:ByteArray).size:=by have:(⟨#[c]⟩:ByteArray).size=1:=rfl;omega
    have hno2:¬ 9223372036854775806<lb.size:=by omega
    have hno3:¬ 9223372036854775807<lb.size+1:=by omega
    have HL:=zh hlb
    clear hlb hp
    have q1:IntKind.i64.wrap (nn:Int)=nn:=by rw [IntKind.wrap_i64];omega
    go_wp2_with fail
    go_region
    go_wp2
    go_roundw
    case rel=>exact⟨k+1,by omega,by go_num,zh (by
     have h1:=HO3.out
     rw [HE.out]
     have e1:(sg.dropLast++[sg.getLast hne++[c]]).length=nn+1:=by have:=HN.out;simp;omega
     rw [e1,← zj4 sg hne _ nn HN.out (lb++⟨#[c]⟩) (by rw [← HL.out];apply ByteArray.ext;simp [ByteArray.data_append])]
     exact h1),zh HB3.out.drew⟩
    case measure=>simp [intOf];omega
  ·have hkk:k=s.size:=by omega
   subst hkk
   rw [List.take_of_length_le (by rw [← Lib.size_eq];exact zq _)]at HO
   go_wp2
   go_ret
   exact⟨_,rfl,by rw [← HBB.out];exact HO.out,by rw [← HBB.out];exact hbel.out⟩
theorem z5x (s:ByteArray)(w:World)(hs:s.size≤maxLen) :
  Calls prog 188 #[.string s] w fun e w'=>e=.returned (.bool (segOk s))∧Below w.heap.size w w':=by
 have HN:=zh (zdp s w hs)
 unfold maxLen at hs
 have HS:Hid (segOk s=(nameS s&&allZ pathZ s)):=zh rfl
 go_enter func188,ntmps188
 go_wp2
 go_loop [3] (fun i=>∃ k:Nat,k≤s.size∧i=.int .i64 k∧Hid ((s.data.toList.take k).all (fun b=>pathZ b.toNat)=true)) (fun i=>s.size - (intOf i).toNat)
 case atStart=>exact⟨0,Nat.zero_le _,rfl,zh rfl⟩
 case round =>
  obtain⟨k,hk,rfl,HA⟩:=hrel
  by_cases hlt:k<s.size
  ·have HZ:Hid (pathZ (s[k].toNat:Int)=(smallZ (s[k].toNat:Int)||digitZ (s[k].toNat:Int))):=zh rfl
   cases h1:smallZ (s[k].toNat:Int)
   ·cases h2:digitZ (s[k].toNat:Int)
    ·have hb:Hid (¬ pathZ (s[k].toNat:Int)=true):=zh (by rw [HZ.out,h1,h2];exact Bool.false_ne_true)
     go_wp2_with (first | (go_at_call 202;refine(z1g _ _).mono ?_;rintro e w' ⟨rfl,rfl⟩) | (go_at_call 203;refine(z1u _ _).mono ?_;rintro e w' ⟨rfl,rfl⟩))
     go_ret
     exact⟨z0d (by rw [HS.out,z6k _ s k hlt hb.out,Bool.and_false]),Below.refl _ _⟩
    ·have hb:Hid (pathZ (s[k].toNat:Int)=true):=zh (by rw [HZ.out,h1,h2];rfl)
     go_wp2_with (first | (go_at_call 202;refine(z1g _ _).mono ?_;rintro e w' ⟨rfl,rfl⟩) | (go_at_call 203;refine(z1u _ _).mono ?_;rintro e w' ⟨rfl,rfl⟩))
     go_round
     case rel=>exact⟨k+1,by omega,by go_num,zh (z3s _ s k hlt HA.out hb.out)⟩
     case measure=>simp [intOf];omega
   ·have hb:Hid (pathZ (s[k].toNat:Int)=true):=zh (by rw [HZ.out,h1];rfl)
    go_wp2_with (first | (go_at_call 202;refine(z1g _ _).mono ?_;rintro e w' ⟨rfl,rfl⟩) | (go_at_call 203;refine(z1u _ _).mono ?_;rintro e w' ⟨rfl,rfl⟩))
    go_round
    case rel=>exact⟨k+1,by omega,by go_num,zh (z3s _ s k hlt HA.out hb.out)⟩
    case measure=>simp [intOf];omega
  ·have HD:=zh (z4c pathZ s k (by omega) HA.out)
   go_wp2_with fail
   refine HN.out.mono ?_
   rintro e w' ⟨rfl,hb⟩
   go_wp2
   go_ret
   exact⟨z0d (by rw [HS.out,HD.out,Bool.and_true]),hb⟩
theorem zkh {s:ByteArray}(h:verOk s=true):majZ s=verN s∧0≤verN s:=by
 have h2:majZ s=verN s:=by unfold majZ;rw [if_pos h]
 refine⟨h2,?_⟩
 unfold verN
 rw [if_pos h]
 unfold verOk okR at h
 simp only [Bool.and_eq_true]at h
 have h3:=h.2.2.2.2
 unfold allZ at h3
 rw [List.all_eq_true,z1w]at h3
 exact(zdz _ (fun b hb=>h3 b hb)).1
theorem z8u (s:ByteArray)(w:World) :
  Calls prog 176 #[.string s] w fun e w'=>e=.returned (.tuple #[.int .i64 (majN s),.int .i64 (majE s)])∧Below w.heap.size w w':=by
 have HP:Hid (pathOk s=(decide (s.size≤64)&&(decide (2≤(segB s).length)&&(verOk (lastB s)&&(segB s).all segOk)))):=zh rfl
 have HN:Hid (majN s=if pathOk s then verN (lastB s) else 0):=zh rfl
 have HE:Hid (majE s=if pathOk s then 0 else 4):=zh rfl
 by_cases h2:s.size≤64
 case neg =>
  have HT:Hid (pathOk s=false):=zh (by rw [HP.out,decide_eq_false h2];rfl)
  have h3:64<(s.size:Int):=by omega
  go_enter func176,ntmps176
  go_wp2
  go_ret2
  exact⟨z3n (by rw [HN.out,HT.out];rfl) (by rw [HE.out,HT.out];rfl),Below.refl _ _⟩
 have h3:¬ 64<(s.size:Int):=by omega
 have hne:=zdt s
 have hln:=z7m s
 have hsz:=zit s
 have hlm:=zbf s
 have HD2:=zh (decide_eq_true h2)
 have HG:=zh (zaj s w (by omega))
 have HB:=zh (zmi s)
 have HBL:Hid ((segsL s.data.toList).length=(segB s).length):=zh (by unfold segB;rw [List.length_map])
 have HLB:Hid ((segB s)[(segB s).length - 1]? = some (lastB s)):=zh (by unfold lastB;rw [zg,ze (by omega)];rfl)
 go_enter func176,ntmps176
 go_wp2_with fail
 refine HG.out.mono ?_
 rintro e w1 ⟨v,rfl,hv,hb⟩
 rw [HB.out,HBL.out]at hv
 obtain⟨g,cap,rfl⟩:=hv.shape hne
 have hcells:∀ i (h:i<(segB s).length),w1.cell? ⟨g,i,none⟩=some (.string (segB s)[i]):=fun i h=>by rw [hv.cell i (by omega),List.getElem?_map,ze h];rfl
 have hg:=hv.ge
 have hbl:=hb
 generalize hsgg:segB s=sg at *
 generalize lastB s=lb at *
 have H1:=zh hcells
 have H2:=zh hsz
 have HM:=zh hlm
 have HSG:=zh hsgg
 clear hcells hsz hlm hsgg hb hv
 go_wp2_with fail
 go_loopw [5] (fun i wr=>∃ k:Nat,k≤sg.length∧i=.int .i64 k∧Hid ((sg.take k).all segOk=true)∧Hid (Below w1.heap.size w1 wr)) (fun i _=>sg.length - (intOf i).toNat)
 case atStart=>exact⟨0,Nat.zero_le _,rfl,zh rfl,zh (Below.refl _ _)⟩
 case round =>
  obtain⟨k,hk,rfl,HA,hbr⟩:=hrel
  by_cases hlt:k<sg.length
  ·have hck:wr.cell? ⟨g,k,none⟩=some (.string sg[k]):=(hbr.out.cell (p:=⟨g,k,none⟩) hg.2).trans (H1.out k hlt)
   have HX:=zh (H2.out _ (List.getElem_mem hlt))
   have HO:Hid ((sg.take (k+1)).all segOk=((sg.take k).all segOk&&segOk sg[k])):=zh (by rw [zs hlt,List.all_append];simp)
   have HF:Hid (segOk sg[k]=false→sg.all segOk=false):=zh (fun h=>by rw [List.all_eq_false];exact⟨sg[k],List.getElem_mem hlt,by rw [h];exact Bool.false_ne_true⟩)
   generalize sg[k]=x at *
   cases h4:segOk x
   ·have HT:Hid (pathOk s=false):=zh (by rw [HP.out,HF.out h4];simp)
    go_wp2_with fail
    refine(z5x x wr (by have:=HX.out;unfold maxLen;omega)).mono ?_
    rintro e w2 ⟨rfl,hb2⟩
    rw [h4]
    go_wp2
    go_ret2
    exact⟨z3n (by rw [HN.out,HT.out];rfl) (by rw [HE.out,HT.out];rfl),(hbl.trans (hbr.out.mono hbl.size)).trans (hb2.mono (hbl.trans (hbr.out.mono hbl.size)).size)⟩
   ·have HO2:Hid ((sg.take (k+1)).all segOk=true):=zh (by rw [HO.out,HA.out,h4];rfl)
    go_wp2_with fail
    refine(z5x x wr (by have:=HX.out;unfold maxLen;omega)).mono ?_
    rintro e w2 ⟨rfl,hb2⟩
    rw [h4]
    go_wp2
    go_roundw
    case rel=>exact⟨k+1,by omega,by go_num,HO2,zh (hbr.out.trans (hb2.mono hbr.out.size))⟩
    case measure=>simp [intOf];omega
  ·obtain rfl:k=sg.length:=by omega
   have HO:Hid (sg.all segOk=true):=zh (by have:=HA.out;rwa [List.take_length]at this)
   obtain⟨nn,hnn⟩:∃ nn,sg.length=nn+1:=⟨sg.length - 1,by omega⟩
   have hck:wr.cell? ⟨g,nn,none⟩=some (.string lb):=by
    have e:sg[nn]? = some lb:=by rw [← HLB.out,hnn];rfl
    obtain⟨h5,h6⟩:=List.getElem?_eq_some_iff.1 e
    rw [(hbr.out.cell (p:=⟨g,nn,none⟩) hg.2).trans (H1.out nn h5),h6]
   have HX:=zh (H2.out _ HM.out)
   have HQ:Hid (pathOk s=(decide (2≤nn+1)&&verOk lb)):=zh (by rw [HP.out,HD2.out,HO.out,hnn];simp)
   have HBL2:Hid (Below w.heap.size w wr):=zh (hbl.trans (hbr.out.mono hbl.size))
   have q1:wrap64 (nn:Int)=nn:=by unfold wrap64;omega
   rw [hnn]at *
   have HMJ:=zh (zgg lb wr (by have:=HX.out;omega))
   cases h5:verOk lb
   ·have HT:Hid (pathOk s=false):=zh (by rw [HQ.out,h5,Bool.and_false])
    have HZ:=zh (z5f h5)
    go_wp2_with fail
    refine HMJ.out.mono ?_
    rintro e w2 ⟨rfl,rfl⟩
    rw [HZ.out]
    by_cases h6:(nn:Int)+1<2
    all_goals
     go_wp2
     go_ret2
     exact⟨z3n (by rw [HN.out,HT.out];rfl) (by rw [HE.out,HT.out];rfl),HBL2.out⟩
   ·have hz:=zkh h5
    have HZ:=zh hz.1
    have hz2:=hz.2
    obtain⟨vn,hvn⟩:∃ vn,verN lb=vn:=⟨_,rfl⟩
    rw [hvn]at hz2
    have HVN:=zh hvn
    clear hz hvn
    by_cases h6:(nn:Int)+1<2
    ·have HT:Hid (pathOk s=false):=zh (by rw [HQ.out,decide_eq_false (by omega)];rfl)
     go_wp2_with fail
     refine HMJ.out.mono ?_
     rintro e w2 ⟨rfl,rfl⟩
     rw [HZ.out,HVN.out]
     go_wp2
     go_ret2
     exact⟨z3n (by rw [HN.out,HT.out];rfl) (by rw [HE.out,HT.out];rfl),HBL2.out⟩
    ·have HT:Hid (pathOk s=true):=zh (by rw [HQ.out,h5,decide_eq_true (by omega)];rfl)
     have h7:¬ vn<0:=by omega
     go_wp2_with fail
     refine HMJ.out.mono ?_
     rintro e w2 ⟨rfl,rfl⟩
     rw [HZ.out,HVN.out]
     go_wp2
     go_ret2
     exact⟨z3n (by rw [HN.out,HT.out,if_pos rfl,HVN.out]) (by rw [HE.out,HT.out];rfl),HBL2.out⟩
theorem zdq (s:ByteArray)(w:World) :
  Calls prog 175 #[.string s] w fun e w'=>e=.returned (.bool (pathOk s))∧Below w.heap.size w w':=by
 have HE:Hid (majE s=if pathOk s then 0 else 4):=zh rfl
 cases h:pathOk s
 all_goals
  rw [h]at HE
  simp only [Bool.false_eq_true,if_false,if_true]at HE
  go_enter func175,ntmps175
  go_wp2_with fail
  refine(z8u s w).mono ?_
  rintro e w' ⟨rfl,hb⟩
  rw [HE.out]
  go_wp2
  go_ret
  exact⟨rfl,hb⟩
theorem zik (s:ByteArray)(w:World)(hs:s.size≤1000000):Calls prog 145 #[.string s] w fun e w' =>
  e=.returned (.tuple #[.string (lineV s).1,.int .i64 (lineV s).2.1,.int .i64 (lineV s).2.2])∧Below w.heap.size w w':=by
 have HIP:=zh (fun W=>zdq s W)
 have HMJ:=zh (fun W=>z8u s W)
 cases hp:pathOk s with
 | false =>
  have HE:=zh (show lineV s=(⟨#[]⟩,0,4) by unfold lineV;rw [hp];rfl)
  rw [HE.out]
  rw [hp]at HIP
  clear hp
  go_enter func145,ntmps145
  go_wp2_with fail
  (with_reducible refine(HIP.out _).mono ?_)
  rintro e w1 ⟨rfl,hb1⟩
  have HB1:=zh hb1
  clear hb1
  go_wp2_with fail
  go_ret3
  exact⟨rfl,HB1.out⟩
 | true =>
  obtain⟨i,hi1,hi2,hi3,hi4⟩:=z90 s hp
  obtain⟨hd,hhd⟩:∃ hd,s.extract 0 i=hd:=⟨_,rfl⟩
  have HE:=zh (show lineV s=(hd,majN s,0) by unfold lineV;rw [hp,hi1,← hhd];rfl)
  rw [show majE s=0 by unfold majE;rw [hp];rfl]at HMJ
  rw [HE.out]
  rw [hp]at HIP
  have HH:=zh hhd
  have hget:∀ j (hj:j<s.size),s.data.toList[j]? = some s[j]:=fun j hj=>by
   have:j<s.data.toList.length:=by rw [← Lib.size_eq];exact hj
   rw [ze this];simp;rfl
  have HI:=zh (show((s[i]).toNat:Int)=47 by
   rw [hget i hi2]at hi3
   rw [Option.some.inj hi3];rfl)
  have HJ:=zh (show ∀ j (hj:j<s.size),i<j→¬ ((s[j]).toNat:Int)=47 from fun j hj hij h=>hi4 j hij (by
   rw [hget j hj]
   have:s[j]=47:=UInt8.toNat_inj.1 (by have:(47:UInt8).toNat=47:=rfl;omega)
   rw [this]))
  have HI2:=zh hi2
  have hsz:(1:Int)≤s.size:=by omega
  have hsz2:(s.size:Int)≤1000000:=by omega
  obtain⟨mj,hmj⟩:∃ mj,majN s=mj:=⟨_,rfl⟩
  rw [hmj]at HMJ ⊢
  clear hp hi1 hi3 hi4 hhd hget hmj
  go_enter func145,ntmps145
  go_wp2_with fail
  (with_reducible refine(HIP.out _).mono ?_)
  rintro e w1 ⟨rfl,hb1⟩
  have HB1:=zh hb1
  clear hb1
  go_wp2_with fail
  (with_reducible refine(HMJ.out _).mono ?_)
  rintro e w2 ⟨rfl,hb2⟩
  have HB2:Hid (Below w.heap.size w w2):=zh (HB1.out.trans (hb2.mono HB1.out.size))
  clear hb2
  go_wp2_with fail
  go_loop [7] (fun e=>∃ k:Nat,i≤k∧k<s.size∧e=.int .i64 k) (fun e=>(intOf e).toNat)
  case atStart=>exact⟨s.size - 1,by have:=HI2.out;omega,by have:=HI2.out;omega,by have:=HI2.out;congr 1;omega⟩
  case round =>
   obtain⟨k,hk1,hk2,rfl⟩:=hrel
   have hk0:(0:Int)≤(k:Int):=by omega
   have hk3:(k:Int)<(s.size:Int):=by omega
   by_cases hik:i=k
   ·subst hik
    have h47:((((s[i]).toNat:Int)) != 47)=false:=by rw [HI.out];rfl
    have g1:(0:Int)≤(i:Int):=by omega
    have g2:(i:Int)≤s.size:=by omega
    have g3:i≤s.size:=by omega
    go_wp2_with fail
    go_ret3
    exact⟨by rw [← HH.out];rfl,HB2.out⟩
   ·have h47:((((s[k]).toNat:Int)) != 47)=true:=by
     have:=HJ.out k hk2 (by omega)
     simpa using this
    have hk4:(1:Int)≤(k:Int):=by omega
    go_wp2_with fail
    go_round
    case rel=>exact⟨k - 1,by omega,by omega,by congr 1;omega⟩
    case measure=>simp [intOf];omega
theorem z9n {a b:Int}(h:a<b):cmpI a b=-1:=by unfold cmpI;rw [if_pos h]
theorem z9m {a b:Int}(h:b<a):cmpI a b=1:=by unfold cmpI;rw [if_neg (by omega),if_pos h]
theorem zcy {a b:Int}(h:a=b):cmpI a b=0:=by unfold cmpI;rw [if_neg (by omega),if_neg (by omega)]
theorem z9o {a b:Int}(h:a<b∨b<a):cmpI a b≠0:=by
 rcases h with h | h
 ·rw [z9n h];decide
 ·rw [z9m h];decide
theorem zc4 (a b c x y z:Int)(w:World):Calls prog 108 #[.agg #[.int .i64 a,.int .i64 b,.int .i64 c],.agg #[.int .i64 x,.int .i64 y,.int .i64 z]] w fun e w'=>e=.returned (.int .i64 (cmpV a b c x y z))∧Below w.heap.size w w':=by
 go_enter func108,ntmps108
 go_wp2_with fail
 obtain⟨W,hW⟩:∃ W,(((w.alloc (.cells #[.int .i64 a,.int .i64 b,.int .i64 c] 51)).alloc (.cells #[.int .i64 x,.int .i64 y,.int .i64 z] 51)).alloc (.cells #[.int .i64 a,.int .i64 b,.int .i64 c] 3)).alloc (.cells #[.int .i64 x,.int .i64 y,.int .i64 z] 3)=W:=⟨_,rfl⟩
 rw [hW]
 have HB0:Hid (Below w.heap.size w W):=zh (by rw [← hW];exact(by repeat (first | exact Below.refl _ _ | refine Below.drew ?_ | refine Below.alloc ?_ (by simp<;>omega) _ | refine Below.setCell ?_ (by simp<;>omega) _)))
 have e0:W.cell? ⟨w.heap.size+1+1,0,none⟩=some (.int .i64 a):=by rw [← hW];simp [go_sem]
 have e1:W.cell? ⟨w.heap.size+1+1,1,none⟩=some (.int .i64 b):=by rw [← hW];simp [go_sem]
 have e2:W.cell? ⟨w.heap.size+1+1,2,none⟩=some (.int .i64 c):=by rw [← hW];simp [go_sem]
 have k0:W.cell? ⟨w.heap.size+1+1+1,0,none⟩=some (.int .i64 x):=by rw [← hW];simp [go_sem]
 have k1:W.cell? ⟨w.heap.size+1+1+1,1,none⟩=some (.int .i64 y):=by rw [← hW];simp [go_sem]
 have k2:W.cell? ⟨w.heap.size+1+1+1,2,none⟩=some (.int .i64 z):=by rw [← hW];simp [go_sem]
 clear hW
 go_loopw [7] (fun i wr=>((i=.int .i64 0)∨(i=.int .i64 1∧Hid (cmpI a x=0))∨(i=.int .i64 2∧Hid (cmpI a x=0∧cmpI b y=0))∨(i=.int .i64 3∧Hid (cmpV a b c x y z=0)))∧Hid (∃ n,wr=W.drewN n)) (fun i _=>3 - (intOf i).toNat)
 case atStart=>exact⟨.inl rfl,zh ⟨0,rfl⟩⟩
 case round =>
  obtain⟨hrel,HW⟩:=hrel
  obtain⟨n,hn⟩:=HW.out
  replace e0:wr.cell? ⟨w.heap.size+1+1,0,none⟩=some (.int .i64 a):=by rw [hn];exact e0
  replace e1:wr.cell? ⟨w.heap.size+1+1,1,none⟩=some (.int .i64 b):=by rw [hn];exact e1
  replace e2:wr.cell? ⟨w.heap.size+1+1,2,none⟩=some (.int .i64 c):=by rw [hn];exact e2
  replace k0:wr.cell? ⟨w.heap.size+1+1+1,0,none⟩=some (.int .i64 x):=by rw [hn];exact k0
  replace k1:wr.cell? ⟨w.heap.size+1+1+1,1,none⟩=some (.int .i64 y):=by rw [hn];exact k1
  replace k2:wr.cell? ⟨w.heap.size+1+1+1,2,none⟩=some (.int .i64 z):=by rw [hn];exact k2
  have HBW:Hid (Below w.heap.size w wr):=zh (by rw [hn];exact z00 HB0.out _)
  have HN:=zh hn
  clear hn HW
  rcases hrel with rfl | ⟨rfl,H1⟩ | ⟨rfl,H2⟩ | ⟨rfl,H3⟩
  ·rcases Int.lt_trichotomy a x with h | h | h
   ·have H0:=zh (zhd (b:=b) (c:=c) (y:=y) (z:=z) (z9o (.inl h)))
    have HR:=zh (z9n h)
    go_wp2_with fail
    go_quiet (fail)
    go_wp2_with fail
    go_ret
    exact⟨by rw [H0.out,HR.out];rfl,z00 HBW.out _⟩
   ·have H0:=zh (zcy h)
    have h1:¬ a<x:=by omega
    have h2:¬ x<a:=by omega
    clear h
    go_wp2_with fail
    go_quiet (fail)
    go_wp2_with fail
    go_quiet (fail)
    go_wp2_with fail
    go_roundw
    case rel=>exact⟨.inr (.inl ⟨rfl,H0⟩),zh ⟨_,by rw [HN.out];simp only [World.drewN_drewN];rfl⟩⟩
    case measure=>simp [intOf]
   ·have H0:=zh (zhd (b:=b) (c:=c) (y:=y) (z:=z) (z9o (.inr h)))
    have HR:=zh (z9m h)
    have h1:¬ a<x:=by omega
    go_wp2_with fail
    go_quiet (fail)
    go_wp2_with fail
    go_quiet (fail)
    go_wp2_with fail
    go_ret
    exact⟨by rw [H0.out,HR.out];rfl,by first | exact z00 (z00 HBW.out _) _ | exact z00 HBW.out _⟩
  ·rcases Int.lt_trichotomy b y with h | h | h
   ·have H0:=zh (zhe (c:=c) (z:=z) H1.out (z9o (.inl h)))
    have HR:=zh (z9n h)
    go_wp2_with fail
    go_quiet (fail)
    go_wp2_with fail
    go_ret
    exact⟨by rw [H0.out,HR.out];rfl,z00 HBW.out _⟩
   ·have H0:=zh (zcy h)
    have h1:¬ b<y:=by omega
    have h2:¬ y<b:=by omega
    clear h
    go_wp2_with fail
    go_quiet (fail)
    go_wp2_with fail
    go_quiet (fail)
    go_wp2_with fail
    go_roundw
    case rel=>exact⟨.inr (.inr (.inl ⟨rfl,zh ⟨H1.out,H0.out⟩⟩)),zh ⟨_,by rw [HN.out];simp only [World.drewN_drewN];rfl⟩⟩
    case measure=>simp [intOf]
   ·have H0:=zh (zhe (c:=c) (z:=z) H1.out (z9o (.inr h)))
    have HR:=zh (z9m h)
    have h1:¬ b<y:=by omega
    go_wp2_with fail
    go_quiet (fail)
    go_wp2_with fail
    go_quiet (fail)
    go_wp2_with fail
    go_ret
    exact⟨by rw [H0.out,HR.out];rfl,by first | exact z00 (z00 HBW.out _) _ | exact z00 HBW.out _⟩
  ·rcases Int.lt_trichotomy c z with h | h | h
   ·have H0:=zh (zax (c:=c) (z:=z) H2.out.1 H2.out.2)
    have HR:=zh (z9n h)
    go_wp2_with fail
    go_quiet (fail)
    go_wp2_with fail
    go_ret
    exact⟨by rw [H0.out,HR.out];rfl,z00 HBW.out _⟩
   ·have H0:=zh (zcy h)
    have h1:¬ c<z:=by omega
    have h2:¬ z<c:=by omega
    clear h
    go_wp2_with fail
    go_quiet (fail)
    go_wp2_with fail
    go_quiet (fail)
    go_wp2_with fail
    go_roundw
    case rel=>exact⟨.inr (.inr (.inr ⟨rfl,zh ((zax H2.out.1 H2.out.2).trans H0.out)⟩)),zh ⟨_,by rw [HN.out];simp only [World.drewN_drewN];rfl⟩⟩
    case measure=>simp [intOf]
   ·have H0:=zh (zax (c:=c) (z:=z) H2.out.1 H2.out.2)
    have HR:=zh (z9m h)
    have h1:¬ c<z:=by omega
    go_wp2_with fail
    go_quiet (fail)
    go_wp2_with fail
    go_quiet (fail)
    go_wp2_with fail
    go_ret
    exact⟨by rw [H0.out,HR.out];rfl,by first | exact z00 (z00 HBW.out _) _ | exact z00 HBW.out _⟩
  ·go_wp2_with fail
   go_ret
   exact⟨by rw [H3.out];rfl,HBW.out⟩
def majV (s:ByteArray):Int:=if (lineV s).2.2≠0 then -1 else(lineV s).2.1
theorem z5v (s:ByteArray)(w:World)(hs:s.size≤1000000):Calls prog 105 #[.string s] w fun e w'=>e=.returned (.int .i64 (majV s))∧Below w.heap.size w w':=by
 have HL:=zh (zik s w hs)
 unfold majV
 obtain⟨⟨ln,lm,le⟩,hln⟩:∃ z,lineV s=z:=⟨_,rfl⟩
 rw [hln]at HL ⊢
 simp only at HL ⊢
 clear hln
 by_cases h:le=0
 ·subst h
  rw [if_neg (by simp)]
  go_enter func105,ntmps105
  go_wp2_with fail
  refine HL.out.mono ?_
  rintro e w1 ⟨rfl,hb1⟩
  go_wp2_with fail
  go_ret
  exact⟨rfl,hb1⟩
 ·have hb:(le != 0)=true:=by simpa using h
  rw [if_pos h]
  go_enter func105,ntmps105
  go_wp2_with fail
  refine HL.out.mono ?_
  rintro e w1 ⟨rfl,hb1⟩
  go_wp2_with fail
  go_ret
  exact⟨rfl,hb1⟩
theorem z4a (s:ByteArray)(w:World):Calls prog 107 #[.string s] w fun e w'=>e=.returned (.bool (digB s))∧w=w':=by
 unfold digB
 by_cases h0:s.size=0
 ·have hb:((s.size:Int) == 0)=true:=by simp [h0]
  rw [h0]
  go_enter func107,ntmps107
  go_wp2_with fail
  go_ret
  exact⟨by simp,rfl⟩
 ·have hb:((s.size:Int) == 0)=false:=beq_eq_false_iff_ne.2 (by omega)
  by_cases h1:s.size=32
  ·have hb1:((s.size:Int) == 32)=true:=by simp [h1]
   rw [h1]
   go_enter func107,ntmps107
   go_wp2_with fail
   go_ret
   exact⟨by simp,rfl⟩
  ·have hb1:((s.size:Int) == 32)=false:=beq_eq_false_iff_ne.2 (by omega)
   have HX:=zh (show(decide (s.size=0)||decide (s.size=32))=false by simp [h0,h1])
   rw [HX.out]
   go_enter func107,ntmps107
   go_wp2_with fail
   go_ret
   exact⟨by simp,rfl⟩
theorem z7x (a b:RelL)(ra rb:Value)(w:World):Calls prog 72 #[.agg (relC a ra),.agg (relC b rb)] w fun e w'=>e=.returned (.int .i64 (cmpR a b))∧Below w.heap.size w w':=by
 have HC:=zh (fun W=>zc4 a.ver.1 a.ver.2.1 a.ver.2.2 b.ver.1 b.ver.2.1 b.ver.2.2 W)
 rw [zhc]
 obtain⟨R,hR⟩:∃ R,(if cmpS a.path b.path≠0 then cmpS a.path b.path else cmpV a.ver.1 a.ver.2.1 a.ver.2.2 b.ver.1 b.ver.2.1 b.ver.2.2)=R:=⟨_,rfl⟩
 rw [hR]
 unfold cmpS at hR
 simp only [relC]
 cases h1:ltB a.path b.path with
 | true =>
  have HR:=zh (show R=-1 by rw [← hR,h1];simp)
  unfold ltB at h1
  clear hR HC
  go_enter func72,ntmps72
  go_wp2_with fail
  go_ret
  exact⟨by rw [HR.out];rfl,(by repeat (first | exact Below.refl _ _ | refine Below.drew ?_ | refine Below.alloc ?_ (by simp<;>omega) _ | refine Below.setCell ?_ (by simp<;>omega) _))⟩
 | false =>
  cases h2:ltB b.path a.path with
  | true =>
   have HR:=zh (show R=1 by rw [← hR,h1,h2];simp)
   have h3:(a.path.toList == b.path.toList)=false:=by
    by_cases e:a.path.toList=b.path.toList
    ·unfold ltB at h1 h2;rw [e]at h1 h2;rw [h1]at h2;cases h2
    ·simpa using e
   unfold ltB at h1 h2
   clear hR HC
   go_enter func72,ntmps72
   go_wp2_with fail
   go_ret
   exact⟨by rw [HR.out];rfl,(by repeat (first | exact Below.refl _ _ | refine Below.drew ?_ | refine Below.alloc ?_ (by simp<;>omega) _ | refine Below.setCell ?_ (by simp<;>omega) _))⟩
  | false =>
   have hR2:cmpV a.ver.1 a.ver.2.1 a.ver.2.2 b.ver.1 b.ver.2.1 b.ver.2.2=R:=by rw [← hR,h1,h2];simp
   rw [hR2]at HC
   have h3:(a.path.toList == b.path.toList)=true:=by
    unfold ltB at h1 h2
    rw [z2g _ _ h1 h2]
    simp
   unfold ltB at h1 h2
   clear hR hR2
   go_enter func72,ntmps72
   go_wp2_with fail
   refine(HC.out _).mono ?_
   rintro e w1 ⟨rfl,hb⟩
   have HB:=zh ((show Below w.heap.size w _ from(by repeat (first | exact Below.refl _ _ | refine Below.drew ?_ | refine Below.alloc ?_ (by simp<;>omega) _ | refine Below.setCell ?_ (by simp<;>omega) _))).trans (hb.mono (by simp only [World.size_alloc];omega)))
   clear hb
   go_wp2_with fail
   go_ret
   exact⟨rfl,HB.out⟩
end Go.Proofs.YtapbhoodgnmnkaaGreatDoor
