/- Laws and contracts. -/
import Derived.Test.YtapbhoodgnmnkaaGreatDoorKC
set_option linter.unusedVariables false
set_option linter.unusedSimpArgs false
set_option maxRecDepth 100000
set_option maxHeartbeats 32000000
namespace Go.Proofs.YtapbhoodgnmnkaaGreatDoor
open Go.Proofs.Tryz Go Go.RowKit
theorem z8w (fv tv mv:Value)(f t:List SelL)(M:List ByteArray)(w:World)(hf:f.length≤64)(ht:t.length≤64)(hMl:M.length≤1000000000)(hF:SelsOf w.heap.size fv f w)(hT:SelsOf w.heap.size tv t w)(hM:RowOf Value.string w.heap.size mv M w) :
  Calls prog 47 #[fv,tv,mv] w fun e w'=>∃ v,e=.returned v∧SelsOf w'.heap.size v (betV f t M) w'∧Below w.heap.size w w':=by
 have HHS:=zh (fun p W (hb:Below w.heap.size w W)=>z42 mv M p W hMl (z4v hM hb))
 have HSF:=zh (fun p W (hb:Below w.heap.size w W)=>z43 fv f p W (by omega) (hF.on hb))
 have HST:=zh (fun p W (hb:Below w.heap.size w W)=>z43 tv t p W (by omega) (hT.on hb))
 obtain⟨fa,fc,rfl⟩:=zo hF
 obtain⟨ta,tc,rfl⟩:=zo hT
 obtain⟨ma,mc,rfl,_⟩:=z01 hM
 have HFC:Hid (∀ i (hi:i<f.length),∃ b off,fa=some ⟨b,off,none⟩∧∀ W,Below w.heap.size w W→W.cell? ⟨b,off+i*4,none⟩=some (.string f[i].1)):=zh (fun i hi=>by
  obtain⟨b,off,e,hl,d,_⟩:=z34 hF hi
  exact⟨b,off,e,fun W hb=>(hb.cell (p:=⟨b,off+i*4,none⟩) hl).trans d⟩)
 have HTC:Hid (∀ i (hi:i<t.length),∃ b off,ta=some ⟨b,off,none⟩∧∀ W,Below w.heap.size w W→W.cell? ⟨b,off+i*4,none⟩=some (.string t[i].1)):=zh (fun i hi=>by
  obtain⟨b,off,e,hl,d,_⟩:=z34 hT hi
  exact⟨b,off,e,fun W hb=>(hb.cell (p:=⟨b,off+i*4,none⟩) hl).trans d⟩)
 clear hF hT hM hMl
 have HB0:=zh (belQ w (.cells #[] 53))
 have HO0:Hid ((w.alloc (.cells #[] 53)).ownsRow w.heap.size 53 4 (.slice (some ⟨w.heap.size,0,none⟩) 0 0) 0 (selCells [])):=zh ⟨rfl,.inr ⟨w.heap.size,0,#[],rfl,zq _,zn w _,zq _,by unfold maxLen;omega,rfl,rfl⟩⟩
 go_enter func47,ntmps47
 go_upto_region 2 with fail
 generalize w.alloc (.cells #[] 53)=w2 at *
 go_wp2_with fail
 go_loopw [7,8,9] (fun ov pi pk wr=>Hid (∃ (i k:Nat) (out:List SelL),i≤f.length∧k≤t.length∧pi=.int .i64 (i:Int)∧pk=.int .i64 (k:Int)∧wr.ownsRow w.heap.size 53 4 ov out.length (selCells out)∧BtwI f t M i k out∧out.length≤i+k∧Below w.heap.size w wr)) (fun _ pi pk _=>f.length+t.length - ((intOf pi).toNat+(intOf pk).toNat))
 case atStart=>exact zh ⟨0,0,[],Nat.zero_le _,Nat.zero_le _,rfl,rfl,HO0.out,BtwI.start _ _ _,Nat.zero_le _,HB0.out⟩
 case round =>
  obtain⟨i,k,out,hi,hk,rfl,rfl,ho,hbt,hol,hb⟩:=hrel.out
  have HO:=zh ho
  have HBI:=zh hbt
  have HBW:=zh hb
  obtain⟨oa,oc,rfl⟩:=z05 ho
  clear hrel ho hbt hb
  have hi0:(0:Int)≤(i:Int):=Int.natCast_nonneg i
  have hk0:(0:Int)≤(k:Int):=Int.natCast_nonneg k
  by_cases hli:i<f.length
  case neg =>
   by_cases hlk:k<t.length
   case neg =>
    have HE:=zh (HBI.out.done (Nat.le_of_not_lt hli) (Nat.le_of_not_lt hlk))
    have HSL:=zh (za4 HO.out)
    clear HO
    go_wp2_with fail
    go_ret
    exact⟨_,rfl,by rw [HE.out];exact HSL.out,HBW.out⟩
   have hkz:(k:Int)<(t.length:Int):=Int.ofNat_lt.2 hlk
   obtain⟨b2,off2,rfl,hct⟩:=HTC.out k hlk
   have HCT:=zh hct
   have HEQ:=zh (zi2 (Nat.le_of_not_lt hli) hlk)
   have hkm:((k:Int) == (t.length:Int))=false:=by simp;omega
   generalize t[k].1=p at *
   clear hct
   have HBI2:=zh (HBI.out.step HEQ.out)
   have HHP:=zh (HHS.out p)
   have HFP:=zh (HSF.out p)
   have HTP:=zh (HST.out p)
   clear HEQ HBI
   go_wp2_with fail
   have y0:=HCT.out wr HBW.out
   go_quiet (fail)
   have HBN:=zh (z00 HBW.out nq)
   have HON:=zh (z07 HO.out (z00 (Below.refl wr.heap.size wr) nq))
   generalize wr.drewN nq=wx at *
   clear y0 HO HBW
   have y0:=HCT.out wx HBN.out
   go_wp2_with fail
   refine(HHP.out _ HBN.out).mono ?_
   rintro e w3 ⟨rfl,hb3⟩
   replace HON:=zh (z07 HON.out hb3)
   replace HBN:=zj HBN hb3
   clear hb3 y0
   by_cases hpm:p∈M
   case' pos =>
    rw [decide_eq_true hpm]
    have HGM:Hid (gM f t M p=atS t p):=zh (by unfold gM;rw [if_pos hpm])
    go_wp2_with fail
    refine(HTP.out _ HBN.out).mono ?_
    rintro e w4 ⟨sv,rfl,hsv,hb4⟩
    rw [← HGM.out]at hsv
    have HSV:=zh hsv
    replace HON:=zh (z07 HON.out hb4)
    replace HBN:=zj HBN hb4
    have hsl:=z26 (gM f t M p)
    obtain⟨sa,sc,rfl⟩:=zo hsv
    generalize (gM f t M p).toList=gl at *
    have hbz:=HBN.out.size
    clear hsv hb4 HGM hpm
    go_upto_region 11 with (at_builtin;refine z0h rfl _ _ rfl w.heap.size (.slice oa out.length oc) out.length out (by rfl) HON.out (.slice sa gl.length sc) gl (by rfl) HSV.out (by omega) hbz ?_;intro v5 wB hown hgrow;have HOW:=zh hown;have HGR:=zh hgrow;clear hown hgrow;obtain⟨da,dc,rfl⟩:∃ a c,v5=.slice a (out.length+gl.length) c:=z05 HOW.out)
    have HBB:=zh (HBN.out.grown HGR.out hbz (fun b hb=>(z0g HON.out b hb).1))
   case' neg =>
    rw [decide_eq_false hpm]
    have HGM:Hid (gM f t M p=atS f p):=zh (by unfold gM;rw [if_neg hpm])
    go_wp2_with fail
    refine(HFP.out _ HBN.out).mono ?_
    rintro e w4 ⟨sv,rfl,hsv,hb4⟩
    rw [← HGM.out]at hsv
    have HSV:=zh hsv
    replace HON:=zh (z07 HON.out hb4)
    replace HBN:=zj HBN hb4
    have hsl:=z26 (gM f t M p)
    obtain⟨sa,sc,rfl⟩:=zo hsv
    generalize (gM f t M p).toList=gl at *
    have hbz:=HBN.out.size
    clear hsv hb4 HGM hpm
    go_upto_region 11 with (at_builtin;refine z0h rfl _ _ rfl w.heap.size (.slice oa out.length oc) out.length out (by rfl) HON.out (.slice sa gl.length sc) gl (by rfl) HSV.out (by omega) hbz ?_;intro v5 wB hown hgrow;have HOW:=zh hown;have HGR:=zh hgrow;clear hown hgrow;obtain⟨da,dc,rfl⟩:∃ a c,v5=.slice a (out.length+gl.length) c:=z05 HOW.out)
    have HBB:=zh (HBN.out.grown HGR.out hbz (fun b hb=>(z0g HON.out b hb).1))
   all_goals
    have HOL:Hid (wB.ownsRow w.heap.size 53 4 (.slice da (out.length+gl.length) dc) (out++gl).length (selCells (out++gl))):=zh (by rw [List.length_append];exact HOW.out)
    clear HOW HGR HON HBN HSV
    have y0:=HCT.out wB HBB.out
    go_wp2_with fail
    all_goals
     refine⟨zh ⟨i,k+1,out++gl,by omega,by omega,by go_num,by go_num,by first | exact HOL.out | (rw [List.length_append];exact HOL.out) | (rw [List.length_append]at HO7;exact HOL.out),HBI2.out,by rw [List.length_append];omega,HBB.out⟩,?_⟩
     simp [intOf];omega
  have hiz:(i:Int)<(f.length:Int):=Int.ofNat_lt.2 hli
  obtain⟨b1,off1,rfl,hcf⟩:=HFC.out i hli
  have HCF:=zh hcf
  by_cases hlk:k<t.length
  case neg =>
   obtain rfl:k=t.length:=Nat.le_antisymm hk (Nat.le_of_not_lt hlk)
   have HEQ:=zh (zi1 hli (zq t.length))
   have hkm:((t.length:Int) == (t.length:Int))=true:=by simp
   generalize f[i].1=p at *
   clear hcf
   have HBI2:=zh (HBI.out.step HEQ.out)
   have HHP:=zh (HHS.out p)
   have HFP:=zh (HSF.out p)
   have HTP:=zh (HST.out p)
   clear HEQ HBI
   go_wp2_with fail
   have x0:=HCF.out wr HBW.out
   go_quiet (fail)
   have HBN:=zh (z00 HBW.out nq)
   have HON:=zh (z07 HO.out (z00 (Below.refl wr.heap.size wr) nq))
   generalize wr.drewN nq=wx at *
   clear x0 HO HBW
   have x0:=HCF.out wx HBN.out
   go_wp2_with fail
   refine(HHP.out _ HBN.out).mono ?_
   rintro e w3 ⟨rfl,hb3⟩
   replace HON:=zh (z07 HON.out hb3)
   replace HBN:=zj HBN hb3
   clear hb3 x0
   by_cases hpm:p∈M
   case' pos =>
    rw [decide_eq_true hpm]
    have HGM:Hid (gM f t M p=atS t p):=zh (by unfold gM;rw [if_pos hpm])
    go_wp2_with fail
    refine(HTP.out _ HBN.out).mono ?_
    rintro e w4 ⟨sv,rfl,hsv,hb4⟩
    rw [← HGM.out]at hsv
    have HSV:=zh hsv
    replace HON:=zh (z07 HON.out hb4)
    replace HBN:=zj HBN hb4
    have hsl:=z26 (gM f t M p)
    obtain⟨sa,sc,rfl⟩:=zo hsv
    generalize (gM f t M p).toList=gl at *
    have hbz:=HBN.out.size
    clear hsv hb4 HGM hpm
    go_upto_region 11 with (at_builtin;refine z0h rfl _ _ rfl w.heap.size (.slice oa out.length oc) out.length out (by rfl) HON.out (.slice sa gl.length sc) gl (by rfl) HSV.out (by omega) hbz ?_;intro v5 wB hown hgrow;have HOW:=zh hown;have HGR:=zh hgrow;clear hown hgrow;obtain⟨da,dc,rfl⟩:∃ a c,v5=.slice a (out.length+gl.length) c:=z05 HOW.out)
    have HBB:=zh (HBN.out.grown HGR.out hbz (fun b hb=>(z0g HON.out b hb).1))
   case' neg =>
    rw [decide_eq_false hpm]
    have HGM:Hid (gM f t M p=atS f p):=zh (by unfold gM;rw [if_neg hpm])
    go_wp2_with fail
    refine(HFP.out _ HBN.out).mono ?_
    rintro e w4 ⟨sv,rfl,hsv,hb4⟩
    rw [← HGM.out]at hsv
    have HSV:=zh hsv
    replace HON:=zh (z07 HON.out hb4)
    replace HBN:=zj HBN hb4
    have hsl:=z26 (gM f t M p)
    obtain⟨sa,sc,rfl⟩:=zo hsv
    generalize (gM f t M p).toList=gl at *
    have hbz:=HBN.out.size
    clear hsv hb4 HGM hpm
    go_upto_region 11 with (at_builtin;refine z0h rfl _ _ rfl w.heap.size (.slice oa out.length oc) out.length out (by rfl) HON.out (.slice sa gl.length sc) gl (by rfl) HSV.out (by omega) hbz ?_;intro v5 wB hown hgrow;have HOW:=zh hown;have HGR:=zh hgrow;clear hown hgrow;obtain⟨da,dc,rfl⟩:∃ a c,v5=.slice a (out.length+gl.length) c:=z05 HOW.out)
    have HBB:=zh (HBN.out.grown HGR.out hbz (fun b hb=>(z0g HON.out b hb).1))
   all_goals
    have HOL:Hid (wB.ownsRow w.heap.size 53 4 (.slice da (out.length+gl.length) dc) (out++gl).length (selCells (out++gl))):=zh (by rw [List.length_append];exact HOW.out)
    clear HOW HGR HON HBN HSV
    have x0:=HCF.out wB HBB.out
    go_wp2_with fail
    all_goals
     refine⟨zh ⟨i+1,t.length,out++gl,by omega,by omega,by go_num,by go_num,by first | exact HOL.out | (rw [List.length_append];exact HOL.out) | (rw [List.length_append]at HO7;exact HOL.out),HBI2.out,by rw [List.length_append];omega,HBB.out⟩,?_⟩
     simp [intOf];omega
  have hkz:(k:Int)<(t.length:Int):=Int.ofNat_lt.2 hlk
  have hkm:((k:Int) == (t.length:Int))=false:=by simp;omega
  obtain⟨b2,off2,rfl,hct⟩:=HTC.out k hlk
  have HCT:=zh hct
  by_cases he:f[i].1=t[k].1
  case pos =>
   have HEQ:=zh (zep hli hlk he)
   have hle:=z46 f[i].1 t[k].1
   rw [he,z0c]at hle
   rw [he]at HCF HEQ
   generalize t[k].1=p at *
   simp only [Bool.not_false]at hle
   clear hct hcf he
   have HBI2:=zh (HBI.out.step HEQ.out)
   have HHP:=zh (HHS.out p)
   have HFP:=zh (HSF.out p)
   have HTP:=zh (HST.out p)
   clear HEQ HBI
   go_wp2_with fail
   have x0:=HCF.out wr HBW.out
   have y0:=HCT.out wr HBW.out
   go_quiet (fail)
   have HBN:=zh (z00 HBW.out nq)
   have HON:=zh (z07 HO.out (z00 (Below.refl wr.heap.size wr) nq))
   generalize wr.drewN nq=wx at *
   clear x0 y0 HO HBW
   have x0:=HCF.out wx HBN.out
   have y0:=HCT.out wx HBN.out
   go_wp2_with fail
   refine(HHP.out _ HBN.out).mono ?_
   rintro e w3 ⟨rfl,hb3⟩
   replace HON:=zh (z07 HON.out hb3)
   replace HBN:=zj HBN hb3
   clear hb3 x0 y0
   by_cases hpm:p∈M
   case' pos =>
    rw [decide_eq_true hpm]
    have HGM:Hid (gM f t M p=atS t p):=zh (by unfold gM;rw [if_pos hpm])
    go_wp2_with fail
    refine(HTP.out _ HBN.out).mono ?_
    rintro e w4 ⟨sv,rfl,hsv,hb4⟩
    rw [← HGM.out]at hsv
    have HSV:=zh hsv
    replace HON:=zh (z07 HON.out hb4)
    replace HBN:=zj HBN hb4
    have hsl:=z26 (gM f t M p)
    obtain⟨sa,sc,rfl⟩:=zo hsv
    generalize (gM f t M p).toList=gl at *
    have hbz:=HBN.out.size
    clear hsv hb4 HGM hpm
    go_upto_region 11 with (at_builtin;refine z0h rfl _ _ rfl w.heap.size (.slice oa out.length oc) out.length out (by rfl) HON.out (.slice sa gl.length sc) gl (by rfl) HSV.out (by omega) hbz ?_;intro v5 wB hown hgrow;have HOW:=zh hown;have HGR:=zh hgrow;clear hown hgrow;obtain⟨da,dc,rfl⟩:∃ a c,v5=.slice a (out.length+gl.length) c:=z05 HOW.out)
    have HBB:=zh (HBN.out.grown HGR.out hbz (fun b hb=>(z0g HON.out b hb).1))
   case' neg =>
    rw [decide_eq_false hpm]
    have HGM:Hid (gM f t M p=atS f p):=zh (by unfold gM;rw [if_neg hpm])
    go_wp2_with fail
    refine(HFP.out _ HBN.out).mono ?_
    rintro e w4 ⟨sv,rfl,hsv,hb4⟩
    rw [← HGM.out]at hsv
    have HSV:=zh hsv
    replace HON:=zh (z07 HON.out hb4)
    replace HBN:=zj HBN hb4
    have hsl:=z26 (gM f t M p)
    obtain⟨sa,sc,rfl⟩:=zo hsv
    generalize (gM f t M p).toList=gl at *
    have hbz:=HBN.out.size
    clear hsv hb4 HGM hpm
    go_upto_region 11 with (at_builtin;refine z0h rfl _ _ rfl w.heap.size (.slice oa out.length oc) out.length out (by rfl) HON.out (.slice sa gl.length sc) gl (by rfl) HSV.out (by omega) hbz ?_;intro v5 wB hown hgrow;have HOW:=zh hown;have HGR:=zh hgrow;clear hown hgrow;obtain⟨da,dc,rfl⟩:∃ a c,v5=.slice a (out.length+gl.length) c:=z05 HOW.out)
    have HBB:=zh (HBN.out.grown HGR.out hbz (fun b hb=>(z0g HON.out b hb).1))
   all_goals
    have HOL:Hid (wB.ownsRow w.heap.size 53 4 (.slice da (out.length+gl.length) dc) (out++gl).length (selCells (out++gl))):=zh (by rw [List.length_append];exact HOW.out)
    clear HOW HGR HON HBN HSV
    have x0:=HCF.out wB HBB.out
    have y0:=HCT.out wB HBB.out
    go_wp2_with fail
    all_goals
     refine⟨zh ⟨i+1,k+1,out++gl,by omega,by omega,by go_num,by go_num,by first | exact HOL.out | (rw [List.length_append];exact HOL.out) | (rw [List.length_append]at HO7;exact HOL.out),HBI2.out,by rw [List.length_append];omega,HBB.out⟩,?_⟩
     simp [intOf];omega
  have HEL:=zh (fun h=>zer hli hlk he h)
  have HEG:=zh (fun h=>zeq hli hlk he h)
  have hle:=z46 f[i].1 t[k].1
  have HGL:=zh (fun(h:ltB f[i].1 t[k].1=true)=>z1n h)
  have HTR:=zh (fun(h1:ltB f[i].1 t[k].1=false) (h2:ltB t[k].1 f[i].1=false)=>he (z2i h1 h2))
  generalize f[i].1=pf at *
  generalize t[k].1=pt at *
  have hpb:(pf.toList == pt.toList)=false:=by rw [z0q];exact decide_eq_false he
  have hpb2:(pt.toList == pf.toList)=false:=by rw [z0q];exact decide_eq_false (fun e=>he e.symm)
  clear hct hcf
  cases hlt:ltB pf pt with
  | true =>
   have HEQ:=zh (HEL.out hlt)
   have hbl:Op.bytesLess pf.toList pt.toList=true:=hlt
   clear HEL HEG HGL HTR hlt he hle
   have HBI2:=zh (HBI.out.step HEQ.out)
   have HHP:=zh (HHS.out pf)
   have HFP:=zh (HSF.out pf)
   have HTP:=zh (HST.out pf)
   clear HEQ HBI
   go_wp2_with fail
   have x0:=HCF.out wr HBW.out
   have y0:=HCT.out wr HBW.out
   go_quiet (fail)
   have HBN:=zh (z00 HBW.out nq)
   have HON:=zh (z07 HO.out (z00 (Below.refl wr.heap.size wr) nq))
   generalize wr.drewN nq=wx at *
   clear x0 y0 HO HBW
   have x0:=HCF.out wx HBN.out
   have y0:=HCT.out wx HBN.out
   go_wp2_with fail
   refine(HHP.out _ HBN.out).mono ?_
   rintro e w3 ⟨rfl,hb3⟩
   replace HON:=zh (z07 HON.out hb3)
   replace HBN:=zj HBN hb3
   clear hb3 x0 y0
   by_cases hpm:pf∈M
   case' pos =>
    rw [decide_eq_true hpm]
    have HGM:Hid (gM f t M pf=atS t pf):=zh (by unfold gM;rw [if_pos hpm])
    go_wp2_with fail
    refine(HTP.out _ HBN.out).mono ?_
    rintro e w4 ⟨sv,rfl,hsv,hb4⟩
    rw [← HGM.out]at hsv
    have HSV:=zh hsv
    replace HON:=zh (z07 HON.out hb4)
    replace HBN:=zj HBN hb4
    have hsl:=z26 (gM f t M pf)
    obtain⟨sa,sc,rfl⟩:=zo hsv
    generalize (gM f t M pf).toList=gl at *
    have hbz:=HBN.out.size
    clear hsv hb4 HGM hpm
    go_upto_region 11 with (at_builtin;refine z0h rfl _ _ rfl w.heap.size (.slice oa out.length oc) out.length out (by rfl) HON.out (.slice sa gl.length sc) gl (by rfl) HSV.out (by omega) hbz ?_;intro v5 wB hown hgrow;have HOW:=zh hown;have HGR:=zh hgrow;clear hown hgrow;obtain⟨da,dc,rfl⟩:∃ a c,v5=.slice a (out.length+gl.length) c:=z05 HOW.out)
    have HBB:=zh (HBN.out.grown HGR.out hbz (fun b hb=>(z0g HON.out b hb).1))
   case' neg =>
    rw [decide_eq_false hpm]
    have HGM:Hid (gM f t M pf=atS f pf):=zh (by unfold gM;rw [if_neg hpm])
    go_wp2_with fail
    refine(HFP.out _ HBN.out).mono ?_
    rintro e w4 ⟨sv,rfl,hsv,hb4⟩
    rw [← HGM.out]at hsv
    have HSV:=zh hsv
    replace HON:=zh (z07 HON.out hb4)
    replace HBN:=zj HBN hb4
    have hsl:=z26 (gM f t M pf)
    obtain⟨sa,sc,rfl⟩:=zo hsv
    generalize (gM f t M pf).toList=gl at *
    have hbz:=HBN.out.size
    clear hsv hb4 HGM hpm
    go_upto_region 11 with (at_builtin;refine z0h rfl _ _ rfl w.heap.size (.slice oa out.length oc) out.length out (by rfl) HON.out (.slice sa gl.length sc) gl (by rfl) HSV.out (by omega) hbz ?_;intro v5 wB hown hgrow;have HOW:=zh hown;have HGR:=zh hgrow;clear hown hgrow;obtain⟨da,dc,rfl⟩:∃ a c,v5=.slice a (out.length+gl.length) c:=z05 HOW.out)
    have HBB:=zh (HBN.out.grown HGR.out hbz (fun b hb=>(z0g HON.out b hb).1))
   all_goals
    have HOL:Hid (wB.ownsRow w.heap.size 53 4 (.slice da (out.length+gl.length) dc) (out++gl).length (selCells (out++gl))):=zh (by rw [List.length_append];exact HOW.out)
    clear HOW HGR HON HBN HSV
    have x0:=HCF.out wB HBB.out
    have y0:=HCT.out wB HBB.out
    go_wp2_with fail
    all_goals
     refine⟨zh ⟨i+1,k,out++gl,by omega,by omega,by go_num,by go_num,by first | exact HOL.out | (rw [List.length_append];exact HOL.out) | (rw [List.length_append]at HO7;exact HOL.out),HBI2.out,by rw [List.length_append];omega,HBB.out⟩,?_⟩
     simp [intOf];omega
  | false =>
   have HEQ:=zh (HEG.out hlt)
   have hbl:Op.bytesLess pf.toList pt.toList=false:=hlt
   clear HEL HEG HGL HTR hlt he hle
   have HBI2:=zh (HBI.out.step HEQ.out)
   have HHP:=zh (HHS.out pt)
   have HFP:=zh (HSF.out pt)
   have HTP:=zh (HST.out pt)
   clear HEQ HBI
   go_wp2_with fail
   have x0:=HCF.out wr HBW.out
   have y0:=HCT.out wr HBW.out
   go_quiet (fail)
   have HBN:=zh (z00 HBW.out nq)
   have HON:=zh (z07 HO.out (z00 (Below.refl wr.heap.size wr) nq))
   generalize wr.drewN nq=wx at *
   clear x0 y0 HO HBW
   have x0:=HCF.out wx HBN.out
   have y0:=HCT.out wx HBN.out
   go_wp2_with fail
   refine(HHP.out _ HBN.out).mono ?_
   rintro e w3 ⟨rfl,hb3⟩
   replace HON:=zh (z07 HON.out hb3)
   replace HBN:=zj HBN hb3
   clear hb3 x0 y0
   by_cases hpm:pt∈M
   case' pos =>
    rw [decide_eq_true hpm]
    have HGM:Hid (gM f t M pt=atS t pt):=zh (by unfold gM;rw [if_pos hpm])
    go_wp2_with fail
    refine(HTP.out _ HBN.out).mono ?_
    rintro e w4 ⟨sv,rfl,hsv,hb4⟩
    rw [← HGM.out]at hsv
    have HSV:=zh hsv
    replace HON:=zh (z07 HON.out hb4)
    replace HBN:=zj HBN hb4
    have hsl:=z26 (gM f t M pt)
    obtain⟨sa,sc,rfl⟩:=zo hsv
    generalize (gM f t M pt).toList=gl at *
    have hbz:=HBN.out.size
    clear hsv hb4 HGM hpm
    go_upto_region 11 with (at_builtin;refine z0h rfl _ _ rfl w.heap.size (.slice oa out.length oc) out.length out (by rfl) HON.out (.slice sa gl.length sc) gl (by rfl) HSV.out (by omega) hbz ?_;intro v5 wB hown hgrow;have HOW:=zh hown;have HGR:=zh hgrow;clear hown hgrow;obtain⟨da,dc,rfl⟩:∃ a c,v5=.slice a (out.length+gl.length) c:=z05 HOW.out)
    have HBB:=zh (HBN.out.grown HGR.out hbz (fun b hb=>(z0g HON.out b hb).1))
   case' neg =>
    rw [decide_eq_false hpm]
    have HGM:Hid (gM f t M pt=atS f pt):=zh (by unfold gM;rw [if_neg hpm])
    go_wp2_with fail
    refine(HFP.out _ HBN.out).mono ?_
    rintro e w4 ⟨sv,rfl,hsv,hb4⟩
    rw [← HGM.out]at hsv
    have HSV:=zh hsv
    replace HON:=zh (z07 HON.out hb4)
    replace HBN:=zj HBN hb4
    have hsl:=z26 (gM f t M pt)
    obtain⟨sa,sc,rfl⟩:=zo hsv
    generalize (gM f t M pt).toList=gl at *
    have hbz:=HBN.out.size
    clear hsv hb4 HGM hpm
    go_upto_region 11 with (at_builtin;refine z0h rfl _ _ rfl w.heap.size (.slice oa out.length oc) out.length out (by rfl) HON.out (.slice sa gl.length sc) gl (by rfl) HSV.out (by omega) hbz ?_;intro v5 wB hown hgrow;have HOW:=zh hown;have HGR:=zh hgrow;clear hown hgrow;obtain⟨da,dc,rfl⟩:∃ a c,v5=.slice a (out.length+gl.length) c:=z05 HOW.out)
    have HBB:=zh (HBN.out.grown HGR.out hbz (fun b hb=>(z0g HON.out b hb).1))
   all_goals
    have HOL:Hid (wB.ownsRow w.heap.size 53 4 (.slice da (out.length+gl.length) dc) (out++gl).length (selCells (out++gl))):=zh (by rw [List.length_append];exact HOW.out)
    clear HOW HGR HON HBN HSV
    have x0:=HCF.out wB HBB.out
    have y0:=HCT.out wB HBB.out
    go_wp2_with fail
    all_goals
     refine⟨zh ⟨i,k+1,out++gl,by omega,by omega,by go_num,by go_num,by first | exact HOL.out | (rw [List.length_append];exact HOL.out) | (rw [List.length_append]at HO7;exact HOL.out),HBI2.out,by rw [List.length_append];omega,HBB.out⟩,?_⟩
     simp [intOf];omega
def HeldB47 (gg:Nat)(nv:Value)(b o:Nat)(p:ByteArray)(W:World):Prop:=W.cell? ⟨gg,0,none⟩=some nv∧W.cell? ⟨b,o,none⟩=some (.string p)
theorem zls {X:List RelL}{f t:List SelL}{M:List ByteArray}(h0:errW X f t=0){p:ByteArray}(hp:p∈M)(hn:p ∉ movesP f t):btwV X f t M=6:=by
 unfold btwV
 rw [if_neg (fun g=>g h0),if_pos]
 rw [List.any_eq_true]
 exact⟨p,hp,by rw [decide_eq_false hn];rfl⟩
theorem btw_ok {X:List RelL}{f t:List SelL}{M:List ByteArray}(h0:errW X f t=0)(hp:∀ p∈M,p∈movesP f t):btwV X f t M=0∧btwS X f t M=betV f t M:=by
 have hv:btwV X f t M=0:=by
  unfold btwV
  rw [if_neg (fun g=>g h0),if_neg]
  rw [List.any_eq_true]
  rintro⟨p,hm,h⟩
  rw [decide_eq_true (hp p hm)]at h
  cases h
 exact⟨hv,by unfold btwS;rw [if_pos hv]⟩
theorem zjk {M L:List ByteArray}(h:∀ j,j<M.length→M.getD j default∈L):∀ p∈M,p∈L:=fun p hp=>by
 obtain⟨j,hj,e⟩:=List.mem_iff_getElem.1 hp
 have:=h j hj
 rw [zg,ze hj]at this
 exact e ▸ this
theorem z7t (v iv fv tv mv:Value)(X:List RelL)(f t:List SelL)(M:List ByteArray)(w:World)(hX:X.length≤1000000)(hq:∀ x∈X,RelBd x)(hR:RelsOf w.heap.size v X w)(hf:f.length≤64)(hF:SelsOf w.heap.size fv f w)(ht:t.length≤64)(hT:SelsOf w.heap.size tv t w)
  (hMl:M.length≤1000000) (hM:RowOf Value.string w.heap.size mv M w) :
  Calls prog 20 #[.agg #[v,iv],fv,tv,mv] w (BtwR X f t M w):=by
 have HGR:=zh (fun W (hb:Below w.heap.size w W)=>z5t v iv fv tv X f t W hX hq (hR.on hb) hf (hF.on hb) ht (hT.on hb))
 have HBT:=zh (fun W (hb:Below w.heap.size w W)=>z8w fv tv mv f t M W hf ht (by omega) (hF.on hb) (hT.on hb) ((hM.below hb (zq _)).mono hb.size))
 have HV0:Hid (errW X f t=0→∀ p∈M,p ∉ movesP f t→btwV X f t M=6):=zh (fun h p hp hn=>zls h hp hn)
 have HV1:Hid (errW X f t≠0→btwV X f t M=errW X f t):=zh (fun h=>by unfold btwV;rw [if_pos h])
 have HV2:Hid (errW X f t=0→(∀ p∈M,p∈movesP f t)→btwV X f t M=0∧btwS X f t M=betV f t M):=zh (fun h h2=>btw_ok h h2)
 have HML:Hid (errW X f t=0→(movesP f t).length≤512):=zh z24
 have HG0:Hid (errW X f t=0→graphV X f t=((movesP f t,wavE X f t),0)):=zh (fun h=>by unfold graphV;rw [h,if_pos rfl])
 have HG1:Hid (errW X f t≠0→graphV X f t=(([],[]),errW X f t)):=zh (fun h=>by unfold graphV;rw [if_neg h])
 obtain⟨va,vn,vc,rfl⟩:∃ a n c,v=.slice a n c:=by obtain⟨a,c,_,e,_⟩:=hR.rv;exact⟨_,_,_,e⟩
 obtain⟨fa,fc,rfl⟩:=zo hF
 obtain⟨ta,tc,rfl⟩:=zo hT
 obtain⟨ma,mc,rfl,hma⟩:=z01 hM
 have HMA:Hid (∀ W k p,Below w.heap.size w W→M[k]? = some p→∃ b off,ma=some ⟨b,off,none⟩∧W.cell? ⟨b,off+k,none⟩=some (.string p)):=zh (fun W k p hw hk=>by
  obtain⟨b,off,h1,h2,h3⟩:=hma k p hk
  exact⟨b,off,h1,(hw.cell (p:=⟨b,off+k,none⟩) h2).trans h3⟩)
 clear hq hR hF hT hM hma
 have HB0:=zh (IdxBx.start w (.slice va vn vc) iv)
 obtain⟨E,hE⟩:∃ E,errW X f t=E:=⟨_,rfl⟩
 rw [hE]at HG0 HG1 HV0 HV1 HV2 HML
 clear hE
 generalize graphV X f t=GV at *
 generalize movesP f t=L at *
 generalize wavE X f t=EL at *
 go_enter func20,ntmps20
 go_upto_region 1 with fail
 generalize w.alloc (.cells #[.slice va vn vc,iv] 25)=W at *
 have c0:=HB0.out.c0
 have c1:=HB0.out.c1
 go_wp2_with fail
 refine(HGR.out _ HB0.out.bel).mono ?_
 rintro e w1 ⟨nv,ev,rfl,hrn,hre,hb1⟩
 have HB1:=zh (HB0.out.below hb1)
 obtain⟨na,nc,rfl,_⟩:=z01 hrn
 obtain⟨ea,ec,rfl⟩:=zo hre
 have hgb:=zb8 w1 (.slice na GV.1.1.length nc) (.slice ea GV.1.2.length ec)
 have HGB:=zh hgb.2
 have HB2:=zh (HB1.out.below hgb.1)
 have HRN:=zh ((hrn.below hgb.1 (zq _)).mono hgb.1.size)
 clear hb1 hrn hre hgb c0 c1 HGR HB0 HB1
 by_cases h0:E=0
 case neg =>
  have hG:=HG1.out h0
  subst hG
  have h0b:(E != 0)=true:=by simpa using h0
  have HB3:=zh HB2.out.bel
  have HV:=zh (HV1.out h0)
  clear HBT HG0 HG1 HV0 HV1 HV2 HRN HGB HB2 HMA HML
  go_wp2_with fail
  go_ret2
  exact BtwR.no HB3.out HV.out h0
 subst h0
 have hG:=HG0.out rfl
 subst hG
 simp only at HRN
 have HV6:=zh (HV0.out rfl)
 have HVO:=zh (HV2.out rfl)
 have HLL:=zh (HML.out rfl)
 clear HV0 HV1 HV2 HG0 HG1 HML
 go_upto_region 4 with fail
 generalize w1.alloc (.cells #[.slice na L.length nc,.slice ea EL.length ec] 32)=w2 at *
 generalize w1.heap.size=gg at *
 have HHS:Hid (∀ W p,Below w2.heap.size w2 W→Calls prog 46 #[.slice na L.length nc,.string p] W fun e w'=>e=.returned (.bool (decide (p∈L)))∧Below W.heap.size W w'):=zh (fun W p hb=>z42 _ L p W (by have:=HLL.out;omega) ((HRN.out.below hb (zq _)).mono hb.size))
 have HGC:Hid (∀ W,Below w2.heap.size w2 W→W.cell? ⟨gg,0,none⟩=some (.slice na L.length nc)):=zh (fun W hb=>blk0 ((hb.block _ (zb HGB.out)).trans HGB.out))
 clear HRN HGB HLL
 go_wp2_with fail
 go_loopw [12] (fun p wr=>Hid (∃ (k:Nat),k≤M.length∧p=.int .i64 (k:Int)∧(∀ j,j<k→M.getD j default∈L)∧Below w2.heap.size w2 wr)) (fun p _=>M.length - (intOf p).toNat)
 case atStart=>exact zh ⟨0,Nat.zero_le _,rfl,fun j hj=>absurd hj (Nat.not_lt_zero j),Below.refl _ _⟩
 case round =>
  obtain⟨k,hk,rfl,hin,hb⟩:=hrel.out
  have HB:=zh hb
  have HIN:=zh hin
  have HBW:=zh (HB2.out.bel.trans (hb.mono HB2.out.bel.size))
  clear hrel hin hb
  by_cases hlt:k<M.length
  case neg =>
   have hkk:k=M.length:=Nat.le_antisymm hk (Nat.le_of_not_lt hlt)
   clear hk
   subst hkk
   have HVV:=zh (HVO.out (zjk HIN.out))
   have HBC:=zh (HBT.out wr HBW.out)
   clear HIN HHS HV6 HVO HBT
   go_wp2_with fail
   refine HBC.out.mono ?_
   rintro e w5 ⟨ov,rfl,hov,hb5⟩
   have HOV:=zh hov
   have HB5:=zj HBW hb5
   clear hov hb5
   go_wp2_with fail
   go_ret2
   exact⟨_,by rw [HVV.out.1];rfl,by rw [HVV.out.2];exact HOV.out,HB5.out⟩
  case pos =>
   have hk0:(0:Int)≤(k:Int):=Int.natCast_nonneg k
   have hkz:(k:Int)<(M.length:Int):=Int.ofNat_lt.2 hlt
   have HKK:Hid (M.getD k default=M[k]):=zh (by rw [zg,ze hlt];rfl)
   have HLK:Hid (M[k]? = some M[k]):=zh (ze hlt)
   have HMM:Hid (M[k]∈M):=zh (List.getElem_mem hlt)
   generalize M[k]=p at *
   obtain⟨b,off,rfl,_⟩:=HMA.out wr k p HBW.out HLK.out
   have HSB:Hid (∀ W,Below wr.heap.size wr W→HeldB47 gg (.slice na L.length nc) b (off+k) p W):=zh (fun W hb=>by
    obtain⟨b',off',e1,h1⟩:=HMA.out W k p (HBW.out.trans (hb.mono HBW.out.size)) HLK.out
    cases e1
    exact⟨HGC.out W (HB.out.trans (hb.mono HB.out.size)),h1⟩)
   have HHC:=zh (HHS.out wr.drew p HB.out.drew)
   have HI2:Hid (p∈L→∀ j,j<k+1→M.getD j default∈L):=zh (fun h j hj=>by
    by_cases e:j=k
    ·rw [e,HKK.out];exact h
    ·exact HIN.out j (by omega))
   have HVN:Hid (decide (p∈L)=false→btwV X f t M=6):=zh (fun h=>HV6.out p HMM.out (of_decide_eq_false h))
   have HVY:Hid (decide (p∈L)=true→p∈L):=zh (fun h=>of_decide_eq_true h)
   generalize decide (p∈L)=q at *
   clear HIN HKK HMM
   go_upto_region 7 with fail
   refine wp_region_noPanic ?_
   refine wp_region_held_drew (S:=HeldB47 gg (.slice na L.length nc) b (off+k) p) (by kernel_rfl) (HSB.out _ (Below.refl _ _).drew) (fun hS0=>?_)
   refine zt 0 _ rfl ?_;simp only [zl1];refine zt 1 _ rfl ?_;simp only [zl1];refine zt 2 _ rfl ?_;simp only [zl1];refine zt 3 _ rfl ?_;simp only [zl1];refine zt 4 _ rfl ?_;simp only [zl1];refine zt 5 _ rfl ?_;simp only [zl1]
   refine zr 6 rfl fun K hK=>?_
   go_simp
   refine(HHC.out).mono ?_
   rintro e w5 ⟨rfl,hb5⟩
   have HB9:Hid (Below wr.heap.size wr w5):=zh ((Below.refl _ _).drew.trans hb5)
   have HB5:Hid (Below w2.heap.size w2 w5):=zh (HB.out.trans (HB9.out.mono HB.out.size))
   have HB5w:Hid (Below w.heap.size w w5):=zh (HBW.out.trans (HB9.out.mono HBW.out.size))
   clear hS0
   have hS0:=HSB.out _ HB9.out
   refine hK.out _ _ hS0 (fun _=>?_)
   clear hK K hb5
   (try simp only [zl1])
   refine zt 7 _ rfl ?_;simp only [zl1]
   refine wpAnyH_done (by kernel_rfl) ?_ _
   refine NoPanic.normal ?_
   clear hS0 HSB HHC
   cases q with
   | false =>
    have HV:=zh (HVN.out rfl)
    go_wp2_with fail
    go_ret2
    exact BtwR.no HB5w.out HV.out (by decide)
   | true =>
    have HI3:=zh (HI2.out (HVY.out rfl))
    clear HI2 HVY HVN HV6
    go_wp2_with fail
    all_goals
     refine⟨zh ⟨k+1,hlt,by go_num,HI3.out,HB5.out⟩,?_⟩
     simp [intOf];omega
def PlanOk (P:List ByteArray)(L:List (List ByteArray)):Prop:=(∀ l∈L,l≠[]∧IncB l)∧L.flatten.Nodup∧∀ p,p∈L.flatten ↔ p∈P
structure ChkI (P:List ByteArray)(L:List (List ByteArray))(i:Nat)(row:List ByteArray)(k:Nat)(all:List ByteArray):Prop where
 eq:all=(L.take i).flatten++row.take k
 ok:∀ l∈L.take i,l≠[]∧IncB l
 adj:∀ j,j+1<k→ltB (row.getD (j+1) default) (row.getD j default)=false
 nd:all.Nodup
 sub:∀ p∈all,p∈P
section
variable {P:List ByteArray} {L:List (List ByteArray)} {i k:Nat} {row all:List ByteArray}
theorem ChkI.start (P:List ByteArray)(L:List (List ByteArray))(row:List ByteArray):ChkI P L 0 row 0 [] :=
 ⟨by simp,fun l hl=>by simp at hl,fun j hj=>absurd hj (by omega),List.nodup_nil,fun p hp=>by cases hp⟩
theorem ChkI.turn (h:ChkI P L i row 0 all)(row':List ByteArray):ChkI P L i row' 0 all :=
 ⟨by have:=h.eq;simpa using this,h.ok,fun j hj=>absurd hj (by omega),h.nd,h.sub⟩
theorem zh9 (h:ChkI P L i row k all)(hi:i≤L.length)(hL:∀ l∈L,l.length≤20)(hk:k≤20):all.length≤i*20+20:=by
 rw [h.eq,List.length_append,List.length_take]
 have:∀ l:List (List ByteArray),(∀ x∈l,x.length≤20)→l.flatten.length≤l.length*20:=fun l=>by
  induction l with
  | nil=>simp
  | cons a l ih=>intro hx;have h1:=ih (fun x hx2=>hx x (by simp [hx2]));have h2:=hx a (by simp);simp only [List.flatten_cons,List.length_append,List.length_cons];omega
 have h1:=this (L.take i) (fun x hx=>hL x (List.mem_of_mem_take hx))
 rw [List.length_take]at h1
 have h2:min i L.length=i:=Nat.min_eq_left hi
 rw [h2]at h1
 have:=Nat.min_le_left k row.length
 omega
theorem zft (hi:i<L.length)(hk:k<L[i].length):L.flatten=(L.take i).flatten++(L[i].take k++L[i][k]::(L[i].drop (k+1)++(L.drop (i+1)).flatten)):=by
 have h1:L.flatten=(L.take i).flatten++(L[i]++(L.drop (i+1)).flatten):=by
  conv=>lhs;rw [← List.take_append_drop i L,List.flatten_append,List.drop_eq_getElem_cons hi,List.flatten_cons]
 have h2:L[i]=L[i].take k++L[i][k]::L[i].drop (k+1):=by
  rw [← List.drop_eq_getElem_cons hk,List.take_append_drop]
 rw [h1]
 congr 1
 conv=>lhs;rw [h2]
 rw [List.append_assoc,List.cons_append]
theorem ChkI.next (hi:i<L.length)(h:ChkI P L i L[i] L[i].length all)(hne:L[i]≠[])(row':List ByteArray):ChkI P L (i+1) row' 0 all:=by
 have he:=h.eq
 rw [List.take_length]at he
 refine⟨?_,fun l hl=>?_,fun j hj=>absurd hj (by omega),h.nd,h.sub⟩
 ·rw [he,zs hi,List.flatten_append];simp
 ·rw [zs hi]at hl
  rcases List.mem_append.1 hl with hl | hl
  ·exact h.ok l hl
  ·rw [List.mem_singleton.1 hl]
   have hn:=h.nd
   rw [he]at hn
   exact⟨hne,z9s (z9h h.adj) (List.nodup_append.1 hn).2.1⟩
theorem ChkI.push (h:ChkI P L i row k all)(hk:k<row.length)(hle:k=0∨ltB (row.getD (k - 1) default) row[k]=true)(hn:row[k] ∉ all)(hs:row[k]∈P):ChkI P L i row (k+1) (all++[row[k]]):=by
 refine⟨?_,h.ok,fun j hj=>?_,?_,fun p hp=>?_⟩
 ·rw [h.eq,zs hk,List.append_assoc]
 ·by_cases e:j+1=k
  ·subst e
   rcases hle with h0 | h1
   ·omega
   ·rw [Nat.add_sub_cancel]at h1
    rw [zg (i:=j+1),ze hk]
    exact z1n h1
  ·exact h.adj j (by omega)
 ·rw [List.nodup_append]
  exact⟨h.nd,by simp,fun a ha b hb e=>by rw [List.mem_singleton.1 hb]at e;exact hn (e ▸ ha)⟩
 ·rcases List.mem_append.1 hp with hp | hp
  ·exact h.sub p hp
  ·rw [List.mem_singleton.1 hp];exact hs
theorem ChkI.bad_empty (hi:i<L.length)(hz:L[i]=[]):¬ PlanOk P L:=fun g=>(g.1 _ (List.getElem_mem hi)).1 hz
theorem ChkI.bad_le (hi:i<L.length)(hk:k<L[i].length)(h0:0<k)(hlt:ltB (L[i].getD (k - 1) default) L[i][k]=false):¬ PlanOk P L:=fun g=>by
 have:=((g.1 _ (List.getElem_mem hi)).2).at (i:=k - 1) (j:=k) (by omega) hk
 rw [zg (i:=k),ze hk]at this
 simp only [Option.getD_some]at this
 rw [hlt]at this
 cases this
theorem ChkI.bad_in (hi:i<L.length)(h:ChkI P L i L[i] k all)(hk:k<L[i].length)(hin:L[i][k]∈all):¬ PlanOk P L:=fun g=>by
 have hn:=g.2.1
 rw [zft hi hk,← List.append_assoc,← h.eq]at hn
 exact(List.nodup_append.1 hn).2.2 _ hin _ (by simp) rfl
theorem ChkI.bad_out (hi:i<L.length)(hk:k<L[i].length)(ho:L[i][k] ∉ P):¬ PlanOk P L:=fun g=>ho ((g.2.2 _).1 (List.mem_flatten.2 ⟨_,List.getElem_mem hi,List.getElem_mem hk⟩))
theorem ChkI.done (h:ChkI P L L.length row 0 all)(hP:P.Nodup):(all.length=P.length→PlanOk P L)∧(all.length≠P.length→¬ PlanOk P L):=by
 have he:=h.eq
 have hok:=h.ok
 rw [List.take_length]at he hok
 simp only [List.take_zero,List.append_nil]at he
 refine⟨fun hl=>⟨hok,he ▸ h.nd,fun p=>⟨fun hp=>h.sub p (he ▸ hp),fun hp=>?_⟩⟩,fun hl g=>hl ?_⟩
 ·rw [← he]
  exact Classical.byContradiction fun hno=>by
   have hs:=z1i (l:=p::all) (m:=P) (List.nodup_cons.2 ⟨hno,h.nd⟩) (fun q hq=>by
    rcases List.mem_cons.1 hq with e | hq
    ·rw [e];exact hp
    ·exact h.sub q hq)
   rw [List.length_cons]at hs
   omega
 ·have h1:=z1i h.nd h.sub
  have h2:=z1i hP (fun q hq=>he ▸ (g.2.2 q).2 hq)
  omega
end
theorem zkv {X:List RelL}{f t:List SelL}{L:List (List ByteArray)}(h0:errW X f t=0)(h:¬ PlanOk (movesP f t) L):planV X f t L=1:=by
 unfold planV PlanOk at *
 rw [if_neg (fun g=>g h0),if_pos h]
theorem zii {X:List RelL}{f t:List SelL}{L:List (List ByteArray)}(h0:errW X f t=0)(hp:PlanOk (movesP f t) L) :
  (∀ k,k<L.length→consV X (betV f t (L.take (k+1)).flatten)≠0→planV X f t L=17)∧((∀ k,k<L.length→consV X (betV f t (L.take (k+1)).flatten)=0)→planV X f t L=0):=by
 unfold PlanOk at hp
 constructor
 ·intro k hk hc
  unfold planV
  rw [if_neg (fun g=>g h0),if_neg (fun g=>g hp),if_pos ⟨k,hk,fun g=>hc (z0b.2 g)⟩]
 ·intro hc
  unfold planV
  rw [if_neg (fun g=>g h0),if_neg (fun g=>g hp),if_neg (fun⟨k,hk,g⟩=>g (z0b.1 (hc k hk)))]
end Go.Proofs.YtapbhoodgnmnkaaGreatDoor
