/- Laws and contracts. -/
import Derived.Test.YtapbhoodgnmnkaaGreatDoorJS
set_option linter.unusedVariables false
set_option linter.unusedSimpArgs false
set_option maxRecDepth 100000
set_option maxHeartbeats 32000000
namespace Go.Proofs.YtapbhoodgnmnkaaGreatDoor
open Go.Proofs.Tryz Go Go.RowKit
theorem zjd (m:Int)(w:World) :
  Calls prog 50 #[.int .i64 m] w fun e w'=>e=.returned (.agg #[.int .i64 1,.int .i64 m,.int .i64 0])∧Below w.heap.size w w':=by
 go_enter func50,ntmps50
 go_wp2_with fail
 refine bodyPost_ret (results_cell_row rfl _ _ w.heap.size _ _ _ _ rfl (zn w _) underlying51 rfl (by kernel_rfl)) rfl ?_
 exact⟨rfl,(by repeat (first | exact Below.refl _ _ | refine Below.drew ?_ | refine Below.alloc ?_ (by simp<;>omega) _ | refine Below.setCell ?_ (by simp<;>omega) _))⟩
theorem zalW (w:World)(o:Obj):∃ W,w.alloc o=W∧Below w.heap.size w W∧W.heap[w.heap.size]? = some o∧W.heap.size=w.heap.size+1:=⟨_,rfl,belQ w o,zn w o,World.size_alloc w o⟩
theorem zg7 (m:Int)(w:World)(hm:0≤m∧m≤999) :
  Calls prog 51 #[.int .i64 m] w fun e w'=>∃ g,e=.returned (.slice (some ⟨g,0,none⟩) 1 1)∧w'.heap[g]? = some (.cells #[.int .i64 (1000*m),.int .i64 (1000*m+1)] 100 (0,0))∧w.heap.size≤g∧Below w.heap.size w w':=by
 have hw1:IntKind.i64.wrap (1000*m)=1000*m:=by rw [IntWalk.i64_in _ (by omega)]
 have hw2:wrap64 (1000*m)=1000*m:=by unfold wrap64;omega
 have hw3:IntKind.i64.wrap (1000*m+1)=1000*m+1:=by rw [IntWalk.i64_in _ (by omega)]
 have hw4:wrap64 (1000*m+1)=1000*m+1:=by unfold wrap64;omega
 go_enter func51,ntmps51
 go_wp2_with fail
 go_ret
 exact⟨_,rfl,zn w _,zq _,(by repeat (first | exact Below.refl _ _ | refine Below.drew ?_ | refine Below.alloc ?_ (by simp<;>omega) _ | refine Below.setCell ?_ (by simp<;>omega) _))⟩
structure ExB (B:Nat)(gs1 gq1 gs2 gs3 gq2 gr gf gt:Nat)(W:World):Prop where
 lS1:B<gs1
 S1:W.heap[gs1]? = some (.cells #[.int .i64 (1000*0),.int .i64 (1000*0+1)] 100 (0,0))
 lQ1:B<gq1
 Q1:W.heap[gq1]? = some (.cells #[.string ⟨#[98,47,118,49]⟩,.slice (some ⟨gs1,0,none⟩) 1 1] 89 (0,0))
 lS2:B<gs2
 S2:W.heap[gs2]? = some (.cells #[.int .i64 (1000*1),.int .i64 (1000*1+1)] 100 (0,0))
 lS3:B<gs3
 S3:W.heap[gs3]? = some (.cells #[.int .i64 0,.int .i64 1000000] 100 (0,0))
 lQ2:B<gq2
 Q2:W.heap[gq2]? = some (.cells #[.string ⟨#[98,47,118,49]⟩,.slice (some ⟨gs2,0,none⟩) 1 1,.string ⟨#[99,47,118,49]⟩,.slice (some ⟨gs3,0,none⟩) 1 1] 89 (0,0))
 lR:B<gr
 R:W.heap[gr]? = some (.cells (.string ⟨#[97,47,118,49]⟩::.int .i64 1::.int .i64 0::.int .i64 0::.slice (some ⟨gq1,0,none⟩) 1 1::.string ⟨#[]⟩::.string ⟨#[]⟩::.string ⟨#[]⟩::.bool false::.string ⟨#[97,47,118,49]⟩::.int .i64 1::.int .i64 1::.int .i64 0::.slice (some ⟨gq2,0,none⟩) 2 2::.string ⟨#[]⟩::.string ⟨#[]⟩::.string ⟨#[]⟩::.bool false::.string ⟨#[98,47,118,49]⟩::.int .i64 1::.int .i64 0::.int .i64 0::.slice none 0 0::.string ⟨#[]⟩::.string ⟨#[]⟩::.string ⟨#[]⟩::.bool false::.string ⟨#[98,47,118,49]⟩::.int .i64 1::.int .i64 1::.int .i64 0::.slice none 0 0::.string ⟨#[]⟩::.string ⟨#[]⟩::.string ⟨#[]⟩::.bool false::.string ⟨#[99,47,118,49]⟩::.int .i64 1::.int .i64 0::.int .i64 0::.slice none 0 0::.string ⟨#[]⟩::.string ⟨#[]⟩::.string ⟨#[]⟩::.bool false::[]).toArray 82 (0,0))
 lF:B<gf
 F:W.heap[gf]? = some (.cells #[.string ⟨#[97,47,118,49]⟩,.int .i64 1,.int .i64 0,.int .i64 0,.string ⟨#[98,47,118,49]⟩,.int .i64 1,.int .i64 0,.int .i64 0] 53 (0,0))
 lT:B<gt
 T:W.heap[gt]? = some (.cells #[.string ⟨#[97,47,118,49]⟩,.int .i64 1,.int .i64 1,.int .i64 0,.string ⟨#[98,47,118,49]⟩,.int .i64 1,.int .i64 1,.int .i64 0,.string ⟨#[99,47,118,49]⟩,.int .i64 1,.int .i64 0,.int .i64 0] 53 (0,0))
theorem z5k {W:World}{g:Nat}{t:TypeId}{a b:Int}(h:W.heap[g]? = some (.cells #[.int .i64 a,.int .i64 b] t (0,0))):SpansOf W.heap.size (.slice (some ⟨g,0,none⟩) 1 1) [(a,b)] W:=by
 have hg:=(zb h)
 refine⟨_,_,rfl,fun i q hq=>?_⟩
 match i,hq with
 | 0,hq=>cases hq;exact⟨g,0,rfl,hg,zw _ _ 0 _ _ _ h,zw _ _ 1 _ _ _ h⟩
 | i+1,hq=>simp at hq
theorem zgc {W:World}{g:Nat}{t:TypeId}{p1:ByteArray}{s1:Value}{l1:List (Int×Int)}(h:W.heap[g]? = some (.cells #[.string p1,s1] t (0,0)))(h1:SpansOf W.heap.size s1 l1 W):ReqsOf W.heap.size (.slice (some ⟨g,0,none⟩) 1 1) [(p1,l1)] W:=by
 have hg:=(zb h)
 refine⟨_,_,rfl,fun i q hq=>?_⟩
 match i,hq with
 | 0,hq=>cases hq;exact⟨g,0,s1,rfl,hg,zw _ _ 0 _ _ _ h,zw _ _ 1 _ _ _ h,h1⟩
 | i+1,hq=>simp at hq
theorem zgd {W:World}{g:Nat}{t:TypeId}{p1 p2:ByteArray}{s1 s2:Value}{l1 l2:List (Int×Int)}(h:W.heap[g]? = some (.cells #[.string p1,s1,.string p2,s2] t (0,0)))(h1:SpansOf W.heap.size s1 l1 W)(h2:SpansOf W.heap.size s2 l2 W):ReqsOf W.heap.size (.slice (some ⟨g,0,none⟩) 2 2) [(p1,l1),(p2,l2)] W:=by
 have hg:=(zb h)
 refine⟨_,_,rfl,fun i q hq=>?_⟩
 match i,hq with
 | 0,hq=>cases hq;exact⟨g,0,s1,rfl,hg,zw _ _ 0 _ _ _ h,zw _ _ 1 _ _ _ h,h1⟩
 | 1,hq=>cases hq;exact⟨g,0,s2,rfl,hg,zw _ _ 2 _ _ _ h,zw _ _ 3 _ _ _ h,h2⟩
 | i+2,hq=>simp at hq
theorem z7k (B:Nat)(W:World):ReqsOf B (.slice none 0 0) [] W:=⟨_,_,rfl,fun i q hq=>by simp at hq⟩
theorem ExB.sf {B gs1 gq1 gs2 gs3 gq2 gr gf gt:Nat}{W:World}(h:ExB B gs1 gq1 gs2 gs3 gq2 gr gf gt W):SelsOf W.heap.size (.slice (some ⟨gf,0,none⟩) 2 2) wF W:=by
 have hg:=(zb h.F)
 refine⟨_,_,rfl,fun i q hq=>?_⟩
 match i,hq with
 | 0,hq=>cases hq;exact⟨gf,0,rfl,hg,zw _ _ 0 _ _ _ h.F,zw _ _ 1 _ _ _ h.F,zw _ _ 2 _ _ _ h.F,zw _ _ 3 _ _ _ h.F⟩
 | 1,hq=>cases hq;exact⟨gf,0,rfl,hg,zw _ _ 4 _ _ _ h.F,zw _ _ 5 _ _ _ h.F,zw _ _ 6 _ _ _ h.F,zw _ _ 7 _ _ _ h.F⟩
 | i+2,hq=>simp [wF]at hq
theorem ExB.st {B gs1 gq1 gs2 gs3 gq2 gr gf gt:Nat}{W:World}(h:ExB B gs1 gq1 gs2 gs3 gq2 gr gf gt W):SelsOf W.heap.size (.slice (some ⟨gt,0,none⟩) 3 3) wT W:=by
 have hg:=(zb h.T)
 refine⟨_,_,rfl,fun i q hq=>?_⟩
 match i,hq with
 | 0,hq=>cases hq;exact⟨gt,0,rfl,hg,zw _ _ 0 _ _ _ h.T,zw _ _ 1 _ _ _ h.T,zw _ _ 2 _ _ _ h.T,zw _ _ 3 _ _ _ h.T⟩
 | 1,hq=>cases hq;exact⟨gt,0,rfl,hg,zw _ _ 4 _ _ _ h.T,zw _ _ 5 _ _ _ h.T,zw _ _ 6 _ _ _ h.T,zw _ _ 7 _ _ _ h.T⟩
 | 2,hq=>cases hq;exact⟨gt,0,rfl,hg,zw _ _ 8 _ _ _ h.T,zw _ _ 9 _ _ _ h.T,zw _ _ 10 _ _ _ h.T,zw _ _ 11 _ _ _ h.T⟩
 | i+3,hq=>simp [wT]at hq
theorem ExB.rels {B gs1 gq1 gs2 gs3 gq2 gr gf gt:Nat}{W:World}(h:ExB B gs1 gq1 gs2 gs3 gq2 gr gf gt W):RelsOf W.heap.size (.slice (some ⟨gr,0,none⟩) 5 5) wX W:=by
 have hg:=(zb h.R)
 have h0:ReqsOf W.heap.size (.slice (some ⟨gq1,0,none⟩) 1 1) [onlyQ wB 0] W:=zgc h.Q1 (z5k h.S1)
 have h1:ReqsOf W.heap.size (.slice (some ⟨gq2,0,none⟩) 2 2) [onlyQ wB 1,allQ wC] W:=zgd h.Q2 (z5k h.S2) (z5k h.S3)
 refine⟨_,_,rfl,fun i x hx=>?_⟩
 match i,hx with
 | 0,hx=>cases hx;exact⟨gr,0,rfl,hg,(.slice (some ⟨gq1,0,none⟩) 1 1),zw _ _ 0 _ _ _ h.R,zw _ _ 1 _ _ _ h.R,zw _ _ 2 _ _ _ h.R,zw _ _ 3 _ _ _ h.R,zw _ _ 4 _ _ _ h.R,zw _ _ 5 _ _ _ h.R,zw _ _ 6 _ _ _ h.R,zw _ _ 7 _ _ _ h.R,zw _ _ 8 _ _ _ h.R,h0⟩
 | 1,hx=>cases hx;exact⟨gr,0,rfl,hg,(.slice (some ⟨gq2,0,none⟩) 2 2),zw _ _ 9 _ _ _ h.R,zw _ _ 10 _ _ _ h.R,zw _ _ 11 _ _ _ h.R,zw _ _ 12 _ _ _ h.R,zw _ _ 13 _ _ _ h.R,zw _ _ 14 _ _ _ h.R,zw _ _ 15 _ _ _ h.R,zw _ _ 16 _ _ _ h.R,zw _ _ 17 _ _ _ h.R,h1⟩
 | 2,hx=>cases hx;exact⟨gr,0,rfl,hg,(.slice none 0 0),zw _ _ 18 _ _ _ h.R,zw _ _ 19 _ _ _ h.R,zw _ _ 20 _ _ _ h.R,zw _ _ 21 _ _ _ h.R,zw _ _ 22 _ _ _ h.R,zw _ _ 23 _ _ _ h.R,zw _ _ 24 _ _ _ h.R,zw _ _ 25 _ _ _ h.R,zw _ _ 26 _ _ _ h.R,(z7k _ _)⟩
 | 3,hx=>cases hx;exact⟨gr,0,rfl,hg,(.slice none 0 0),zw _ _ 27 _ _ _ h.R,zw _ _ 28 _ _ _ h.R,zw _ _ 29 _ _ _ h.R,zw _ _ 30 _ _ _ h.R,zw _ _ 31 _ _ _ h.R,zw _ _ 32 _ _ _ h.R,zw _ _ 33 _ _ _ h.R,zw _ _ 34 _ _ _ h.R,zw _ _ 35 _ _ _ h.R,(z7k _ _)⟩
 | 4,hx=>cases hx;exact⟨gr,0,rfl,hg,(.slice none 0 0),zw _ _ 36 _ _ _ h.R,zw _ _ 37 _ _ _ h.R,zw _ _ 38 _ _ _ h.R,zw _ _ 39 _ _ _ h.R,zw _ _ 40 _ _ _ h.R,zw _ _ 41 _ _ _ h.R,zw _ _ 42 _ _ _ h.R,zw _ _ 43 _ _ _ h.R,zw _ _ 44 _ _ _ h.R,(z7k _ _)⟩
 | i+5,hx=>simp [wX]at hx
structure ExP (w:World)(gs1 gq1 gs2 gs3 gq2 gr gx:Nat)(W:World):Prop where
 bel:Below w.heap.size w W
 hz:w.heap.size<W.heap.size
 lS1:w.heap.size<gs1
 S1:W.heap[gs1]? = some (.cells #[.int .i64 (1000*0),.int .i64 (1000*0+1)] 100 (0,0))
 lQ1:w.heap.size<gq1
 Q1:W.heap[gq1]? = some (.cells #[.string ⟨#[98,47,118,49]⟩,.slice (some ⟨gs1,0,none⟩) 1 1] 89 (0,0))
 lS2:w.heap.size<gs2
 S2:W.heap[gs2]? = some (.cells #[.int .i64 (1000*1),.int .i64 (1000*1+1)] 100 (0,0))
 lS3:w.heap.size<gs3
 S3:W.heap[gs3]? = some (.cells #[.int .i64 0,.int .i64 1000000] 100 (0,0))
 lQ2:w.heap.size<gq2
 Q2:W.heap[gq2]? = some (.cells #[.string ⟨#[98,47,118,49]⟩,.slice (some ⟨gs2,0,none⟩) 1 1,.string ⟨#[99,47,118,49]⟩,.slice (some ⟨gs3,0,none⟩) 1 1] 89 (0,0))
 lR:w.heap.size<gr
 R:W.heap[gr]? = some (.cells (.string ⟨#[97,47,118,49]⟩::.int .i64 1::.int .i64 0::.int .i64 0::.slice (some ⟨gq1,0,none⟩) 1 1::.string ⟨#[]⟩::.string ⟨#[]⟩::.string ⟨#[]⟩::.bool false::.string ⟨#[97,47,118,49]⟩::.int .i64 1::.int .i64 1::.int .i64 0::.slice (some ⟨gq2,0,none⟩) 2 2::.string ⟨#[]⟩::.string ⟨#[]⟩::.string ⟨#[]⟩::.bool false::.string ⟨#[98,47,118,49]⟩::.int .i64 1::.int .i64 0::.int .i64 0::.slice none 0 0::.string ⟨#[]⟩::.string ⟨#[]⟩::.string ⟨#[]⟩::.bool false::.string ⟨#[98,47,118,49]⟩::.int .i64 1::.int .i64 1::.int .i64 0::.slice none 0 0::.string ⟨#[]⟩::.string ⟨#[]⟩::.string ⟨#[]⟩::.bool false::.string ⟨#[99,47,118,49]⟩::.int .i64 1::.int .i64 0::.int .i64 0::.slice none 0 0::.string ⟨#[]⟩::.string ⟨#[]⟩::.string ⟨#[]⟩::.bool false::[]).toArray 82 (0,0))
 lX:w.heap.size<gx
 X:W.heap[gx]? = some (.cells #[.slice (some ⟨gr,0,none⟩) 5 5,.slice none 0 0] 25 (0,0))
theorem ExP.on {w:World}{gs1 gq1 gs2 gs3 gq2 gr gx:Nat}{W W':World}(h:ExP w gs1 gq1 gs2 gs3 gq2 gr gx W)(hb:Below W.heap.size W W'):ExP w gs1 gq1 gs2 gs3 gq2 gr gx W' :=
 ⟨h.bel.trans (hb.mono h.bel.size),Nat.lt_of_lt_of_le h.hz hb.size,h.lS1,(hb.block _ (zb h.S1)).trans h.S1,h.lQ1,(hb.block _ (zb h.Q1)).trans h.Q1,h.lS2,(hb.block _ (zb h.S2)).trans h.S2,h.lS3,(hb.block _ (zb h.S3)).trans h.S3,h.lQ2,(hb.block _ (zb h.Q2)).trans h.Q2,h.lR,(hb.block _ (zb h.R)).trans h.R,h.lX,(hb.block _ (zb h.X)).trans h.X⟩
theorem z0k {W:World}{g k:Nat}{x y:Value}{o:Obj}(hne:k≠g)(h:W.heap[k]? = some o):((W.setCell ⟨g,0,none⟩ x).setCell ⟨g,1,none⟩ y).heap[k]? = some o:=(heap_setCell_other _ _ _ _ hne).trans ((heap_setCell_other _ _ _ _ hne).trans h)
theorem ExP.set {w:World}{gs1 gq1 gs2 gs3 gq2 gr gx:Nat}{W:World}(h:ExP w gs1 gq1 gs2 gs3 gq2 gr gx W)(x y:Value):ExP w gs1 gq1 gs2 gs3 gq2 gr gx ((W.setCell ⟨w.heap.size,0,none⟩ x).setCell ⟨w.heap.size,1,none⟩ y) :=
 ⟨(h.bel.setCell (zq _) x).setCell (zq _) y,by have:=h.hz;simpa using this,h.lS1,z0k (Nat.ne_of_gt h.lS1) h.S1,h.lQ1,z0k (Nat.ne_of_gt h.lQ1) h.Q1,h.lS2,z0k (Nat.ne_of_gt h.lS2) h.S2,h.lS3,z0k (Nat.ne_of_gt h.lS3) h.S3,h.lQ2,z0k (Nat.ne_of_gt h.lQ2) h.Q2,h.lR,z0k (Nat.ne_of_gt h.lR) h.R,h.lX,z0k (Nat.ne_of_gt h.lX) h.X⟩
theorem z06 {fn:Func}{p u v:Tmp}{ty:TypeId}(h:fn.results=#[.cell p ty,.tmp u,.tmp v])(tmps:Array Value)(w:World)(g:Nat)(cs:Array Value)
  (hp:tmps.getD p undef=.pointer (some ⟨g,0,none⟩)) (hl:(loadVar ty ⟨g,0,none⟩).run prog w=.ok (.agg cs) w) :
  (results fn tmps).run prog w=.ok (.tuple #[.agg cs,tmps.getD u undef,tmps.getD v undef]) w:=by
 have hp':tmps[p]?.getD undef=.pointer (some ⟨g,0,none⟩):=by simpa using hp
 simp [results,h,hp',asAddr,Result.andThen,hl]
theorem z9q (w:World) :
  Calls prog 24 #[] w fun e w'=>∃ gs1 gq1 gs2 gs3 gq2 gr gf gt,e=.returned (.tuple #[.agg #[.slice (some ⟨gr,0,none⟩) 5 5,.slice none 0 0],.slice (some ⟨gf,0,none⟩) 2 2,.slice (some ⟨gt,0,none⟩) 3 3])∧ExB w.heap.size gs1 gq1 gs2 gs3 gq2 gr gf gt w'∧Below w.heap.size w w':=by
 have HV:=zh zjd
 have HN:=zh zg7
 have HG0:=zh (zn w (.cells #[.slice none 0 0,.slice none 0 0] 25))
 have HB:=zh (belQ w (.cells #[.slice none 0 0,.slice none 0 0] 25))
 have hz:=World.size_alloc w (.cells #[.slice none 0 0,.slice none 0 0] 25)
 have HZ:Hid (w.heap.size<(w.alloc (.cells #[.slice none 0 0,.slice none 0 0] 25)).heap.size):=zh (by omega)
 clear hz
 go_enter func24,ntmps24
 go_wp2_with fail
 generalize w.alloc (.cells #[.slice none 0 0,.slice none 0 0] 25)=w0 at *
 refine(HV.out 0 _).mono ?_
 rintro e w1 ⟨rfl,hbx⟩
 replace HG0:=zk hbx HG0
 replace HZ:=zh (Nat.lt_of_lt_of_le HZ.out hbx.size)
 replace HB:=zj HB hbx
 clear hbx
 go_wp2_with fail
 refine(HN.out 0 _ (by omega)).mono ?_
 rintro e w2 ⟨gs1,rfl,hsS1,hlS1,hbx⟩
 have LS1:=zh (Nat.lt_of_lt_of_le HZ.out hlS1)
 replace HG0:=zk hbx HG0
 replace HZ:=zh (Nat.lt_of_lt_of_le HZ.out hbx.size)
 replace HB:=zj HB hbx
 have HS1:=zh hsS1
 clear hbx hsS1 hlS1
 go_wp2_with fail
 obtain⟨w3,hwn,hbx,hnx,-⟩:=zalW w2 (.cells #[.string ⟨#[98,47,118,49]⟩,.slice (some ⟨gs1,0,none⟩) 1 1] 89)
 rw [hwn]
 clear hwn
 have LQ1:=HZ
 replace HG0:=zk hbx HG0
 replace HS1:=zk hbx HS1
 replace HZ:=zh (Nat.lt_of_lt_of_le HZ.out hbx.size)
 replace HB:=zj HB hbx
 have HQ1:=zh hnx
 clear hbx hnx
 generalize w2.heap.size=gq1 at *
 refine(HV.out 1 _).mono ?_
 rintro e w4 ⟨rfl,hbx⟩
 replace HG0:=zk hbx HG0
 replace HS1:=zk hbx HS1
 replace HQ1:=zk hbx HQ1
 replace HZ:=zh (Nat.lt_of_lt_of_le HZ.out hbx.size)
 replace HB:=zj HB hbx
 clear hbx
 go_wp2_with fail
 refine(HN.out 1 _ (by omega)).mono ?_
 rintro e w5 ⟨gs2,rfl,hsS2,hlS2,hbx⟩
 have LS2:=zh (Nat.lt_of_lt_of_le HZ.out hlS2)
 replace HG0:=zk hbx HG0
 replace HS1:=zk hbx HS1
 replace HQ1:=zk hbx HQ1
 replace HZ:=zh (Nat.lt_of_lt_of_le HZ.out hbx.size)
 replace HB:=zj HB hbx
 have HS2:=zh hsS2
 clear hbx hsS2 hlS2
 go_wp2_with fail
 obtain⟨w6,hwn,hbx,hnx,z⟩:=zalW w5 (.cells #[.int .i64 0,.int .i64 1000000] 100)
 rw [hwn]
 clear hwn
 have LS3:=HZ
 replace HG0:=zk hbx HG0
 replace HS1:=zk hbx HS1
 replace HQ1:=zk hbx HQ1
 replace HS2:=zk hbx HS2
 replace HZ:=zh (Nat.lt_of_lt_of_le HZ.out hbx.size)
 replace HB:=zj HB hbx
 have HS3:=zh hnx
 clear hbx hnx
 generalize w5.heap.size=gs3 at *
 obtain⟨w7,hwn,hbx,hnx,-⟩:=zalW w6 (.cells #[.string ⟨#[98,47,118,49]⟩,.slice (some ⟨gs2,0,none⟩) 1 1,.string ⟨#[99,47,118,49]⟩,.slice (some ⟨gs3,0,none⟩) 1 1] 89)
 rw [hwn]
 clear hwn
 have LQ2:=HZ
 replace HG0:=zk hbx HG0
 replace HS1:=zk hbx HS1
 replace HQ1:=zk hbx HQ1
 replace HS2:=zk hbx HS2
 replace HS3:=zk hbx HS3
 replace HZ:=zh (Nat.lt_of_lt_of_le HZ.out hbx.size)
 replace HB:=zj HB hbx
 have HQ2:=zh hnx
 clear hbx hnx
 rw [z]at HQ2 LQ2
 clear z
 generalize gs3+1=gq2 at *
 refine(HV.out 0 _).mono ?_
 rintro e w8 ⟨rfl,hbx⟩
 replace HG0:=zk hbx HG0
 replace HS1:=zk hbx HS1
 replace HQ1:=zk hbx HQ1
 replace HS2:=zk hbx HS2
 replace HS3:=zk hbx HS3
 replace HQ2:=zk hbx HQ2
 replace HZ:=zh (Nat.lt_of_lt_of_le HZ.out hbx.size)
 replace HB:=zj HB hbx
 clear hbx
 go_wp2_with fail
 refine(HV.out 1 _).mono ?_
 rintro e w9 ⟨rfl,hbx⟩
 replace HG0:=zk hbx HG0
 replace HS1:=zk hbx HS1
 replace HQ1:=zk hbx HQ1
 replace HS2:=zk hbx HS2
 replace HS3:=zk hbx HS3
 replace HQ2:=zk hbx HQ2
 replace HZ:=zh (Nat.lt_of_lt_of_le HZ.out hbx.size)
 replace HB:=zj HB hbx
 clear hbx
 go_wp2_with fail
 refine(HV.out 0 _).mono ?_
 rintro e w10 ⟨rfl,hbx⟩
 replace HG0:=zk hbx HG0
 replace HS1:=zk hbx HS1
 replace HQ1:=zk hbx HQ1
 replace HS2:=zk hbx HS2
 replace HS3:=zk hbx HS3
 replace HQ2:=zk hbx HQ2
 replace HZ:=zh (Nat.lt_of_lt_of_le HZ.out hbx.size)
 replace HB:=zj HB hbx
 clear hbx
 go_upto_region 4 with fail
 obtain⟨w11,hwn,hbx,hnx,z⟩:=zalW w10 (.cells (.string ⟨#[97,47,118,49]⟩::.int .i64 1::.int .i64 0::.int .i64 0::.slice (some ⟨gq1,0,none⟩) 1 1::.string ⟨#[]⟩::.string ⟨#[]⟩::.string ⟨#[]⟩::.bool false::.string ⟨#[97,47,118,49]⟩::.int .i64 1::.int .i64 1::.int .i64 0::.slice (some ⟨gq2,0,none⟩) 2 2::.string ⟨#[]⟩::.string ⟨#[]⟩::.string ⟨#[]⟩::.bool false::.string ⟨#[98,47,118,49]⟩::.int .i64 1::.int .i64 0::.int .i64 0::.slice none 0 0::.string ⟨#[]⟩::.string ⟨#[]⟩::.string ⟨#[]⟩::.bool false::.string ⟨#[98,47,118,49]⟩::.int .i64 1::.int .i64 1::.int .i64 0::.slice none 0 0::.string ⟨#[]⟩::.string ⟨#[]⟩::.string ⟨#[]⟩::.bool false::.string ⟨#[99,47,118,49]⟩::.int .i64 1::.int .i64 0::.int .i64 0::.slice none 0 0::.string ⟨#[]⟩::.string ⟨#[]⟩::.string ⟨#[]⟩::.bool false::[]).toArray 82)
 rw [hwn]
 clear hwn
 have LR:=HZ
 replace HG0:=zk hbx HG0
 replace HS1:=zk hbx HS1
 replace HQ1:=zk hbx HQ1
 replace HS2:=zk hbx HS2
 replace HS3:=zk hbx HS3
 replace HQ2:=zk hbx HQ2
 replace HZ:=zh (Nat.lt_of_lt_of_le HZ.out hbx.size)
 replace HB:=zj HB hbx
 have HR:=zh hnx
 clear hbx hnx
 generalize w10.heap.size=gr at *
 have LX:=HZ
 have hbx:=belQ w11 (.cells #[.slice (some ⟨gr,0,none⟩) 5 5,.slice none 0 0] 25)
 have hnx:=zn w11 (.cells #[.slice (some ⟨gr,0,none⟩) 5 5,.slice none 0 0] 25)
 replace HG0:=zk hbx HG0
 replace HS1:=zk hbx HS1
 replace HQ1:=zk hbx HQ1
 replace HS2:=zk hbx HS2
 replace HS3:=zk hbx HS3
 replace HQ2:=zk hbx HQ2
 replace HR:=zk hbx HR
 replace HZ:=zh (Nat.lt_of_lt_of_le HZ.out hbx.size)
 replace HB:=zj HB hbx
 have HX:=zh hnx
 clear hbx hnx
 generalize w11.alloc (.cells #[.slice (some ⟨gr,0,none⟩) 5 5,.slice none 0 0] 25)=w12 at *
 rw [z]at HX LX
 clear z
 generalize gr+1=gx at *
 have hbx:Below w12.heap.size w12 w12.drew:=(Below.refl _ _).drew
 replace HG0:=zk hbx HG0
 replace HS1:=zk hbx HS1
 replace HQ1:=zk hbx HQ1
 replace HS2:=zk hbx HS2
 replace HS3:=zk hbx HS3
 replace HQ2:=zk hbx HQ2
 replace HR:=zk hbx HR
 replace HX:=zk hbx HX
 replace HZ:=zh (Nat.lt_of_lt_of_le HZ.out hbx.size)
 replace HB:=zj HB hbx
 clear hbx
 have HP:Hid (ExP w gs1 gq1 gs2 gs3 gq2 gr gx w12.drew):=zh ⟨HB.out,HZ.out,LS1.out,HS1.out,LQ1.out,HQ1.out,LS2.out,HS2.out,LS3.out,HS3.out,LQ2.out,HQ2.out,LR.out,HR.out,LX.out,HX.out⟩
 clear HB HZ LS1 HS1 LQ1 HQ1 LS2 HS2 LS3 HS3 LQ2 HQ2 LR HR LX HX
 refine wp_region_noPanic ?_
 refine wp_region_held_drew (S:=HeldX gx (.slice (some ⟨gr,0,none⟩) 5 5) (.slice none 0 0)) (by kernel_rfl) ⟨blk0 HP.out.X,blk1 HP.out.X⟩ (fun hS0=>?_)
 refine zt 0 _ rfl ?_;simp only [zl1];refine zt 1 _ rfl ?_;simp only [zl1];refine zt 4 _ rfl ?_;simp only [zl1];refine zt 8 _ rfl ?_;simp only [zl1];refine zt 11 _ rfl ?_;simp only [zl1];refine zt 14 _ rfl ?_;simp only [zl1]
 refine zr 2 rfl fun K hK=>?_
 go_simp
 refine(HV.out 0 _).mono ?_
 rintro e w13 ⟨rfl,hbx⟩
 replace HG0:=zk hbx HG0
 replace HP:=zh (HP.out.on hbx)
 clear hS0
 have hS0:=(⟨blk0 HP.out.X,blk1 HP.out.X⟩:HeldX _ _ _ _)
 refine hK.out _ _ hS0 (fun _=>?_)
 clear hK K hbx
 (try simp only [zl1])
 refine zt 3 _ rfl ?_;simp only [zl1]
 refine zr 5 rfl fun K hK=>?_
 go_simp
 refine(HV.out 0 _).mono ?_
 rintro e w14 ⟨rfl,hbx⟩
 replace HG0:=zk hbx HG0
 replace HP:=zh (HP.out.on hbx)
 clear hS0
 have hS0:=(⟨blk0 HP.out.X,blk1 HP.out.X⟩:HeldX _ _ _ _)
 refine hK.out _ _ hS0 (fun _=>?_)
 clear hK K hbx
 (try simp only [zl1])
 refine zt 6 _ rfl ?_;simp only [zl1]
 refine wpAnyH_ready (rs:=[7,9]) (by kernel_rfl) (by simp) (AllReadyH.cons rfl (fun K hK=>?_) (AllReadyH.cons rfl (fun K hK=>?_) AllReadyH.nil))
 ·skip
  go_simp
  obtain⟨w21,hwn,hbx,hnx,-⟩:=zalW w14 (.cells #[.string ⟨#[97,47,118,49]⟩,.int .i64 1,.int .i64 0,.int .i64 0,.string ⟨#[98,47,118,49]⟩,.int .i64 1,.int .i64 0,.int .i64 0] 53)
  rw [hwn]
  clear hwn
  have LF:=zh HP.out.hz
  replace HG0:=zk hbx HG0
  replace HP:=zh (HP.out.on hbx)
  have HF:=zh hnx
  clear hbx hnx
  generalize w14.heap.size=gf at *
  clear hS0
  have hS0:=(⟨blk0 HP.out.X,blk1 HP.out.X⟩:HeldX _ _ _ _)
  refine hK.out _ _ hS0 (fun _=>?_)
  clear hK K
  (try simp only [zl1])
  refine zr 9 rfl fun K hK=>?_
  go_simp
  refine(HV.out 1 _).mono ?_
  rintro e w22 ⟨rfl,hbx⟩
  replace HG0:=zk hbx HG0
  replace HP:=zh (HP.out.on hbx)
  replace HF:=zk hbx HF
  clear hS0
  have hS0:=(⟨blk0 HP.out.X,blk1 HP.out.X⟩:HeldX _ _ _ _)
  refine hK.out _ _ hS0 (fun _=>?_)
  clear hK K hbx
  (try simp only [zl1])
  refine zt 10 _ rfl ?_;simp only [zl1]
  refine zr 12 rfl fun K hK=>?_
  go_simp
  refine(HV.out 1 _).mono ?_
  rintro e w23 ⟨rfl,hbx⟩
  replace HG0:=zk hbx HG0
  replace HP:=zh (HP.out.on hbx)
  replace HF:=zk hbx HF
  clear hS0
  have hS0:=(⟨blk0 HP.out.X,blk1 HP.out.X⟩:HeldX _ _ _ _)
  refine hK.out _ _ hS0 (fun _=>?_)
  clear hK K hbx
  (try simp only [zl1])
  refine zt 13 _ rfl ?_;simp only [zl1]
  refine zr 15 rfl fun K hK=>?_
  go_simp
  refine(HV.out 0 _).mono ?_
  rintro e w24 ⟨rfl,hbx⟩
  replace HG0:=zk hbx HG0
  replace HP:=zh (HP.out.on hbx)
  replace HF:=zk hbx HF
  clear hS0
  have hS0:=(⟨blk0 HP.out.X,blk1 HP.out.X⟩:HeldX _ _ _ _)
  refine hK.out _ _ hS0 (fun _=>?_)
  clear hK K hbx
  (try simp only [zl1])
  refine zt 16 _ rfl ?_;simp only [zl1]
  refine wpAnyH_ready (rs:=[17,18]) (by kernel_rfl) (by simp) (AllReadyH.cons rfl (fun K hK=>?_) (AllReadyH.cons rfl (fun K hK=>?_) AllReadyH.nil))
  ·skip
   go_simp
   obtain⟨w25,hwn,hbx,hnx,-⟩:=zalW w24 (.cells #[.string ⟨#[97,47,118,49]⟩,.int .i64 1,.int .i64 1,.int .i64 0,.string ⟨#[98,47,118,49]⟩,.int .i64 1,.int .i64 1,.int .i64 0,.string ⟨#[99,47,118,49]⟩,.int .i64 1,.int .i64 0,.int .i64 0] 53)
   rw [hwn]
   clear hwn
   have LT:=zh HP.out.hz
   replace HG0:=zk hbx HG0
   replace HP:=zh (HP.out.on hbx)
   replace HF:=zk hbx HF
   have HT:=zh hnx
   clear hbx hnx
   generalize w24.heap.size=gt at *
   clear hS0
   have hS0:=(⟨blk0 HP.out.X,blk1 HP.out.X⟩:HeldX _ _ _ _)
   refine hK.out _ _ hS0 (fun _=>?_)
   clear hK K
   (try simp only [zl1])
   refine zr 18 rfl fun K hK=>?_
   have f0:=frozen_of_row _ _ 0 _ _ HG0.out
   have f1:=frozen_of_row _ _ 1 _ _ HG0.out
   have k0:=blk0 HG0.out
   have k1:=blk1 HG0.out
   go_simp
   have hset:=z1b (x':=.slice (some ⟨gr,0,none⟩) 5 5) (y':=.slice none 0 0) HG0.out
   clear f0 f1 k0 k1
   replace HP:=zh (HP.out.set (.slice (some ⟨gr,0,none⟩) 5 5) (.slice none 0 0))
   replace HF:=zh (z0k (x:=.slice (some ⟨gr,0,none⟩) 5 5) (y:=.slice none 0 0) (Nat.ne_of_gt LF.out) HF.out)
   replace HT:=zh (z0k (x:=.slice (some ⟨gr,0,none⟩) 5 5) (y:=.slice none 0 0) (Nat.ne_of_gt LT.out) HT.out)
   replace HG0:=zh hset
   clear hset
   generalize (w25.setCell ⟨w.heap.size,0,none⟩ (.slice (some ⟨gr,0,none⟩) 5 5)).setCell ⟨w.heap.size,1,none⟩ (.slice none 0 0)=w26 at *
   clear hS0
   have hS0:=(⟨blk0 HP.out.X,blk1 HP.out.X⟩:HeldX _ _ _ _)
   refine hK.out _ _ hS0 (fun _=>?_)
   clear hK K
   (try simp only [zl1])
   refine zt 19 _ rfl ?_;simp only [zl1];refine zt 20 _ rfl ?_;simp only [zl1]
   refine wpAnyH_done (by kernel_rfl) ?_ _
   refine NoPanic.normal ?_
   go_wp2_with fail
   refine bodyPost_ret (z06 rfl _ _ w.heap.size _ rfl (run_loadVar_row _ _ _ _ _ _ _ HG0.out underlying25 (by rfl) (by kernel_rfl))) rfl ?_
   exact⟨gs1,gq1,gs2,gs3,gq2,gr,gf,gt,rfl,⟨HP.out.lS1,HP.out.S1,HP.out.lQ1,HP.out.Q1,HP.out.lS2,HP.out.S2,HP.out.lS3,HP.out.S3,HP.out.lQ2,HP.out.Q2,HP.out.lR,HP.out.R,LF.out,HF.out,LT.out,HT.out⟩,HP.out.bel⟩
  ·skip
   have f0:=frozen_of_row _ _ 0 _ _ HG0.out
   have f1:=frozen_of_row _ _ 1 _ _ HG0.out
   have k0:=blk0 HG0.out
   have k1:=blk1 HG0.out
   go_simp
   have hset:=z1b (x':=.slice (some ⟨gr,0,none⟩) 5 5) (y':=.slice none 0 0) HG0.out
   clear f0 f1 k0 k1
   replace HP:=zh (HP.out.set (.slice (some ⟨gr,0,none⟩) 5 5) (.slice none 0 0))
   replace HF:=zh (z0k (x:=.slice (some ⟨gr,0,none⟩) 5 5) (y:=.slice none 0 0) (Nat.ne_of_gt LF.out) HF.out)
   replace HG0:=zh hset
   clear hset
   generalize (w24.setCell ⟨w.heap.size,0,none⟩ (.slice (some ⟨gr,0,none⟩) 5 5)).setCell ⟨w.heap.size,1,none⟩ (.slice none 0 0)=w27 at *
   clear hS0
   have hS0:=(⟨blk0 HP.out.X,blk1 HP.out.X⟩:HeldX _ _ _ _)
   refine hK.out _ _ hS0 (fun _=>?_)
   clear hK K
   (try simp only [zl1])
   refine zt 19 _ rfl ?_;simp only [zl1]
   refine zr 17 rfl fun K hK=>?_
   go_simp
   obtain⟨w28,hwn,hbx,hnx,-⟩:=zalW w27 (.cells #[.string ⟨#[97,47,118,49]⟩,.int .i64 1,.int .i64 1,.int .i64 0,.string ⟨#[98,47,118,49]⟩,.int .i64 1,.int .i64 1,.int .i64 0,.string ⟨#[99,47,118,49]⟩,.int .i64 1,.int .i64 0,.int .i64 0] 53)
   rw [hwn]
   clear hwn
   have LT:=zh HP.out.hz
   replace HG0:=zk hbx HG0
   replace HP:=zh (HP.out.on hbx)
   replace HF:=zk hbx HF
   have HT:=zh hnx
   clear hbx hnx
   generalize w27.heap.size=gt at *
   clear hS0
   have hS0:=(⟨blk0 HP.out.X,blk1 HP.out.X⟩:HeldX _ _ _ _)
   refine hK.out _ _ hS0 (fun _=>?_)
   clear hK K
   (try simp only [zl1])
   refine zt 20 _ rfl ?_;simp only [zl1]
   refine wpAnyH_done (by kernel_rfl) ?_ _
   refine NoPanic.normal ?_
   go_wp2_with fail
   refine bodyPost_ret (z06 rfl _ _ w.heap.size _ rfl (run_loadVar_row _ _ _ _ _ _ _ HG0.out underlying25 (by rfl) (by kernel_rfl))) rfl ?_
   exact⟨gs1,gq1,gs2,gs3,gq2,gr,gf,gt,rfl,⟨HP.out.lS1,HP.out.S1,HP.out.lQ1,HP.out.Q1,HP.out.lS2,HP.out.S2,HP.out.lS3,HP.out.S3,HP.out.lQ2,HP.out.Q2,HP.out.lR,HP.out.R,LF.out,HF.out,LT.out,HT.out⟩,HP.out.bel⟩
 ·skip
  go_simp
  refine(HV.out 1 _).mono ?_
  rintro e w29 ⟨rfl,hbx⟩
  replace HG0:=zk hbx HG0
  replace HP:=zh (HP.out.on hbx)
  clear hS0
  have hS0:=(⟨blk0 HP.out.X,blk1 HP.out.X⟩:HeldX _ _ _ _)
  refine hK.out _ _ hS0 (fun _=>?_)
  clear hK K hbx
  (try simp only [zl1])
  refine zt 10 _ rfl ?_;simp only [zl1]
  refine wpAnyH_ready (rs:=[7,12]) (by kernel_rfl) (by simp) (AllReadyH.cons rfl (fun K hK=>?_) (AllReadyH.cons rfl (fun K hK=>?_) AllReadyH.nil))
  ·skip
   go_simp
   obtain⟨w30,hwn,hbx,hnx,-⟩:=zalW w29 (.cells #[.string ⟨#[97,47,118,49]⟩,.int .i64 1,.int .i64 0,.int .i64 0,.string ⟨#[98,47,118,49]⟩,.int .i64 1,.int .i64 0,.int .i64 0] 53)
   rw [hwn]
   clear hwn
   have LF:=zh HP.out.hz
   replace HG0:=zk hbx HG0
   replace HP:=zh (HP.out.on hbx)
   have HF:=zh hnx
   clear hbx hnx
   generalize w29.heap.size=gf at *
   clear hS0
   have hS0:=(⟨blk0 HP.out.X,blk1 HP.out.X⟩:HeldX _ _ _ _)
   refine hK.out _ _ hS0 (fun _=>?_)
   clear hK K
   (try simp only [zl1])
   refine zr 12 rfl fun K hK=>?_
   go_simp
   refine(HV.out 1 _).mono ?_
   rintro e w31 ⟨rfl,hbx⟩
   replace HG0:=zk hbx HG0
   replace HP:=zh (HP.out.on hbx)
   replace HF:=zk hbx HF
   clear hS0
   have hS0:=(⟨blk0 HP.out.X,blk1 HP.out.X⟩:HeldX _ _ _ _)
   refine hK.out _ _ hS0 (fun _=>?_)
   clear hK K hbx
   (try simp only [zl1])
   refine zt 13 _ rfl ?_;simp only [zl1]
   refine zr 15 rfl fun K hK=>?_
   go_simp
   refine(HV.out 0 _).mono ?_
   rintro e w32 ⟨rfl,hbx⟩
   replace HG0:=zk hbx HG0
   replace HP:=zh (HP.out.on hbx)
   replace HF:=zk hbx HF
   clear hS0
   have hS0:=(⟨blk0 HP.out.X,blk1 HP.out.X⟩:HeldX _ _ _ _)
   refine hK.out _ _ hS0 (fun _=>?_)
   clear hK K hbx
   (try simp only [zl1])
   refine zt 16 _ rfl ?_;simp only [zl1]
   refine wpAnyH_ready (rs:=[17,18]) (by kernel_rfl) (by simp) (AllReadyH.cons rfl (fun K hK=>?_) (AllReadyH.cons rfl (fun K hK=>?_) AllReadyH.nil))
   ·skip
    go_simp
    obtain⟨w33,hwn,hbx,hnx,-⟩:=zalW w32 (.cells #[.string ⟨#[97,47,118,49]⟩,.int .i64 1,.int .i64 1,.int .i64 0,.string ⟨#[98,47,118,49]⟩,.int .i64 1,.int .i64 1,.int .i64 0,.string ⟨#[99,47,118,49]⟩,.int .i64 1,.int .i64 0,.int .i64 0] 53)
    rw [hwn]
    clear hwn
    have LT:=zh HP.out.hz
    replace HG0:=zk hbx HG0
    replace HP:=zh (HP.out.on hbx)
    replace HF:=zk hbx HF
    have HT:=zh hnx
    clear hbx hnx
    generalize w32.heap.size=gt at *
    clear hS0
    have hS0:=(⟨blk0 HP.out.X,blk1 HP.out.X⟩:HeldX _ _ _ _)
    refine hK.out _ _ hS0 (fun _=>?_)
    clear hK K
    (try simp only [zl1])
    refine zr 18 rfl fun K hK=>?_
    have f0:=frozen_of_row _ _ 0 _ _ HG0.out
    have f1:=frozen_of_row _ _ 1 _ _ HG0.out
    have k0:=blk0 HG0.out
    have k1:=blk1 HG0.out
    go_simp
    have hset:=z1b (x':=.slice (some ⟨gr,0,none⟩) 5 5) (y':=.slice none 0 0) HG0.out
    clear f0 f1 k0 k1
    replace HP:=zh (HP.out.set (.slice (some ⟨gr,0,none⟩) 5 5) (.slice none 0 0))
    replace HF:=zh (z0k (x:=.slice (some ⟨gr,0,none⟩) 5 5) (y:=.slice none 0 0) (Nat.ne_of_gt LF.out) HF.out)
    replace HT:=zh (z0k (x:=.slice (some ⟨gr,0,none⟩) 5 5) (y:=.slice none 0 0) (Nat.ne_of_gt LT.out) HT.out)
    replace HG0:=zh hset
    clear hset
    generalize (w33.setCell ⟨w.heap.size,0,none⟩ (.slice (some ⟨gr,0,none⟩) 5 5)).setCell ⟨w.heap.size,1,none⟩ (.slice none 0 0)=w34 at *
    clear hS0
    have hS0:=(⟨blk0 HP.out.X,blk1 HP.out.X⟩:HeldX _ _ _ _)
    refine hK.out _ _ hS0 (fun _=>?_)
    clear hK K
    (try simp only [zl1])
    refine zt 19 _ rfl ?_;simp only [zl1];refine zt 20 _ rfl ?_;simp only [zl1]
    refine wpAnyH_done (by kernel_rfl) ?_ _
    refine NoPanic.normal ?_
    go_wp2_with fail
    refine bodyPost_ret (z06 rfl _ _ w.heap.size _ rfl (run_loadVar_row _ _ _ _ _ _ _ HG0.out underlying25 (by rfl) (by kernel_rfl))) rfl ?_
    exact⟨gs1,gq1,gs2,gs3,gq2,gr,gf,gt,rfl,⟨HP.out.lS1,HP.out.S1,HP.out.lQ1,HP.out.Q1,HP.out.lS2,HP.out.S2,HP.out.lS3,HP.out.S3,HP.out.lQ2,HP.out.Q2,HP.out.lR,HP.out.R,LF.out,HF.out,LT.out,HT.out⟩,HP.out.bel⟩
   ·skip
    have f0:=frozen_of_row _ _ 0 _ _ HG0.out
    have f1:=frozen_of_row _ _ 1 _ _ HG0.out
    have k0:=blk0 HG0.out
    have k1:=blk1 HG0.out
    go_simp
    have hset:=z1b (x':=.slice (some ⟨gr,0,none⟩) 5 5) (y':=.slice none 0 0) HG0.out
    clear f0 f1 k0 k1
    replace HP:=zh (HP.out.set (.slice (some ⟨gr,0,none⟩) 5 5) (.slice none 0 0))
    replace HF:=zh (z0k (x:=.slice (some ⟨gr,0,none⟩) 5 5) (y:=.slice none 0 0) (Nat.ne_of_gt LF.out) HF.out)
    replace HG0:=zh hset
    clear hset
    generalize (w32.setCell ⟨w.heap.size,0,none⟩ (.slice (some ⟨gr,0,none⟩) 5 5)).setCell ⟨w.heap.size,1,none⟩ (.slice none 0 0)=w35 at *
    clear hS0
    have hS0:=(⟨blk0 HP.out.X,blk1 HP.out.X⟩:HeldX _ _ _ _)
    refine hK.out _ _ hS0 (fun _=>?_)
    clear hK K
    (try simp only [zl1])
    refine zt 19 _ rfl ?_;simp only [zl1]
    refine zr 17 rfl fun K hK=>?_
    go_simp
    obtain⟨w36,hwn,hbx,hnx,-⟩:=zalW w35 (.cells #[.string ⟨#[97,47,118,49]⟩,.int .i64 1,.int .i64 1,.int .i64 0,.string ⟨#[98,47,118,49]⟩,.int .i64 1,.int .i64 1,.int .i64 0,.string ⟨#[99,47,118,49]⟩,.int .i64 1,.int .i64 0,.int .i64 0] 53)
    rw [hwn]
    clear hwn
    have LT:=zh HP.out.hz
    replace HG0:=zk hbx HG0
    replace HP:=zh (HP.out.on hbx)
    replace HF:=zk hbx HF
    have HT:=zh hnx
    clear hbx hnx
    generalize w35.heap.size=gt at *
    clear hS0
    have hS0:=(⟨blk0 HP.out.X,blk1 HP.out.X⟩:HeldX _ _ _ _)
    refine hK.out _ _ hS0 (fun _=>?_)
    clear hK K
    (try simp only [zl1])
    refine zt 20 _ rfl ?_;simp only [zl1]
    refine wpAnyH_done (by kernel_rfl) ?_ _
    refine NoPanic.normal ?_
    go_wp2_with fail
    refine bodyPost_ret (z06 rfl _ _ w.heap.size _ rfl (run_loadVar_row _ _ _ _ _ _ _ HG0.out underlying25 (by rfl) (by kernel_rfl))) rfl ?_
    exact⟨gs1,gq1,gs2,gs3,gq2,gr,gf,gt,rfl,⟨HP.out.lS1,HP.out.S1,HP.out.lQ1,HP.out.Q1,HP.out.lS2,HP.out.S2,HP.out.lS3,HP.out.S3,HP.out.lQ2,HP.out.Q2,HP.out.lR,HP.out.R,LF.out,HF.out,LT.out,HT.out⟩,HP.out.bel⟩
  ·skip
   go_simp
   refine(HV.out 1 _).mono ?_
   rintro e w37 ⟨rfl,hbx⟩
   replace HG0:=zk hbx HG0
   replace HP:=zh (HP.out.on hbx)
   clear hS0
   have hS0:=(⟨blk0 HP.out.X,blk1 HP.out.X⟩:HeldX _ _ _ _)
   refine hK.out _ _ hS0 (fun _=>?_)
   clear hK K hbx
   (try simp only [zl1])
   refine zt 13 _ rfl ?_;simp only [zl1]
   refine wpAnyH_ready (rs:=[7,15]) (by kernel_rfl) (by simp) (AllReadyH.cons rfl (fun K hK=>?_) (AllReadyH.cons rfl (fun K hK=>?_) AllReadyH.nil))
   ·skip
    go_simp
    obtain⟨w38,hwn,hbx,hnx,-⟩:=zalW w37 (.cells #[.string ⟨#[97,47,118,49]⟩,.int .i64 1,.int .i64 0,.int .i64 0,.string ⟨#[98,47,118,49]⟩,.int .i64 1,.int .i64 0,.int .i64 0] 53)
    rw [hwn]
    clear hwn
    have LF:=zh HP.out.hz
    replace HG0:=zk hbx HG0
    replace HP:=zh (HP.out.on hbx)
    have HF:=zh hnx
    clear hbx hnx
    generalize w37.heap.size=gf at *
    clear hS0
    have hS0:=(⟨blk0 HP.out.X,blk1 HP.out.X⟩:HeldX _ _ _ _)
    refine hK.out _ _ hS0 (fun _=>?_)
    clear hK K
    (try simp only [zl1])
    refine zr 15 rfl fun K hK=>?_
    go_simp
    refine(HV.out 0 _).mono ?_
    rintro e w39 ⟨rfl,hbx⟩
    replace HG0:=zk hbx HG0
    replace HP:=zh (HP.out.on hbx)
    replace HF:=zk hbx HF
    clear hS0
    have hS0:=(⟨blk0 HP.out.X,blk1 HP.out.X⟩:HeldX _ _ _ _)
    refine hK.out _ _ hS0 (fun _=>?_)
    clear hK K hbx
    (try simp only [zl1])
    refine zt 16 _ rfl ?_;simp only [zl1]
    refine wpAnyH_ready (rs:=[17,18]) (by kernel_rfl) (by simp) (AllReadyH.cons rfl (fun K hK=>?_) (AllReadyH.cons rfl (fun K hK=>?_) AllReadyH.nil))
    ·skip
     go_simp
     obtain⟨w40,hwn,hbx,hnx,-⟩:=zalW w39 (.cells #[.string ⟨#[97,47,118,49]⟩,.int .i64 1,.int .i64 1,.int .i64 0,.string ⟨#[98,47,118,49]⟩,.int .i64 1,.int .i64 1,.int .i64 0,.string ⟨#[99,47,118,49]⟩,.int .i64 1,.int .i64 0,.int .i64 0] 53)
     rw [hwn]
     clear hwn
     have LT:=zh HP.out.hz
     replace HG0:=zk hbx HG0
     replace HP:=zh (HP.out.on hbx)
     replace HF:=zk hbx HF
     have HT:=zh hnx
     clear hbx hnx
     generalize w39.heap.size=gt at *
     clear hS0
     have hS0:=(⟨blk0 HP.out.X,blk1 HP.out.X⟩:HeldX _ _ _ _)
     refine hK.out _ _ hS0 (fun _=>?_)
     clear hK K
     (try simp only [zl1])
     refine zr 18 rfl fun K hK=>?_
     have f0:=frozen_of_row _ _ 0 _ _ HG0.out
     have f1:=frozen_of_row _ _ 1 _ _ HG0.out
     have k0:=blk0 HG0.out
     have k1:=blk1 HG0.out
     go_simp
     have hset:=z1b (x':=.slice (some ⟨gr,0,none⟩) 5 5) (y':=.slice none 0 0) HG0.out
     clear f0 f1 k0 k1
     replace HP:=zh (HP.out.set (.slice (some ⟨gr,0,none⟩) 5 5) (.slice none 0 0))
     replace HF:=zh (z0k (x:=.slice (some ⟨gr,0,none⟩) 5 5) (y:=.slice none 0 0) (Nat.ne_of_gt LF.out) HF.out)
     replace HT:=zh (z0k (x:=.slice (some ⟨gr,0,none⟩) 5 5) (y:=.slice none 0 0) (Nat.ne_of_gt LT.out) HT.out)
     replace HG0:=zh hset
     clear hset
     generalize (w40.setCell ⟨w.heap.size,0,none⟩ (.slice (some ⟨gr,0,none⟩) 5 5)).setCell ⟨w.heap.size,1,none⟩ (.slice none 0 0)=w41 at *
     clear hS0
     have hS0:=(⟨blk0 HP.out.X,blk1 HP.out.X⟩:HeldX _ _ _ _)
     refine hK.out _ _ hS0 (fun _=>?_)
     clear hK K
     (try simp only [zl1])
     refine zt 19 _ rfl ?_;simp only [zl1];refine zt 20 _ rfl ?_;simp only [zl1]
     refine wpAnyH_done (by kernel_rfl) ?_ _
     refine NoPanic.normal ?_
     go_wp2_with fail
     refine bodyPost_ret (z06 rfl _ _ w.heap.size _ rfl (run_loadVar_row _ _ _ _ _ _ _ HG0.out underlying25 (by rfl) (by kernel_rfl))) rfl ?_
     exact⟨gs1,gq1,gs2,gs3,gq2,gr,gf,gt,rfl,⟨HP.out.lS1,HP.out.S1,HP.out.lQ1,HP.out.Q1,HP.out.lS2,HP.out.S2,HP.out.lS3,HP.out.S3,HP.out.lQ2,HP.out.Q2,HP.out.lR,HP.out.R,LF.out,HF.out,LT.out,HT.out⟩,HP.out.bel⟩
    ·skip
     have f0:=frozen_of_row _ _ 0 _ _ HG0.out
     have f1:=frozen_of_row _ _ 1 _ _ HG0.out
     have k0:=blk0 HG0.out
     have k1:=blk1 HG0.out
     go_simp
     have hset:=z1b (x':=.slice (some ⟨gr,0,none⟩) 5 5) (y':=.slice none 0 0) HG0.out
     clear f0 f1 k0 k1
     replace HP:=zh (HP.out.set (.slice (some ⟨gr,0,none⟩) 5 5) (.slice none 0 0))
     replace HF:=zh (z0k (x:=.slice (some ⟨gr,0,none⟩) 5 5) (y:=.slice none 0 0) (Nat.ne_of_gt LF.out) HF.out)
     replace HG0:=zh hset
     clear hset
     generalize (w39.setCell ⟨w.heap.size,0,none⟩ (.slice (some ⟨gr,0,none⟩) 5 5)).setCell ⟨w.heap.size,1,none⟩ (.slice none 0 0)=w42 at *
     clear hS0
     have hS0:=(⟨blk0 HP.out.X,blk1 HP.out.X⟩:HeldX _ _ _ _)
     refine hK.out _ _ hS0 (fun _=>?_)
     clear hK K
     (try simp only [zl1])
     refine zt 19 _ rfl ?_;simp only [zl1]
     refine zr 17 rfl fun K hK=>?_
     go_simp
     obtain⟨w43,hwn,hbx,hnx,-⟩:=zalW w42 (.cells #[.string ⟨#[97,47,118,49]⟩,.int .i64 1,.int .i64 1,.int .i64 0,.string ⟨#[98,47,118,49]⟩,.int .i64 1,.int .i64 1,.int .i64 0,.string ⟨#[99,47,118,49]⟩,.int .i64 1,.int .i64 0,.int .i64 0] 53)
     rw [hwn]
     clear hwn
     have LT:=zh HP.out.hz
     replace HG0:=zk hbx HG0
     replace HP:=zh (HP.out.on hbx)
     replace HF:=zk hbx HF
     have HT:=zh hnx
     clear hbx hnx
     generalize w42.heap.size=gt at *
     clear hS0
     have hS0:=(⟨blk0 HP.out.X,blk1 HP.out.X⟩:HeldX _ _ _ _)
     refine hK.out _ _ hS0 (fun _=>?_)
     clear hK K
     (try simp only [zl1])
     refine zt 20 _ rfl ?_;simp only [zl1]
     refine wpAnyH_done (by kernel_rfl) ?_ _
     refine NoPanic.normal ?_
     go_wp2_with fail
     refine bodyPost_ret (z06 rfl _ _ w.heap.size _ rfl (run_loadVar_row _ _ _ _ _ _ _ HG0.out underlying25 (by rfl) (by kernel_rfl))) rfl ?_
     exact⟨gs1,gq1,gs2,gs3,gq2,gr,gf,gt,rfl,⟨HP.out.lS1,HP.out.S1,HP.out.lQ1,HP.out.Q1,HP.out.lS2,HP.out.S2,HP.out.lS3,HP.out.S3,HP.out.lQ2,HP.out.Q2,HP.out.lR,HP.out.R,LF.out,HF.out,LT.out,HT.out⟩,HP.out.bel⟩
   ·skip
    go_simp
    refine(HV.out 0 _).mono ?_
    rintro e w44 ⟨rfl,hbx⟩
    replace HG0:=zk hbx HG0
    replace HP:=zh (HP.out.on hbx)
    clear hS0
    have hS0:=(⟨blk0 HP.out.X,blk1 HP.out.X⟩:HeldX _ _ _ _)
    refine hK.out _ _ hS0 (fun _=>?_)
    clear hK K hbx
    (try simp only [zl1])
    refine zt 16 _ rfl ?_;simp only [zl1]
    refine wpAnyH_ready (rs:=[7,17,18]) (by kernel_rfl) (by simp) (AllReadyH.cons rfl (fun K hK=>?_) (AllReadyH.cons rfl (fun K hK=>?_) (AllReadyH.cons rfl (fun K hK=>?_) AllReadyH.nil)))
    ·skip
     go_simp
     obtain⟨w45,hwn,hbx,hnx,-⟩:=zalW w44 (.cells #[.string ⟨#[97,47,118,49]⟩,.int .i64 1,.int .i64 0,.int .i64 0,.string ⟨#[98,47,118,49]⟩,.int .i64 1,.int .i64 0,.int .i64 0] 53)
     rw [hwn]
     clear hwn
     have LF:=zh HP.out.hz
     replace HG0:=zk hbx HG0
     replace HP:=zh (HP.out.on hbx)
     have HF:=zh hnx
     clear hbx hnx
     generalize w44.heap.size=gf at *
     clear hS0
     have hS0:=(⟨blk0 HP.out.X,blk1 HP.out.X⟩:HeldX _ _ _ _)
     refine hK.out _ _ hS0 (fun _=>?_)
     clear hK K
     (try simp only [zl1])
     refine wpAnyH_ready (rs:=[17,18]) (by kernel_rfl) (by simp) (AllReadyH.cons rfl (fun K hK=>?_) (AllReadyH.cons rfl (fun K hK=>?_) AllReadyH.nil))
     ·skip
      go_simp
      obtain⟨w46,hwn,hbx,hnx,-⟩:=zalW w45 (.cells #[.string ⟨#[97,47,118,49]⟩,.int .i64 1,.int .i64 1,.int .i64 0,.string ⟨#[98,47,118,49]⟩,.int .i64 1,.int .i64 1,.int .i64 0,.string ⟨#[99,47,118,49]⟩,.int .i64 1,.int .i64 0,.int .i64 0] 53)
      rw [hwn]
      clear hwn
      have LT:=zh HP.out.hz
      replace HG0:=zk hbx HG0
      replace HP:=zh (HP.out.on hbx)
      replace HF:=zk hbx HF
      have HT:=zh hnx
      clear hbx hnx
      generalize w45.heap.size=gt at *
      clear hS0
      have hS0:=(⟨blk0 HP.out.X,blk1 HP.out.X⟩:HeldX _ _ _ _)
      refine hK.out _ _ hS0 (fun _=>?_)
      clear hK K
      (try simp only [zl1])
      refine zr 18 rfl fun K hK=>?_
      have f0:=frozen_of_row _ _ 0 _ _ HG0.out
      have f1:=frozen_of_row _ _ 1 _ _ HG0.out
      have k0:=blk0 HG0.out
      have k1:=blk1 HG0.out
      go_simp
      have hset:=z1b (x':=.slice (some ⟨gr,0,none⟩) 5 5) (y':=.slice none 0 0) HG0.out
      clear f0 f1 k0 k1
      replace HP:=zh (HP.out.set (.slice (some ⟨gr,0,none⟩) 5 5) (.slice none 0 0))
      replace HF:=zh (z0k (x:=.slice (some ⟨gr,0,none⟩) 5 5) (y:=.slice none 0 0) (Nat.ne_of_gt LF.out) HF.out)
      replace HT:=zh (z0k (x:=.slice (some ⟨gr,0,none⟩) 5 5) (y:=.slice none 0 0) (Nat.ne_of_gt LT.out) HT.out)
      replace HG0:=zh hset
      clear hset
      generalize (w46.setCell ⟨w.heap.size,0,none⟩ (.slice (some ⟨gr,0,none⟩) 5 5)).setCell ⟨w.heap.size,1,none⟩ (.slice none 0 0)=w47 at *
      clear hS0
      have hS0:=(⟨blk0 HP.out.X,blk1 HP.out.X⟩:HeldX _ _ _ _)
      refine hK.out _ _ hS0 (fun _=>?_)
      clear hK K
      (try simp only [zl1])
      refine zt 19 _ rfl ?_;simp only [zl1];refine zt 20 _ rfl ?_;simp only [zl1]
      refine wpAnyH_done (by kernel_rfl) ?_ _
      refine NoPanic.normal ?_
      go_wp2_with fail
      refine bodyPost_ret (z06 rfl _ _ w.heap.size _ rfl (run_loadVar_row _ _ _ _ _ _ _ HG0.out underlying25 (by rfl) (by kernel_rfl))) rfl ?_
      exact⟨gs1,gq1,gs2,gs3,gq2,gr,gf,gt,rfl,⟨HP.out.lS1,HP.out.S1,HP.out.lQ1,HP.out.Q1,HP.out.lS2,HP.out.S2,HP.out.lS3,HP.out.S3,HP.out.lQ2,HP.out.Q2,HP.out.lR,HP.out.R,LF.out,HF.out,LT.out,HT.out⟩,HP.out.bel⟩
     ·skip
      have f0:=frozen_of_row _ _ 0 _ _ HG0.out
      have f1:=frozen_of_row _ _ 1 _ _ HG0.out
      have k0:=blk0 HG0.out
      have k1:=blk1 HG0.out
      go_simp
      have hset:=z1b (x':=.slice (some ⟨gr,0,none⟩) 5 5) (y':=.slice none 0 0) HG0.out
      clear f0 f1 k0 k1
      replace HP:=zh (HP.out.set (.slice (some ⟨gr,0,none⟩) 5 5) (.slice none 0 0))
      replace HF:=zh (z0k (x:=.slice (some ⟨gr,0,none⟩) 5 5) (y:=.slice none 0 0) (Nat.ne_of_gt LF.out) HF.out)
      replace HG0:=zh hset
      clear hset
      generalize (w45.setCell ⟨w.heap.size,0,none⟩ (.slice (some ⟨gr,0,none⟩) 5 5)).setCell ⟨w.heap.size,1,none⟩ (.slice none 0 0)=w48 at *
      clear hS0
      have hS0:=(⟨blk0 HP.out.X,blk1 HP.out.X⟩:HeldX _ _ _ _)
      refine hK.out _ _ hS0 (fun _=>?_)
      clear hK K
      (try simp only [zl1])
      refine zt 19 _ rfl ?_;simp only [zl1]
      refine zr 17 rfl fun K hK=>?_
      go_simp
      obtain⟨w49,hwn,hbx,hnx,-⟩:=zalW w48 (.cells #[.string ⟨#[97,47,118,49]⟩,.int .i64 1,.int .i64 1,.int .i64 0,.string ⟨#[98,47,118,49]⟩,.int .i64 1,.int .i64 1,.int .i64 0,.string ⟨#[99,47,118,49]⟩,.int .i64 1,.int .i64 0,.int .i64 0] 53)
      rw [hwn]
      clear hwn
      have LT:=zh HP.out.hz
      replace HG0:=zk hbx HG0
      replace HP:=zh (HP.out.on hbx)
      replace HF:=zk hbx HF
      have HT:=zh hnx
      clear hbx hnx
      generalize w48.heap.size=gt at *
      clear hS0
      have hS0:=(⟨blk0 HP.out.X,blk1 HP.out.X⟩:HeldX _ _ _ _)
      refine hK.out _ _ hS0 (fun _=>?_)
      clear hK K
      (try simp only [zl1])
      refine zt 20 _ rfl ?_;simp only [zl1]
      refine wpAnyH_done (by kernel_rfl) ?_ _
      refine NoPanic.normal ?_
      go_wp2_with fail
      refine bodyPost_ret (z06 rfl _ _ w.heap.size _ rfl (run_loadVar_row _ _ _ _ _ _ _ HG0.out underlying25 (by rfl) (by kernel_rfl))) rfl ?_
      exact⟨gs1,gq1,gs2,gs3,gq2,gr,gf,gt,rfl,⟨HP.out.lS1,HP.out.S1,HP.out.lQ1,HP.out.Q1,HP.out.lS2,HP.out.S2,HP.out.lS3,HP.out.S3,HP.out.lQ2,HP.out.Q2,HP.out.lR,HP.out.R,LF.out,HF.out,LT.out,HT.out⟩,HP.out.bel⟩
    ·skip
     go_simp
     obtain⟨w50,hwn,hbx,hnx,-⟩:=zalW w44 (.cells #[.string ⟨#[97,47,118,49]⟩,.int .i64 1,.int .i64 1,.int .i64 0,.string ⟨#[98,47,118,49]⟩,.int .i64 1,.int .i64 1,.int .i64 0,.string ⟨#[99,47,118,49]⟩,.int .i64 1,.int .i64 0,.int .i64 0] 53)
     rw [hwn]
     clear hwn
     have LT:=zh HP.out.hz
     replace HG0:=zk hbx HG0
     replace HP:=zh (HP.out.on hbx)
     have HT:=zh hnx
     clear hbx hnx
     generalize w44.heap.size=gt at *
     clear hS0
     have hS0:=(⟨blk0 HP.out.X,blk1 HP.out.X⟩:HeldX _ _ _ _)
     refine hK.out _ _ hS0 (fun _=>?_)
     clear hK K
     (try simp only [zl1])
     refine wpAnyH_ready (rs:=[7,18]) (by kernel_rfl) (by simp) (AllReadyH.cons rfl (fun K hK=>?_) (AllReadyH.cons rfl (fun K hK=>?_) AllReadyH.nil))
     ·skip
      go_simp
      obtain⟨w51,hwn,hbx,hnx,-⟩:=zalW w50 (.cells #[.string ⟨#[97,47,118,49]⟩,.int .i64 1,.int .i64 0,.int .i64 0,.string ⟨#[98,47,118,49]⟩,.int .i64 1,.int .i64 0,.int .i64 0] 53)
      rw [hwn]
      clear hwn
      have LF:=zh HP.out.hz
      replace HG0:=zk hbx HG0
      replace HP:=zh (HP.out.on hbx)
      replace HT:=zk hbx HT
      have HF:=zh hnx
      clear hbx hnx
      generalize w50.heap.size=gf at *
      clear hS0
      have hS0:=(⟨blk0 HP.out.X,blk1 HP.out.X⟩:HeldX _ _ _ _)
      refine hK.out _ _ hS0 (fun _=>?_)
      clear hK K
      (try simp only [zl1])
      refine zr 18 rfl fun K hK=>?_
      have f0:=frozen_of_row _ _ 0 _ _ HG0.out
      have f1:=frozen_of_row _ _ 1 _ _ HG0.out
      have k0:=blk0 HG0.out
      have k1:=blk1 HG0.out
      go_simp
      have hset:=z1b (x':=.slice (some ⟨gr,0,none⟩) 5 5) (y':=.slice none 0 0) HG0.out
      clear f0 f1 k0 k1
      replace HP:=zh (HP.out.set (.slice (some ⟨gr,0,none⟩) 5 5) (.slice none 0 0))
      replace HT:=zh (z0k (x:=.slice (some ⟨gr,0,none⟩) 5 5) (y:=.slice none 0 0) (Nat.ne_of_gt LT.out) HT.out)
      replace HF:=zh (z0k (x:=.slice (some ⟨gr,0,none⟩) 5 5) (y:=.slice none 0 0) (Nat.ne_of_gt LF.out) HF.out)
      replace HG0:=zh hset
      clear hset
      generalize (w51.setCell ⟨w.heap.size,0,none⟩ (.slice (some ⟨gr,0,none⟩) 5 5)).setCell ⟨w.heap.size,1,none⟩ (.slice none 0 0)=w52 at *
      clear hS0
      have hS0:=(⟨blk0 HP.out.X,blk1 HP.out.X⟩:HeldX _ _ _ _)
      refine hK.out _ _ hS0 (fun _=>?_)
      clear hK K
      (try simp only [zl1])
      refine zt 19 _ rfl ?_;simp only [zl1];refine zt 20 _ rfl ?_;simp only [zl1]
      refine wpAnyH_done (by kernel_rfl) ?_ _
      refine NoPanic.normal ?_
      go_wp2_with fail
      refine bodyPost_ret (z06 rfl _ _ w.heap.size _ rfl (run_loadVar_row _ _ _ _ _ _ _ HG0.out underlying25 (by rfl) (by kernel_rfl))) rfl ?_
      exact⟨gs1,gq1,gs2,gs3,gq2,gr,gf,gt,rfl,⟨HP.out.lS1,HP.out.S1,HP.out.lQ1,HP.out.Q1,HP.out.lS2,HP.out.S2,HP.out.lS3,HP.out.S3,HP.out.lQ2,HP.out.Q2,HP.out.lR,HP.out.R,LF.out,HF.out,LT.out,HT.out⟩,HP.out.bel⟩
     ·skip
      have f0:=frozen_of_row _ _ 0 _ _ HG0.out
      have f1:=frozen_of_row _ _ 1 _ _ HG0.out
      have k0:=blk0 HG0.out
      have k1:=blk1 HG0.out
      go_simp
      have hset:=z1b (x':=.slice (some ⟨gr,0,none⟩) 5 5) (y':=.slice none 0 0) HG0.out
      clear f0 f1 k0 k1
      replace HP:=zh (HP.out.set (.slice (some ⟨gr,0,none⟩) 5 5) (.slice none 0 0))
      replace HT:=zh (z0k (x:=.slice (some ⟨gr,0,none⟩) 5 5) (y:=.slice none 0 0) (Nat.ne_of_gt LT.out) HT.out)
      replace HG0:=zh hset
      clear hset
      generalize (w50.setCell ⟨w.heap.size,0,none⟩ (.slice (some ⟨gr,0,none⟩) 5 5)).setCell ⟨w.heap.size,1,none⟩ (.slice none 0 0)=w53 at *
      clear hS0
      have hS0:=(⟨blk0 HP.out.X,blk1 HP.out.X⟩:HeldX _ _ _ _)
      refine hK.out _ _ hS0 (fun _=>?_)
      clear hK K
      (try simp only [zl1])
      refine zr 7 rfl fun K hK=>?_
      go_simp
      obtain⟨w54,hwn,hbx,hnx,-⟩:=zalW w53 (.cells #[.string ⟨#[97,47,118,49]⟩,.int .i64 1,.int .i64 0,.int .i64 0,.string ⟨#[98,47,118,49]⟩,.int .i64 1,.int .i64 0,.int .i64 0] 53)
      rw [hwn]
      clear hwn
      have LF:=zh HP.out.hz
      replace HG0:=zk hbx HG0
      replace HP:=zh (HP.out.on hbx)
      replace HT:=zk hbx HT
      have HF:=zh hnx
      clear hbx hnx
      generalize w53.heap.size=gf at *
      clear hS0
      have hS0:=(⟨blk0 HP.out.X,blk1 HP.out.X⟩:HeldX _ _ _ _)
      refine hK.out _ _ hS0 (fun _=>?_)
      clear hK K
      (try simp only [zl1])
      refine zt 19 _ rfl ?_;simp only [zl1];refine zt 20 _ rfl ?_;simp only [zl1]
      refine wpAnyH_done (by kernel_rfl) ?_ _
      refine NoPanic.normal ?_
      go_wp2_with fail
      refine bodyPost_ret (z06 rfl _ _ w.heap.size _ rfl (run_loadVar_row _ _ _ _ _ _ _ HG0.out underlying25 (by rfl) (by kernel_rfl))) rfl ?_
      exact⟨gs1,gq1,gs2,gs3,gq2,gr,gf,gt,rfl,⟨HP.out.lS1,HP.out.S1,HP.out.lQ1,HP.out.Q1,HP.out.lS2,HP.out.S2,HP.out.lS3,HP.out.S3,HP.out.lQ2,HP.out.Q2,HP.out.lR,HP.out.R,LF.out,HF.out,LT.out,HT.out⟩,HP.out.bel⟩
    ·skip
     have f0:=frozen_of_row _ _ 0 _ _ HG0.out
     have f1:=frozen_of_row _ _ 1 _ _ HG0.out
     have k0:=blk0 HG0.out
     have k1:=blk1 HG0.out
     go_simp
     have hset:=z1b (x':=.slice (some ⟨gr,0,none⟩) 5 5) (y':=.slice none 0 0) HG0.out
     clear f0 f1 k0 k1
     replace HP:=zh (HP.out.set (.slice (some ⟨gr,0,none⟩) 5 5) (.slice none 0 0))
     replace HG0:=zh hset
     clear hset
     generalize (w44.setCell ⟨w.heap.size,0,none⟩ (.slice (some ⟨gr,0,none⟩) 5 5)).setCell ⟨w.heap.size,1,none⟩ (.slice none 0 0)=w55 at *
     clear hS0
     have hS0:=(⟨blk0 HP.out.X,blk1 HP.out.X⟩:HeldX _ _ _ _)
     refine hK.out _ _ hS0 (fun _=>?_)
     clear hK K
     (try simp only [zl1])
     refine wpAnyH_ready (rs:=[7,17]) (by kernel_rfl) (by simp) (AllReadyH.cons rfl (fun K hK=>?_) (AllReadyH.cons rfl (fun K hK=>?_) AllReadyH.nil))
     ·skip
      go_simp
      obtain⟨w56,hwn,hbx,hnx,-⟩:=zalW w55 (.cells #[.string ⟨#[97,47,118,49]⟩,.int .i64 1,.int .i64 0,.int .i64 0,.string ⟨#[98,47,118,49]⟩,.int .i64 1,.int .i64 0,.int .i64 0] 53)
      rw [hwn]
      clear hwn
      have LF:=zh HP.out.hz
      replace HG0:=zk hbx HG0
      replace HP:=zh (HP.out.on hbx)
      have HF:=zh hnx
      clear hbx hnx
      generalize w55.heap.size=gf at *
      clear hS0
      have hS0:=(⟨blk0 HP.out.X,blk1 HP.out.X⟩:HeldX _ _ _ _)
      refine hK.out _ _ hS0 (fun _=>?_)
      clear hK K
      (try simp only [zl1])
      refine zt 19 _ rfl ?_;simp only [zl1]
      refine zr 17 rfl fun K hK=>?_
      go_simp
      obtain⟨w57,hwn,hbx,hnx,-⟩:=zalW w56 (.cells #[.string ⟨#[97,47,118,49]⟩,.int .i64 1,.int .i64 1,.int .i64 0,.string ⟨#[98,47,118,49]⟩,.int .i64 1,.int .i64 1,.int .i64 0,.string ⟨#[99,47,118,49]⟩,.int .i64 1,.int .i64 0,.int .i64 0] 53)
      rw [hwn]
      clear hwn
      have LT:=zh HP.out.hz
      replace HG0:=zk hbx HG0
      replace HP:=zh (HP.out.on hbx)
      replace HF:=zk hbx HF
      have HT:=zh hnx
      clear hbx hnx
      generalize w56.heap.size=gt at *
      clear hS0
      have hS0:=(⟨blk0 HP.out.X,blk1 HP.out.X⟩:HeldX _ _ _ _)
      refine hK.out _ _ hS0 (fun _=>?_)
      clear hK K
      (try simp only [zl1])
      refine zt 20 _ rfl ?_;simp only [zl1]
      refine wpAnyH_done (by kernel_rfl) ?_ _
      refine NoPanic.normal ?_
      go_wp2_with fail
      refine bodyPost_ret (z06 rfl _ _ w.heap.size _ rfl (run_loadVar_row _ _ _ _ _ _ _ HG0.out underlying25 (by rfl) (by kernel_rfl))) rfl ?_
      exact⟨gs1,gq1,gs2,gs3,gq2,gr,gf,gt,rfl,⟨HP.out.lS1,HP.out.S1,HP.out.lQ1,HP.out.Q1,HP.out.lS2,HP.out.S2,HP.out.lS3,HP.out.S3,HP.out.lQ2,HP.out.Q2,HP.out.lR,HP.out.R,LF.out,HF.out,LT.out,HT.out⟩,HP.out.bel⟩
     ·skip
      go_simp
      obtain⟨w58,hwn,hbx,hnx,-⟩:=zalW w55 (.cells #[.string ⟨#[97,47,118,49]⟩,.int .i64 1,.int .i64 1,.int .i64 0,.string ⟨#[98,47,118,49]⟩,.int .i64 1,.int .i64 1,.int .i64 0,.string ⟨#[99,47,118,49]⟩,.int .i64 1,.int .i64 0,.int .i64 0] 53)
      rw [hwn]
      clear hwn
      have LT:=zh HP.out.hz
      replace HG0:=zk hbx HG0
      replace HP:=zh (HP.out.on hbx)
      have HT:=zh hnx
      clear hbx hnx
      generalize w55.heap.size=gt at *
      clear hS0
      have hS0:=(⟨blk0 HP.out.X,blk1 HP.out.X⟩:HeldX _ _ _ _)
      refine hK.out _ _ hS0 (fun _=>?_)
      clear hK K
      (try simp only [zl1])
      refine zr 7 rfl fun K hK=>?_
      go_simp
      obtain⟨w59,hwn,hbx,hnx,-⟩:=zalW w58 (.cells #[.string ⟨#[97,47,118,49]⟩,.int .i64 1,.int .i64 0,.int .i64 0,.string ⟨#[98,47,118,49]⟩,.int .i64 1,.int .i64 0,.int .i64 0] 53)
      rw [hwn]
      clear hwn
      have LF:=zh HP.out.hz
      replace HG0:=zk hbx HG0
      replace HP:=zh (HP.out.on hbx)
      replace HT:=zk hbx HT
      have HF:=zh hnx
      clear hbx hnx
      generalize w58.heap.size=gf at *
      clear hS0
      have hS0:=(⟨blk0 HP.out.X,blk1 HP.out.X⟩:HeldX _ _ _ _)
      refine hK.out _ _ hS0 (fun _=>?_)
      clear hK K
      (try simp only [zl1])
      refine zt 19 _ rfl ?_;simp only [zl1];refine zt 20 _ rfl ?_;simp only [zl1]
      refine wpAnyH_done (by kernel_rfl) ?_ _
      refine NoPanic.normal ?_
      go_wp2_with fail
      refine bodyPost_ret (z06 rfl _ _ w.heap.size _ rfl (run_loadVar_row _ _ _ _ _ _ _ HG0.out underlying25 (by rfl) (by kernel_rfl))) rfl ?_
      exact⟨gs1,gq1,gs2,gs3,gq2,gr,gf,gt,rfl,⟨HP.out.lS1,HP.out.S1,HP.out.lQ1,HP.out.Q1,HP.out.lS2,HP.out.S2,HP.out.lS3,HP.out.S3,HP.out.lQ2,HP.out.Q2,HP.out.lR,HP.out.R,LF.out,HF.out,LT.out,HT.out⟩,HP.out.bel⟩
end Go.Proofs.YtapbhoodgnmnkaaGreatDoor
