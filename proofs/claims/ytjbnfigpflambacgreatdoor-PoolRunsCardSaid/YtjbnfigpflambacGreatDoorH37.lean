/- (pool).close. Conditions: those of each lemma. -/
import Derived.Test.YtjbnfigpflambacGreatDoorH19
import Derived.Test.YtjbnfigpflambacGreatDoorH30
namespace Go.Proofs.YtjbnfigpflambacGreatDoor
set_option maxRecDepth 100000
set_option maxHeartbeats 16000000
open _root_.Go.Proofs.Tryz
open Go.ChangeShapes Go.WideShapes Go.ChangeAt Go.RowKit
def MV.left(M:MV)(c:Nat):MV:={M with bytes:=up M.bytes c ⟨#[]⟩,pend:=up M.pend c [],bad:=up M.bad c [],ow:=up M.ow c Ow.new,wait:=dropC M.wait c}
def MV.undone(M:MV)(c s:Nat):MV:=if(M.ow c).st=0 then M else(M.did (poDo M.w s backS).1).setOw c (learn (M.ow c) backS (poDo M.w s backS).2)
theorem of_undo{f:Fr}{b:PB}{c:Nat}(hb:c<b.own.length)(s:Nat):MV.of f (undoP b c s)=(MV.of f b).undone c s:=by
 unfold undoP MV.undone;have e:((MV.of f b).ow c).st=(b.ow c).st:=rfl;rw[e];split
 ·rfl
 ·exact of_act hb s backS
theorem own_undo(b:PB)(c s:Nat):(undoP b c s).own.length=b.own.length:=by
 unfold undoP;split
 ·rfl
 ·exact List.length_set
theorem close_mv_none{f:Fr}{b:PB}{c:Nat}(hc:c<f.cl.length)(hb:c<b.own.length)(hs:(f.c c).srv= -1):
  MV.of (closeM poolB (f,b) c).1 (closeM poolB (f,b) c).2=(MV.of f b).left c:=by
 have e2:(closeM poolB (f,b) c).2=leaveP b c:=by
  show goneP b c (f.c c).srv=_;rw[hs];rfl
 rw[e2,mv_set (f':=(closeM poolB (f,b) c).1) (leaveP b c) hc rfl];have e1:(closeM poolB (f,b) c).1.owner=f.owner:=by
  show(if 0≤(f.c c).srv then _ else f.owner)=f.owner
  rw[hs,if_neg (by omega)]
 rw[e1];unfold MV.left MV.of leaveP;rw[ow_up hb];have e3:=up_id (fun c=>(f.c c).srv) c;simp only[hs]at e3;rw[up_id (fun c=>(f.c c).sent)];simp only[e3];rfl
theorem close_mv_some{f:Fr}{b:PB}{c s:Nat}(hc:c<f.cl.length)(hb:c<b.own.length)(hs:(f.c c).srv=(s:Int)):
  MV.of (closeM poolB (f,b) c).1 (closeM poolB (f,b) c).2=(((MV.of f b).undone c s).freed c s).left c:=by
 have e2:(closeM poolB (f,b) c).2=leaveP (freeP (undoP b c s) c s) c:=by
  show goneP b c (f.c c).srv=_;rw[hs];unfold goneP;rw[if_pos (by omega),Int.toNat_natCast]
 rw[e2,mv_set (f':=(closeM poolB (f,b) c).1) _ hc rfl,←of_undo hb s];have e1:(closeM poolB (f,b) c).1.owner=f.owner.set s (-1):=by
  show(if 0≤(f.c c).srv then f.owner.set (f.c c).srv.toNat (-1)else f.owner)=_
  rw[hs,if_pos (by omega),Int.toNat_natCast]
 rw[e1];unfold MV.left MV.freed MV.of leaveP freeP;rw[ow_up (b:=⟨(undoP b c s).w,(undoP b c s).known.set s ((undoP b c s).ow c),(undoP b c s).own⟩) (by rw[show(⟨(undoP b c s).w,(undoP b c s).known.set s ((undoP b c s).ow c),(undoP b c s).own⟩:PB).own=(undoP b c s).own from rfl,own_undo];exact hb)]
 simp only[List.length_set];rw[up_id (fun c=>(f.c c).sent)];rfl
structure CloseL(w0 wx:World)(B p:Nat)(V0:PV)(M:MV)(q c:Nat):Prop where
 r: ∃V' ks',PoolR wx B p V' ks' M∧Turn p w0 V0 wx V'∧¬ V'.mine p q
 b:Blk wx q 3 #[.int .i64 (c:Int)]
section
variable {w0 wx wy:World}{B p q c:Nat}{V0 V1 V2:PV}{ks1 ks2:List KV}{M M':MV}
theorem CloseL.keep(h:CloseL w0 wx B p V0 M q c)(hb:Below wx.heap.size wx wy):CloseL w0 wy B p V0 M q c:=by
 obtain⟨V',ks',r,t,m⟩:=h.r;exact⟨⟨V',ks',r.below hb,t.below hb,m⟩,h.b.keep hb⟩
theorem CloseL.did(t1:Turn p w0 V0 wx V1)(m1:¬ V1.mine p q)(b1:Blk wx q 3 #[.int .i64 (c:Int)])(r2:PoolR wy B p V2 ks2 M')(t2:Turn p wx V1 wy V2):CloseL w0 wy B p V0 M' q c:=
 ⟨⟨V2,ks2,r2,t1.trans t2,t2.not b1.lt m1⟩,t2.box b1 m1⟩
end
theorem PoolR.emptied{w:World}{B p:Nat}{V:PV}{ks:List KV}{M:MV}(h:PoolR w B p V ks M){c:Nat}(hc:c<6):
  ∃V',PoolR (((((((w.setCell ⟨p,6+c*10+0,none⟩ (.string ⟨#[]⟩)).setCell ⟨p,6+c*10+1,none⟩ (.slice none 0 0)).setCell ⟨p,6+c*10+2,none⟩ (.slice none 0 0)).setCell ⟨p,6+c*10+4,none⟩ (.slice none 0 0)).setCell ⟨p,6+c*10+4+1,none⟩ (.slice none 0 0)).setCell ⟨p,6+c*10+4+2,none⟩ (.slice none 0 0)).setCell ⟨p,6+c*10+4+3,none⟩ (.int .i64 0)) B p V' ks
    {M with bytes:=up M.bytes c ⟨#[]⟩,pend:=up M.pend c [],bad:=up M.bad c [],ow:=up M.ow c Ow.new}∧
   Turn p w V (((((((w.setCell ⟨p,6+c*10+0,none⟩ (.string ⟨#[]⟩)).setCell ⟨p,6+c*10+1,none⟩ (.slice none 0 0)).setCell ⟨p,6+c*10+2,none⟩ (.slice none 0 0)).setCell ⟨p,6+c*10+4,none⟩ (.slice none 0 0)).setCell ⟨p,6+c*10+4+1,none⟩ (.slice none 0 0)).setCell ⟨p,6+c*10+4+2,none⟩ (.slice none 0 0)).setCell ⟨p,6+c*10+4+3,none⟩ (.int .i64 0)) V':=by
 have a1:=h.put_bytes hc ⟨#[]⟩;have a2:=a1.1.put_pend hc (v:=.slice none 0 0) (l:=[]) (OwnO.nil _ _ _ _) (fun k hk=>by cases hk)
 have a3:=a2.1.put_bad hc (v:=.slice none 0 0) (l:=[]) (OwnO.nil _ _ _ _) (fun k hk=>by cases hk)
 obtain⟨V4,r4,t4⟩:=a3.1.put_set' hc (OPL.nil_ _ _);obtain⟨V5,r5,t5⟩:=r4.put_pre' hc (OPL.nil_ _ _);obtain⟨V6,r6,t6⟩:=r5.put_sav' hc (OPL.nil_ _ _);obtain⟨r7,t7⟩:=r6.put_st' hc 0;refine⟨V6,?_,(((((a1.2.trans a2.2).trans a3.2).trans t4).trans t5).trans t6).trans t7⟩;have r7':=r7;unfold MV.setOw at r7';simp only[up_at,up_up]at r7';exact r7'
theorem close_any(w:World)(B p:Nat)(V:PV)(ks:List KV)(f:Fr)(b:PB)(N:Nat)(h:PoolR w B p V ks (MV.of f b))(hT:TabB w B)(hO:Ok (f,b) N)(c:Nat)(hc:c<6):
  Calls Tryz.prog 43 #[.pointer (some ⟨p,0,none⟩),.int .i64 (c:Nat)] w fun e w'=>e= .returned (.tuple #[])∧Done w B p V (MV.of (closeM poolB (f,b) c).1 (closeM poolB (f,b) c).2) w':=by
 have g1:(c:Int)<6:=by omega
 have g2:(0:Int)≤(c:Int):=by omega
 have HC:=Hd hc;have HT:=Hd hT;have HR:=Hd h;have HO:=Hd hO;have HCL:=Hd (hO.len hc);have HOW:=Hd (show c<b.own.length by rw[hO.own6];exact hc)
 obtain⟨sv,hsv⟩: ∃s,(f.c c).srv=s:=⟨_,rfl⟩;have HSV:=Hd hsv;obtain⟨q,hq⟩: ∃q,w.heap.size=q:=⟨_,rfl⟩;have hb:=boxed w (.cells #[.int .i64 (c:Int)] 3);have L0:=Hd (show CloseL w (w.alloc (.cells #[.int .i64 (c:Int)] 3)) B p V (MV.of f b) q c from⟨⟨V,ks,h.below hb,(Turn.refl p w V).below hb,h.o.fresh (by omega)⟩,by rw[←hq];exact Blk.new w _ _⟩)
 obtain⟨M,hM⟩: ∃M,MV.of f b=M:=⟨_,rfl⟩;rw[hM]at L0 HR;have HM:=Hd hM;have HWT:=Hd (show M.wait.length≤6 by rw[←hM];exact hO.fi.few)
 obtain⟨Mz,hMz⟩: ∃Mz,MV.of (closeM poolB (f,b) c).1 (closeM poolB (f,b) c).2=Mz:=⟨_,rfl⟩;rw[hMz];have HMZ:=Hd hMz;clear h hT hO hM hMz hsv hb hc;go_enter func43,ntmps43
 go_upto_region 1 with fail
 clear hq;generalize World.alloc _ _=x1 at L0⊢;have q0:=L0.out.b.cell_ 0 _ rfl;refine region_sg [] ?_;refine anyB_sg [0,1,2,3,4,5] 0 ?_;go_wp2_with fail
 refine sg_o ?_;refine anyB_dn ?_;have L1:=Hd (L0.out.keep bR.drew);clear q0 L0;generalize World.drew _=x2 at L1⊢;obtain⟨⟨V1,ks1,r1,t1,m1⟩,b1⟩:=L1.out;have x3:x2.cell? ⟨p,6+c*10+3,none⟩=some (.int .i64 sv):=by
  rw[←HSV.out];have e:M.srv c=(f.c c).srv:=by rw[←HM.out];rfl
  rw[←e];exact r1.b.cellC (k:=3) HC.out (by decide)
 have q0:=b1.cell_ 0 _ rfl;clear r1 t1 m1 b1;go_upto_if 15 with fail
 go_cut [] (fun wx=>∃M1:MV,Hid (M1.left c=Mz∧M1.wait.length≤6)∧CloseL w wx B p V M1 q c)
 case first=>
  rcases HO.out.fi.fo.cl c HC.out with h1|⟨s,hso,h2,_⟩
  ·have e1:sv= -1:=by rw[←HSV.out];exact h1
   subst e1;have HE:=Hd (show M.left c=Mz by rw[←HMZ.out,close_mv_none HCL.out HOW.out HSV.out,HM.out])
   clear h1;go_wp2_with fail
   go_meet;exact⟨M,Hd ⟨HE.out,HWT.out⟩,L1.out⟩
  ·have e1:sv=(s:Int):=by rw[←HSV.out];exact h2
   subst e1;have HE:=Hd (show((M.undone c s).freed c s).left c=Mz by rw[←HMZ.out,close_mv_some HCL.out HOW.out HSV.out,HM.out])
   obtain⟨s',hs1,hs2,hs3,hs4⟩:=HO.out.srv HC.out (show 0≤(f.c c).srv by rw[HSV.out];omega)
   obtain rfl:s'=s:=by rw[HSV.out]at hs1;omega
   have hs0:(0:Int)≤(s':Int):=by omega
   obtain⟨⟨V1,ks1,r1,t1,m1⟩,b1⟩:=L1.out;obtain⟨st,hst⟩: ∃n,(M.ow c).st=n:=⟨_,rfl⟩;have x7:x2.cell? ⟨p,6+c*10+7,none⟩=some (.int .i64 st):=by rw[←hst];exact r1.b.cellC (k:=7) HC.out (by decide)
   have HST:=Hd hst;have HB:=Hd (show s'<M.known.length∧s'<M.owner.length∧M.srv c=(s':Int)by rw[←HM.out];exact⟨hs3,hs2,HSV.out⟩)
   have HI:=Hd (i64_wf (a:=(s':Int)) (by omega) (by omega))
   have H8:=Hd (show M.w.ses.length≤1000 by rw[←HM.out];exact Nat.le_trans HO.out.ses8 (by decide))
   have HSO:=Hd (show(Sorted (M.ow c).set∧Sorted (M.ow c).pre)∧(M.ow c).set.length<4398046510976∧(M.ow c).pre.length<4398046510976 by rw[←HM.out];exact HO.out.sorted HC.out)
   clear r1 t1 m1 b1 hst h2 hso hs1 hs2 hs3 hs4;by_cases h0:st=0
   ·subst h0;have HU:=Hd (show M.undone c s'=M by unfold MV.undone;rw[if_pos HST.out])
    obtain⟨⟨V1,ks1,r1,t1,m1⟩,b1⟩:=L1.out;have R1:=Hd r1;have T1:=Hd t1;have M1:=Hd m1;have B1:=Hd b1;clear r1 t1 m1 b1 L1;go_wp2_with fail
    refine(free_any _ B p V1 ks1 M R1.out c HC.out s' HB.out.2.2 HB.out.1 HB.out.2.1).mono ?_;rintro e x3' ⟨rfl,⟨V2,ks2,r2,t2⟩⟩;have L2:=Hd (CloseL.did T1.out M1.out B1.out r2 t2);clear r2 t2 x3 x7 q0;go_wp2_with fail
    go_meet;exact⟨M.freed c s',Hd ⟨by rw[←HE.out,HU.out],HWT.out⟩,L2.out⟩
   ·have n1:(st !=0)=true:=by simpa using h0
    have n2:(!(st==0))=true:=n1;obtain⟨⟨W1,aK,aT,aS⟩,hdo⟩: ∃R,poDo M.w s' backS=R:=⟨_,rfl⟩;have HU:=Hd (show M.undone c s'=(M.did W1).setOw c (learn (M.ow c) backS ⟨aK,aT,aS⟩)by unfold MV.undone;rw[if_neg (by rw[HST.out];exact h0),hdo])
    have HDO:=Hd hdo;clear hdo;go_upto_region 5 with fail
    obtain⟨z5,hz5⟩: ∃z,x2.heap.size=z:=⟨_,rfl⟩;have D5:=Blk.new x2 41 #[.int .i64 3,.string ⟨#[]⟩,.string ⟨#[]⟩];have hb5:=boxed x2 (.cells #[.int .i64 3,.string ⟨#[]⟩,.string ⟨#[]⟩] 41);obtain⟨⟨V1,ks1,r1,t1,m1⟩,b1⟩:=L1.out;have nm5:¬ V1.mine p z5:=r1.o.fresh (by omega)
    have R1:=Hd ((r1.below hb5).below bR.drew);have T1:=Hd ((t1.below hb5).below bR.drew);have M1:=Hd m1;have B1:=Hd ((b1.keep hb5).keep bR.drew);rw[hz5]at D5;have f0:=D5.cell_ 0 _ rfl;have f1:=D5.cell_ 1 _ rfl;have f2:=D5.cell_ 2 _ rfl;have D6:=Hd (D5.keep bR.drew);have N6:=Hd nm5;replace x3:=keep_cell hb5 x3
    clear r1 t1 m1 b1 L1 D5 hb5 x7 q0 nm5;refine region_sg [10,11] ?_;refine anyB_sg [0,1,2,4,5,6,7,8,9] 3 ?_;go_wp2_with fail
    refine sg_o ?_;clear x3 f0 f1 f2;generalize World.drew _=x4 at R1 T1 B1 D6⊢;refine anyB_tw 3 10 (fun K hK=>?_) fun K hK=>?_
    ·have f0:=D6.out.cell_ 0 _ rfl;have f1:=D6.out.cell_ 1 _ rfl;have f2:=D6.out.cell_ 2 _ rfl;go_simp;refine thK hK bR ?_;clear hK K;clear f0 f1 f2;refine anyB_on 10 fun K hK=>?_;go_simp;refine(pdo_any _ B p V1 ks1 M R1.out (HT.out.turn HR.out.o T1.out) s' HI.out ⟨3,⟨#[]⟩,⟨#[]⟩⟩ ⟨by decide,by decide⟩ H8.out).mono ?_
     rintro e x5 ⟨rfl,⟨V2,ks2,r2,t2⟩⟩;refine lateK hK ?_;clear hK K;rw[show poR M.w (s':Int) ⟨3,⟨#[]⟩,⟨#[]⟩⟩=(W1,⟨aK,aT,aS⟩)from HDO.out]at r2⊢;have R2:=Hd r2;have T2:=Hd t2;clear r2 t2;unfold anV;refine anyB_on 11 fun K hK=>?_;go_simp;refine(learn_any _ B p V2 ks2 _ R2.out c HC.out ⟨3,⟨#[]⟩,⟨#[]⟩⟩ ⟨aK,aT,aS⟩ ⟨by decide,by decide⟩ HSO.out.1 HSO.out.2).mono ?_
     rintro e x6 ⟨rfl,⟨V3,ks3,r3,t3⟩⟩;refine lateK hK ?_;clear hK K;refine anyB_dn ?_;have L2:=Hd (CloseL.did T1.out M1.out B1.out r3 (T2.out.trans t3));have HU2:=Hd (show M.undone c s'=(({M with w:=(W1,(⟨aK,aT,aS⟩:An)).1}:MV).setOw c (learn (({M with w:=(W1,(⟨aK,aT,aS⟩:An)).1}:MV).ow c) ⟨3,⟨#[]⟩,⟨#[]⟩⟩ ⟨aK,aT,aS⟩))from HU.out);clear r3 t3 R1 T1 M1 B1 R2 T2;rw[←HU2.out]at L2;obtain⟨Mu,hMu⟩: ∃Mu,M.undone c s'=Mu:=⟨_,rfl⟩;rw[hMu]at L2;have HMU:=Hd hMu;have HB2:=Hd (show s'<Mu.known.length∧s'<Mu.owner.length∧Mu.srv c=(s':Int)by rw[←hMu,HU.out];exact HB.out)
     obtain⟨⟨V3,ks3,r3,t3,m3⟩,b3⟩:=L2.out;have R3:=Hd r3;have T3:=Hd t3;have M3:=Hd m3;have B3:=Hd b3;have q0:=b3.cell_ 0 _ rfl;clear r3 t3 m3 b3 L2 hMu;go_wp2_with fail
     refine(free_any _ B p V3 ks3 Mu R3.out c HC.out s' HB2.out.2.2 HB2.out.1 HB2.out.2.1).mono ?_;rintro e x7 ⟨rfl,⟨V4,ks4,r4,t4⟩⟩;have L4:=Hd (CloseL.did T3.out M3.out B3.out r4 t4);clear r4 t4 q0;go_wp2_with fail
     go_meet;exact⟨Mu.freed c s',Hd ⟨by rw[←HMU.out];exact HE.out,by rw[←HMU.out,HU.out];exact HWT.out⟩,L4.out⟩
    ·go_simp;refine(pdo_any _ B p V1 ks1 M R1.out (HT.out.turn HR.out.o T1.out) s' HI.out ⟨3,⟨#[]⟩,⟨#[]⟩⟩ ⟨by decide,by decide⟩ H8.out).mono ?_
     rintro e x5 ⟨rfl,⟨V2,ks2,r2,t2⟩⟩;refine lateK hK ?_;clear hK K;rw[show poR M.w (s':Int) ⟨3,⟨#[]⟩,⟨#[]⟩⟩=(W1,⟨aK,aT,aS⟩)from HDO.out]at r2⊢;have R2:=Hd r2;have T2:=Hd t2;clear r2 t2;unfold anV;have f0:=(T2.out.box D6.out N6.out).cell_ 0 _ rfl;have f1:=(T2.out.box D6.out N6.out).cell_ 1 _ rfl;have f2:=(T2.out.box D6.out N6.out).cell_ 2 _ rfl;refine anyB_sg [3] 1 ?_;go_wp2_with fail
     refine sg_o ?_;clear f0 f1 f2;refine anyB_on 11 fun K hK=>?_;go_simp;refine(learn_any _ B p V2 ks2 _ R2.out c HC.out ⟨3,⟨#[]⟩,⟨#[]⟩⟩ ⟨aK,aT,aS⟩ ⟨by decide,by decide⟩ HSO.out.1 HSO.out.2).mono ?_
     rintro e x6 ⟨rfl,⟨V3,ks3,r3,t3⟩⟩;refine lateK hK ?_;clear hK K;refine anyB_dn ?_;have L2:=Hd (CloseL.did T1.out M1.out B1.out r3 (T2.out.trans t3));have HU2:=Hd (show M.undone c s'=(({M with w:=(W1,(⟨aK,aT,aS⟩:An)).1}:MV).setOw c (learn (({M with w:=(W1,(⟨aK,aT,aS⟩:An)).1}:MV).ow c) ⟨3,⟨#[]⟩,⟨#[]⟩⟩ ⟨aK,aT,aS⟩))from HU.out);clear r3 t3 R1 T1 M1 B1 R2 T2;rw[←HU2.out]at L2;obtain⟨Mu,hMu⟩: ∃Mu,M.undone c s'=Mu:=⟨_,rfl⟩;rw[hMu]at L2;have HMU:=Hd hMu;have HB2:=Hd (show s'<Mu.known.length∧s'<Mu.owner.length∧Mu.srv c=(s':Int)by rw[←hMu,HU.out];exact HB.out)
     obtain⟨⟨V3,ks3,r3,t3,m3⟩,b3⟩:=L2.out;have R3:=Hd r3;have T3:=Hd t3;have M3:=Hd m3;have B3:=Hd b3;have q0:=b3.cell_ 0 _ rfl;clear r3 t3 m3 b3 L2 hMu;go_wp2_with fail
     refine(free_any _ B p V3 ks3 Mu R3.out c HC.out s' HB2.out.2.2 HB2.out.1 HB2.out.2.1).mono ?_;rintro e x7 ⟨rfl,⟨V4,ks4,r4,t4⟩⟩;have L4:=Hd (CloseL.did T3.out M3.out B3.out r4 t4);clear r4 t4 q0;go_wp2_with fail
     go_meet;exact⟨Mu.freed c s',Hd ⟨by rw[←HMU.out];exact HE.out,by rw[←HMU.out,HU.out];exact HWT.out⟩,L4.out⟩
 case rest=>
  obtain⟨M1,HM1,l1⟩:=hcut;obtain⟨⟨V1,ks1,r1,t1,m1⟩,b1⟩:=l1;obtain⟨V2,r2,t2⟩:=r1.emptied HC.out;have x: ∀k,k<10→∃u,wc.cell? ⟨p,6+c*10+k,none⟩=some u:=fun k hk=>⟨_,r1.b.cellC HC.out hk⟩;obtain⟨u0,y0⟩:=x 0 (by decide)
  obtain⟨u1,y1⟩:=x 1 (by decide)
  obtain⟨u2,y2⟩:=x 2 (by decide)
  obtain⟨u4,y4⟩:=x 4 (by decide)
  obtain⟨u5,y5⟩:=x 5 (by decide)
  obtain⟨u6,y6⟩:=x 6 (by decide)
  obtain⟨u7,y7⟩:=x 7 (by decide)
  have y0:wc.cell? ⟨p,6+c*10,none⟩=some u0:=y0;have fp:=r1.b.frozen;have L2:=Hd (CloseL.did t1 m1 b1 r2 t2);clear r1 t1 m1 b1 r2 t2 x q0 x3 L1;go_upto_region 8 with fail
  clear y0 y1 y2 y4 y5 y6 y7 fp;generalize World.setCell _ _ _=x6 at L2⊢;obtain⟨⟨V3,ks3,r3,t3,m3⟩,b3⟩:=L2.out;have q0:=b3.cell_ 0 _ rfl;have y66:x6.cell? ⟨p,66,none⟩=some V3.wait:=r3.b.cell (j:=66) (by decide)
  obtain⟨Aw,cw,ew,_⟩:=r3.o.wait.form;have hne:V3.wait.ownBlock≠some q:=fun e=>m3 ⟨.wait,trivial,e⟩;have hdf:=delf_any x6 B V3.wait M1.wait c q r3.o.wait (Nat.le_trans HM1.out.2 (by decide)) q0 hne
  have EW:=Hd ew;obtain⟨nw,hnw⟩: ∃n,M1.wait.length=n:=⟨_,rfl⟩;have ew:V3.wait= .slice Aw M1.wait.length cw:=ew;rw[hnw]at ew;rw[ew]at y66 hdf;have EW:=Hd ew;have HDF:=Hd hdf;have R3:=Hd r3;have T3:=Hd t3;unfold cloV at HDF;clear r3 t3 m3 b3 hne hdf ew hnw L2;go_wp2_with fail
  refine HDF.out.mono ?_;rintro e x7 ⟨v',rfl,ho,hg,hn⟩;obtain⟨A7,k7,e7,_⟩:=ho.form;obtain⟨r7,t7,y6,fp,-⟩:=R3.out.app_wait (v:=v') (l:=dropC M1.wait c) ho (by rw[EW.out];exact hg) (.inl (by rw[EW.out];exact hn))
  rw[EW.out]at y6;have HF:=Hd (show Done w B p V Mz (x7.setCell ⟨p,66,none⟩ v')from⟨_,_,by rw[←HM1.out.1];exact r7,T3.out.trans t7⟩)
  subst e7;clear r7 t7 ho hg hn q0 y66;go_wp2_with fail
  refine bodyPost_end (results_none rfl _ _ _) rfl ⟨rfl,HF.out⟩
end Go.Proofs.YtjbnfigpflambacGreatDoor
