/- (server).do. (server).do: any statement. back.Do: a statement in a session of a world. Conditions: those of each lemma. -/
import Derived.Test.YtjbnfigpflambacGreatDoorH14
namespace Go.Proofs.YtjbnfigpflambacGreatDoor
set_option maxRecDepth 100000
set_option maxHeartbeats 16000000
open _root_.Go.Proofs.Tryz
open Go.ChangeShapes Go.WideShapes Go.ChangeAt Go.RowKit
structure Dth(w0 w wx:World)(bv bw g cap i q b:Nat)(x:St)(W:Wo):Prop where
 m:Mth w0 w wx bv bw g cap i b W
 arg:Blk wx q 41 #[.int .i64 x.k,.string x.key,.string x.val]
section
variable {w0 w wx wy:World}{bv bw g cap i q b:Nat}{x:St}{W W':Wo}
theorem Dth.start(h:SvAt w0 w bv bw g cap i W):Dth w0 w ((w.alloc (.cells #[.int .i64 x.k,.string x.key,.string x.val] 41)).alloc (.cells #[.int .i64 0,.string ⟨#[]⟩,.int .i64 0] 46)) bv bw g cap i w.heap.size (w.heap.size+1) x W:=by
 have e: ∀o:Obj,(w.alloc o).heap.size=w.heap.size+1:=fun o=>by simp
 have hm:=Mth.start (h.keep (boxed w (.cells #[.int .i64 x.k,.string x.key,.string x.val] 41)));rw[e]at hm;refine⟨⟨hm.sv,hm.res,(Only2.of_below (boxed w _)).trans hm.only,Nat.le_succ _,Nat.le_trans h.bel.size (Nat.le_succ _)⟩,(Blk.new w _ _).alloc _⟩
theorem Dth.step(h:Dth w0 w wx bv bw g cap i q b x W)(hs:SvAt w0 wy bv bw g cap i W')(ho:Only2 bw g wx wy):Dth w0 w wy bv bw g cap i q b x W':=by
 obtain⟨cg,hg⟩:=h.m.sv.rowg;obtain⟨r,h1,_⟩:=h.m.sv.box;exact⟨h.m.step hs ho,ho.blk h.arg (h.arg.ne_ h1 (by decide)) (h.arg.ne_ hg (by decide))⟩
theorem Dth.keep(h:Dth w0 w wx bv bw g cap i q b x W)(hb:Below wx.heap.size wx wy):Dth w0 w wy bv bw g cap i q b x W:=⟨h.m.keep hb,h.arg.keep hb⟩
end
theorem do1_any(w0 w:World)(bv bw g cap i:Nat)(W:Wo)(x:St)(hS:SvAt w0 w bv bw g cap i W)(hG:Good W)(hk:x.key.size≤maxLen)(hv:x.val.size≤maxLen)(hx:1≤x.k∧x.k≤11∧x.k≠8):
  Calls Tryz.prog 65 #[.pointer (some ⟨bv,0,none⟩),.agg #[.int .i64 x.k,.string x.key,.string x.val]] w (SvR w0 w bv bw g cap i (did1 W i x)):=by
 have HG:=Hd hG;have hfew:=hG.few;have hi:=hS.hi;have HKV:=Hd (And.intro hk hv);have D0:=Hd (Dth.start (x:=x) hS);obtain⟨Ar,cr,A1,k1,A2,k2,A3,k3,A4,k4,V⟩:=hS.view;have V0:=Hd (V.keep (boxed2 w (.cells #[.int .i64 x.k,.string x.key,.string x.val] 41) (.cells #[.int .i64 0,.string ⟨#[]⟩,.int .i64 0] 46)));obtain⟨n,hn⟩: ∃n,W.ses.length=n:=⟨_,rfl⟩;rw[hn]at V0 hi hfew;have HN:=Hd hn;obtain⟨K,key,val⟩:=x;obtain⟨q,hq⟩: ∃q,w.heap.size=q:=⟨_,rfl⟩;rw[hq]at D0;have g1:(i:Int)<(n:Int):=by omega
 have g2:(0:Int)≤(i:Int):=by omega
 have HX:=Hd hx;clear hG hS V hn hk hv hx;go_enter func65,ntmps65
 go_wp2_with fail
 generalize (w.alloc (.cells #[.int .i64 K,.string key,.string val] 41 (0,0))).alloc (.cells #[.int .i64 0,.string ⟨#[]⟩,.int .i64 0] 46 (0,0))=x0 at D0 V0⊢;have s0:=(V0.out.keep bR.drew).s0;have s1:=(V0.out.keep bR.drew).s1;have b1:=(V0.out.keep bR.drew).b1;refine region_sg [] ?_;refine anyB_sg [0,1,2,3,4,5,6,7,8,9,10,11,12] 0 ?_;go_wp2_with fail
 refine sg_o ?_;refine anyB_dn ?_;have D1:=Hd (D0.out.keep bR.drew);have V1:=Hd (V0.out.keep bR.drew);clear s0 s1 b1 hq;generalize x0.drew=x1 at D1 V1⊢;clear D0 V0;have c0:=V1.out.c0;have a0:=D1.out.arg.cell_ 0 _ rfl;have a1:=D1.out.arg.cell_ 1 _ rfl;have a2:=D1.out.arg.cell_ 2 _ rfl;obtain⟨s,hs⟩: ∃s,(W.se i).st=s:=⟨_,rfl⟩;rw[hs]at c0;have XS:=Hd hs;clear hs;obtain⟨F,hF⟩: ∃F,decide (s=2∧K≠2∧K≠3)=F:=⟨_,rfl⟩;have XF:=Hd hF;clear hF;go_upto_region 2 with fail
 go_cut [38] (fun t wc=>t= .bool F∧wc=x1)
 case first=>
  by_cases h2:s=2
  ·have q1:(s==2)=true:=by simpa using h2
   by_cases k2:K=2
   ·have q2:(K !=2)=false:=by simpa using k2
    have HF:=Hd (show F=false by rw[←XF.out];simp[k2])
    clear h2 k2;go_wp2_with fail
    go_meet;exact⟨by rw[HF.out],rfl⟩
   ·have q2:(K !=2)=true:=by simpa using k2
    by_cases k3:K=3
    ·have q3:(K !=3)=false:=by simpa using k3
     have HF:=Hd (show F=false by rw[←XF.out];simp[k3])
     clear h2 k2 k3;go_wp2_with fail
     go_meet;exact⟨by rw[HF.out],rfl⟩
    ·have q3:(K !=3)=true:=by simpa using k3
     have HF:=Hd (show F=true by rw[←XF.out];simp[h2,k2,k3])
     clear h2 k2 k3;go_wp2_with fail
     go_meet;exact⟨by rw[HF.out],rfl⟩
  ·have q1:(s==2)=false:=by simpa using h2
   have HF:=Hd (show F=false by rw[←XF.out];simp[h2])
   clear h2;go_wp2_with fail
   go_meet;exact⟨by rw[HF.out],rfl⟩
 case rest=>
  obtain⟨rfl,rfl⟩:=hcut;cases F with
  |true=>
   have hf:=of_decide_eq_true XF.out;have HRR:=Hd (show did1 W i ⟨K,key,val⟩=(W,noA tFailed)by unfold did1;rw[XS.out,if_pos hf])
   clear hf;go_wp2_with fail
   refine(failed_any _ _).mono ?_;rintro e x4 ⟨rfl,b4⟩;have D4:=Hd (D1.out.keep b4);have z0:=D4.out.m.res.cell_ 0 _ rfl;have z1:=D4.out.m.res.cell_ 1 _ rfl;have z2:=D4.out.m.res.cell_ 2 _ rfl;have fz:=D4.out.m.res.frozen;clear b4 c0;go_wp2_with fail
   have RB:=(((D4.out.m.res).set_ 0 (.int .i64 4)).set_ 1 (.string ⟨#[102,97,105,108,101,100,32,97,108,114,101,97,100,121]⟩)).set_ 2 (.int .i64 0);have t0:=RB.cell_ 0 _ rfl;have t1:=RB.cell_ 1 _ rfl;have t2:=RB.cell_ 2 _ rfl;clear z0 z1 z2 fz;clear a0 a1 a2;refine bodyPost_ret (v:=.agg #[.int .i64 4,.string ⟨#[102,97,105,108,101,100,32,97,108,114,101,97,100,121]⟩,.int .i64 0]) (by simp[results,results65,go_sem,t0,t1,t2]) rfl ?_
   rw[HRR.out];exact D4.out.m.fin _ rfl _ _ _ _ rfl
  |false=>
   have hf:=of_decide_eq_false XF.out;have HF:=Hd (show did1 W i ⟨K,key,val⟩=if K=1∨K=2∨K=3 then transW W i K else if K=4 then resetW W i else if K=6 then getW W i key else if K=7 then readW W i key else if K=9 then setW W i key val else if K=10 then putW W i key val else if K=11 then prepW W i key val else(W,noA tAsked)by unfold did1;rw[XS.out,if_neg hf])
   clear hf;have hx:=HX.out;obtain rfl|rfl|rfl|rfl|rfl|rfl|rfl|rfl|rfl|rfl:K=1∨K=2∨K=3∨K=4∨K=5∨K=6∨K=7∨K=9∨K=10∨K=11:=by omega
   all_goals clear hx
   ·have HRR:=Hd (show did1 W i ⟨1,key,val⟩=transW W i 1 by rw[HF.out,if_pos (by decide)])
    go_wp2_with fail
    refine(trans_any w0 _ bv bw g cap i W 1 D1.out.m.sv HG.out (by decide)).mono ?_
    rintro e x4 ⟨rfl,sv4,o4⟩;have D4:=Hd (D1.out.step sv4 o4);obtain⟨A,hA⟩: ∃A,(transW W i 1).2=A:=⟨_,rfl⟩;rw[hA];have XA:=Hd hA;unfold anV;have z0:=D4.out.m.res.cell_ 0 _ rfl;have z1:=D4.out.m.res.cell_ 1 _ rfl;have z2:=D4.out.m.res.cell_ 2 _ rfl;have fz:=D4.out.m.res.frozen;clear sv4 o4 c0 hA a0 a1 a2;go_wp2_with fail
    have RB:=(((D4.out.m.res).set_ 0 (.int .i64 A.kind)).set_ 1 (.string A.text)).set_ 2 (.int .i64 A.st);have t0:=RB.cell_ 0 _ rfl;have t1:=RB.cell_ 1 _ rfl;have t2:=RB.cell_ 2 _ rfl;clear z0 z1 z2 fz;refine bodyPost_ret (v:=.agg #[.int .i64 A.kind,.string A.text,.int .i64 A.st]) (by simp[results,results65,go_sem,t0,t1,t2]) rfl ?_
    rw[HRR.out];exact D4.out.m.fin (transW W i 1) rfl _ _ _ _ (by rw[XA.out];rfl)
   ·have HRR:=Hd (show did1 W i ⟨2,key,val⟩=transW W i 2 by rw[HF.out,if_pos (by decide)])
    go_wp2_with fail
    refine(trans_any w0 _ bv bw g cap i W 2 D1.out.m.sv HG.out (by decide)).mono ?_
    rintro e x4 ⟨rfl,sv4,o4⟩;have D4:=Hd (D1.out.step sv4 o4);obtain⟨A,hA⟩: ∃A,(transW W i 2).2=A:=⟨_,rfl⟩;rw[hA];have XA:=Hd hA;unfold anV;have z0:=D4.out.m.res.cell_ 0 _ rfl;have z1:=D4.out.m.res.cell_ 1 _ rfl;have z2:=D4.out.m.res.cell_ 2 _ rfl;have fz:=D4.out.m.res.frozen;clear sv4 o4 c0 hA a0 a1 a2;go_wp2_with fail
    have RB:=(((D4.out.m.res).set_ 0 (.int .i64 A.kind)).set_ 1 (.string A.text)).set_ 2 (.int .i64 A.st);have t0:=RB.cell_ 0 _ rfl;have t1:=RB.cell_ 1 _ rfl;have t2:=RB.cell_ 2 _ rfl;clear z0 z1 z2 fz;refine bodyPost_ret (v:=.agg #[.int .i64 A.kind,.string A.text,.int .i64 A.st]) (by simp[results,results65,go_sem,t0,t1,t2]) rfl ?_
    rw[HRR.out];exact D4.out.m.fin (transW W i 2) rfl _ _ _ _ (by rw[XA.out];rfl)
   ·have HRR:=Hd (show did1 W i ⟨3,key,val⟩=transW W i 3 by rw[HF.out,if_pos (by decide)])
    go_wp2_with fail
    refine(trans_any w0 _ bv bw g cap i W 3 D1.out.m.sv HG.out (by decide)).mono ?_
    rintro e x4 ⟨rfl,sv4,o4⟩;have D4:=Hd (D1.out.step sv4 o4);obtain⟨A,hA⟩: ∃A,(transW W i 3).2=A:=⟨_,rfl⟩;rw[hA];have XA:=Hd hA;unfold anV;have z0:=D4.out.m.res.cell_ 0 _ rfl;have z1:=D4.out.m.res.cell_ 1 _ rfl;have z2:=D4.out.m.res.cell_ 2 _ rfl;have fz:=D4.out.m.res.frozen;clear sv4 o4 c0 hA a0 a1 a2;go_wp2_with fail
    have RB:=(((D4.out.m.res).set_ 0 (.int .i64 A.kind)).set_ 1 (.string A.text)).set_ 2 (.int .i64 A.st);have t0:=RB.cell_ 0 _ rfl;have t1:=RB.cell_ 1 _ rfl;have t2:=RB.cell_ 2 _ rfl;clear z0 z1 z2 fz;refine bodyPost_ret (v:=.agg #[.int .i64 A.kind,.string A.text,.int .i64 A.st]) (by simp[results,results65,go_sem,t0,t1,t2]) rfl ?_
    rw[HRR.out];exact D4.out.m.fin (transW W i 3) rfl _ _ _ _ (by rw[XA.out];rfl)
   ·by_cases h0:s=0
    ·have HRR:=Hd (show did1 W i ⟨4,key,val⟩=(W.put i ⟨(W.se i).st,[],[],(W.se i).sav,(W.se i).wri⟩,okA)by rw[HF.out];show resetW W i=_;unfold resetW;rw[if_pos (by rw[XS.out];exact h0)])
     have q1:(s !=0)=false:=by simpa using h0
     have D4:=Hd (Dth.step D1.out D1.out.m.reset_.sv (((Only2.refl bw g _).set_ (.inr rfl) _).set_ (.inr rfl) _));have c1:=V1.out.c1;have c2:=V1.out.c2;have fg:=V1.out.fg;have ng:=D1.out.m.ng;have z0:=D1.out.m.res.cell_ 0 _ rfl;have z1:=D1.out.m.res.cell_ 1 _ rfl;have z2:=D1.out.m.res.cell_ 2 _ rfl;have fz:=D1.out.m.res.frozen;clear h0;go_wp2_with fail
     clear c0 c1 c2;have RB:=(((D4.out.m.res).set_ 0 (.int .i64 1)).set_ 1 (.string ⟨#[]⟩)).set_ 2 (.int .i64 0);have t0:=RB.cell_ 0 _ rfl;have t1:=RB.cell_ 1 _ rfl;have t2:=RB.cell_ 2 _ rfl;clear z0 z1 z2 fz;clear a0 a1 a2;refine bodyPost_ret (v:=.agg #[.int .i64 1,.string ⟨#[]⟩,.int .i64 0]) (by simp[results,results65,go_sem,t0,t1,t2]) rfl ?_
     rw[HRR.out];exact D4.out.m.fin _ rfl _ _ _ _ rfl
    ·have HRR:=Hd (show did1 W i ⟨4,key,val⟩=(W,noA tNotIn)by rw[HF.out];show resetW W i=_;unfold resetW;rw[if_neg (by rw[XS.out];exact h0)])
     have q1:(s !=0)=true:=by simpa using h0
     clear h0;go_wp2_with fail
     refine(failed_any _ _).mono ?_;rintro e x4 ⟨rfl,b4⟩;have D4:=Hd (D1.out.keep b4);have z0:=D4.out.m.res.cell_ 0 _ rfl;have z1:=D4.out.m.res.cell_ 1 _ rfl;have z2:=D4.out.m.res.cell_ 2 _ rfl;have fz:=D4.out.m.res.frozen;clear b4 c0;go_wp2_with fail
     have RB:=(((D4.out.m.res).set_ 0 (.int .i64 4)).set_ 1 (.string ⟨#[110,111,116,32,105,110,32,97,32,116,114,97,110,115,97,99,116,105,111,110]⟩)).set_ 2 (.int .i64 0);have t0:=RB.cell_ 0 _ rfl;have t1:=RB.cell_ 1 _ rfl;have t2:=RB.cell_ 2 _ rfl;clear z0 z1 z2 fz;clear a0 a1 a2;refine bodyPost_ret (v:=.agg #[.int .i64 4,.string ⟨#[110,111,116,32,105,110,32,97,32,116,114,97,110,115,97,99,116,105,111,110]⟩,.int .i64 0]) (by simp[results,results65,go_sem,t0,t1,t2]) rfl ?_
     rw[HRR.out];exact D4.out.m.fin _ rfl _ _ _ _ rfl
   ·have HRR:=Hd (show did1 W i ⟨5,key,val⟩=(W,noA tAsked)by rw[HF.out];rfl)
    go_wp2_with fail
    refine(failed_any _ _).mono ?_;rintro e x4 ⟨rfl,b4⟩;have D4:=Hd (D1.out.keep b4);have z0:=D4.out.m.res.cell_ 0 _ rfl;have z1:=D4.out.m.res.cell_ 1 _ rfl;have z2:=D4.out.m.res.cell_ 2 _ rfl;have fz:=D4.out.m.res.frozen;clear b4 c0;go_wp2_with fail
    have RB:=(((D4.out.m.res).set_ 0 (.int .i64 4)).set_ 1 (.string ⟨#[97,115,32,97,115,107,101,100]⟩)).set_ 2 (.int .i64 0);have t0:=RB.cell_ 0 _ rfl;have t1:=RB.cell_ 1 _ rfl;have t2:=RB.cell_ 2 _ rfl;clear z0 z1 z2 fz;clear a0 a1 a2;refine bodyPost_ret (v:=.agg #[.int .i64 4,.string ⟨#[97,115,32,97,115,107,101,100]⟩,.int .i64 0]) (by simp[results,results65,go_sem,t0,t1,t2]) rfl ?_
    rw[HRR.out];exact D4.out.m.fin _ rfl _ _ _ _ rfl
   ·obtain⟨o,hA⟩: ∃o,atP (W.se i).set key=o:=⟨_,rfl⟩;have HA:=Hd hA;clear hA;have HRR:=Hd (show did1 W i ⟨6,key,val⟩=(W,foundA o)by rw[HF.out];show getW W i key=_;unfold getW;rw[HA.out])
    cases o with
    |some v=>
     go_upto_region 15 with fail
     clear a0 a1 a2 c0;have c1:=(V1.out.keep bR.drew).c1;have a1:=(D1.out.keep bR.drew).arg.cell_ 1 _ rfl;refine region_sg [10] ?_;refine anyB_sg [0,1,2,3,4,5] 5 ?_;go_wp2_with fail
     refine sg_o ?_;refine anyB_on 6 fun K hK=>?_;go_simp;have D2:=Hd (D1.out.keep bR.drew);have V2:=Hd (V1.out.keep bR.drew);clear c1 a1;generalize World.drew _=x2 at D2 V2 hK⊢;clear D1 V1;refine(bvalue_any _ _ (W.se i).set key V2.out.o1.pl (HG.out.se (by rw[HN.out];exact hi)).setS).mono ?_
     rintro e x3 ⟨rfl,b3⟩;rw[HA.out];refine thK hK b3 ?_;clear hK K;have D3:=Hd (D2.out.keep b3);clear b3 D2 V2;unfold valV;refine anyB_sg [7,8] 2 ?_;go_wp2_with fail
     refine sg_o ?_;refine anyB_on 9 fun K hK=>?_;go_simp;refine(told_some v _).mono ?_;rintro e x4 ⟨rfl,b4⟩;refine thK hK b4 ?_;clear hK K;have D4:=Hd (D3.out.keep b4);clear b4 D3;have z0:=D4.out.m.res.cell_ 0 _ rfl;have z1:=D4.out.m.res.cell_ 1 _ rfl;have z2:=D4.out.m.res.cell_ 2 _ rfl;have fz:=D4.out.m.res.frozen;refine anyB_on 10 fun K hK=>?_;go_simp;refine lateK hK ?_;clear hK K;refine anyB_dn ?_;go_wp2_with fail
     have RB:=(((D4.out.m.res).set_ 0 (.int .i64 2)).set_ 1 (.string v)).set_ 2 (.int .i64 0);have t0:=RB.cell_ 0 _ rfl;have t1:=RB.cell_ 1 _ rfl;have t2:=RB.cell_ 2 _ rfl;clear z0 z1 z2 fz;refine bodyPost_ret (v:=.agg #[.int .i64 2,.string v,.int .i64 0]) (by simp[results,results65,go_sem,t0,t1,t2]) rfl ?_
     rw[HRR.out];exact D4.out.m.fin _ rfl _ _ _ _ rfl
    |none=>
     go_upto_region 15 with fail
     clear a0 a1 a2 c0;have c1:=(V1.out.keep bR.drew).c1;have a1:=(D1.out.keep bR.drew).arg.cell_ 1 _ rfl;refine region_sg [10] ?_;refine anyB_sg [0,1,2,3,4,5] 5 ?_;go_wp2_with fail
     refine sg_o ?_;refine anyB_on 6 fun K hK=>?_;go_simp;have D2:=Hd (D1.out.keep bR.drew);have V2:=Hd (V1.out.keep bR.drew);clear c1 a1;generalize World.drew _=x2 at D2 V2 hK⊢;clear D1 V1;refine(bvalue_any _ _ (W.se i).set key V2.out.o1.pl (HG.out.se (by rw[HN.out];exact hi)).setS).mono ?_
     rintro e x3 ⟨rfl,b3⟩;rw[HA.out];refine thK hK b3 ?_;clear hK K;have D3:=Hd (D2.out.keep b3);clear b3 D2 V2;unfold valV;refine anyB_sg [7,8] 2 ?_;go_wp2_with fail
     refine sg_o ?_;refine anyB_on 9 fun K hK=>?_;go_simp;refine(told_none _ _).mono ?_;rintro e x4 ⟨rfl,b4⟩;refine thK hK b4 ?_;clear hK K;have D4:=Hd (D3.out.keep b4);clear b4 D3;have z0:=D4.out.m.res.cell_ 0 _ rfl;have z1:=D4.out.m.res.cell_ 1 _ rfl;have z2:=D4.out.m.res.cell_ 2 _ rfl;have fz:=D4.out.m.res.frozen;refine anyB_on 10 fun K hK=>?_;go_simp;refine lateK hK ?_;clear hK K;refine anyB_dn ?_;go_wp2_with fail
     have RB:=(((D4.out.m.res).set_ 0 (.int .i64 3)).set_ 1 (.string ⟨#[]⟩)).set_ 2 (.int .i64 0);have t0:=RB.cell_ 0 _ rfl;have t1:=RB.cell_ 1 _ rfl;have t2:=RB.cell_ 2 _ rfl;clear z0 z1 z2 fz;refine bodyPost_ret (v:=.agg #[.int .i64 3,.string ⟨#[]⟩,.int .i64 0]) (by simp[results,results65,go_sem,t0,t1,t2]) rfl ?_
     rw[HRR.out];exact D4.out.m.fin _ rfl _ _ _ _ rfl
   ·obtain⟨o,hA⟩: ∃o,atP (W.se i).wri key=o:=⟨_,rfl⟩;have HA:=Hd hA;clear hA;cases o with
    |some v=>
     have HRR:=Hd (show did1 W i ⟨7,key,val⟩=(W,foundA (some v))by rw[HF.out];show readW W i key=_;unfold readW;rw[HA.out])
     go_upto_region 17 with fail
     clear a0 a1 a2 c0;have c4:=(V1.out.keep bR.drew).c4;have a1:=(D1.out.keep bR.drew).arg.cell_ 1 _ rfl;refine region_sg [] ?_;refine anyB_sg [0,1,2,3,4,5] 6 ?_;go_wp2_with fail
     refine sg_o ?_;refine anyB_on 6 fun K hK=>?_;go_simp;have D2:=Hd (D1.out.keep bR.drew);have V2:=Hd (V1.out.keep bR.drew);clear c4 a1;generalize World.drew _=x2 at D2 V2 hK⊢;clear D1 V1;refine(bvalue_any _ _ (W.se i).wri key V2.out.o4.pl (HG.out.se (by rw[HN.out];exact hi)).wriS).mono ?_
     rintro e x3 ⟨rfl,b3⟩;rw[HA.out];refine thK hK b3 ?_;clear hK K;have D3:=Hd (D2.out.keep b3);have V3:=Hd (V2.out.keep b3);clear b3 D2 V2;unfold valV;refine anyB_sg [7,8,9,10,11] 0 ?_;go_wp2_with fail
     refine sg_o ?_;refine anyB_dn ?_;go_wp2_with fail
     refine(told_some v _).mono ?_;rintro e x4 ⟨rfl,b4⟩;have D4:=Hd (D3.out.keep b4);have z0:=D4.out.m.res.cell_ 0 _ rfl;have z1:=D4.out.m.res.cell_ 1 _ rfl;have z2:=D4.out.m.res.cell_ 2 _ rfl;have fz:=D4.out.m.res.frozen;clear b4;go_wp2_with fail
     have RB:=(((D4.out.m.res).set_ 0 (.int .i64 2)).set_ 1 (.string v)).set_ 2 (.int .i64 0);have t0:=RB.cell_ 0 _ rfl;have t1:=RB.cell_ 1 _ rfl;have t2:=RB.cell_ 2 _ rfl;clear z0 z1 z2 fz;refine bodyPost_ret (v:=.agg #[.int .i64 2,.string v,.int .i64 0]) (by simp[results,results65,go_sem,t0,t1,t2]) rfl ?_
     rw[HRR.out];exact D4.out.m.fin _ rfl _ _ _ _ rfl
    |none=>
     obtain⟨o,hR⟩: ∃o,atP W.rows key=o:=⟨_,rfl⟩;have HR:=Hd hR;clear hR;have HRR:=Hd (show did1 W i ⟨7,key,val⟩=(W,foundA o)by rw[HF.out];show readW W i key=_;unfold readW;rw[HA.out,HR.out])
     go_upto_region 17 with fail
     clear a0 a1 a2 c0;have c4:=(V1.out.keep bR.drew).c4;have a1:=(D1.out.keep bR.drew).arg.cell_ 1 _ rfl;refine region_sg [] ?_;refine anyB_sg [0,1,2,3,4,5] 6 ?_;go_wp2_with fail
     refine sg_o ?_;refine anyB_on 6 fun K hK=>?_;go_simp;have D2:=Hd (D1.out.keep bR.drew);have V2:=Hd (V1.out.keep bR.drew);clear c4 a1;generalize World.drew _=x2 at D2 V2 hK⊢;clear D1 V1;refine(bvalue_any _ _ (W.se i).wri key V2.out.o4.pl (HG.out.se (by rw[HN.out];exact hi)).wriS).mono ?_
     rintro e x3 ⟨rfl,b3⟩;rw[HA.out];refine thK hK b3 ?_;clear hK K;have D3:=Hd (D2.out.keep b3);have V3:=Hd (V2.out.keep b3);clear b3 D2 V2;unfold valV;refine anyB_sg [7,8,9,10,11] 0 ?_;go_wp2_with fail
     refine sg_o ?_;refine anyB_dn ?_;cases o with
     |some v=>
      go_upto_region 20 with fail
      have s0:=(V3.out.keep bR.drew).s0;have b0:=(V3.out.keep bR.drew).b0;have a1:=(D3.out.keep bR.drew).arg.cell_ 1 _ rfl;refine region_sg [13] ?_;refine anyB_sg [0,1,2,3,4,5,6,7,8] 5 ?_;go_wp2_with fail
      refine sg_o ?_;refine anyB_on 9 fun K hK=>?_;go_simp;have D4:=Hd (D3.out.keep bR.drew);have V4:=Hd (V3.out.keep bR.drew);clear s0 b0 a1;generalize World.drew _=x4 at D4 V4 hK⊢;clear D3 V3;refine(bvalue_any _ _ W.rows key V4.out.o0.pl HG.out.rowsS).mono ?_;rintro e x5 ⟨rfl,b5⟩;rw[HR.out];refine thK hK b5 ?_;clear hK K;have D5:=Hd (D4.out.keep b5);clear b5 D4 V4;unfold valV;refine anyB_sg [10,11] 2 ?_;go_wp2_with fail
      refine sg_o ?_;refine anyB_on 12 fun K hK=>?_;go_simp;refine(told_some v _).mono ?_;rintro e x6 ⟨rfl,b6⟩;refine thK hK b6 ?_;clear hK K;have D6:=Hd (D5.out.keep b6);clear b6 D5;have z0:=D6.out.m.res.cell_ 0 _ rfl;have z1:=D6.out.m.res.cell_ 1 _ rfl;have z2:=D6.out.m.res.cell_ 2 _ rfl;have fz:=D6.out.m.res.frozen;refine anyB_on 13 fun K hK=>?_;go_simp;refine lateK hK ?_;clear hK K;refine anyB_dn ?_;go_wp2_with fail
      have RB:=(((D6.out.m.res).set_ 0 (.int .i64 2)).set_ 1 (.string v)).set_ 2 (.int .i64 0);have t0:=RB.cell_ 0 _ rfl;have t1:=RB.cell_ 1 _ rfl;have t2:=RB.cell_ 2 _ rfl;clear z0 z1 z2 fz;refine bodyPost_ret (v:=.agg #[.int .i64 2,.string v,.int .i64 0]) (by simp[results,results65,go_sem,t0,t1,t2]) rfl ?_
      rw[HRR.out];exact D6.out.m.fin _ rfl _ _ _ _ rfl
     |none=>
      go_upto_region 20 with fail
      have s0:=(V3.out.keep bR.drew).s0;have b0:=(V3.out.keep bR.drew).b0;have a1:=(D3.out.keep bR.drew).arg.cell_ 1 _ rfl;refine region_sg [13] ?_;refine anyB_sg [0,1,2,3,4,5,6,7,8] 5 ?_;go_wp2_with fail
      refine sg_o ?_;refine anyB_on 9 fun K hK=>?_;go_simp;have D4:=Hd (D3.out.keep bR.drew);have V4:=Hd (V3.out.keep bR.drew);clear s0 b0 a1;generalize World.drew _=x4 at D4 V4 hK⊢;clear D3 V3;refine(bvalue_any _ _ W.rows key V4.out.o0.pl HG.out.rowsS).mono ?_;rintro e x5 ⟨rfl,b5⟩;rw[HR.out];refine thK hK b5 ?_;clear hK K;have D5:=Hd (D4.out.keep b5);clear b5 D4 V4;unfold valV;refine anyB_sg [10,11] 2 ?_;go_wp2_with fail
      refine sg_o ?_;refine anyB_on 12 fun K hK=>?_;go_simp;refine(told_none _ _).mono ?_;rintro e x6 ⟨rfl,b6⟩;refine thK hK b6 ?_;clear hK K;have D6:=Hd (D5.out.keep b6);clear b6 D5;have z0:=D6.out.m.res.cell_ 0 _ rfl;have z1:=D6.out.m.res.cell_ 1 _ rfl;have z2:=D6.out.m.res.cell_ 2 _ rfl;have fz:=D6.out.m.res.frozen;refine anyB_on 13 fun K hK=>?_;go_simp;refine lateK hK ?_;clear hK K;refine anyB_dn ?_;go_wp2_with fail
      have RB:=(((D6.out.m.res).set_ 0 (.int .i64 3)).set_ 1 (.string ⟨#[]⟩)).set_ 2 (.int .i64 0);have t0:=RB.cell_ 0 _ rfl;have t1:=RB.cell_ 1 _ rfl;have t2:=RB.cell_ 2 _ rfl;clear z0 z1 z2 fz;refine bodyPost_ret (v:=.agg #[.int .i64 3,.string ⟨#[]⟩,.int .i64 0]) (by simp[results,results65,go_sem,t0,t1,t2]) rfl ?_
      rw[HRR.out];exact D6.out.m.fin _ rfl _ _ _ _ rfl
   ·go_upto_region 28 with fail
    clear a0 a1 a2 c0;have c1:=(V1.out.keep bR.drew).c1;have a1:=(D1.out.keep bR.drew).arg.cell_ 1 _ rfl;have a2:=(D1.out.keep bR.drew).arg.cell_ 2 _ rfl;refine region_sg [7,8] ?_;refine anyB_sg [0,1,2,3,4,5,6] 2 ?_;go_wp2_with fail
    refine sg_o ?_;refine anyB_on 7 fun K hK=>?_;go_simp;have D2:=Hd (D1.out.keep bR.drew);have V2:=Hd (V1.out.keep bR.drew);clear a1 a2;generalize World.drew _=x2 at D2 V2 hK c1⊢;clear D1 V1;obtain⟨cg,hcg⟩:=D2.out.m.sv.rowg;refine(keep_any _ g (i*5+1) w0.heap.size _ (W.se i).set key val c1 (V2.out.fg _) V2.out.o1.pl (HG.out.se (by rw[HN.out];exact hi)).setS (by have:=((pairs_iff _ _ _).1 (HG.out.se (by rw[HN.out];exact hi)).set).2.2;omega) HKV.out.1 HKV.out.2 D2.out.m.sv.bel.size _ _ hcg (by decide)).mono ?_
    rintro e x3 (⟨hk3,rfl,b3⟩|⟨u3,hk3,rfl,o3,b3⟩)
    ·have HRR:=Hd (show did1 W i ⟨9,key,val⟩=(W,noA tFull)by rw[HF.out];show setW W i key val=_;unfold setW;rw[hk3])
     refine lateK hK ?_;clear hK K;have D4:=Hd (D2.out.keep b3);clear b3 D2 V2 hk3 c1 hcg;unfold anV noA tFull;have z0:=D4.out.m.res.cell_ 0 _ rfl;have z1:=D4.out.m.res.cell_ 1 _ rfl;have z2:=D4.out.m.res.cell_ 2 _ rfl;have fz:=D4.out.m.res.frozen;refine anyB_on 8 fun K hK=>?_;go_simp;refine lateK hK ?_;clear hK K;refine anyB_dn ?_;go_wp2_with fail
     have RB:=(((D4.out.m.res).set_ 0 (.int .i64 4)).set_ 1 (.string ⟨#[102,117,108,108]⟩)).set_ 2 (.int .i64 0);have t0:=RB.cell_ 0 _ rfl;have t1:=RB.cell_ 1 _ rfl;have t2:=RB.cell_ 2 _ rfl;clear z0 z1 z2 fz;refine bodyPost_ret (v:=.agg #[.int .i64 4,.string ⟨#[102,117,108,108]⟩,.int .i64 0]) (by simp[results,results65,go_sem,t0,t1,t2]) rfl ?_
     rw[HRR.out];exact D4.out.m.fin _ rfl _ _ _ _ rfl
    ·have HRR:=Hd (show did1 W i ⟨9,key,val⟩=(W.put i ⟨(W.se i).st,plusP (W.se i).set key val,(W.se i).pre,(W.se i).sav,(W.se i).wri⟩,okA)by rw[HF.out];show setW W i key val=_;unfold setW;rw[hk3])
     refine lateK hK ?_;clear hK K;have nn:=D2.out.m.new_1 b3 o3;have D4:=Hd (D2.out.step nn.1 nn.2);clear b3 o3 D2 V2 hk3 c1 hcg nn;unfold anV okA;have z0:=D4.out.m.res.cell_ 0 _ rfl;have z1:=D4.out.m.res.cell_ 1 _ rfl;have z2:=D4.out.m.res.cell_ 2 _ rfl;have fz:=D4.out.m.res.frozen;refine anyB_on 8 fun K hK=>?_;go_simp;refine lateK hK ?_;clear hK K;refine anyB_dn ?_;go_wp2_with fail
     have RB:=(((D4.out.m.res).set_ 0 (.int .i64 1)).set_ 1 (.string ⟨#[]⟩)).set_ 2 (.int .i64 0);have t0:=RB.cell_ 0 _ rfl;have t1:=RB.cell_ 1 _ rfl;have t2:=RB.cell_ 2 _ rfl;clear z0 z1 z2 fz;refine bodyPost_ret (v:=.agg #[.int .i64 1,.string ⟨#[]⟩,.int .i64 0]) (by simp[results,results65,go_sem,t0,t1,t2]) rfl ?_
     rw[HRR.out];exact D4.out.m.fin _ rfl _ _ _ _ rfl
   ·have HRR:=Hd (show did1 W i ⟨10,key,val⟩=putW W i key val by rw[HF.out];rfl)
    go_wp2_with fail
    refine(put_any w0 _ bv bw g cap i W key val D1.out.m.sv HG.out HKV.out.1 HKV.out.2).mono ?_;rintro e x4 ⟨rfl,sv4,o4⟩;have D4:=Hd (D1.out.step sv4 o4);obtain⟨A,hA⟩: ∃A,(putW W i key val).2=A:=⟨_,rfl⟩;rw[hA];have XA:=Hd hA;unfold anV;have z0:=D4.out.m.res.cell_ 0 _ rfl;have z1:=D4.out.m.res.cell_ 1 _ rfl;have z2:=D4.out.m.res.cell_ 2 _ rfl;have fz:=D4.out.m.res.frozen;clear sv4 o4 c0 hA a0 a1 a2;go_wp2_with fail
    have RB:=(((D4.out.m.res).set_ 0 (.int .i64 A.kind)).set_ 1 (.string A.text)).set_ 2 (.int .i64 A.st);have t0:=RB.cell_ 0 _ rfl;have t1:=RB.cell_ 1 _ rfl;have t2:=RB.cell_ 2 _ rfl;clear z0 z1 z2 fz;refine bodyPost_ret (v:=.agg #[.int .i64 A.kind,.string A.text,.int .i64 A.st]) (by simp[results,results65,go_sem,t0,t1,t2]) rfl ?_
    rw[HRR.out];exact D4.out.m.fin (putW W i key val) rfl _ _ _ _ (by rw[XA.out];rfl)
   ·go_upto_region 32 with fail
    clear a0 a1 a2 c0;have c2:=(V1.out.keep bR.drew).c2;have a1:=(D1.out.keep bR.drew).arg.cell_ 1 _ rfl;have a2:=(D1.out.keep bR.drew).arg.cell_ 2 _ rfl;refine region_sg [7,8] ?_;refine anyB_sg [0,1,2,3,4,5,6] 2 ?_;go_wp2_with fail
    refine sg_o ?_;refine anyB_on 7 fun K hK=>?_;go_simp;have D2:=Hd (D1.out.keep bR.drew);have V2:=Hd (V1.out.keep bR.drew);clear a1 a2;generalize World.drew _=x2 at D2 V2 hK c2⊢;clear D1 V1;obtain⟨cg,hcg⟩:=D2.out.m.sv.rowg;refine(keep_any _ g (i*5+2) w0.heap.size _ (W.se i).pre key val c2 (V2.out.fg _) V2.out.o2.pl (HG.out.se (by rw[HN.out];exact hi)).preS (by have:=((pairs_iff _ _ _).1 (HG.out.se (by rw[HN.out];exact hi)).pre).2.2;omega) HKV.out.1 HKV.out.2 D2.out.m.sv.bel.size _ _ hcg (by decide)).mono ?_
    rintro e x3 (⟨hk3,rfl,b3⟩|⟨u3,hk3,rfl,o3,b3⟩)
    ·have HRR:=Hd (show did1 W i ⟨11,key,val⟩=(W,noA tFull)by rw[HF.out];show prepW W i key val=_;unfold prepW;rw[hk3])
     refine lateK hK ?_;clear hK K;have D4:=Hd (D2.out.keep b3);clear b3 D2 V2 hk3 c2 hcg;unfold anV noA tFull;have z0:=D4.out.m.res.cell_ 0 _ rfl;have z1:=D4.out.m.res.cell_ 1 _ rfl;have z2:=D4.out.m.res.cell_ 2 _ rfl;have fz:=D4.out.m.res.frozen;refine anyB_on 8 fun K hK=>?_;go_simp;refine lateK hK ?_;clear hK K;refine anyB_dn ?_;go_wp2_with fail
     have RB:=(((D4.out.m.res).set_ 0 (.int .i64 4)).set_ 1 (.string ⟨#[102,117,108,108]⟩)).set_ 2 (.int .i64 0);have t0:=RB.cell_ 0 _ rfl;have t1:=RB.cell_ 1 _ rfl;have t2:=RB.cell_ 2 _ rfl;clear z0 z1 z2 fz;refine bodyPost_ret (v:=.agg #[.int .i64 4,.string ⟨#[102,117,108,108]⟩,.int .i64 0]) (by simp[results,results65,go_sem,t0,t1,t2]) rfl ?_
     rw[HRR.out];exact D4.out.m.fin _ rfl _ _ _ _ rfl
    ·have HRR:=Hd (show did1 W i ⟨11,key,val⟩=(W.put i ⟨(W.se i).st,(W.se i).set,plusP (W.se i).pre key val,(W.se i).sav,(W.se i).wri⟩,okA)by rw[HF.out];show prepW W i key val=_;unfold prepW;rw[hk3])
     refine lateK hK ?_;clear hK K;have nn:=D2.out.m.new_2 b3 o3;have D4:=Hd (D2.out.step nn.1 nn.2);clear b3 o3 D2 V2 hk3 c2 hcg nn;unfold anV okA;have z0:=D4.out.m.res.cell_ 0 _ rfl;have z1:=D4.out.m.res.cell_ 1 _ rfl;have z2:=D4.out.m.res.cell_ 2 _ rfl;have fz:=D4.out.m.res.frozen;refine anyB_on 8 fun K hK=>?_;go_simp;refine lateK hK ?_;clear hK K;refine anyB_dn ?_;go_wp2_with fail
     have RB:=(((D4.out.m.res).set_ 0 (.int .i64 1)).set_ 1 (.string ⟨#[]⟩)).set_ 2 (.int .i64 0);have t0:=RB.cell_ 0 _ rfl;have t1:=RB.cell_ 1 _ rfl;have t2:=RB.cell_ 2 _ rfl;clear z0 z1 z2 fz;refine bodyPost_ret (v:=.agg #[.int .i64 1,.string ⟨#[]⟩,.int .i64 0]) (by simp[results,results65,go_sem,t0,t1,t2]) rfl ?_
     rw[HRR.out];exact D4.out.m.fin _ rfl _ _ _ _ rfl
theorem readS_size(t:ByteArray):(readS t).key.size≤t.size∧(readS t).val.size≤t.size:=by
 unfold readS;split
 ·exact⟨part_size t 1,part_size t 2⟩
 ·exact⟨Nat.zero_le _,Nat.zero_le _⟩
def execO(W:Wo)(i:Nat):Option ByteArray→Wo × An
 |none=>(W,noA tNotPrep)
 |some t=>did1 W i (readS t)
theorem exec_eq(W:Wo)(i:Nat)(key val:ByteArray)(h:(W.se i).st≠2):did W i ⟨8,key,val⟩=execO W i (atP (W.se i).pre key):=by
 unfold did;rw[if_pos rfl];unfold execW;rw[if_neg h];show(match atP (W.se i).pre key with|none=>_|some t=>_)=_
 cases atP (W.se i).pre key<;>rfl
theorem exec_any(w0 w:World)(bv bw g cap i:Nat)(W:Wo)(x:St)(hS:SvAt w0 w bv bw g cap i W)(hG:Good W)(hT:Tabs w0)(hk:x.key.size≤maxLen)(hv:x.val.size≤maxLen)(h8:x.k=8):
  Calls Tryz.prog 65 #[.pointer (some ⟨bv,0,none⟩),.agg #[.int .i64 x.k,.string x.key,.string x.val]] w (SvR w0 w bv bw g cap i (did W i x)):=by
 have HT:=Hd hT;clear hT;have HG:=Hd hG;have hfew:=hG.few;have hi:=hS.hi;have HKV:=Hd (And.intro hk hv);have D0:=Hd (Dth.start (x:=x) hS);obtain⟨Ar,cr,A1,k1,A2,k2,A3,k3,A4,k4,V⟩:=hS.view;have V0:=Hd (V.keep (boxed2 w (.cells #[.int .i64 x.k,.string x.key,.string x.val] 41) (.cells #[.int .i64 0,.string ⟨#[]⟩,.int .i64 0] 46)));obtain⟨n,hn⟩: ∃n,W.ses.length=n:=⟨_,rfl⟩;rw[hn]at V0 hi hfew;have HN:=Hd hn;obtain⟨K,key,val⟩:=x;obtain rfl:K=8:=h8;obtain⟨q,hq⟩: ∃q,w.heap.size=q:=⟨_,rfl⟩;rw[hq]at D0;have g1:(i:Int)<(n:Int):=by omega
 have g2:(0:Int)≤(i:Int):=by omega
 clear hG hS V hn hk hv;go_enter func65,ntmps65
 go_wp2_with fail
 generalize (w.alloc (.cells #[.int .i64 8,.string key,.string val] 41 (0,0))).alloc (.cells #[.int .i64 0,.string ⟨#[]⟩,.int .i64 0] 46 (0,0))=x0 at D0 V0⊢;have s0:=(V0.out.keep bR.drew).s0;have s1:=(V0.out.keep bR.drew).s1;have b1:=(V0.out.keep bR.drew).b1;refine region_sg [] ?_;refine anyB_sg [0,1,2,3,4,5,6,7,8,9,10,11,12] 0 ?_;go_wp2_with fail
 refine sg_o ?_;refine anyB_dn ?_;have D1:=Hd (D0.out.keep bR.drew);have V1:=Hd (V0.out.keep bR.drew);clear s0 s1 b1 hq;generalize x0.drew=x1 at D1 V1⊢;clear D0 V0;have c0:=V1.out.c0;have a0:=D1.out.arg.cell_ 0 _ rfl;have a1:=D1.out.arg.cell_ 1 _ rfl;have a2:=D1.out.arg.cell_ 2 _ rfl;obtain⟨s,hs⟩: ∃s,(W.se i).st=s:=⟨_,rfl⟩;rw[hs]at c0;have XS:=Hd hs;clear hs;by_cases hf:s=2
 ·have q1:(s==2)=true:=by simpa using hf
  have HRR:=Hd (show did W i ⟨8,key,val⟩=(W,noA tFailed)by unfold did;rw[if_pos rfl];unfold execW;rw[if_pos (by rw[XS.out];exact hf)])
  clear hf;go_wp2_with fail
  refine(failed_any _ _).mono ?_;rintro e x4 ⟨rfl,b4⟩;have D4:=Hd (D1.out.keep b4);have z0:=D4.out.m.res.cell_ 0 _ rfl;have z1:=D4.out.m.res.cell_ 1 _ rfl;have z2:=D4.out.m.res.cell_ 2 _ rfl;have fz:=D4.out.m.res.frozen;clear b4 c0;go_wp2_with fail
  have RB:=(((D4.out.m.res).set_ 0 (.int .i64 4)).set_ 1 (.string ⟨#[102,97,105,108,101,100,32,97,108,114,101,97,100,121]⟩)).set_ 2 (.int .i64 0);have t0:=RB.cell_ 0 _ rfl;have t1:=RB.cell_ 1 _ rfl;have t2:=RB.cell_ 2 _ rfl;clear z0 z1 z2 fz;clear a0 a1 a2;refine bodyPost_ret (v:=.agg #[.int .i64 4,.string ⟨#[102,97,105,108,101,100,32,97,108,114,101,97,100,121]⟩,.int .i64 0]) (by simp[results,results65,go_sem,t0,t1,t2]) rfl ?_
  rw[HRR.out];exact D4.out.m.fin _ rfl _ _ _ _ rfl
 have q1:(s==2)=false:=by simpa using hf
 obtain⟨o,hA⟩: ∃o,atP (W.se i).pre key=o:=⟨_,rfl⟩;have HA:=Hd hA;have HF:=Hd (show did W i ⟨8,key,val⟩=execO W i o by rw[exec_eq W i key val (by rw[XS.out];exact hf),hA])
 clear hf hA;go_upto_region 22 with fail
 clear a0 a1 a2 c0;have c2:=(V1.out.keep bR.drew).c2;have a1:=(D1.out.keep bR.drew).arg.cell_ 1 _ rfl;refine region_sg [] ?_;refine anyB_sg [0,1,2,3,4,5] 6 ?_;go_wp2_with fail
 refine sg_o ?_;refine anyB_on 6 fun K hK=>?_;go_simp;have D2:=Hd (D1.out.keep bR.drew);have V2:=Hd (V1.out.keep bR.drew);clear c2 a1;generalize World.drew _=x2 at D2 V2 hK⊢;clear D1 V1;refine(bvalue_any _ _ (W.se i).pre key V2.out.o2.pl (HG.out.se (by rw[HN.out];exact hi)).preS).mono ?_
 rintro e x3 ⟨rfl,b3⟩;rw[HA.out];refine thK hK b3 ?_;clear hK K;have D3:=Hd (D2.out.keep b3);have V3:=Hd (V2.out.keep b3);clear b3 D2 V2;cases o with
 |none=>
  unfold valV;refine anyB_sg [7,8,9,10,11] 0 ?_;go_wp2_with fail
  refine sg_o ?_;refine anyB_dn ?_;have HRR:=HF;go_wp2_with fail
  refine(failed_any _ _).mono ?_;rintro e x4 ⟨rfl,b4⟩;have D4:=Hd (D3.out.keep b4);have z0:=D4.out.m.res.cell_ 0 _ rfl;have z1:=D4.out.m.res.cell_ 1 _ rfl;have z2:=D4.out.m.res.cell_ 2 _ rfl;have fz:=D4.out.m.res.frozen;clear b4;go_wp2_with fail
  have RB:=(((D4.out.m.res).set_ 0 (.int .i64 4)).set_ 1 (.string ⟨#[110,111,116,32,112,114,101,112,97,114,101,100]⟩)).set_ 2 (.int .i64 0);have t0:=RB.cell_ 0 _ rfl;have t1:=RB.cell_ 1 _ rfl;have t2:=RB.cell_ 2 _ rfl;clear z0 z1 z2 fz;refine bodyPost_ret (v:=.agg #[.int .i64 4,.string ⟨#[110,111,116,32,112,114,101,112,97,114,101,100]⟩,.int .i64 0]) (by simp[results,results65,go_sem,t0,t1,t2]) rfl ?_
  rw[HRR.out];exact D4.out.m.fin _ rfl _ _ _ _ rfl
 |some t=>
  unfold valV;refine anyB_sg [7,8,9,10,11] 0 ?_;go_wp2_with fail
  refine sg_o ?_;refine anyB_dn ?_;have hpo:=(HG.out.se (show i<W.ses.length by rw[HN.out];exact hi)).preOk HA.out
  have hts:t.size≤maxLen:=(V3.out.o2.fits.2 _ (atP_mem' HA.out)).2;have hys:=readS_size t;have HY:=Hd hys;have HPO:=Hd hpo;have HTS:=Hd hts;have HRR:=HF;clear hpo hts hys;go_wp2_with fail
  refine(read_any t HTS.out _ (HT.out.below D3.out.m.sv.bel)).mono ?_;rintro e x4 ⟨rfl,b4⟩;have D4:=Hd (D3.out.keep b4);obtain⟨y,hy⟩: ∃y,readS t=y:=⟨_,rfl⟩;obtain⟨z,hz⟩: ∃z,readE t=z:=⟨_,rfl⟩;have XY:=Hd hy;rw[hy]at HY HPO⊢;rw[hz];obtain⟨yk,yy,yv⟩:=y;unfold St.v;clear b4 hy hz D3 V3;go_wp2_with fail
  have D5:=Hd (D4.out.keep (boxed _ (.cells #[.int .i64 yk,.string yy,.string yv] 41)));refine(do1_any w0 _ bv bw g cap i W ⟨yk,yy,yv⟩ D5.out.m.sv HG.out (Nat.le_trans HY.out.1 HTS.out) (Nat.le_trans HY.out.2 HTS.out) (by have h3:yk=6∨yk=7∨yk=10:=HPO.out.2;show 1≤yk∧yk≤11∧yk≠8;omega)).mono ?_
  rintro e x6 ⟨rfl,sv6,o6⟩;have D6:=Hd (D5.out.step sv6 o6);obtain⟨A,hA⟩: ∃A,(did1 W i ⟨yk,yy,yv⟩).2=A:=⟨_,rfl⟩;rw[hA];have XA:=Hd hA;unfold anV;have z0:=D6.out.m.res.cell_ 0 _ rfl;have z1:=D6.out.m.res.cell_ 1 _ rfl;have z2:=D6.out.m.res.cell_ 2 _ rfl;have fz:=D6.out.m.res.frozen;clear sv6 o6 hA;go_wp2_with fail
  have RB:=(((D6.out.m.res).set_ 0 (.int .i64 A.kind)).set_ 1 (.string A.text)).set_ 2 (.int .i64 A.st);have t0:=RB.cell_ 0 _ rfl;have t1:=RB.cell_ 1 _ rfl;have t2:=RB.cell_ 2 _ rfl;clear z0 z1 z2 fz;refine bodyPost_ret (v:=.agg #[.int .i64 A.kind,.string A.text,.int .i64 A.st]) (by simp[results,results65,go_sem,t0,t1,t2]) rfl ?_
  rw[HRR.out];show SvR w0 w bv bw g cap i (did1 W i (readS t)) _ _;rw[XY.out];exact D6.out.m.fin (did1 W i ⟨yk,yy,yv⟩) rfl _ _ _ _ (by rw[XA.out];rfl)
theorem do_any(w0 w:World)(bv bw g cap i:Nat)(W:Wo)(x:St)(hS:SvAt w0 w bv bw g cap i W)(hG:Good W)(hT:Tabs w0)(hk:x.key.size≤maxLen)(hv:x.val.size≤maxLen)(hx:1≤x.k∧x.k≤11):
  Calls Tryz.prog 65 #[.pointer (some ⟨bv,0,none⟩),.agg #[.int .i64 x.k,.string x.key,.string x.val]] w (SvR w0 w bv bw g cap i (did W i x)):=by
 by_cases h8:x.k=8
 ·exact exec_any w0 w bv bw g cap i W x hS hG hT hk hv h8
 ·have e:did W i x=did1 W i x:=by unfold did;rw[if_neg h8]
  rw[e];exact do1_any w0 w bv bw g cap i W x hS hG hk hv ⟨hx.1,hx.2,h8⟩
theorem put_same(W:Wo){i:Nat}(hi:i<W.ses.length):W.put i (W.se i)=W:=by
 obtain⟨rows,ses⟩:=W;unfold Wo.put Wo.se;have hi:i<ses.length:=hi;show(⟨rows,ses.set i (ses.getD i Se.new)⟩:Wo)=⟨rows,ses⟩;rw[getD_at hi,List.set_getElem_self]
structure DoAt(w wx:World)(q:Nat)(r s:Value)(x:St):Prop where
 bel:Below w.heap.size w wx
 bx:Blk wx q 39 #[r,s]
 ax:Blk wx (q+1) 41 #[.int .i64 x.k,.string x.key,.string x.val]
 rw_:Blk wx (q+2) 39 #[.slice none 0 0,.slice none 0 0]
 ra:Blk wx (q+3) 46 #[.int .i64 0,.string ⟨#[]⟩,.int .i64 0]
theorem DoAt.keep{w wx wy:World}{q:Nat}{r s:Value}{x:St}(h:DoAt w wx q r s x)(hb:Below wx.heap.size wx wy):DoAt w wy q r s x:=
 ⟨below_step h.bel leR hb,h.bx.keep hb,h.ax.keep hb,h.rw_.keep hb,h.ra.keep hb⟩
theorem DoAt.start(w:World)(r s:Value)(x:St):DoAt w ((((w.alloc (.cells #[r,s] 39)).alloc (.cells #[.int .i64 x.k,.string x.key,.string x.val] 41)).alloc (.cells #[.slice none 0 0,.slice none 0 0] 39)).alloc (.cells #[.int .i64 0,.string ⟨#[]⟩,.int .i64 0] 46)) w.heap.size r s x:=by
 have e: ∀(u:World) (o:Obj),(u.alloc o).heap.size=u.heap.size+1:=fun u o=>by simp
 have b1:=Blk.new (w.alloc (.cells #[r,s] 39)) 41 #[.int .i64 x.k,.string x.key,.string x.val];have b2:=Blk.new ((w.alloc (.cells #[r,s] 39)).alloc (.cells #[.int .i64 x.k,.string x.key,.string x.val] 41)) 39 #[.slice none 0 0,.slice none 0 0];have b3:=Blk.new (((w.alloc (.cells #[r,s] 39)).alloc (.cells #[.int .i64 x.k,.string x.key,.string x.val] 41)).alloc (.cells #[.slice none 0 0,.slice none 0 0] 39)) 46 #[.int .i64 0,.string ⟨#[]⟩,.int .i64 0];rw[e]at b1;rw[e,e]at b2;rw[e,e,e]at b3;exact⟨((boxed2 w _ _).alloc (by simp;omega) _).alloc (by simp;omega) _,(((Blk.new w _ _).alloc _).alloc _).alloc _,(b1.alloc _).alloc _,b2.alloc _,b3⟩
def DoP(w:World)(W:Wo)(i:Int)(x:St)(e:Ending)(w':World):Prop:=
 ∃r' s' cs,e= .returned (.tuple #[.agg #[r',s'],anV (doR W i x).2,.int .i64 (doE W i x)])∧OPL w' w.heap.size r' (doR W i x).1.rows∧OSL w' w.heap.size s' (doR W i x).1.ses cs∧Below w.heap.size w w'
theorem doR_bad{W:Wo}{i:Int}{x:St}(h:doE W i x≠0):doR W i x=(emptyW,An.no):=by unfold doR;rw[if_neg h]
theorem nilDo(w':World)(B:Nat):OPL w' B (.slice none 0 0) emptyW.rows∧OSL w' B (.slice none 0 0) emptyW.ses []:=⟨OPL.nil_ _ _,World.ownsRow_nil _ _ _ _,rfl⟩
theorem do_bad(w:World)(r s:Value)(W:Wo)(i:Int)(x:St)(hT:Tabs w)(h:WL w w.heap.size r s W)(hi:(Lit.int .i64 i).wf=true)(hk:x.key.size≤maxLen)(hv:x.val.size≤maxLen)(hE:doE W i x≠0):
  Calls Tryz.prog 33 #[.agg #[r,s],.int .i64 i,.agg #[.int .i64 x.k,.string x.key,.string x.val]] w (DoP w W i x):=by
 obtain⟨A,c,er⟩:=h.rows.form;obtain⟨A',c',es,_,hn',_⟩:=h.ses;subst er es;have D0:=Hd (DoAt.start w (.slice A W.rows.length c) (.slice A' W.ses.length c') x);have HW:=Hd h;have HT:=Hd hT;have HKV:=Hd (And.intro hk hv);have HI:=wf_i64 hi;obtain⟨n,hN⟩: ∃n,W.ses.length=n:=⟨_,rfl⟩;rw[hN]at D0 HW hn'⊢;have HN:=Hd hN;obtain⟨K,key,val⟩:=x;obtain⟨q,hq⟩: ∃q,w.heap.size=q:=⟨_,rfl⟩;rw[hq]at D0;have HQ:=Hd hq;have hR:=Hd (doR_bad hE);have HE:=Hd hE;clear hT hk hv hE h hN hi;by_cases hg:goodW W=true
 ·have HC:=Hd (show chkE W=0 by unfold chkE;rw[if_pos hg])
  by_cases hin:0≤i∧i<n
  ·have hd:doE W i ⟨K,key,val⟩=checkE ⟨K,key,val⟩:=by unfold doE;rw[if_pos hg,if_pos (by rw[HN.out];exact hin)]
   have hne:checkE ⟨K,key,val⟩≠0:=by rw[←hd];exact HE.out
   have HD:=Hd hd;obtain⟨Z,hZ⟩: ∃Z,checkE ⟨K,key,val⟩=Z:=⟨_,rfl⟩;rw[hZ]at HD hne;have XZ:=Hd hZ;have g1:=hin.1;have g2:=hin.2;have g3:(Z !=0)=true:=by simpa using hne
   clear hg hin hd hne hZ;go_enter func33,ntmps33
   go_wp2_with fail
   generalize (((w.alloc (.cells #[.slice A W.rows.length c,.slice A' n c'] 39 (0,0))).alloc (.cells #[.int .i64 K,.string key,.string val] 41 (0,0))).alloc (.cells #[.slice none 0 0,.slice none 0 0] 39 (0,0))).alloc (.cells #[.int .i64 0,.string ⟨#[]⟩,.int .i64 0] 46 (0,0))=x0 at D0⊢;refine(check_world _ _ _ W (HT.out.below D0.out.bel) ((HW.out.below D0.out.bel).more D0.out.bel.size)).mono ?_;rintro e x1 ⟨rfl,b1⟩;have D1:=Hd (D0.out.keep b1);clear b1 D0 hq;rw[HC.out];have y1:=D1.out.bx.cell_ 1 _ rfl;have a0:=D1.out.ax.cell_ 0 _ rfl;have a1:=D1.out.ax.cell_ 1 _ rfl;have a2:=D1.out.ax.cell_ 2 _ rfl;go_wp2_with fail
   refine(check_all ⟨K,key,val⟩ _ (HT.out.below D1.out.bel) HKV.out.1 HKV.out.2).mono ?_;rintro e x2 ⟨rfl,b2⟩;have D2:=Hd (D1.out.keep b2);rw[XZ.out];clear b2 y1 a0 a1 a2 D1;have f0:=D2.out.rw_.cell_ 0 _ rfl;have f1:=D2.out.rw_.cell_ 1 _ rfl;have f2:=D2.out.ra.cell_ 0 _ rfl;have f3:=D2.out.ra.cell_ 1 _ rfl;have f4:=D2.out.ra.cell_ 2 _ rfl;have fw:=D2.out.rw_.frozen;have fa:=D2.out.ra.frozen;go_wp2_with fail
   have RW:=(((D2.out.rw_.set_ 0 (.slice none 0 0)).set_ 1 (.slice none 0 0)));have RW2:=((RW.far (p:=⟨q+3,0,none⟩) (show q+2≠q+3 by omega) (.int .i64 0)).far (p:=⟨q+3,1,none⟩) (show q+2≠q+3 by omega) (.string ⟨#[]⟩)).far (p:=⟨q+3,2,none⟩) (show q+2≠q+3 by omega) (.int .i64 0)
   have RA:=(((D2.out.ra.far (p:=⟨q+2,0,none⟩) (show q+3≠q+2 by omega) (.slice none 0 0)).far (p:=⟨q+2,1,none⟩) (show q+3≠q+2 by omega) (.slice none 0 0)).set_ 0 (.int .i64 0)).set_ 1 (.string ⟨#[]⟩) |>.set_ 2 (.int .i64 0)
   have t0:=RW2.cell_ 0 _ rfl;have t1:=RW2.cell_ 1 _ rfl;have t2:=RA.cell_ 0 _ rfl;have t3:=RA.cell_ 1 _ rfl;have t4:=RA.cell_ 2 _ rfl;clear f0 f1 f2 f3 f4 fw fa;refine bodyPost_ret (v:=.tuple #[.agg #[.slice none 0 0,.slice none 0 0],.agg #[.int .i64 0,.string ⟨#[]⟩,.int .i64 0],.int .i64 (Z)]) (by simp[results,results33,go_sem,t0,t1,t2,t3,t4]) rfl ?_
   refine⟨.slice none 0 0,.slice none 0 0,[],?_,?_,?_,?_⟩
   ·rw[hR.out,HD.out];rfl
   ·rw[hR.out];exact(nilDo _ _).1
   ·rw[hR.out];exact(nilDo _ _).2
   ·rw[HQ.out];have hb:=D2.out.bel;rw[HQ.out]at hb;exact((((hb.setCell (p:=⟨q+2,0,none⟩) (Nat.le_add_right _ _) _).setCell (p:=⟨q+2,1,none⟩) (Nat.le_add_right _ _) _).setCell (p:=⟨q+3,0,none⟩) (Nat.le_add_right _ _) _).setCell (p:=⟨q+3,1,none⟩) (Nat.le_add_right _ _) _).setCell (p:=⟨q+3,2,none⟩) (Nat.le_add_right _ _) _
  ·have HD:=Hd (show doE W i ⟨K,key,val⟩=6 by unfold doE;rw[if_pos hg,if_neg (by rw[HN.out];exact hin)])
   by_cases hneg:i<0
   ·clear hg hin;go_enter func33,ntmps33
    go_wp2_with fail
    generalize (((w.alloc (.cells #[.slice A W.rows.length c,.slice A' n c'] 39 (0,0))).alloc (.cells #[.int .i64 K,.string key,.string val] 41 (0,0))).alloc (.cells #[.slice none 0 0,.slice none 0 0] 39 (0,0))).alloc (.cells #[.int .i64 0,.string ⟨#[]⟩,.int .i64 0] 46 (0,0))=x0 at D0⊢;refine(check_world _ _ _ W (HT.out.below D0.out.bel) ((HW.out.below D0.out.bel).more D0.out.bel.size)).mono ?_;rintro e x1 ⟨rfl,b1⟩;have D1:=Hd (D0.out.keep b1);clear b1 D0 hq;rw[HC.out];have y1:=D1.out.bx.cell_ 1 _ rfl;have f0:=D1.out.rw_.cell_ 0 _ rfl;have f1:=D1.out.rw_.cell_ 1 _ rfl;have f2:=D1.out.ra.cell_ 0 _ rfl;have f3:=D1.out.ra.cell_ 1 _ rfl;have f4:=D1.out.ra.cell_ 2 _ rfl;have fw:=D1.out.rw_.frozen;have fa:=D1.out.ra.frozen;go_wp2_with fail
    have RW:=(((D1.out.rw_.set_ 0 (.slice none 0 0)).set_ 1 (.slice none 0 0)));have RW2:=((RW.far (p:=⟨q+3,0,none⟩) (show q+2≠q+3 by omega) (.int .i64 0)).far (p:=⟨q+3,1,none⟩) (show q+2≠q+3 by omega) (.string ⟨#[]⟩)).far (p:=⟨q+3,2,none⟩) (show q+2≠q+3 by omega) (.int .i64 0)
    have RA:=(((D1.out.ra.far (p:=⟨q+2,0,none⟩) (show q+3≠q+2 by omega) (.slice none 0 0)).far (p:=⟨q+2,1,none⟩) (show q+3≠q+2 by omega) (.slice none 0 0)).set_ 0 (.int .i64 0)).set_ 1 (.string ⟨#[]⟩) |>.set_ 2 (.int .i64 0)
    have t0:=RW2.cell_ 0 _ rfl;have t1:=RW2.cell_ 1 _ rfl;have t2:=RA.cell_ 0 _ rfl;have t3:=RA.cell_ 1 _ rfl;have t4:=RA.cell_ 2 _ rfl;clear f0 f1 f2 f3 f4 fw fa;refine bodyPost_ret (v:=.tuple #[.agg #[.slice none 0 0,.slice none 0 0],.agg #[.int .i64 0,.string ⟨#[]⟩,.int .i64 0],.int .i64 (6)]) (by simp[results,results33,go_sem,t0,t1,t2,t3,t4]) rfl ?_
    refine⟨.slice none 0 0,.slice none 0 0,[],?_,?_,?_,?_⟩
    ·rw[hR.out,HD.out];rfl
    ·rw[hR.out];exact(nilDo _ _).1
    ·rw[hR.out];exact(nilDo _ _).2
    ·rw[HQ.out];have hb:=D1.out.bel;rw[HQ.out]at hb;exact((((hb.setCell (p:=⟨q+2,0,none⟩) (Nat.le_add_right _ _) _).setCell (p:=⟨q+2,1,none⟩) (Nat.le_add_right _ _) _).setCell (p:=⟨q+3,0,none⟩) (Nat.le_add_right _ _) _).setCell (p:=⟨q+3,1,none⟩) (Nat.le_add_right _ _) _).setCell (p:=⟨q+3,2,none⟩) (Nat.le_add_right _ _) _
   ·have g1:0≤i:=by omega
    have g2:(n:Int)≤i:=by omega
    clear hg hin hneg;go_enter func33,ntmps33
    go_wp2_with fail
    generalize (((w.alloc (.cells #[.slice A W.rows.length c,.slice A' n c'] 39 (0,0))).alloc (.cells #[.int .i64 K,.string key,.string val] 41 (0,0))).alloc (.cells #[.slice none 0 0,.slice none 0 0] 39 (0,0))).alloc (.cells #[.int .i64 0,.string ⟨#[]⟩,.int .i64 0] 46 (0,0))=x0 at D0⊢;refine(check_world _ _ _ W (HT.out.below D0.out.bel) ((HW.out.below D0.out.bel).more D0.out.bel.size)).mono ?_;rintro e x1 ⟨rfl,b1⟩;have D1:=Hd (D0.out.keep b1);clear b1 D0 hq;rw[HC.out];have y1:=D1.out.bx.cell_ 1 _ rfl;have f0:=D1.out.rw_.cell_ 0 _ rfl;have f1:=D1.out.rw_.cell_ 1 _ rfl;have f2:=D1.out.ra.cell_ 0 _ rfl;have f3:=D1.out.ra.cell_ 1 _ rfl;have f4:=D1.out.ra.cell_ 2 _ rfl;have fw:=D1.out.rw_.frozen;have fa:=D1.out.ra.frozen;go_wp2_with fail
    have RW:=(((D1.out.rw_.set_ 0 (.slice none 0 0)).set_ 1 (.slice none 0 0)));have RW2:=((RW.far (p:=⟨q+3,0,none⟩) (show q+2≠q+3 by omega) (.int .i64 0)).far (p:=⟨q+3,1,none⟩) (show q+2≠q+3 by omega) (.string ⟨#[]⟩)).far (p:=⟨q+3,2,none⟩) (show q+2≠q+3 by omega) (.int .i64 0)
    have RA:=(((D1.out.ra.far (p:=⟨q+2,0,none⟩) (show q+3≠q+2 by omega) (.slice none 0 0)).far (p:=⟨q+2,1,none⟩) (show q+3≠q+2 by omega) (.slice none 0 0)).set_ 0 (.int .i64 0)).set_ 1 (.string ⟨#[]⟩) |>.set_ 2 (.int .i64 0)
    have t0:=RW2.cell_ 0 _ rfl;have t1:=RW2.cell_ 1 _ rfl;have t2:=RA.cell_ 0 _ rfl;have t3:=RA.cell_ 1 _ rfl;have t4:=RA.cell_ 2 _ rfl;clear f0 f1 f2 f3 f4 fw fa;refine bodyPost_ret (v:=.tuple #[.agg #[.slice none 0 0,.slice none 0 0],.agg #[.int .i64 0,.string ⟨#[]⟩,.int .i64 0],.int .i64 (6)]) (by simp[results,results33,go_sem,t0,t1,t2,t3,t4]) rfl ?_
    refine⟨.slice none 0 0,.slice none 0 0,[],?_,?_,?_,?_⟩
    ·rw[hR.out,HD.out];rfl
    ·rw[hR.out];exact(nilDo _ _).1
    ·rw[hR.out];exact(nilDo _ _).2
    ·rw[HQ.out];have hb:=D1.out.bel;rw[HQ.out]at hb;exact((((hb.setCell (p:=⟨q+2,0,none⟩) (Nat.le_add_right _ _) _).setCell (p:=⟨q+2,1,none⟩) (Nat.le_add_right _ _) _).setCell (p:=⟨q+3,0,none⟩) (Nat.le_add_right _ _) _).setCell (p:=⟨q+3,1,none⟩) (Nat.le_add_right _ _) _).setCell (p:=⟨q+3,2,none⟩) (Nat.le_add_right _ _) _
 ·have HC:=Hd (show chkE W=5 by unfold chkE;rw[if_neg hg])
  have HD:=Hd (show doE W i ⟨K,key,val⟩=5 by unfold doE;rw[if_neg hg])
  clear hg;go_enter func33,ntmps33
  go_wp2_with fail
  generalize (((w.alloc (.cells #[.slice A W.rows.length c,.slice A' n c'] 39 (0,0))).alloc (.cells #[.int .i64 K,.string key,.string val] 41 (0,0))).alloc (.cells #[.slice none 0 0,.slice none 0 0] 39 (0,0))).alloc (.cells #[.int .i64 0,.string ⟨#[]⟩,.int .i64 0] 46 (0,0))=x0 at D0⊢;refine(check_world _ _ _ W (HT.out.below D0.out.bel) ((HW.out.below D0.out.bel).more D0.out.bel.size)).mono ?_;rintro e x1 ⟨rfl,b1⟩;have D1:=Hd (D0.out.keep b1);clear b1 D0 hq;rw[HC.out];have f0:=D1.out.rw_.cell_ 0 _ rfl;have f1:=D1.out.rw_.cell_ 1 _ rfl;have f2:=D1.out.ra.cell_ 0 _ rfl;have f3:=D1.out.ra.cell_ 1 _ rfl;have f4:=D1.out.ra.cell_ 2 _ rfl;have fw:=D1.out.rw_.frozen;have fa:=D1.out.ra.frozen;go_wp2_with fail
  have RW:=(((D1.out.rw_.set_ 0 (.slice none 0 0)).set_ 1 (.slice none 0 0)));have RW2:=((RW.far (p:=⟨q+3,0,none⟩) (show q+2≠q+3 by omega) (.int .i64 0)).far (p:=⟨q+3,1,none⟩) (show q+2≠q+3 by omega) (.string ⟨#[]⟩)).far (p:=⟨q+3,2,none⟩) (show q+2≠q+3 by omega) (.int .i64 0)
  have RA:=(((D1.out.ra.far (p:=⟨q+2,0,none⟩) (show q+3≠q+2 by omega) (.slice none 0 0)).far (p:=⟨q+2,1,none⟩) (show q+3≠q+2 by omega) (.slice none 0 0)).set_ 0 (.int .i64 0)).set_ 1 (.string ⟨#[]⟩) |>.set_ 2 (.int .i64 0)
  have t0:=RW2.cell_ 0 _ rfl;have t1:=RW2.cell_ 1 _ rfl;have t2:=RA.cell_ 0 _ rfl;have t3:=RA.cell_ 1 _ rfl;have t4:=RA.cell_ 2 _ rfl;clear f0 f1 f2 f3 f4 fw fa;refine bodyPost_ret (v:=.tuple #[.agg #[.slice none 0 0,.slice none 0 0],.agg #[.int .i64 0,.string ⟨#[]⟩,.int .i64 0],.int .i64 (5)]) (by simp[results,results33,go_sem,t0,t1,t2,t3,t4]) rfl ?_
  refine⟨.slice none 0 0,.slice none 0 0,[],?_,?_,?_,?_⟩
  ·rw[hR.out,HD.out];rfl
  ·rw[hR.out];exact(nilDo _ _).1
  ·rw[hR.out];exact(nilDo _ _).2
  ·rw[HQ.out];have hb:=D1.out.bel;rw[HQ.out]at hb;exact((((hb.setCell (p:=⟨q+2,0,none⟩) (Nat.le_add_right _ _) _).setCell (p:=⟨q+2,1,none⟩) (Nat.le_add_right _ _) _).setCell (p:=⟨q+3,0,none⟩) (Nat.le_add_right _ _) _).setCell (p:=⟨q+3,1,none⟩) (Nat.le_add_right _ _) _).setCell (p:=⟨q+3,2,none⟩) (Nat.le_add_right _ _) _
end Go.Proofs.YtjbnfigpflambacGreatDoor
