/- The walk of PoolRuns: it returns true. Conditions: those of each lemma. -/
import Derived.Test.YtjbnfigpflambacGreatDoorH41
namespace Go.Proofs.YtjbnfigpflambacGreatDoor
set_option maxRecDepth 100000
set_option maxHeartbeats 16000000
open _root_.Go.Proofs.Tryz
open Go.ChangeShapes Go.WideShapes Go.ChangeAt Go.RowKit
theorem act_info:(Tryz.prog.info? 54).map (fun i=>(i.zero,i.size,i.bytes))=some (some (.agg #[.int .i64 0,.int .i64 0,.string ⟨#[]⟩]),3,32):=by kernel_rfl
structure PoS(wr wx:World)(z:Option Nat)(av:Option (Value × List Ac))(X:Option (Value × Value × Value × Outc)):Prop where
 hb:Below wr.heap.size wr wx
 bz: ∀q,z=some q→Blk wx q 29 #[.slice none 0 0,.slice none 0 0,.slice none 0 0]∧wr.heap.size≤q
 av: ∀v l,av=some (v,l)→AcL wx wx.heap.size v l
 out: ∀vs vd vr o,X=some (vs,vd,vr,o)→OutR wx wr.heap.size vs vd vr o
section
variable {wr wx wy:World}{z:Option Nat}{av:Option (Value × List Ac)}{X:Option (Value × Value × Value × Outc)}
theorem PoS.start(wr:World):PoS wr wr none none none:=⟨bR,fun _ h=>(by cases h),fun _ _ h=>(by cases h),fun _ _ _ _ h=>(by cases h)⟩
theorem PoS.keep(h:PoS wr wx z av X)(hb:Below wx.heap.size wx wy):PoS wr wy z av X:=
 ⟨below_step h.hb leR hb,fun q hq=>⟨(h.bz q hq).1.keep hb,(h.bz q hq).2⟩,fun v l e=>((h.av v l e).below hb).more hb.size,fun vs vd vr o e=>(h.out vs vd vr o e).kept hb⟩
theorem PoS.fz(h:PoS wr wx none av X):PoS wr (wx.alloc (.cells #[.slice none 0 0,.slice none 0 0,.slice none 0 0] 29)) (some wx.heap.size) av X:=by
 have k:=h.keep (boxed wx (.cells #[.slice none 0 0,.slice none 0 0,.slice none 0 0] 29));exact⟨k.hb,fun q hq=>(by injection hq with hq;subst hq;exact⟨Blk.new wx _ _,h.hb.size⟩),k.av,k.out⟩
theorem PoS.app(h:PoS wr wx z av X)(hb:Below wx.heap.size wx wy){v:Value}{l:List Ac}(o:AcL wy wy.heap.size v l):PoS wr wy z (some (v,l)) X:=by
 have k:=h.keep hb;exact⟨k.hb,k.bz,fun v' l' e=>(by injection e with e;injection e with e1 e2;subst e1 e2;exact o),k.out⟩
theorem OutR.low{w:World}{B B':Nat}{vs vd vr:Value}{o:Outc}(h:OutR w B' vs vd vr o)(hB:B≤B'):OutR w B vs vd vr o:=⟨h.sent.low hB,h.deeds.low hB,h.rows.base hB⟩
theorem PoS.play{vs vd vr:Value}{o:Outc}(h:PoS wr wx z av X)(o1:OutR wy wx.heap.size vs vd vr o)(hb:Below wx.heap.size wx wy):PoS wr wy z av (some (vs,vd,vr,o)):=by
 have k:=h.keep hb;refine⟨k.hb,k.bz,k.av,fun vs' vd' vr' o' e=>?_⟩;injection e with e;injection e with e1 e;injection e with e2 e;injection e with e3 e4;subst e1 e2 e3 e4;exact o1.low h.hb.size
structure PoN(w0 wx:World)(z:Nat)(vs vd vr:Value)(o:Outc):Prop where
 hb:Below w0.heap.size w0 wx
 box:Blk wx z 29 #[vs,vd,vr]
 out:OutR wx w0.heap.size vs vd vr o
theorem PoS.fin{q:Nat}{vs vd vr:Value}{o:Outc}(h:PoS wr wx (some q) av (some (vs,vd,vr,o)))(e:wy=((wx.setCell ⟨q,0,none⟩ vs).setCell ⟨q,1,none⟩ vd).setCell ⟨q,2,none⟩ vr):PoN wr wy q vs vd vr o:=by
 subst e;obtain⟨b,lb⟩:=h.bz _ rfl;have s0:=b.set_ 0 vs;have s1:=s0.set_ 1 vd;have k: ∀t,29≠t→Keeps t wx (((wx.setCell ⟨q,0,none⟩ vs).setCell ⟨q,1,none⟩ vd).setCell ⟨q,2,none⟩ vr):=fun t ht=>
  ((Keeps.set_ (p:=⟨q,0,none⟩) b ht vs).trans (Keeps.set_ (p:=⟨q,1,none⟩) s0 ht vd)).trans (Keeps.set_ (p:=⟨q,2,none⟩) s1 ht vr)
 have o1:=h.out _ _ _ _ rfl;exact⟨((h.hb.setCell (p:=⟨q,0,none⟩) lb _).setCell (p:=⟨q,1,none⟩) lb _).setCell (p:=⟨q,2,none⟩) lb _,s1.set_ 2 vr,⟨o1.sent.ofK (k _ (by decide)),o1.deeds.ofK (k _ (by decide)),o1.rows.keeps (k _ (by decide))⟩⟩
end
theorem owno_acl{w:World}{B n:Nat}{v:Value}{l:List Ac}(h:OwnO w B 54 3 v n (acV l)):AcL w w.heap.size v l:=by
 have hn:l.length=n:=by have:=h.1;rw[acV_length]at this;omega
 subst hn;obtain⟨A,c,rfl,_,r⟩:=h.reads;refine⟨A,c,rfl,fun hn=>?_⟩;obtain⟨ad,e,hb,hc⟩:=r.2 hn;refine⟨ad,e,hb,fun i hi=>?_⟩;obtain⟨a0,a1,a2⟩:=acV_at l i hi;have ea: ∀j,(⟨(ad.add (i*3)).block,(ad.add (i*3)).off+(j+1),none⟩:Addr)=(ad.add (i*3)).add (j+1):=fun j=>rfl;refine⟨hc _ _ a0,?_,?_⟩
 ·rw[ea 0,add_of_add];exact hc _ _ a1
 ·rw[ea 1,add_of_add];exact hc _ _ a2
theorem poolRuns_walk(W0:World)(hT:Tabs W0)(md:Int)(_wmd:(Lit.int .i64 md).wf=true)(s:Int)(_ws:(Lit.int .i64 s).wf=true)(v:Value)(l:List Ac)(hl:AcW W0 v l):
  Calls Tryz.prog 3 #[.agg #[.int .i64 md,.int .i64 s],v] W0 fun e w'=>e= .returned (.bool true)∧Below W0.heap.size W0 w':=by
 have HT:=Hd hT;have HW:=Hd hl;obtain⟨A,cap,rfl,_⟩:=hl.acl;obtain⟨L,hL⟩: ∃n,l.length=n:=⟨_,rfl⟩;rw[hL]at HW⊢;have HL:=Hd hL;clear hT hl hL;go_enter func3,ntmps3
 go_wp2_with fail
 refine(runs_any _ 1 1 (.slice none 0 0) [] ⟨none,0,rfl,fun h=>absurd h (by simp)⟩ (HT.out.alloc _)).mono ?_
 rintro e w1 ⟨vs,vd,vr,rfl,o1,b1⟩;have e0:scriptE 1 1 []=0:=by decide
 have hs6:(outS 1 1 []).sent.length=6:=by unfold outS;rw[if_pos e0];rfl
 have h6:=o1.sent;rw[hs6]at h6;obtain⟨As,ks,es,_⟩:=h6.form;obtain⟨Ad,kd,ed,_⟩:=o1.deeds.form;obtain⟨Ar,kr,er⟩:=o1.rows.form;subst es ed er;rw[e0];obtain⟨nd,hnd⟩: ∃n,(outS 1 1 []).deeds.length=n:=⟨_,rfl⟩;obtain⟨nr,hnr⟩: ∃n,(outS 1 1 []).rows.length=n:=⟨_,rfl⟩;rw[hnd,hnr];have B1:=Hd (below_step (boxed W0 (.cells #[.int .i64 md,.int .i64 s] 23)) leR b1);have U1:=Hd ((Blk.new W0 23 #[.int .i64 md,.int .i64 s]).keep b1);clear o1 h6 b1 hs6 hnd hnr e0;go_upto_region 4 with fail
 have B2:=Hd (below_step B1.out leR (boxed w1 (.cells #[.slice As 6 ks,.slice Ad nd kd,.slice Ar nr kr] 29)));have U2:=Hd (U1.out.keep (boxed w1 (.cells #[.slice As 6 ks,.slice Ad nd kd,.slice Ar nr kr] 29)));clear B1 U1;generalize World.alloc _ _=w2 at B2 U2⊢;go_cut [7,8] (fun p7 e8 wx=>∃z7 us ud ur,p7= .pointer (some ⟨z7,0,none⟩)∧e8= .int .i64 (scriptE md s l)∧PoN w2 wx z7 us ud ur (outS md s l))
 case first=>
  have s0:=U2.out.cell_ 0 _ rfl;have s1:=U2.out.cell_ 1 _ rfl;have HLB:=Hd (show L≤4398046510976 by rw[←HL.out];exact HW.out.len)
  have HRD:=Hd (fun(u:World) (hb:Below W0.heap.size W0 u)=>show Reads u u.heap.size 3 A L (acV l)by
   obtain⟨A',c',e,r⟩:=((HW.out.acl.below hb).more hb.size).reads;rw[HL.out]at e r;injection e with e1 _ _;subst e1;exact r)
  obtain⟨i0,hi0,hz0,hz1,hz2⟩:=info_parts act_info;refine region_sg [8] ?_;refine anyB_sg [0,1] 8 ?_;go_wp2_with fail
  refine sg_o ?_;clear s0 s1;have S0:=Hd ((PoS.start w2).keep bR.drew);have B1Z:=Hd B2.out.drew;generalize hw0:w2.drew=x0 at S0 B1Z⊢;refine anyB_tw 2 7 (fun K hK=>?_) fun K hK=>?_
  ·rw[if_pos (by rfl)]
   refine wp_append_o _ _ _ _ rfl x0.heap.size 54 i0 _ 3 32 underlying24 hi0 hz0 hz1 hz2 rfl (by decide) (.slice none 0 0) 0 [] rfl (OwnO.nil _ _ _ _) x0.heap.size A L cap (acV l) rfl ((HRD.out _ (B2.out.trans (S0.out.hb.mono B2.out.size)))) (acV_one l) (by have:=HLB.out;unfold maxLen;omega) (by have:=HLB.out;omega) leR ?_
   intro v' x1 ho hg hn';have hb:Below x0.heap.size x0 x1:=bR.grown hg leR (fun k hk=>by simp[Value.ownBlock]at hk)
   refine thK hK hb ?_;clear hK K;have S1:=Hd (S0.out.app hb (v:=v') (l:=l) (owno_acl (by simpa[HL.out]using ho)))
   clear ho hg hn' hb S0;refine anyB_tw 3 7 (fun K hK=>?_) fun K hK=>?_
   ·go_simp;refine(runs_any x1 md s v' l (S1.out.av _ _ rfl) (HT.out.below (B2.out.trans (S1.out.hb.mono B2.out.size)))).mono ?_;rintro e x2 ⟨us,ud,ur,rfl,o2,b2⟩;refine thK hK b2 ?_;clear hK K;obtain⟨Eu,eu,e1,_⟩:=o2.sent.form;obtain⟨Ev,ev,e2,_⟩:=o2.deeds.form;obtain⟨Ew,ew,e3⟩:=o2.rows.form;subst e1 e2 e3;have S2:=Hd (S1.out.play o2 b2);clear o2 b2 S1;refine anyB_sg [4,5,6] 3 ?_;go_wp2_with fail
    refine sg_o ?_;refine anyB_on 7 fun K hK=>?_;go_simp;refine thK hK (boxed _ _) ?_;clear hK K;have S3:=Hd S2.out.fz;obtain⟨z7,hz⟩: ∃z,x2.heap.size=z:=⟨_,rfl⟩;rw[hz]at S3⊢;generalize World.alloc _ _=x3 at S3⊢;clear S2 hz;obtain⟨bz,-⟩:=S3.out.bz _ rfl;have f0:=bz.cell_ 0 _ rfl;have f1:=bz.cell_ 1 _ rfl;have f2:=bz.cell_ 2 _ rfl;have ff:=bz.frozen;clear bz;refine anyB_on 8 fun K hK=>?_;go_simp;refine lateK hK ?_;clear hK K;refine anyB_sg [9] 0 ?_;go_wp2_with fail
    refine sg_o ?_;refine anyB_dn ?_;have FN:=Hd (S3.out.fin rfl);clear f0 f1 f2 ff S3;generalize World.setCell _ _ _=x9 at FN⊢;go_wp2_with fail
    go_meet;exact⟨z7,_,_,_,rfl,by first|rfl|trivial,FN.out⟩
   ·go_simp;refine thK hK (boxed _ _) ?_;clear hK K;have S2:=Hd S1.out.fz;obtain⟨z7,hz⟩: ∃z,x1.heap.size=z:=⟨_,rfl⟩;rw[hz]at S2⊢;generalize World.alloc _ _=x2 at S2⊢;clear S1 hz;refine anyB_on 3 fun K hK=>?_;go_simp;refine(runs_any x2 md s v' l (S2.out.av _ _ rfl) (HT.out.below (B2.out.trans (S2.out.hb.mono B2.out.size)))).mono ?_;rintro e x3 ⟨us,ud,ur,rfl,o2,b2⟩;refine thK hK b2 ?_;clear hK K;obtain⟨Eu,eu,e1,_⟩:=o2.sent.form;obtain⟨Ev,ev,e2,_⟩:=o2.deeds.form;obtain⟨Ew,ew,e3⟩:=o2.rows.form;subst e1 e2 e3;have S3:=Hd (S2.out.play o2 b2);clear o2 b2 S2;refine anyB_sg [4,5,6] 2 ?_;go_wp2_with fail
    refine sg_o ?_;obtain⟨bz,-⟩:=S3.out.bz _ rfl;have f0:=bz.cell_ 0 _ rfl;have f1:=bz.cell_ 1 _ rfl;have f2:=bz.cell_ 2 _ rfl;have ff:=bz.frozen;clear bz;refine anyB_on 8 fun K hK=>?_;go_simp;refine lateK hK ?_;clear hK K;refine anyB_sg [9] 0 ?_;go_wp2_with fail
    refine sg_o ?_;refine anyB_dn ?_;have FN:=Hd (S3.out.fin rfl);clear f0 f1 f2 ff S3;generalize World.setCell _ _ _=x9 at FN⊢;go_wp2_with fail
    go_meet;exact⟨z7,_,_,_,rfl,by first|rfl|trivial,FN.out⟩
  ·go_simp;refine thK hK (boxed _ _) ?_;clear hK K;have S1:=Hd S0.out.fz;obtain⟨z7,hz⟩: ∃z,x0.heap.size=z:=⟨_,rfl⟩;rw[hz]at S1⊢;generalize World.alloc _ _=x1 at S1⊢;clear S0 hz;refine anyB_on 2 fun K hK=>?_;rw[if_pos (by rfl)]
   refine wp_append_o _ _ _ _ rfl x1.heap.size 54 i0 _ 3 32 underlying24 hi0 hz0 hz1 hz2 rfl (by decide) (.slice none 0 0) 0 [] rfl (OwnO.nil _ _ _ _) x1.heap.size A L cap (acV l) rfl ((HRD.out _ (B2.out.trans (S1.out.hb.mono B2.out.size)))) (acV_one l) (by have:=HLB.out;unfold maxLen;omega) (by have:=HLB.out;omega) leR ?_
   intro v' x2 ho hg hn';have hb:Below x1.heap.size x1 x2:=bR.grown hg leR (fun k hk=>by simp[Value.ownBlock]at hk)
   refine thK hK hb ?_;clear hK K;have S2:=Hd (S1.out.app hb (v:=v') (l:=l) (owno_acl (by simpa[HL.out]using ho)))
   clear ho hg hn' hb S1;refine anyB_on 3 fun K hK=>?_;go_simp;refine(runs_any x2 md s v' l (S2.out.av _ _ rfl) (HT.out.below (B2.out.trans (S2.out.hb.mono B2.out.size)))).mono ?_;rintro e x3 ⟨us,ud,ur,rfl,o2,b2⟩;refine thK hK b2 ?_;clear hK K;obtain⟨Eu,eu,e1,_⟩:=o2.sent.form;obtain⟨Ev,ev,e2,_⟩:=o2.deeds.form;obtain⟨Ew,ew,e3⟩:=o2.rows.form;subst e1 e2 e3;have S3:=Hd (S2.out.play o2 b2);clear o2 b2 S2;refine anyB_sg [4,5,6] 2 ?_;go_wp2_with fail
   refine sg_o ?_;obtain⟨bz,-⟩:=S3.out.bz _ rfl;have f0:=bz.cell_ 0 _ rfl;have f1:=bz.cell_ 1 _ rfl;have f2:=bz.cell_ 2 _ rfl;have ff:=bz.frozen;clear bz;refine anyB_on 8 fun K hK=>?_;go_simp;refine lateK hK ?_;clear hK K;refine anyB_sg [9] 0 ?_;go_wp2_with fail
   refine sg_o ?_;refine anyB_dn ?_;have FN:=Hd (S3.out.fin rfl);clear f0 f1 f2 ff S3;generalize World.setCell _ _ _=x9 at FN⊢;go_wp2_with fail
   go_meet;exact⟨z7,_,_,_,rfl,by first|rfl|trivial,FN.out⟩
 case rest=>
  obtain⟨z7,us,ud,ur,rfl,rfl,n7⟩:=hcut;have N7:=Hd n7;have B3:=Hd (below_step B2.out leR n7.hb);have U3:=Hd (U2.out.keep n7.hb);have s0:=U3.out.cell_ 0 _ rfl;have s1:=U3.out.cell_ 1 _ rfl;have HAC:=Hd ((HW.out.acl.below B3.out).more B3.out.size);clear n7 U2;go_wp2_with fail
  refine(script_any wc md s (.slice A L cap) l ⟨HAC.out,HW.out.len,HW.out.all⟩ (HT.out.below B3.out)).mono ?_;rintro e w5 ⟨xs,xd,xr,rfl,o5,b5⟩;obtain⟨Eu,eu,e1,_⟩:=N7.out.out.sent.form;obtain⟨Ev,ev,e2,_⟩:=N7.out.out.deeds.form;obtain⟨Ew,ew,e3⟩:=N7.out.out.rows.form;obtain⟨Fu,fu,e4,_⟩:=o5.sent.form;obtain⟨Fv,fv,e5,_⟩:=o5.deeds.form;obtain⟨Fw,fw,e6⟩:=o5.rows.form;subst e1 e2 e3 e4 e5 e6;have O7:=Hd (N7.out.out.kept b5);have O5:=Hd o5;have B5:=Hd (below_step B3.out leR b5);have X7:=Hd (N7.out.box.keep b5);obtain⟨SE,hSE⟩: ∃e,scriptE md s l=e:=⟨_,rfl⟩;rw[hSE];clear o5 b5 hSE s0 s1;go_upto_region 6 with fail
  have hbx:=boxed w5 (.cells #[.slice Fu (outS md s l).sent.length fu,.slice Fv (outS md s l).deeds.length fv,.slice Fw (outS md s l).rows.length fw] 29);have X9:=Hd (Blk.new w5 29 #[.slice Fu (outS md s l).sent.length fu,.slice Fv (outS md s l).deeds.length fv,.slice Fw (outS md s l).rows.length fw]);have X72:=Hd (X7.out.keep hbx);have O72:=Hd (O7.out.kept hbx);have O52:=Hd (O5.out.kept hbx);have B6:=Hd (below_step B5.out leR hbx);obtain⟨z9,hz9⟩: ∃z,w5.heap.size=z:=⟨_,rfl⟩;rw[hz9]at X9⊢;clear hbx hz9 X7 O7 O5 B5;generalize World.alloc _ _=w6 at X9 X72 O72 O52 B6⊢;have f0:=X72.out.cell_ 0 _ rfl;have f1:=X72.out.cell_ 1 _ rfl;have f2:=X72.out.cell_ 2 _ rfl;have k0:=X9.out.cell_ 0 _ rfl;have k1:=X9.out.cell_ 1 _ rfl;have k2:=X9.out.cell_ 2 _ rfl;go_wp2_with fail
  refine(same_any w6 _ _ _ _ _ _ _ _ (outS md s l) O72.out O52.out).mono ?_;rintro e w7 ⟨rfl,b7⟩;have B7:=Hd (below_step B6.out leR b7);clear b7 f0 f1 f2 k0 k1 k2;go_wp2_with fail
  go_ret;exact⟨rfl,B7.out⟩
end Go.Proofs.YtjbnfigpflambacGreatDoor
