/- Reference's house: a guest is told. Reference's did at Commit and Rollback. Reference's did at Set. Reference's did at Prep. Conditions: those of each lemma. -/
import Derived.Test.YtjbnfigpflambacGreatDoorH15
import Derived.Test.YtjbnfigpflambacGreatDoorH16
namespace Go.Proofs.YtjbnfigpflambacGreatDoor
set_option maxRecDepth 100000
set_option maxHeartbeats 16000000
open _root_.Go.Proofs.Tryz
open Go.ChangeShapes Go.WideShapes Go.ChangeAt Go.RowKit
theorem told_any(k:Int)(t:ByteArray)(st:Int)(w:World)(hm:t.size≤maxLen):
  Calls Tryz.prog 131 #[.agg #[.int .i64 k,.string t,.int .i64 st]] w fun e w'=>∃er,e= .returned (.tuple #[.string (tellS k t st),.int .i64 er])∧Below w.heap.size w w':=by
 unfold tellS;by_cases h:fitA k t st=true
 ·rw[if_pos h];obtain⟨h1,h2,h3,h4,h5,h6⟩:=(fit_iff k t st).1 h;exact(told_ok k t st w h1 h2 h3 h4 h5 h6).mono fun e w' ⟨e1,hb⟩=>⟨_,e1,hb⟩
 ·rw[if_neg h];by_cases c1:k<1∨4<k∨st<0∨2<st
  ·exact(told_kind k t st w c1).mono fun e w' ⟨e1,hb⟩=>⟨_,e1,hb⟩
  ·refine(told_form k t st w (by omega) (by omega) (by omega) (by omega) ?_ hm).mono fun e w' ⟨e1,hb⟩=>⟨_,e1,hb⟩
   rintro⟨h5,h6⟩;exact h ((fit_iff k t st).2 ⟨by omega,by omega,by omega,by omega,h5,h6⟩)
theorem tellF_c(f:Fr)(c:Nat)(a:An)(hl:f.cl.length=6)(hc:c<6)(j:Nat):(f.tell c a).c j=if j=c then(f.c c).tell a else f.c j:=by
 by_cases e:j=c
 ·subst e;have:j<f.cl.length:=by omega
  simp[Fr.tell,Fr.set,Fr.c,List.getD,this]
 ·have e':c≠j:=fun h=>e h.symm;simp[Fr.tell,Fr.set,Fr.c,List.getD,e,List.getElem?_set_ne e']
theorem htell_any(w:World)(B p ga gs cap:Nat)(V:HoV)(cs:List Value)(f:Fr)(h:Wo)(H:HouR w B p ga gs cap V cs f h)(hl:f.cl.length=6)(c:Nat)(hc:c<6)(a:An)(ha:a.text.size≤maxLen)(hm:(f.c c).sent.size≤1000000000):
  Calls Tryz.prog 107 #[.pointer (some ⟨p,0,none⟩),.int .i64 (c:Nat),.agg #[.int .i64 a.kind,.string a.text,.int .i64 a.st]] w fun e w'=>e= .returned (.tuple #[])∧HouR w' B p ga gs cap V cs (f.tell c a) h∧HouF B w w':=by
 have HR:=Hd H;have HA:=Hd ha;have HL:=Hd hl;have hz:=tellS_size a.kind a.text a.st;have hz2:=tellM_size a;have HM:=Hd hm;have g1:(c:Int)<6:=by omega
 have g2:(0:Int)≤(c:Int):=by omega
 have e0:packS 82 (tellS a.kind a.text a.st)=tellM a:=rfl;have E0:=Hd e0;obtain⟨F,hF⟩: ∃u,f.tell c a=u:=⟨_,rfl⟩;have hFc:=fun j=>tellF_c f c a hl hc j;rw[hF]at hFc⊢;have m1:F.mode=f.mode:=by rw[←hF];rfl
 have m2:F.owner=f.owner:=by rw[←hF];rfl
 have m3:F.wait=f.wait:=by rw[←hF];rfl
 have m4:F.deeds=f.deeds:=by rw[←hF];rfl
 have M4:=Hd (And.intro m1 (And.intro m2 (And.intro m3 m4)));obtain⟨u,hu⟩: ∃u,tellM a=u:=⟨_,rfl⟩;have hs:(F.c c).sent=(f.c c).sent++u:=by rw[hFc c,if_pos rfl,←hu];rfl
 have hj: ∀j,(F.c j).bytes=(f.c j).bytes∧(F.c j).pend=(f.c j).pend∧(F.c j).srv=(f.c j).srv∧(j≠c→(F.c j).sent=(f.c j).sent):=fun j=>by
  rw[hFc j];by_cases e:j=c
  ·subst e;rw[if_pos rfl];exact⟨rfl,rfl,rfl,fun h=>absurd rfl h⟩
  ·rw[if_neg e];exact⟨rfl,rfl,rfl,fun _=>rfl⟩
 have HJ:=Hd (And.intro hs hj);rw[hu]at E0 hz2;obtain⟨K,T,S⟩:=a;have HZ:=Hd hz;have HZ2:=Hd hz2;have hB:B≤w.heap.size:=Nat.le_trans H.lb.1 (Nat.le_of_lt (World.block_lt_of_cell? w _ (H.blk.cell_ 0 _ rfl)));have HB:=Hd hB;clear H ha hz hz2 e0 hm hu hF hFc hs hj m1 m2 m3 m4 hl hB;go_enter func107,ntmps107
 go_wp2_with fail
 refine(told_any _ _ _ _ HA.out).mono ?_;rintro e w1 ⟨er,rfl,b1⟩;have R1:=Hd ((HR.out.below (boxed w _)).below b1);have T1:=Hd (((HouF.of_below (boxed w _) HB.out).trans (.of_below b1 (Nat.le_trans HB.out (boxed w _).size))));have B1:=Hd (Nat.le_trans HB.out T1.out.size);clear b1;go_wp2_with fail
 have pk:=packed_any 82 (tellS K T S) w1 (Nat.le_trans HZ.out (by decide))
 rw[show packS 82 (tellS K T S)=u from E0.out]at pk;refine pk.mono ?_;rintro e w2 ⟨rfl,b2⟩;have R2:=Hd (R1.out.below b2);have T2:=Hd (T1.out.trans (.of_below b2 B1.out));clear b2 pk;have y4:w2.cell? ⟨p,4,none⟩=some (.slice (some ⟨ga,0,none⟩) 6 6):=R2.out.blk.cell_ 4 _ rfl;have x3:w2.cell? ⟨ga,c*4+3,none⟩=some (.string (f.c c).sent):=R2.out.all.cell hc (by decide)
 have fp:=R2.out.all.frozen;have hz1:=HM.out;have hz2:=HZ2.out;have hz:(f.c c).sent.size+u.size≤1000000102:=by omega
 have hz3:((f.c c).sent++u).size≤1000000102:=by rw[ByteArray.size_append];exact hz
 obtain⟨t,ht⟩: ∃t,(f.c c).sent=t:=⟨_,rfl⟩;have HT:=Hd ht;rw[ht]at x3 hz hz1 hz3;go_upto_region 3 with fail
 refine region_sg [17] ?_;refine anyB_sg [0,1,2,3,4,5,6,7,8,9,10,11,12,13,14,15,16] 1 ?_;go_wp2_with fail
 refine sg_o ?_;refine anyB_on 17 fun K hK=>?_;go_simp;refine lateK hK ?_;clear hK K;refine anyB_dn ?_;obtain⟨r1,r2⟩:=R2.out.guest (f':=F) (k:=3) hc (by decide) (v:=.string (t++u)) (by show Value.string (F.c c).sent=_;rw[HJ.out.1,HT.out]) (fun c' k' _ hk' hn=>by
  obtain⟨j1,j2,j3,j4⟩:=HJ.out.2 c';match k',hk' with
  |0,_=>show Value.string _=Value.string _;rw[j1]
  |1,_=>rfl
  |2,_=>show Value.int _ _=Value.int _ _;rw[j3]
  |3,_=>show Value.string _=Value.string _;rw[j4 (fun e=>hn ⟨e,rfl⟩)]) M4.out.1 M4.out.2.1 M4.out.2.2.1 M4.out.2.2.2 (fun j _=>(HJ.out.2 j).2.1)
 have R3:=Hd (r1.below bR.drew);have T3:=Hd (T2.out.trans (r2.trans (.of_below bR.drew (Nat.le_trans (Nat.le_trans HB.out T2.out.size) r2.size))));clear r1 r2 y4 x3 fp hz hz1 hz2 hz3;generalize World.drew _=x1 at R3 T3⊢;go_wp2_with fail
 go_end0
 exact⟨rfl,R3.out,T3.out⟩
theorem refdid_abort2(w:World)(B:Nat)(r:Value)(g cap n:Nat)(W:Wo)(cs:List Value)(i:Nat)(key val:ByteArray)(hB:B≤w.heap.size)(hn:W.ses.length=n)(hr:OPL w B r W.rows)(hs:OSL w B (.slice (some ⟨g,0,none⟩) n cap) W.ses cs)(hi:i<n)(hs0:(W.se i).st=2):
  Calls Tryz.prog 133 #[.agg #[r,.slice (some ⟨g,0,none⟩) n cap],.int .i64 (i:Nat),.agg #[.int .i64 2,.string key,.string val]] w (DidR w B g cap n ((W.put i ⟨0,(W.se i).sav,(W.se i).pre,[],[]⟩,okA))):=by
 obtain⟨Ar,cr,A1,z1,A2,z2,A3,z3,A4,z4,rfl,hse,hpre⟩:=did_pre hB hn hr hs hi;have HP:=Hd (hpre ⟨2,key,val⟩);have g1:(i:Int)<(n:Int):=by omega
 have g2:(0:Int)≤(i:Int):=by omega
 have HN:=Hd hn;have HI:=Hd hi;obtain⟨R,hR⟩: ∃R,(W.put i ⟨0,(W.se i).sav,(W.se i).pre,[],[]⟩,okA)=R:=⟨_,rfl⟩;rw[hR];obtain⟨t,ht⟩: ∃t,W.se i=t:=⟨_,rfl⟩;rw[ht]at hse HP hR hs0;have HS:=Hd hse;have HR:=Hd hR;clear hpre hse ht hR hn hi hr hs hB;go_enter func133,ntmps133
 go_upto_region 1 with fail
 generalize hw4:(((World.alloc _ _).alloc _).alloc _).alloc _=w4;obtain⟨hz4,f1,y0,y1,y2,y3,y4,hm⟩:=HP.out w4 hw4;rw[hs0]at y0 hm;have HM:=Hd hm;clear hw4 hm HP;go_upto_region 3 with fail
 clear f1 y0 y1 y2 y3 y4;generalize (World.alloc _ _).alloc _=w6 at HM⊢;have s0:=HM.out.se.cell_ 0 _ rfl;have s1:=HM.out.se.cell_ 1 _ rfl;have s3:=HM.out.se.cell_ 3 _ rfl;have s4:=HM.out.se.cell_ 4 _ rfl;have r0:=HM.out.wo.cell_ 0 _ rfl;have r1:=HM.out.wo.cell_ 1 _ rfl;have t0:=HM.out.st.cell_ 0 _ rfl;have fs:=HM.out.se.frozen;go_upto_region 65 with fail
 have HM1:=Hd ((((HM.out.setS rfl 1 (.slice A3 t.sav.length z3) rfl).setS rfl 0 (.int .i64 0) rfl).setS rfl 3 (.slice none 0 0) rfl).setS rfl 4 (.slice none 0 0) rfl);clear s0 s1 s3 s4 r0 r1 t0 fs HM;generalize World.setCell _ _ _=w7 at HM1⊢;have r0:=HM1.out.wo.cell_ 0 _ rfl;have r1:=HM1.out.wo.cell_ 1 _ rfl;have s0:=HM1.out.se.cell_ 0 _ rfl;have s1:=HM1.out.se.cell_ 1 _ rfl;have s2:=HM1.out.se.cell_ 2 _ rfl;have s3:=HM1.out.se.cell_ 3 _ rfl;have s4:=HM1.out.se.cell_ 4 _ rfl;obtain⟨_,_,_,_,_,c0,c1,c2,c3,c4,fr⟩:=HM1.out.cells5 HN.out HI.out;have fr0:=fr (i*5);have ST:=Hd (HS.out.at_ HM1.out.bel);go_upto_region 66 with fail
 obtain⟨cs',dn⟩:=HM1.out.put5 rfl HN.out (i:=i) (by rw[HN.out];exact HI.out) (s':=⟨0,t.sav,t.pre,[],[]⟩) ST.out.p3 ST.out.p2 (OPL.nil_ _ _) (OPL.nil_ _ _) ⟨by simp,by simp⟩
 clear r0 r1 s0 s1 s2 s3 s4 c0 c1 c2 c3 c4 fr fr0 ST;have DN:=Hd dn;clear dn;generalize World.setCell _ _ _=w9 at DN⊢;refine region_sg [2,3] ?_;have DN:=Hd (DN.out.keep bR.drew);generalize w9.drew=w9 at DN⊢;have r0:=DN.out.wo.cell_ 0 _ rfl;have r1:=DN.out.wo.cell_ 1 _ rfl;have k0:=DN.out.ok.cell_ 0 _ rfl;have k1:=DN.out.ok.cell_ 1 _ rfl;have k2:=DN.out.ok.cell_ 2 _ rfl;have u0:=DN.out.rw_.cell_ 0 _ rfl;have u1:=DN.out.rw_.cell_ 1 _ rfl;have v0:=DN.out.ra.cell_ 0 _ rfl;have v1:=DN.out.ra.cell_ 1 _ rfl;have v2:=DN.out.ra.cell_ 2 _ rfl;have ff:=DN.out.rw_.frozen;have fg:=DN.out.ra.frozen;refine anyB_sg [0] 3 ?_;go_wp2_with fail
 refine sg_o ?_;obtain⟨E1,E2,E3,E4,E5⟩:=DN.out.toQ.ends rfl (.slice Ar W.rows.length cr) (.slice (some ⟨g,0,none⟩) n cap) (.int .i64 1) (.string ⟨#[]⟩) (.int .i64 0);have q0:=E4.cell_ 0 _ rfl;have q1:=E4.cell_ 1 _ rfl;have p0:=E5.cell_ 0 _ rfl;have p1:=E5.cell_ 1 _ rfl;have p2:=E5.cell_ 2 _ rfl;have FIN:=Hd (And.intro E1 (And.intro E2 E3));clear E1 E2 E3 E4 E5;refine anyB_tw 1 2 (fun K hK=>?_) fun K hK=>?_
 ·go_simp;refine thK hK bR ?_;clear hK K;refine anyB_on 2 fun K hK=>?_;go_simp;refine lateK hK ?_;clear hK K;refine anyB_on 3 fun K hK=>?_;go_simp;refine lateK hK ?_;clear hK K;refine anyB_dn ?_;clear u0 u1 v0 v1 v2 ff fg r0 r1 k0 k1 k2;generalize World.setCell _ _ _=w10 at FIN q0 q1 p0 p1 p2⊢;go_wp2_with fail
  refine bodyPost_ret (v:=.tuple #[.agg #[.slice Ar W.rows.length cr,.slice (some ⟨g,0,none⟩) n cap],.agg #[.int .i64 1,.string ⟨#[]⟩,.int .i64 0]]) ?_ rfl ⟨_,cs',by rw[←HR.out];rfl,by rw[←HR.out];exact FIN.out.2.1,by rw[←HR.out];exact FIN.out.2.2,FIN.out.1⟩
  simp[results,results133,go_sem,q0,q1,p0,p1,p2]
 ·go_simp;refine lateK hK ?_;clear hK K;refine anyB_sg [1] 1 ?_;go_wp2_with fail
  refine sg_o ?_;refine anyB_on 3 fun K hK=>?_;go_simp;refine lateK hK ?_;clear hK K;refine anyB_dn ?_;clear u0 u1 v0 v1 v2 ff fg r0 r1 k0 k1 k2;generalize World.setCell _ _ _=w10 at FIN q0 q1 p0 p1 p2⊢;go_wp2_with fail
  refine bodyPost_ret (v:=.tuple #[.agg #[.slice Ar W.rows.length cr,.slice (some ⟨g,0,none⟩) n cap],.agg #[.int .i64 1,.string ⟨#[]⟩,.int .i64 0]]) ?_ rfl ⟨_,cs',by rw[←HR.out];rfl,by rw[←HR.out];exact FIN.out.2.1,by rw[←HR.out];exact FIN.out.2.2,FIN.out.1⟩
  simp[results,results133,go_sem,q0,q1,p0,p1,p2]
theorem refdid_back1(w:World)(B:Nat)(r:Value)(g cap n:Nat)(W:Wo)(cs:List Value)(i:Nat)(key val:ByteArray)(hB:B≤w.heap.size)(hn:W.ses.length=n)(hr:OPL w B r W.rows)(hs:OSL w B (.slice (some ⟨g,0,none⟩) n cap) W.ses cs)(hi:i<n)(hs0:(W.se i).st=1):
  Calls Tryz.prog 133 #[.agg #[r,.slice (some ⟨g,0,none⟩) n cap],.int .i64 (i:Nat),.agg #[.int .i64 3,.string key,.string val]] w (DidR w B g cap n ((W.put i ⟨0,(W.se i).sav,(W.se i).pre,[],[]⟩,okA))):=by
 obtain⟨Ar,cr,A1,z1,A2,z2,A3,z3,A4,z4,rfl,hse,hpre⟩:=did_pre hB hn hr hs hi;have HP:=Hd (hpre ⟨3,key,val⟩);have g1:(i:Int)<(n:Int):=by omega
 have g2:(0:Int)≤(i:Int):=by omega
 have HN:=Hd hn;have HI:=Hd hi;obtain⟨R,hR⟩: ∃R,(W.put i ⟨0,(W.se i).sav,(W.se i).pre,[],[]⟩,okA)=R:=⟨_,rfl⟩;rw[hR];obtain⟨t,ht⟩: ∃t,W.se i=t:=⟨_,rfl⟩;rw[ht]at hse HP hR hs0;have HS:=Hd hse;have HR:=Hd hR;clear hpre hse ht hR hn hi hr hs hB;go_enter func133,ntmps133
 go_upto_region 1 with fail
 generalize hw4:(((World.alloc _ _).alloc _).alloc _).alloc _=w4;obtain⟨hz4,f1,y0,y1,y2,y3,y4,hm⟩:=HP.out w4 hw4;rw[hs0]at y0 hm;have HM:=Hd hm;clear hw4 hm HP;go_upto_region 3 with fail
 clear f1 y0 y1 y2 y3 y4;generalize (World.alloc _ _).alloc _=w6 at HM⊢;have s0:=HM.out.se.cell_ 0 _ rfl;have s1:=HM.out.se.cell_ 1 _ rfl;have s3:=HM.out.se.cell_ 3 _ rfl;have s4:=HM.out.se.cell_ 4 _ rfl;have r0:=HM.out.wo.cell_ 0 _ rfl;have r1:=HM.out.wo.cell_ 1 _ rfl;have t0:=HM.out.st.cell_ 0 _ rfl;have fs:=HM.out.se.frozen;go_upto_region 65 with fail
 have HM1:=Hd ((((HM.out.setS rfl 1 (.slice A3 t.sav.length z3) rfl).setS rfl 0 (.int .i64 0) rfl).setS rfl 3 (.slice none 0 0) rfl).setS rfl 4 (.slice none 0 0) rfl);clear s0 s1 s3 s4 r0 r1 t0 fs HM;generalize World.setCell _ _ _=w7 at HM1⊢;have r0:=HM1.out.wo.cell_ 0 _ rfl;have r1:=HM1.out.wo.cell_ 1 _ rfl;have s0:=HM1.out.se.cell_ 0 _ rfl;have s1:=HM1.out.se.cell_ 1 _ rfl;have s2:=HM1.out.se.cell_ 2 _ rfl;have s3:=HM1.out.se.cell_ 3 _ rfl;have s4:=HM1.out.se.cell_ 4 _ rfl;obtain⟨_,_,_,_,_,c0,c1,c2,c3,c4,fr⟩:=HM1.out.cells5 HN.out HI.out;have fr0:=fr (i*5);have ST:=Hd (HS.out.at_ HM1.out.bel);go_upto_region 66 with fail
 obtain⟨cs',dn⟩:=HM1.out.put5 rfl HN.out (i:=i) (by rw[HN.out];exact HI.out) (s':=⟨0,t.sav,t.pre,[],[]⟩) ST.out.p3 ST.out.p2 (OPL.nil_ _ _) (OPL.nil_ _ _) ⟨by simp,by simp⟩
 clear r0 r1 s0 s1 s2 s3 s4 c0 c1 c2 c3 c4 fr fr0 ST;have DN:=Hd dn;clear dn;generalize World.setCell _ _ _=w9 at DN⊢;refine region_sg [2,3] ?_;have DN:=Hd (DN.out.keep bR.drew);generalize w9.drew=w9 at DN⊢;have r0:=DN.out.wo.cell_ 0 _ rfl;have r1:=DN.out.wo.cell_ 1 _ rfl;have k0:=DN.out.ok.cell_ 0 _ rfl;have k1:=DN.out.ok.cell_ 1 _ rfl;have k2:=DN.out.ok.cell_ 2 _ rfl;have u0:=DN.out.rw_.cell_ 0 _ rfl;have u1:=DN.out.rw_.cell_ 1 _ rfl;have v0:=DN.out.ra.cell_ 0 _ rfl;have v1:=DN.out.ra.cell_ 1 _ rfl;have v2:=DN.out.ra.cell_ 2 _ rfl;have ff:=DN.out.rw_.frozen;have fg:=DN.out.ra.frozen;refine anyB_sg [0] 3 ?_;go_wp2_with fail
 refine sg_o ?_;obtain⟨E1,E2,E3,E4,E5⟩:=DN.out.toQ.ends rfl (.slice Ar W.rows.length cr) (.slice (some ⟨g,0,none⟩) n cap) (.int .i64 1) (.string ⟨#[]⟩) (.int .i64 0);have q0:=E4.cell_ 0 _ rfl;have q1:=E4.cell_ 1 _ rfl;have p0:=E5.cell_ 0 _ rfl;have p1:=E5.cell_ 1 _ rfl;have p2:=E5.cell_ 2 _ rfl;have FIN:=Hd (And.intro E1 (And.intro E2 E3));clear E1 E2 E3 E4 E5;refine anyB_tw 1 2 (fun K hK=>?_) fun K hK=>?_
 ·go_simp;refine thK hK bR ?_;clear hK K;refine anyB_on 2 fun K hK=>?_;go_simp;refine lateK hK ?_;clear hK K;refine anyB_on 3 fun K hK=>?_;go_simp;refine lateK hK ?_;clear hK K;refine anyB_dn ?_;clear u0 u1 v0 v1 v2 ff fg r0 r1 k0 k1 k2;generalize World.setCell _ _ _=w10 at FIN q0 q1 p0 p1 p2⊢;go_wp2_with fail
  refine bodyPost_ret (v:=.tuple #[.agg #[.slice Ar W.rows.length cr,.slice (some ⟨g,0,none⟩) n cap],.agg #[.int .i64 1,.string ⟨#[]⟩,.int .i64 0]]) ?_ rfl ⟨_,cs',by rw[←HR.out];rfl,by rw[←HR.out];exact FIN.out.2.1,by rw[←HR.out];exact FIN.out.2.2,FIN.out.1⟩
  simp[results,results133,go_sem,q0,q1,p0,p1,p2]
 ·go_simp;refine lateK hK ?_;clear hK K;refine anyB_sg [1] 1 ?_;go_wp2_with fail
  refine sg_o ?_;refine anyB_on 3 fun K hK=>?_;go_simp;refine lateK hK ?_;clear hK K;refine anyB_dn ?_;clear u0 u1 v0 v1 v2 ff fg r0 r1 k0 k1 k2;generalize World.setCell _ _ _=w10 at FIN q0 q1 p0 p1 p2⊢;go_wp2_with fail
  refine bodyPost_ret (v:=.tuple #[.agg #[.slice Ar W.rows.length cr,.slice (some ⟨g,0,none⟩) n cap],.agg #[.int .i64 1,.string ⟨#[]⟩,.int .i64 0]]) ?_ rfl ⟨_,cs',by rw[←HR.out];rfl,by rw[←HR.out];exact FIN.out.2.1,by rw[←HR.out];exact FIN.out.2.2,FIN.out.1⟩
  simp[results,results133,go_sem,q0,q1,p0,p1,p2]
theorem refdid_back2(w:World)(B:Nat)(r:Value)(g cap n:Nat)(W:Wo)(cs:List Value)(i:Nat)(key val:ByteArray)(hB:B≤w.heap.size)(hn:W.ses.length=n)(hr:OPL w B r W.rows)(hs:OSL w B (.slice (some ⟨g,0,none⟩) n cap) W.ses cs)(hi:i<n)(hs0:(W.se i).st=2):
  Calls Tryz.prog 133 #[.agg #[r,.slice (some ⟨g,0,none⟩) n cap],.int .i64 (i:Nat),.agg #[.int .i64 3,.string key,.string val]] w (DidR w B g cap n ((W.put i ⟨0,(W.se i).sav,(W.se i).pre,[],[]⟩,okA))):=by
 obtain⟨Ar,cr,A1,z1,A2,z2,A3,z3,A4,z4,rfl,hse,hpre⟩:=did_pre hB hn hr hs hi;have HP:=Hd (hpre ⟨3,key,val⟩);have g1:(i:Int)<(n:Int):=by omega
 have g2:(0:Int)≤(i:Int):=by omega
 have HN:=Hd hn;have HI:=Hd hi;obtain⟨R,hR⟩: ∃R,(W.put i ⟨0,(W.se i).sav,(W.se i).pre,[],[]⟩,okA)=R:=⟨_,rfl⟩;rw[hR];obtain⟨t,ht⟩: ∃t,W.se i=t:=⟨_,rfl⟩;rw[ht]at hse HP hR hs0;have HS:=Hd hse;have HR:=Hd hR;clear hpre hse ht hR hn hi hr hs hB;go_enter func133,ntmps133
 go_upto_region 1 with fail
 generalize hw4:(((World.alloc _ _).alloc _).alloc _).alloc _=w4;obtain⟨hz4,f1,y0,y1,y2,y3,y4,hm⟩:=HP.out w4 hw4;rw[hs0]at y0 hm;have HM:=Hd hm;clear hw4 hm HP;go_upto_region 3 with fail
 clear f1 y0 y1 y2 y3 y4;generalize (World.alloc _ _).alloc _=w6 at HM⊢;have s0:=HM.out.se.cell_ 0 _ rfl;have s1:=HM.out.se.cell_ 1 _ rfl;have s3:=HM.out.se.cell_ 3 _ rfl;have s4:=HM.out.se.cell_ 4 _ rfl;have r0:=HM.out.wo.cell_ 0 _ rfl;have r1:=HM.out.wo.cell_ 1 _ rfl;have t0:=HM.out.st.cell_ 0 _ rfl;have fs:=HM.out.se.frozen;go_upto_region 65 with fail
 have HM1:=Hd ((((HM.out.setS rfl 1 (.slice A3 t.sav.length z3) rfl).setS rfl 0 (.int .i64 0) rfl).setS rfl 3 (.slice none 0 0) rfl).setS rfl 4 (.slice none 0 0) rfl);clear s0 s1 s3 s4 r0 r1 t0 fs HM;generalize World.setCell _ _ _=w7 at HM1⊢;have r0:=HM1.out.wo.cell_ 0 _ rfl;have r1:=HM1.out.wo.cell_ 1 _ rfl;have s0:=HM1.out.se.cell_ 0 _ rfl;have s1:=HM1.out.se.cell_ 1 _ rfl;have s2:=HM1.out.se.cell_ 2 _ rfl;have s3:=HM1.out.se.cell_ 3 _ rfl;have s4:=HM1.out.se.cell_ 4 _ rfl;obtain⟨_,_,_,_,_,c0,c1,c2,c3,c4,fr⟩:=HM1.out.cells5 HN.out HI.out;have fr0:=fr (i*5);have ST:=Hd (HS.out.at_ HM1.out.bel);go_upto_region 66 with fail
 obtain⟨cs',dn⟩:=HM1.out.put5 rfl HN.out (i:=i) (by rw[HN.out];exact HI.out) (s':=⟨0,t.sav,t.pre,[],[]⟩) ST.out.p3 ST.out.p2 (OPL.nil_ _ _) (OPL.nil_ _ _) ⟨by simp,by simp⟩
 clear r0 r1 s0 s1 s2 s3 s4 c0 c1 c2 c3 c4 fr fr0 ST;have DN:=Hd dn;clear dn;generalize World.setCell _ _ _=w9 at DN⊢;refine region_sg [2,3] ?_;have DN:=Hd (DN.out.keep bR.drew);generalize w9.drew=w9 at DN⊢;have r0:=DN.out.wo.cell_ 0 _ rfl;have r1:=DN.out.wo.cell_ 1 _ rfl;have k0:=DN.out.ok.cell_ 0 _ rfl;have k1:=DN.out.ok.cell_ 1 _ rfl;have k2:=DN.out.ok.cell_ 2 _ rfl;have u0:=DN.out.rw_.cell_ 0 _ rfl;have u1:=DN.out.rw_.cell_ 1 _ rfl;have v0:=DN.out.ra.cell_ 0 _ rfl;have v1:=DN.out.ra.cell_ 1 _ rfl;have v2:=DN.out.ra.cell_ 2 _ rfl;have ff:=DN.out.rw_.frozen;have fg:=DN.out.ra.frozen;refine anyB_sg [0] 3 ?_;go_wp2_with fail
 refine sg_o ?_;obtain⟨E1,E2,E3,E4,E5⟩:=DN.out.toQ.ends rfl (.slice Ar W.rows.length cr) (.slice (some ⟨g,0,none⟩) n cap) (.int .i64 1) (.string ⟨#[]⟩) (.int .i64 0);have q0:=E4.cell_ 0 _ rfl;have q1:=E4.cell_ 1 _ rfl;have p0:=E5.cell_ 0 _ rfl;have p1:=E5.cell_ 1 _ rfl;have p2:=E5.cell_ 2 _ rfl;have FIN:=Hd (And.intro E1 (And.intro E2 E3));clear E1 E2 E3 E4 E5;refine anyB_tw 1 2 (fun K hK=>?_) fun K hK=>?_
 ·go_simp;refine thK hK bR ?_;clear hK K;refine anyB_on 2 fun K hK=>?_;go_simp;refine lateK hK ?_;clear hK K;refine anyB_on 3 fun K hK=>?_;go_simp;refine lateK hK ?_;clear hK K;refine anyB_dn ?_;clear u0 u1 v0 v1 v2 ff fg r0 r1 k0 k1 k2;generalize World.setCell _ _ _=w10 at FIN q0 q1 p0 p1 p2⊢;go_wp2_with fail
  refine bodyPost_ret (v:=.tuple #[.agg #[.slice Ar W.rows.length cr,.slice (some ⟨g,0,none⟩) n cap],.agg #[.int .i64 1,.string ⟨#[]⟩,.int .i64 0]]) ?_ rfl ⟨_,cs',by rw[←HR.out];rfl,by rw[←HR.out];exact FIN.out.2.1,by rw[←HR.out];exact FIN.out.2.2,FIN.out.1⟩
  simp[results,results133,go_sem,q0,q1,p0,p1,p2]
 ·go_simp;refine lateK hK ?_;clear hK K;refine anyB_sg [1] 1 ?_;go_wp2_with fail
  refine sg_o ?_;refine anyB_on 3 fun K hK=>?_;go_simp;refine lateK hK ?_;clear hK K;refine anyB_dn ?_;clear u0 u1 v0 v1 v2 ff fg r0 r1 k0 k1 k2;generalize World.setCell _ _ _=w10 at FIN q0 q1 p0 p1 p2⊢;go_wp2_with fail
  refine bodyPost_ret (v:=.tuple #[.agg #[.slice Ar W.rows.length cr,.slice (some ⟨g,0,none⟩) n cap],.agg #[.int .i64 1,.string ⟨#[]⟩,.int .i64 0]]) ?_ rfl ⟨_,cs',by rw[←HR.out];rfl,by rw[←HR.out];exact FIN.out.2.1,by rw[←HR.out];exact FIN.out.2.2,FIN.out.1⟩
  simp[results,results133,go_sem,q0,q1,p0,p1,p2]
theorem refdid_commit(w:World)(B:Nat)(r:Value)(g cap n:Nat)(W:Wo)(cs:List Value)(i:Nat)(key val:ByteArray)(hB:B≤w.heap.size)(hn:W.ses.length=n)(hr:OPL w B r W.rows)(hs:OSL w B (.slice (some ⟨g,0,none⟩) n cap) W.ses cs)(hi:i<n)(hs0:(W.se i).st=1)(hl:W.rows.length≤1000)(hw:(W.se i).wri.length≤1000):
  Calls Tryz.prog 133 #[.agg #[r,.slice (some ⟨g,0,none⟩) n cap],.int .i64 (i:Nat),.agg #[.int .i64 2,.string key,.string val]] w (DidR w B g cap n (((⟨plusAll W.rows (W.se i).wri,W.ses.set i ⟨0,(W.se i).set,(W.se i).pre,[],[]⟩⟩,okA):Wo × An))):=by
 obtain⟨Ar,cr,A1,z1,A2,z2,A3,z3,A4,z4,rfl,hse,hpre⟩:=did_pre hB hn hr hs hi;have HP:=Hd (hpre ⟨2,key,val⟩);have g1:(i:Int)<(n:Int):=by omega
 have g2:(0:Int)≤(i:Int):=by omega
 have HN:=Hd hn;have HI:=Hd hi;obtain⟨R,hR⟩: ∃R,((⟨plusAll W.rows (W.se i).wri,W.ses.set i ⟨0,(W.se i).set,(W.se i).pre,[],[]⟩⟩,okA):Wo × An)=R:=⟨_,rfl⟩;rw[hR];obtain⟨t,ht⟩: ∃t,W.se i=t:=⟨_,rfl⟩;rw[ht]at hse HP hR hs0 hw;have HL:=Hd hl;obtain⟨nw,hnw⟩: ∃nw,t.wri.length=nw:=⟨_,rfl⟩;rw[hnw]at hw hse HP;have HNW:=Hd hnw;clear hnw;have HS:=Hd hse;have HR:=Hd hR;clear hpre hse ht hR hn hi hr hs hB;go_enter func133,ntmps133
 go_upto_region 1 with fail
 generalize hw4:(((World.alloc _ _).alloc _).alloc _).alloc _=w4;obtain⟨hz4,f1,y0,y1,y2,y3,y4,hm⟩:=HP.out w4 hw4;rw[hs0]at y0 hm;have HM:=Hd hm;clear hw4 hm HP;go_upto_region 3 with fail
 clear f1 y0 y1 y2 y3 y4;generalize (World.alloc _ _).alloc _=w6 at HM⊢;have s0:=HM.out.se.cell_ 0 _ rfl;have s4:=HM.out.se.cell_ 4 _ rfl;have r0:=HM.out.wo.cell_ 0 _ rfl;have r1:=HM.out.wo.cell_ 1 _ rfl;have t0:=HM.out.st.cell_ 0 _ rfl;have fs:=HM.out.se.frozen;go_upto_region 18 with fail
 clear s0 s4 r0 r1 t0 fs;go_loopw [11] (fun k wx=>∃(m:Nat) (Am:Option Addr) (cm:Nat),m≤nw∧k= .int .i64 m∧(plusAll W.rows (t.wri.take m)).length≤1000+m∧DidM w wx w.heap.size B g cap n (.slice Am (plusAll W.rows (t.wri.take m)).length cm) (plusAll W.rows (t.wri.take m)) W.ses cs ⟨2,key,val⟩ (.int .i64 1) (.slice A1 t.set.length z1) (.slice A2 t.pre.length z2) (.slice A3 t.sav.length z3) (.slice A4 nw z4)) (fun k _=>nw-(intOf k).toNat)
 case atStart=>exact⟨0,Ar,cr,Nat.zero_le _,rfl,HL.out,HM.out⟩
 case round=>
  obtain⟨m,Am,cm,hm,rfl,hlen,HM1⟩:=hrel;have HM1:=Hd HM1;by_cases hlt:m<nw
  ·have hml:m<t.wri.length:=by rw[HNW.out];exact hlt
   have g3:(m:Int)<(nw:Int):=by omega
   have g4:(0:Int)≤(m:Int):=by omega
   have ST:=HS.out.at_ HM1.out.bel;obtain⟨A4',z4',e4,hz4,r4,f4⟩:=ST.p4.pl;injection e4 with e4 e5 e6;subst e4 e6;obtain⟨ad4,hA4,_,y0,y1⟩:=pair_at r4 hml;subst hA4;have hks:=f4.2 t.wri[m] (List.getElem_mem _);have hat:plusAll W.rows (t.wri.take (m+1))=plusP (plusAll W.rows (t.wri.take m)) t.wri[m].k t.wri[m].v:=by
    unfold plusAll;rw[List.take_succ_eq_append_getElem hml,List.foldl_append];rfl
   obtain⟨p,hp⟩: ∃p,t.wri[m]=p:=⟨_,rfl⟩;rw[hp]at y0 y1 hks hat;obtain⟨pk,pv⟩:=p;simp only at y0 y1 hks hat;have hpl:=plusP_len1 (plusAll W.rows (t.wri.take m)) pk pv;have HF:=Hd (show Fits (plusAll W.rows (t.wri.take (m+1)))by
    rw[hat];refine⟨by omega,fun p hp=>?_⟩
    rcases plF_in pk pv _ p hp with rfl|hp
    ·exact hks
    ·exact HM1.out.rows.fits.2 p hp)
   have HLN:=Hd (show(plusAll W.rows (t.wri.take (m+1))).length≤1000+(m+1)by rw[hat];omega)
   have HAT:=Hd hat;have HPL:=Hd (fun(u:World) (hb:Below wr.heap.size wr u)=>(HM1.out.keep hb).rows.pl);obtain⟨OM,hOM⟩: ∃OM,plusAll W.rows (t.wri.take m)=OM:=⟨_,rfl⟩;rw[hOM]at HM1 HAT HPL hlen;clear hp hat hks hpl r4 f4 ST hml e5 hz4 hOM;have r0:=HM1.out.wo.cell_ 0 _ rfl;have s4:=HM1.out.se.cell_ 4 _ rfl;go_upto_region 20 with fail
   refine region_sg [16] ?_;have HM2:=Hd (HM1.out.keep bR.drew);have y0:wr.drew.cell? _=_:=y0;have y1:wr.drew.cell? _=_:=y1;clear r0 s4;have r0:=HM2.out.wo.cell_ 0 _ rfl;have s4:=HM2.out.se.cell_ 4 _ rfl;refine anyB_sg [0,1,2,3,4,5,6,7,8,9,10,11,12,13] 3 ?_;go_wp2_with fail
   refine sg_o ?_;have hb:=(Below.refl wr.heap.size wr).drew;generalize wr.drew=w7 at HM2 y0 y1 r0 s4 hb⊢;clear y0 y1 r0 s4;refine anyB_on 14 fun K hK=>?_;go_simp;refine(refplus_any w7 _ OM pk pv (HPL.out _ hb)).mono ?_;rintro e w8 ⟨a,rfl,oa,b⟩;refine thK hK b ?_;clear hK K;have HM3:=Hd (HM2.out.keep b);have OA:=Hd (show OPL w8 B a (plusAll W.rows (t.wri.take (m+1)))by
    have h:=(OPL.mk (by rw[←HAT.out]at oa;exact oa) HF.out:OPL w8 w7.heap.size a (plusAll W.rows (t.wri.take (m+1)))).base (B':=B) (Nat.le_trans HM2.out.hB HM2.out.bel.size)
    exact h)
   clear oa b hb HM1 HM2 HPL HAT;obtain⟨F,k5,rfl⟩:=OA.out.form;have r0:=HM3.out.wo.cell_ 0 _ rfl;have fs:=HM3.out.wo.frozen;refine anyB_sg [15] 1 ?_;go_wp2_with fail
   refine sg_o ?_;refine anyB_on 16 fun K hK=>?_;go_simp;refine lateK hK ?_;clear hK K;refine anyB_dn ?_;have HM4:=Hd (HM3.out.setR rfl OA.out);clear r0 fs HM3 OA;generalize World.setCell _ _ _=w9 at HM4⊢;go_wp2_with fail
   go_roundw
   case rel=>exact⟨m+1,F,k5,by omega,by go_num,HLN.out,HM4.out⟩
   case measure=>simp[intOf];omega
  ·obtain rfl:m=nw:=by omega
   have htk:t.wri.take m=t.wri:=List.take_of_length_le (by rw[HNW.out];exact Nat.le_refl _)
   rw[htk]at HM1 hlen;have g3:(m:Int)≤(m:Int):=Int.le_refl _;obtain⟨OM,hOM⟩: ∃OM,plusAll W.rows t.wri=OM:=⟨_,rfl⟩;rw[hOM]at HM1 HR hlen;clear htk hOM HM;have s0:=HM1.out.se.cell_ 0 _ rfl;have s3:=HM1.out.se.cell_ 3 _ rfl;have s4:=HM1.out.se.cell_ 4 _ rfl;have fs:=HM1.out.se.frozen;go_upto_region 65 with fail
   have HM5:=Hd (((HM1.out.setS rfl 0 (.int .i64 0) rfl).setS rfl 3 (.slice none 0 0) rfl).setS rfl 4 (.slice none 0 0) rfl);clear s0 s3 s4 fs HM1;generalize World.setCell _ _ _=w7 at HM5⊢;have r0:=HM5.out.wo.cell_ 0 _ rfl;have r1:=HM5.out.wo.cell_ 1 _ rfl;have s0:=HM5.out.se.cell_ 0 _ rfl;have s1:=HM5.out.se.cell_ 1 _ rfl;have s2:=HM5.out.se.cell_ 2 _ rfl;have s3:=HM5.out.se.cell_ 3 _ rfl;have s4:=HM5.out.se.cell_ 4 _ rfl;obtain⟨_,_,_,_,_,c0,c1,c2,c3,c4,fr⟩:=HM5.out.cells5 HN.out HI.out;have fr0:=fr (i*5);have ST:=Hd (HS.out.at_ HM5.out.bel);go_upto_region 66 with fail
   obtain⟨cs',dn⟩:=HM5.out.put5 rfl HN.out (i:=i) (by rw[HN.out];exact HI.out) (s':=⟨0,t.set,t.pre,[],[]⟩) ST.out.p1 ST.out.p2 (OPL.nil_ _ _) (OPL.nil_ _ _) ⟨by simp,by simp⟩
   clear r0 r1 s0 s1 s2 s3 s4 c0 c1 c2 c3 c4 fr fr0 ST;have DN:=Hd dn;clear dn;generalize World.setCell _ _ _=w9 at DN⊢;refine region_sg [2,3] ?_;have DN:=Hd (DN.out.keep bR.drew);generalize w9.drew=w9 at DN⊢;have r0:=DN.out.wo.cell_ 0 _ rfl;have r1:=DN.out.wo.cell_ 1 _ rfl;have k0:=DN.out.ok.cell_ 0 _ rfl;have k1:=DN.out.ok.cell_ 1 _ rfl;have k2:=DN.out.ok.cell_ 2 _ rfl;have u0:=DN.out.rw_.cell_ 0 _ rfl;have u1:=DN.out.rw_.cell_ 1 _ rfl;have v0:=DN.out.ra.cell_ 0 _ rfl;have v1:=DN.out.ra.cell_ 1 _ rfl;have v2:=DN.out.ra.cell_ 2 _ rfl;have ff:=DN.out.rw_.frozen;have fg:=DN.out.ra.frozen;refine anyB_sg [0] 3 ?_;go_wp2_with fail
   refine sg_o ?_;obtain⟨E1,E2,E3,E4,E5⟩:=DN.out.toQ.ends rfl (.slice Am OM.length cm) (.slice (some ⟨g,0,none⟩) n cap) (.int .i64 1) (.string ⟨#[]⟩) (.int .i64 0);have q0:=E4.cell_ 0 _ rfl;have q1:=E4.cell_ 1 _ rfl;have p0:=E5.cell_ 0 _ rfl;have p1:=E5.cell_ 1 _ rfl;have p2:=E5.cell_ 2 _ rfl;have FIN:=Hd (And.intro E1 (And.intro E2 E3));clear E1 E2 E3 E4 E5;refine anyB_tw 1 2 (fun K hK=>?_) fun K hK=>?_
   ·go_simp;refine thK hK bR ?_;clear hK K;refine anyB_on 2 fun K hK=>?_;go_simp;refine lateK hK ?_;clear hK K;refine anyB_on 3 fun K hK=>?_;go_simp;refine lateK hK ?_;clear hK K;refine anyB_dn ?_;clear u0 u1 v0 v1 v2 ff fg r0 r1 k0 k1 k2;generalize World.setCell _ _ _=w10 at FIN q0 q1 p0 p1 p2⊢;go_wp2_with fail
    refine bodyPost_ret (v:=.tuple #[.agg #[.slice Am OM.length cm,.slice (some ⟨g,0,none⟩) n cap],.agg #[.int .i64 1,.string ⟨#[]⟩,.int .i64 0]]) ?_ rfl ⟨_,cs',by rw[←HR.out];rfl,by rw[←HR.out];exact FIN.out.2.1,by rw[←HR.out];exact FIN.out.2.2,FIN.out.1⟩
    simp[results,results133,go_sem,q0,q1,p0,p1,p2]
   ·go_simp;refine lateK hK ?_;clear hK K;refine anyB_sg [1] 1 ?_;go_wp2_with fail
    refine sg_o ?_;refine anyB_on 3 fun K hK=>?_;go_simp;refine lateK hK ?_;clear hK K;refine anyB_dn ?_;clear u0 u1 v0 v1 v2 ff fg r0 r1 k0 k1 k2;generalize World.setCell _ _ _=w10 at FIN q0 q1 p0 p1 p2⊢;go_wp2_with fail
    refine bodyPost_ret (v:=.tuple #[.agg #[.slice Am OM.length cm,.slice (some ⟨g,0,none⟩) n cap],.agg #[.int .i64 1,.string ⟨#[]⟩,.int .i64 0]]) ?_ rfl ⟨_,cs',by rw[←HR.out];rfl,by rw[←HR.out];exact FIN.out.2.1,by rw[←HR.out];exact FIN.out.2.2,FIN.out.1⟩
    simp[results,results133,go_sem,q0,q1,p0,p1,p2]
theorem refdid_set(w:World)(B:Nat)(r:Value)(g cap n:Nat)(W:Wo)(cs:List Value)(i:Nat)(key val:ByteArray)(hB:B≤w.heap.size)(hn:W.ses.length=n)(hr:OPL w B r W.rows)(hs:OSL w B (.slice (some ⟨g,0,none⟩) n cap) W.ses cs)(hi:i<n)(hs0:(W.se i).st≠2)(hc:hasK (W.se i).set key=false→(W.se i).set.length<6)(hl:(W.se i).set.length≤6)(hk:key.size≤maxLen)(hv:val.size≤maxLen):
  Calls Tryz.prog 133 #[.agg #[r,.slice (some ⟨g,0,none⟩) n cap],.int .i64 (i:Nat),.agg #[.int .i64 9,.string key,.string val]] w (DidR w B g cap n ((W.put i ⟨(W.se i).st,plusP (W.se i).set key val,(W.se i).pre,(W.se i).sav,(W.se i).wri⟩,okA))):=by
 obtain⟨Ar,cr,A1,z1,A2,z2,A3,z3,A4,z4,rfl,hse,hpre⟩:=did_pre hB hn hr hs hi;have HP:=Hd (hpre ⟨9,key,val⟩);have g1:(i:Int)<(n:Int):=by omega
 have g2:(0:Int)≤(i:Int):=by omega
 have HN:=Hd hn;have HI:=Hd hi;obtain⟨R,hR⟩: ∃R,(W.put i ⟨(W.se i).st,plusP (W.se i).set key val,(W.se i).pre,(W.se i).sav,(W.se i).wri⟩,okA)=R:=⟨_,rfl⟩;rw[hR];obtain⟨t,ht⟩: ∃t,W.se i=t:=⟨_,rfl⟩;rw[ht]at hse HP hR hs0 hc hl;have HF:=Hd (plus_fits hse.p1.fits.2 hk hv (by omega))
 clear hk hv;have HS:=Hd hse;have HR:=Hd hR;clear hpre hse ht hR hn hi hr hs hB;go_enter func133,ntmps133
 go_upto_region 1 with fail
 generalize hw4:(((World.alloc _ _).alloc _).alloc _).alloc _=w4;obtain⟨hz4,f1,y0,y1,y2,y3,y4,hm⟩:=HP.out w4 hw4;have HM:=Hd hm;clear hw4 hm HP;go_upto_region 3 with fail
 clear f1 y0 y1 y2 y3 y4;generalize (World.alloc _ _).alloc _=w6 at HM⊢;have e2:(t.st==2)=false:=by simpa using hs0
 have e2':¬ t.st=2:=hs0;have s0:=HM.out.se.cell_ 0 _ rfl;have s1:=HM.out.se.cell_ 1 _ rfl;have r0:=HM.out.wo.cell_ 0 _ rfl;have r1:=HM.out.wo.cell_ 1 _ rfl;have t0:=HM.out.st.cell_ 0 _ rfl;have t1:=HM.out.st.cell_ 1 _ rfl;go_wp2_with fail
 refine(refat_any _ _ t.set key ((HS.out.at_ HM.out.bel).p1.pl)).mono ?_;rintro e w7 ⟨xv,rfl,b⟩;have HM1:=Hd (HM.out.keep b);clear s0 s1 r0 r1 t0 t1 b HM;obtain⟨b0,hb0⟩: ∃b,hasK t.set key=b:=⟨_,rfl⟩;rw[hb0]at hc⊢;clear hb0;cases b0 with
 |true=>
  clear hc;have s1:=HM1.out.se.cell_ 1 _ rfl;have r0:=HM1.out.wo.cell_ 0 _ rfl;have r1:=HM1.out.wo.cell_ 1 _ rfl;have t1:=HM1.out.st.cell_ 1 _ rfl;have t2:=HM1.out.st.cell_ 2 _ rfl;have fs:=HM1.out.se.frozen;go_upto_region 50 with fail
  go_wp2_with fail
  refine(refplus_any _ _ t.set key val ((HS.out.at_ HM1.out.bel).p1.pl)).mono ?_;rintro e w8 ⟨a,rfl,oa,b⟩;have HM2:=Hd (HM1.out.keep b);have OA:=Hd ((OPL.mk oa HF.out).base (B':=B) (Nat.le_trans HM1.out.hB HM1.out.bel.size));clear oa b s1 r0 r1 t1 t2 fs HM1;obtain⟨F,k,rfl⟩:=OA.out.form;have s1:=HM2.out.se.cell_ 1 _ rfl;have fs:=HM2.out.se.frozen;go_upto_region 65 with fail
  have kp:Keeps 60 w8 (w8.setCell ⟨w.heap.size+4,1,none⟩ (.slice F (plusP t.set key val).length k)):=Keeps.set_ (p:=⟨w.heap.size+4,1,none⟩) HM2.out.se (by decide) _
  have OB:=Hd (OA.out.keeps kp);have HM3:=Hd (HM2.out.setS rfl 1 (.slice F (plusP t.set key val).length k) rfl);clear s1 fs HM2 OA kp;generalize World.setCell _ _ _=w9 at HM3 OB⊢;have r0:=HM3.out.wo.cell_ 0 _ rfl;have r1:=HM3.out.wo.cell_ 1 _ rfl;have s0:=HM3.out.se.cell_ 0 _ rfl;have s1:=HM3.out.se.cell_ 1 _ rfl;have s2:=HM3.out.se.cell_ 2 _ rfl;have s3:=HM3.out.se.cell_ 3 _ rfl;have s4:=HM3.out.se.cell_ 4 _ rfl;obtain⟨_,_,_,_,_,c0,c1,c2,c3,c4,fr⟩:=HM3.out.cells5 HN.out HI.out;have fr0:=fr (i*5);have ST:=Hd (HS.out.at_ HM3.out.bel);go_upto_region 66 with fail
  obtain⟨cs',dn⟩:=HM3.out.put5 rfl HN.out (i:=i) (by rw[HN.out];exact HI.out) (s':=⟨t.st,plusP t.set key val,t.pre,t.sav,t.wri⟩) OB.out ST.out.p2 ST.out.p3 ST.out.p4 ST.out.i64
  clear r0 r1 s0 s1 s2 s3 s4 c0 c1 c2 c3 c4 fr fr0 ST;have DN:=Hd dn;clear dn;generalize World.setCell _ _ _=w9 at DN⊢;refine region_sg [2,3] ?_;have DN:=Hd (DN.out.keep bR.drew);generalize w9.drew=w9 at DN⊢;have r0:=DN.out.wo.cell_ 0 _ rfl;have r1:=DN.out.wo.cell_ 1 _ rfl;have k0:=DN.out.ok.cell_ 0 _ rfl;have k1:=DN.out.ok.cell_ 1 _ rfl;have k2:=DN.out.ok.cell_ 2 _ rfl;have u0:=DN.out.rw_.cell_ 0 _ rfl;have u1:=DN.out.rw_.cell_ 1 _ rfl;have v0:=DN.out.ra.cell_ 0 _ rfl;have v1:=DN.out.ra.cell_ 1 _ rfl;have v2:=DN.out.ra.cell_ 2 _ rfl;have ff:=DN.out.rw_.frozen;have fg:=DN.out.ra.frozen;refine anyB_sg [0] 3 ?_;go_wp2_with fail
  refine sg_o ?_;obtain⟨E1,E2,E3,E4,E5⟩:=DN.out.toQ.ends rfl (.slice Ar W.rows.length cr) (.slice (some ⟨g,0,none⟩) n cap) (.int .i64 1) (.string ⟨#[]⟩) (.int .i64 0);have q0:=E4.cell_ 0 _ rfl;have q1:=E4.cell_ 1 _ rfl;have p0:=E5.cell_ 0 _ rfl;have p1:=E5.cell_ 1 _ rfl;have p2:=E5.cell_ 2 _ rfl;have FIN:=Hd (And.intro E1 (And.intro E2 E3));clear E1 E2 E3 E4 E5;refine anyB_tw 1 2 (fun K hK=>?_) fun K hK=>?_
  ·go_simp;refine thK hK bR ?_;clear hK K;refine anyB_on 2 fun K hK=>?_;go_simp;refine lateK hK ?_;clear hK K;refine anyB_on 3 fun K hK=>?_;go_simp;refine lateK hK ?_;clear hK K;refine anyB_dn ?_;clear u0 u1 v0 v1 v2 ff fg r0 r1 k0 k1 k2;generalize World.setCell _ _ _=w10 at FIN q0 q1 p0 p1 p2⊢;go_wp2_with fail
   refine bodyPost_ret (v:=.tuple #[.agg #[.slice Ar W.rows.length cr,.slice (some ⟨g,0,none⟩) n cap],.agg #[.int .i64 1,.string ⟨#[]⟩,.int .i64 0]]) ?_ rfl ⟨_,cs',by rw[←HR.out];rfl,by rw[←HR.out];exact FIN.out.2.1,by rw[←HR.out];exact FIN.out.2.2,FIN.out.1⟩
   simp[results,results133,go_sem,q0,q1,p0,p1,p2]
  ·go_simp;refine lateK hK ?_;clear hK K;refine anyB_sg [1] 1 ?_;go_wp2_with fail
   refine sg_o ?_;refine anyB_on 3 fun K hK=>?_;go_simp;refine lateK hK ?_;clear hK K;refine anyB_dn ?_;clear u0 u1 v0 v1 v2 ff fg r0 r1 k0 k1 k2;generalize World.setCell _ _ _=w10 at FIN q0 q1 p0 p1 p2⊢;go_wp2_with fail
   refine bodyPost_ret (v:=.tuple #[.agg #[.slice Ar W.rows.length cr,.slice (some ⟨g,0,none⟩) n cap],.agg #[.int .i64 1,.string ⟨#[]⟩,.int .i64 0]]) ?_ rfl ⟨_,cs',by rw[←HR.out];rfl,by rw[←HR.out];exact FIN.out.2.1,by rw[←HR.out];exact FIN.out.2.2,FIN.out.1⟩
   simp[results,results133,go_sem,q0,q1,p0,p1,p2]
 |false=>
  have g6:¬ (6:Int)≤(t.set.length:Int):=by have:=hc rfl;omega
  have g6':(t.set.length:Int)<6:=by have:=hc rfl;omega
  clear hc;have s1:=HM1.out.se.cell_ 1 _ rfl;have r0:=HM1.out.wo.cell_ 0 _ rfl;have r1:=HM1.out.wo.cell_ 1 _ rfl;have t1:=HM1.out.st.cell_ 1 _ rfl;have t2:=HM1.out.st.cell_ 2 _ rfl;have fs:=HM1.out.se.frozen;go_upto_region 50 with fail
  go_wp2_with fail
  refine(refplus_any _ _ t.set key val ((HS.out.at_ HM1.out.bel).p1.pl)).mono ?_;rintro e w8 ⟨a,rfl,oa,b⟩;have HM2:=Hd (HM1.out.keep b);have OA:=Hd ((OPL.mk oa HF.out).base (B':=B) (Nat.le_trans HM1.out.hB HM1.out.bel.size));clear oa b s1 r0 r1 t1 t2 fs HM1;obtain⟨F,k,rfl⟩:=OA.out.form;have s1:=HM2.out.se.cell_ 1 _ rfl;have fs:=HM2.out.se.frozen;go_upto_region 65 with fail
  have kp:Keeps 60 w8 (w8.setCell ⟨w.heap.size+4,1,none⟩ (.slice F (plusP t.set key val).length k)):=Keeps.set_ (p:=⟨w.heap.size+4,1,none⟩) HM2.out.se (by decide) _
  have OB:=Hd (OA.out.keeps kp);have HM3:=Hd (HM2.out.setS rfl 1 (.slice F (plusP t.set key val).length k) rfl);clear s1 fs HM2 OA kp;generalize World.setCell _ _ _=w9 at HM3 OB⊢;have r0:=HM3.out.wo.cell_ 0 _ rfl;have r1:=HM3.out.wo.cell_ 1 _ rfl;have s0:=HM3.out.se.cell_ 0 _ rfl;have s1:=HM3.out.se.cell_ 1 _ rfl;have s2:=HM3.out.se.cell_ 2 _ rfl;have s3:=HM3.out.se.cell_ 3 _ rfl;have s4:=HM3.out.se.cell_ 4 _ rfl;obtain⟨_,_,_,_,_,c0,c1,c2,c3,c4,fr⟩:=HM3.out.cells5 HN.out HI.out;have fr0:=fr (i*5);have ST:=Hd (HS.out.at_ HM3.out.bel);go_upto_region 66 with fail
  obtain⟨cs',dn⟩:=HM3.out.put5 rfl HN.out (i:=i) (by rw[HN.out];exact HI.out) (s':=⟨t.st,plusP t.set key val,t.pre,t.sav,t.wri⟩) OB.out ST.out.p2 ST.out.p3 ST.out.p4 ST.out.i64
  clear r0 r1 s0 s1 s2 s3 s4 c0 c1 c2 c3 c4 fr fr0 ST;have DN:=Hd dn;clear dn;generalize World.setCell _ _ _=w9 at DN⊢;refine region_sg [2,3] ?_;have DN:=Hd (DN.out.keep bR.drew);generalize w9.drew=w9 at DN⊢;have r0:=DN.out.wo.cell_ 0 _ rfl;have r1:=DN.out.wo.cell_ 1 _ rfl;have k0:=DN.out.ok.cell_ 0 _ rfl;have k1:=DN.out.ok.cell_ 1 _ rfl;have k2:=DN.out.ok.cell_ 2 _ rfl;have u0:=DN.out.rw_.cell_ 0 _ rfl;have u1:=DN.out.rw_.cell_ 1 _ rfl;have v0:=DN.out.ra.cell_ 0 _ rfl;have v1:=DN.out.ra.cell_ 1 _ rfl;have v2:=DN.out.ra.cell_ 2 _ rfl;have ff:=DN.out.rw_.frozen;have fg:=DN.out.ra.frozen;refine anyB_sg [0] 3 ?_;go_wp2_with fail
  refine sg_o ?_;obtain⟨E1,E2,E3,E4,E5⟩:=DN.out.toQ.ends rfl (.slice Ar W.rows.length cr) (.slice (some ⟨g,0,none⟩) n cap) (.int .i64 1) (.string ⟨#[]⟩) (.int .i64 0);have q0:=E4.cell_ 0 _ rfl;have q1:=E4.cell_ 1 _ rfl;have p0:=E5.cell_ 0 _ rfl;have p1:=E5.cell_ 1 _ rfl;have p2:=E5.cell_ 2 _ rfl;have FIN:=Hd (And.intro E1 (And.intro E2 E3));clear E1 E2 E3 E4 E5;refine anyB_tw 1 2 (fun K hK=>?_) fun K hK=>?_
  ·go_simp;refine thK hK bR ?_;clear hK K;refine anyB_on 2 fun K hK=>?_;go_simp;refine lateK hK ?_;clear hK K;refine anyB_on 3 fun K hK=>?_;go_simp;refine lateK hK ?_;clear hK K;refine anyB_dn ?_;clear u0 u1 v0 v1 v2 ff fg r0 r1 k0 k1 k2;generalize World.setCell _ _ _=w10 at FIN q0 q1 p0 p1 p2⊢;go_wp2_with fail
   refine bodyPost_ret (v:=.tuple #[.agg #[.slice Ar W.rows.length cr,.slice (some ⟨g,0,none⟩) n cap],.agg #[.int .i64 1,.string ⟨#[]⟩,.int .i64 0]]) ?_ rfl ⟨_,cs',by rw[←HR.out];rfl,by rw[←HR.out];exact FIN.out.2.1,by rw[←HR.out];exact FIN.out.2.2,FIN.out.1⟩
   simp[results,results133,go_sem,q0,q1,p0,p1,p2]
  ·go_simp;refine lateK hK ?_;clear hK K;refine anyB_sg [1] 1 ?_;go_wp2_with fail
   refine sg_o ?_;refine anyB_on 3 fun K hK=>?_;go_simp;refine lateK hK ?_;clear hK K;refine anyB_dn ?_;clear u0 u1 v0 v1 v2 ff fg r0 r1 k0 k1 k2;generalize World.setCell _ _ _=w10 at FIN q0 q1 p0 p1 p2⊢;go_wp2_with fail
   refine bodyPost_ret (v:=.tuple #[.agg #[.slice Ar W.rows.length cr,.slice (some ⟨g,0,none⟩) n cap],.agg #[.int .i64 1,.string ⟨#[]⟩,.int .i64 0]]) ?_ rfl ⟨_,cs',by rw[←HR.out];rfl,by rw[←HR.out];exact FIN.out.2.1,by rw[←HR.out];exact FIN.out.2.2,FIN.out.1⟩
   simp[results,results133,go_sem,q0,q1,p0,p1,p2]
theorem refdid_setfull(w:World)(B:Nat)(r:Value)(g cap n:Nat)(W:Wo)(cs:List Value)(i:Nat)(key val:ByteArray)(hB:B≤w.heap.size)(hn:W.ses.length=n)(hr:OPL w B r W.rows)(hs:OSL w B (.slice (some ⟨g,0,none⟩) n cap) W.ses cs)(hi:i<n)(hs0:(W.se i).st≠2)(hc:hasK (W.se i).set key=false)(hl:6≤(W.se i).set.length):
  Calls Tryz.prog 133 #[.agg #[r,.slice (some ⟨g,0,none⟩) n cap],.int .i64 (i:Nat),.agg #[.int .i64 9,.string key,.string val]] w (DidR w B g cap n ((W,noA tFull))):=by
 obtain⟨Ar,cr,A1,z1,A2,z2,A3,z3,A4,z4,rfl,hse,hpre⟩:=did_pre hB hn hr hs hi;have HP:=Hd (hpre ⟨9,key,val⟩);have g1:(i:Int)<(n:Int):=by omega
 have g2:(0:Int)≤(i:Int):=by omega
 have HN:=Hd hn;have HI:=Hd hi;obtain⟨R,hR⟩: ∃R,(W,noA tFull)=R:=⟨_,rfl⟩;rw[hR];obtain⟨t,ht⟩: ∃t,W.se i=t:=⟨_,rfl⟩;rw[ht]at hse HP hs0 hc hl;have HS:=Hd hse;have HR:=Hd hR;clear hpre hse ht hR hn hi hr hs hB;go_enter func133,ntmps133
 go_upto_region 1 with fail
 generalize hw4:(((World.alloc _ _).alloc _).alloc _).alloc _=w4;obtain⟨hz4,f1,y0,y1,y2,y3,y4,hm⟩:=HP.out w4 hw4;have HM:=Hd hm;clear hw4 hm HP;go_upto_region 3 with fail
 clear f1 y0 y1 y2 y3 y4;generalize (World.alloc _ _).alloc _=w6 at HM⊢;have e2:(t.st==2)=false:=by simpa using hs0
 have e2':¬ t.st=2:=hs0;have s0:=HM.out.se.cell_ 0 _ rfl;have s1:=HM.out.se.cell_ 1 _ rfl;have r0:=HM.out.wo.cell_ 0 _ rfl;have r1:=HM.out.wo.cell_ 1 _ rfl;have t0:=HM.out.st.cell_ 0 _ rfl;have t1:=HM.out.st.cell_ 1 _ rfl;go_wp2_with fail
 refine(refat_any _ _ t.set key ((HS.out.at_ HM.out.bel).p1.pl)).mono ?_;rintro e w7 ⟨xv,rfl,b⟩;have HM1:=Hd (HM.out.keep b);clear s0 s1 r0 r1 t0 t1 b HM;rw[hc];have s1:=HM1.out.se.cell_ 1 _ rfl;have r0:=HM1.out.wo.cell_ 0 _ rfl;have r1:=HM1.out.wo.cell_ 1 _ rfl;have g6:(6:Int)≤(t.set.length:Int):=by omega
 have g6':¬ (t.set.length:Int)<6:=by omega
 go_upto_region 49 with fail
 clear r0 r1 s1 g6 g6';refine region_sg [2,3] ?_;have DN:=Hd (HM1.out.keep bR.drew);generalize w7.drew=w8 at DN⊢;have r0:=DN.out.wo.cell_ 0 _ rfl;have r1:=DN.out.wo.cell_ 1 _ rfl;refine anyB_sg [0] 3 ?_;go_wp2_with fail
 refine sg_o ?_;clear r0 r1;refine anyB_on 1 fun K hK=>?_;go_simp;refine(refno_any _ tFull).mono ?_;rintro e w9 ⟨rfl,b⟩;refine thK hK b ?_;clear hK K;have DN:=Hd (DN.out.keep b).toN;clear b;have u0:=DN.out.rw_.cell_ 0 _ rfl;have u1:=DN.out.rw_.cell_ 1 _ rfl;have v0:=DN.out.ra.cell_ 0 _ rfl;have v1:=DN.out.ra.cell_ 1 _ rfl;have v2:=DN.out.ra.cell_ 2 _ rfl;have ff:=DN.out.rw_.frozen;have fg:=DN.out.ra.frozen;obtain⟨E1,E2,E3,E4,E5⟩:=DN.out.toQ.ends rfl (.slice Ar W.rows.length cr) (.slice (some ⟨g,0,none⟩) n cap) (.int .i64 4) (.string tFull) (.int .i64 0);have q0:=E4.cell_ 0 _ rfl;have q1:=E4.cell_ 1 _ rfl;have p0:=E5.cell_ 0 _ rfl;have p1:=E5.cell_ 1 _ rfl;have p2:=E5.cell_ 2 _ rfl;have FIN:=Hd (And.intro E1 (And.intro E2 E3));clear E1 E2 E3 E4 E5;refine anyB_on 2 fun K hK=>?_;go_simp;refine lateK hK ?_;clear hK K;refine anyB_on 3 fun K hK=>?_;go_simp;refine lateK hK ?_;clear hK K;refine anyB_dn ?_;clear u0 u1 v0 v1 v2 ff fg;generalize World.setCell _ _ _=w10 at FIN q0 q1 p0 p1 p2⊢;go_wp2_with fail
 refine bodyPost_ret (v:=.tuple #[.agg #[.slice Ar W.rows.length cr,.slice (some ⟨g,0,none⟩) n cap],.agg #[.int .i64 4,.string tFull,.int .i64 0]]) ?_ rfl ⟨_,cs,by rw[←HR.out];rfl,by rw[←HR.out];exact FIN.out.2.1,by rw[←HR.out];exact FIN.out.2.2,FIN.out.1⟩
 simp[results,results133,go_sem,q0,q1,p0,p1,p2]
theorem refdid_prep(w:World)(B:Nat)(r:Value)(g cap n:Nat)(W:Wo)(cs:List Value)(i:Nat)(key val:ByteArray)(hB:B≤w.heap.size)(hn:W.ses.length=n)(hr:OPL w B r W.rows)(hs:OSL w B (.slice (some ⟨g,0,none⟩) n cap) W.ses cs)(hi:i<n)(hs0:(W.se i).st≠2)(hc:hasK (W.se i).pre key=false→(W.se i).pre.length<6)(hl:(W.se i).pre.length≤6)(hk:key.size≤maxLen)(hv:val.size≤maxLen):
  Calls Tryz.prog 133 #[.agg #[r,.slice (some ⟨g,0,none⟩) n cap],.int .i64 (i:Nat),.agg #[.int .i64 11,.string key,.string val]] w (DidR w B g cap n ((W.put i ⟨(W.se i).st,(W.se i).set,plusP (W.se i).pre key val,(W.se i).sav,(W.se i).wri⟩,okA))):=by
 obtain⟨Ar,cr,A1,z1,A2,z2,A3,z3,A4,z4,rfl,hse,hpre⟩:=did_pre hB hn hr hs hi;have HP:=Hd (hpre ⟨11,key,val⟩);have g1:(i:Int)<(n:Int):=by omega
 have g2:(0:Int)≤(i:Int):=by omega
 have HN:=Hd hn;have HI:=Hd hi;obtain⟨R,hR⟩: ∃R,(W.put i ⟨(W.se i).st,(W.se i).set,plusP (W.se i).pre key val,(W.se i).sav,(W.se i).wri⟩,okA)=R:=⟨_,rfl⟩;rw[hR];obtain⟨t,ht⟩: ∃t,W.se i=t:=⟨_,rfl⟩;rw[ht]at hse HP hR hs0 hc hl;have HF:=Hd (plus_fits hse.p2.fits.2 hk hv (by omega))
 clear hk hv;have HS:=Hd hse;have HR:=Hd hR;clear hpre hse ht hR hn hi hr hs hB;go_enter func133,ntmps133
 go_upto_region 1 with fail
 generalize hw4:(((World.alloc _ _).alloc _).alloc _).alloc _=w4;obtain⟨hz4,f1,y0,y1,y2,y3,y4,hm⟩:=HP.out w4 hw4;have HM:=Hd hm;clear hw4 hm HP;go_upto_region 3 with fail
 clear f1 y0 y1 y2 y3 y4;generalize (World.alloc _ _).alloc _=w6 at HM⊢;have e2:(t.st==2)=false:=by simpa using hs0
 have e2':¬ t.st=2:=hs0;have s0:=HM.out.se.cell_ 0 _ rfl;have s2:=HM.out.se.cell_ 2 _ rfl;have r0:=HM.out.wo.cell_ 0 _ rfl;have r1:=HM.out.wo.cell_ 1 _ rfl;have t0:=HM.out.st.cell_ 0 _ rfl;have t1:=HM.out.st.cell_ 1 _ rfl;go_wp2_with fail
 refine(refat_any _ _ t.pre key ((HS.out.at_ HM.out.bel).p2.pl)).mono ?_;rintro e w7 ⟨xv,rfl,b⟩;have HM1:=Hd (HM.out.keep b);clear s0 s2 r0 r1 t0 t1 b HM;obtain⟨b0,hb0⟩: ∃b,hasK t.pre key=b:=⟨_,rfl⟩;rw[hb0]at hc⊢;clear hb0;cases b0 with
 |true=>
  clear hc;have s2:=HM1.out.se.cell_ 2 _ rfl;have r0:=HM1.out.wo.cell_ 0 _ rfl;have r1:=HM1.out.wo.cell_ 1 _ rfl;have t1:=HM1.out.st.cell_ 1 _ rfl;have t2:=HM1.out.st.cell_ 2 _ rfl;have fs:=HM1.out.se.frozen;go_upto_region 55 with fail
  go_wp2_with fail
  refine(refplus_any _ _ t.pre key val ((HS.out.at_ HM1.out.bel).p2.pl)).mono ?_;rintro e w8 ⟨a,rfl,oa,b⟩;have HM2:=Hd (HM1.out.keep b);have OA:=Hd ((OPL.mk oa HF.out).base (B':=B) (Nat.le_trans HM1.out.hB HM1.out.bel.size));clear oa b s2 r0 r1 t1 t2 fs HM1;obtain⟨F,k,rfl⟩:=OA.out.form;have s2:=HM2.out.se.cell_ 2 _ rfl;have fs:=HM2.out.se.frozen;go_upto_region 65 with fail
  have kp:Keeps 60 w8 (w8.setCell ⟨w.heap.size+4,2,none⟩ (.slice F (plusP t.pre key val).length k)):=Keeps.set_ (p:=⟨w.heap.size+4,2,none⟩) HM2.out.se (by decide) _
  have OB:=Hd (OA.out.keeps kp);have HM3:=Hd (HM2.out.setS rfl 2 (.slice F (plusP t.pre key val).length k) rfl);clear s2 fs HM2 OA kp;generalize World.setCell _ _ _=w9 at HM3 OB⊢;have r0:=HM3.out.wo.cell_ 0 _ rfl;have r1:=HM3.out.wo.cell_ 1 _ rfl;have s0:=HM3.out.se.cell_ 0 _ rfl;have s1:=HM3.out.se.cell_ 1 _ rfl;have s2:=HM3.out.se.cell_ 2 _ rfl;have s3:=HM3.out.se.cell_ 3 _ rfl;have s4:=HM3.out.se.cell_ 4 _ rfl;obtain⟨_,_,_,_,_,c0,c1,c2,c3,c4,fr⟩:=HM3.out.cells5 HN.out HI.out;have fr0:=fr (i*5);have ST:=Hd (HS.out.at_ HM3.out.bel);go_upto_region 66 with fail
  obtain⟨cs',dn⟩:=HM3.out.put5 rfl HN.out (i:=i) (by rw[HN.out];exact HI.out) (s':=⟨t.st,t.set,plusP t.pre key val,t.sav,t.wri⟩) ST.out.p1 OB.out ST.out.p3 ST.out.p4 ST.out.i64
  clear r0 r1 s0 s1 s2 s3 s4 c0 c1 c2 c3 c4 fr fr0 ST;have DN:=Hd dn;clear dn;generalize World.setCell _ _ _=w9 at DN⊢;refine region_sg [2,3] ?_;have DN:=Hd (DN.out.keep bR.drew);generalize w9.drew=w9 at DN⊢;have r0:=DN.out.wo.cell_ 0 _ rfl;have r1:=DN.out.wo.cell_ 1 _ rfl;have k0:=DN.out.ok.cell_ 0 _ rfl;have k1:=DN.out.ok.cell_ 1 _ rfl;have k2:=DN.out.ok.cell_ 2 _ rfl;have u0:=DN.out.rw_.cell_ 0 _ rfl;have u1:=DN.out.rw_.cell_ 1 _ rfl;have v0:=DN.out.ra.cell_ 0 _ rfl;have v1:=DN.out.ra.cell_ 1 _ rfl;have v2:=DN.out.ra.cell_ 2 _ rfl;have ff:=DN.out.rw_.frozen;have fg:=DN.out.ra.frozen;refine anyB_sg [0] 3 ?_;go_wp2_with fail
  refine sg_o ?_;obtain⟨E1,E2,E3,E4,E5⟩:=DN.out.toQ.ends rfl (.slice Ar W.rows.length cr) (.slice (some ⟨g,0,none⟩) n cap) (.int .i64 1) (.string ⟨#[]⟩) (.int .i64 0);have q0:=E4.cell_ 0 _ rfl;have q1:=E4.cell_ 1 _ rfl;have p0:=E5.cell_ 0 _ rfl;have p1:=E5.cell_ 1 _ rfl;have p2:=E5.cell_ 2 _ rfl;have FIN:=Hd (And.intro E1 (And.intro E2 E3));clear E1 E2 E3 E4 E5;refine anyB_tw 1 2 (fun K hK=>?_) fun K hK=>?_
  ·go_simp;refine thK hK bR ?_;clear hK K;refine anyB_on 2 fun K hK=>?_;go_simp;refine lateK hK ?_;clear hK K;refine anyB_on 3 fun K hK=>?_;go_simp;refine lateK hK ?_;clear hK K;refine anyB_dn ?_;clear u0 u1 v0 v1 v2 ff fg r0 r1 k0 k1 k2;generalize World.setCell _ _ _=w10 at FIN q0 q1 p0 p1 p2⊢;go_wp2_with fail
   refine bodyPost_ret (v:=.tuple #[.agg #[.slice Ar W.rows.length cr,.slice (some ⟨g,0,none⟩) n cap],.agg #[.int .i64 1,.string ⟨#[]⟩,.int .i64 0]]) ?_ rfl ⟨_,cs',by rw[←HR.out];rfl,by rw[←HR.out];exact FIN.out.2.1,by rw[←HR.out];exact FIN.out.2.2,FIN.out.1⟩
   simp[results,results133,go_sem,q0,q1,p0,p1,p2]
  ·go_simp;refine lateK hK ?_;clear hK K;refine anyB_sg [1] 1 ?_;go_wp2_with fail
   refine sg_o ?_;refine anyB_on 3 fun K hK=>?_;go_simp;refine lateK hK ?_;clear hK K;refine anyB_dn ?_;clear u0 u1 v0 v1 v2 ff fg r0 r1 k0 k1 k2;generalize World.setCell _ _ _=w10 at FIN q0 q1 p0 p1 p2⊢;go_wp2_with fail
   refine bodyPost_ret (v:=.tuple #[.agg #[.slice Ar W.rows.length cr,.slice (some ⟨g,0,none⟩) n cap],.agg #[.int .i64 1,.string ⟨#[]⟩,.int .i64 0]]) ?_ rfl ⟨_,cs',by rw[←HR.out];rfl,by rw[←HR.out];exact FIN.out.2.1,by rw[←HR.out];exact FIN.out.2.2,FIN.out.1⟩
   simp[results,results133,go_sem,q0,q1,p0,p1,p2]
 |false=>
  have g6:¬ (6:Int)≤(t.pre.length:Int):=by have:=hc rfl;omega
  have g6':(t.pre.length:Int)<6:=by have:=hc rfl;omega
  clear hc;have s2:=HM1.out.se.cell_ 2 _ rfl;have r0:=HM1.out.wo.cell_ 0 _ rfl;have r1:=HM1.out.wo.cell_ 1 _ rfl;have t1:=HM1.out.st.cell_ 1 _ rfl;have t2:=HM1.out.st.cell_ 2 _ rfl;have fs:=HM1.out.se.frozen;go_upto_region 55 with fail
  go_wp2_with fail
  refine(refplus_any _ _ t.pre key val ((HS.out.at_ HM1.out.bel).p2.pl)).mono ?_;rintro e w8 ⟨a,rfl,oa,b⟩;have HM2:=Hd (HM1.out.keep b);have OA:=Hd ((OPL.mk oa HF.out).base (B':=B) (Nat.le_trans HM1.out.hB HM1.out.bel.size));clear oa b s2 r0 r1 t1 t2 fs HM1;obtain⟨F,k,rfl⟩:=OA.out.form;have s2:=HM2.out.se.cell_ 2 _ rfl;have fs:=HM2.out.se.frozen;go_upto_region 65 with fail
  have kp:Keeps 60 w8 (w8.setCell ⟨w.heap.size+4,2,none⟩ (.slice F (plusP t.pre key val).length k)):=Keeps.set_ (p:=⟨w.heap.size+4,2,none⟩) HM2.out.se (by decide) _
  have OB:=Hd (OA.out.keeps kp);have HM3:=Hd (HM2.out.setS rfl 2 (.slice F (plusP t.pre key val).length k) rfl);clear s2 fs HM2 OA kp;generalize World.setCell _ _ _=w9 at HM3 OB⊢;have r0:=HM3.out.wo.cell_ 0 _ rfl;have r1:=HM3.out.wo.cell_ 1 _ rfl;have s0:=HM3.out.se.cell_ 0 _ rfl;have s1:=HM3.out.se.cell_ 1 _ rfl;have s2:=HM3.out.se.cell_ 2 _ rfl;have s3:=HM3.out.se.cell_ 3 _ rfl;have s4:=HM3.out.se.cell_ 4 _ rfl;obtain⟨_,_,_,_,_,c0,c1,c2,c3,c4,fr⟩:=HM3.out.cells5 HN.out HI.out;have fr0:=fr (i*5);have ST:=Hd (HS.out.at_ HM3.out.bel);go_upto_region 66 with fail
  obtain⟨cs',dn⟩:=HM3.out.put5 rfl HN.out (i:=i) (by rw[HN.out];exact HI.out) (s':=⟨t.st,t.set,plusP t.pre key val,t.sav,t.wri⟩) ST.out.p1 OB.out ST.out.p3 ST.out.p4 ST.out.i64
  clear r0 r1 s0 s1 s2 s3 s4 c0 c1 c2 c3 c4 fr fr0 ST;have DN:=Hd dn;clear dn;generalize World.setCell _ _ _=w9 at DN⊢;refine region_sg [2,3] ?_;have DN:=Hd (DN.out.keep bR.drew);generalize w9.drew=w9 at DN⊢;have r0:=DN.out.wo.cell_ 0 _ rfl;have r1:=DN.out.wo.cell_ 1 _ rfl;have k0:=DN.out.ok.cell_ 0 _ rfl;have k1:=DN.out.ok.cell_ 1 _ rfl;have k2:=DN.out.ok.cell_ 2 _ rfl;have u0:=DN.out.rw_.cell_ 0 _ rfl;have u1:=DN.out.rw_.cell_ 1 _ rfl;have v0:=DN.out.ra.cell_ 0 _ rfl;have v1:=DN.out.ra.cell_ 1 _ rfl;have v2:=DN.out.ra.cell_ 2 _ rfl;have ff:=DN.out.rw_.frozen;have fg:=DN.out.ra.frozen;refine anyB_sg [0] 3 ?_;go_wp2_with fail
  refine sg_o ?_;obtain⟨E1,E2,E3,E4,E5⟩:=DN.out.toQ.ends rfl (.slice Ar W.rows.length cr) (.slice (some ⟨g,0,none⟩) n cap) (.int .i64 1) (.string ⟨#[]⟩) (.int .i64 0);have q0:=E4.cell_ 0 _ rfl;have q1:=E4.cell_ 1 _ rfl;have p0:=E5.cell_ 0 _ rfl;have p1:=E5.cell_ 1 _ rfl;have p2:=E5.cell_ 2 _ rfl;have FIN:=Hd (And.intro E1 (And.intro E2 E3));clear E1 E2 E3 E4 E5;refine anyB_tw 1 2 (fun K hK=>?_) fun K hK=>?_
  ·go_simp;refine thK hK bR ?_;clear hK K;refine anyB_on 2 fun K hK=>?_;go_simp;refine lateK hK ?_;clear hK K;refine anyB_on 3 fun K hK=>?_;go_simp;refine lateK hK ?_;clear hK K;refine anyB_dn ?_;clear u0 u1 v0 v1 v2 ff fg r0 r1 k0 k1 k2;generalize World.setCell _ _ _=w10 at FIN q0 q1 p0 p1 p2⊢;go_wp2_with fail
   refine bodyPost_ret (v:=.tuple #[.agg #[.slice Ar W.rows.length cr,.slice (some ⟨g,0,none⟩) n cap],.agg #[.int .i64 1,.string ⟨#[]⟩,.int .i64 0]]) ?_ rfl ⟨_,cs',by rw[←HR.out];rfl,by rw[←HR.out];exact FIN.out.2.1,by rw[←HR.out];exact FIN.out.2.2,FIN.out.1⟩
   simp[results,results133,go_sem,q0,q1,p0,p1,p2]
  ·go_simp;refine lateK hK ?_;clear hK K;refine anyB_sg [1] 1 ?_;go_wp2_with fail
   refine sg_o ?_;refine anyB_on 3 fun K hK=>?_;go_simp;refine lateK hK ?_;clear hK K;refine anyB_dn ?_;clear u0 u1 v0 v1 v2 ff fg r0 r1 k0 k1 k2;generalize World.setCell _ _ _=w10 at FIN q0 q1 p0 p1 p2⊢;go_wp2_with fail
   refine bodyPost_ret (v:=.tuple #[.agg #[.slice Ar W.rows.length cr,.slice (some ⟨g,0,none⟩) n cap],.agg #[.int .i64 1,.string ⟨#[]⟩,.int .i64 0]]) ?_ rfl ⟨_,cs',by rw[←HR.out];rfl,by rw[←HR.out];exact FIN.out.2.1,by rw[←HR.out];exact FIN.out.2.2,FIN.out.1⟩
   simp[results,results133,go_sem,q0,q1,p0,p1,p2]
theorem refdid_prepfull(w:World)(B:Nat)(r:Value)(g cap n:Nat)(W:Wo)(cs:List Value)(i:Nat)(key val:ByteArray)(hB:B≤w.heap.size)(hn:W.ses.length=n)(hr:OPL w B r W.rows)(hs:OSL w B (.slice (some ⟨g,0,none⟩) n cap) W.ses cs)(hi:i<n)(hs0:(W.se i).st≠2)(hc:hasK (W.se i).pre key=false)(hl:6≤(W.se i).pre.length):
  Calls Tryz.prog 133 #[.agg #[r,.slice (some ⟨g,0,none⟩) n cap],.int .i64 (i:Nat),.agg #[.int .i64 11,.string key,.string val]] w (DidR w B g cap n ((W,noA tFull))):=by
 obtain⟨Ar,cr,A1,z1,A2,z2,A3,z3,A4,z4,rfl,hse,hpre⟩:=did_pre hB hn hr hs hi;have HP:=Hd (hpre ⟨11,key,val⟩);have g1:(i:Int)<(n:Int):=by omega
 have g2:(0:Int)≤(i:Int):=by omega
 have HN:=Hd hn;have HI:=Hd hi;obtain⟨R,hR⟩: ∃R,(W,noA tFull)=R:=⟨_,rfl⟩;rw[hR];obtain⟨t,ht⟩: ∃t,W.se i=t:=⟨_,rfl⟩;rw[ht]at hse HP hs0 hc hl;have HS:=Hd hse;have HR:=Hd hR;clear hpre hse ht hR hn hi hr hs hB;go_enter func133,ntmps133
 go_upto_region 1 with fail
 generalize hw4:(((World.alloc _ _).alloc _).alloc _).alloc _=w4;obtain⟨hz4,f1,y0,y1,y2,y3,y4,hm⟩:=HP.out w4 hw4;have HM:=Hd hm;clear hw4 hm HP;go_upto_region 3 with fail
 clear f1 y0 y1 y2 y3 y4;generalize (World.alloc _ _).alloc _=w6 at HM⊢;have e2:(t.st==2)=false:=by simpa using hs0
 have e2':¬ t.st=2:=hs0;have s0:=HM.out.se.cell_ 0 _ rfl;have s2:=HM.out.se.cell_ 2 _ rfl;have r0:=HM.out.wo.cell_ 0 _ rfl;have r1:=HM.out.wo.cell_ 1 _ rfl;have t0:=HM.out.st.cell_ 0 _ rfl;have t1:=HM.out.st.cell_ 1 _ rfl;go_wp2_with fail
 refine(refat_any _ _ t.pre key ((HS.out.at_ HM.out.bel).p2.pl)).mono ?_;rintro e w7 ⟨xv,rfl,b⟩;have HM1:=Hd (HM.out.keep b);clear s0 s2 r0 r1 t0 t1 b HM;rw[hc];have s2:=HM1.out.se.cell_ 2 _ rfl;have r0:=HM1.out.wo.cell_ 0 _ rfl;have r1:=HM1.out.wo.cell_ 1 _ rfl;have g6:(6:Int)≤(t.pre.length:Int):=by omega
 have g6':¬ (t.pre.length:Int)<6:=by omega
 go_upto_region 54 with fail
 clear r0 r1 s2 g6 g6';refine region_sg [2,3] ?_;have DN:=Hd (HM1.out.keep bR.drew);generalize w7.drew=w8 at DN⊢;have r0:=DN.out.wo.cell_ 0 _ rfl;have r1:=DN.out.wo.cell_ 1 _ rfl;refine anyB_sg [0] 3 ?_;go_wp2_with fail
 refine sg_o ?_;clear r0 r1;refine anyB_on 1 fun K hK=>?_;go_simp;refine(refno_any _ tFull).mono ?_;rintro e w9 ⟨rfl,b⟩;refine thK hK b ?_;clear hK K;have DN:=Hd (DN.out.keep b).toN;clear b;have u0:=DN.out.rw_.cell_ 0 _ rfl;have u1:=DN.out.rw_.cell_ 1 _ rfl;have v0:=DN.out.ra.cell_ 0 _ rfl;have v1:=DN.out.ra.cell_ 1 _ rfl;have v2:=DN.out.ra.cell_ 2 _ rfl;have ff:=DN.out.rw_.frozen;have fg:=DN.out.ra.frozen;obtain⟨E1,E2,E3,E4,E5⟩:=DN.out.toQ.ends rfl (.slice Ar W.rows.length cr) (.slice (some ⟨g,0,none⟩) n cap) (.int .i64 4) (.string tFull) (.int .i64 0);have q0:=E4.cell_ 0 _ rfl;have q1:=E4.cell_ 1 _ rfl;have p0:=E5.cell_ 0 _ rfl;have p1:=E5.cell_ 1 _ rfl;have p2:=E5.cell_ 2 _ rfl;have FIN:=Hd (And.intro E1 (And.intro E2 E3));clear E1 E2 E3 E4 E5;refine anyB_on 2 fun K hK=>?_;go_simp;refine lateK hK ?_;clear hK K;refine anyB_on 3 fun K hK=>?_;go_simp;refine lateK hK ?_;clear hK K;refine anyB_dn ?_;clear u0 u1 v0 v1 v2 ff fg;generalize World.setCell _ _ _=w10 at FIN q0 q1 p0 p1 p2⊢;go_wp2_with fail
 refine bodyPost_ret (v:=.tuple #[.agg #[.slice Ar W.rows.length cr,.slice (some ⟨g,0,none⟩) n cap],.agg #[.int .i64 4,.string tFull,.int .i64 0]]) ?_ rfl ⟨_,cs,by rw[←HR.out];rfl,by rw[←HR.out];exact FIN.out.2.1,by rw[←HR.out];exact FIN.out.2.2,FIN.out.1⟩
 simp[results,results133,go_sem,q0,q1,p0,p1,p2]
end Go.Proofs.YtjbnfigpflambacGreatDoor
