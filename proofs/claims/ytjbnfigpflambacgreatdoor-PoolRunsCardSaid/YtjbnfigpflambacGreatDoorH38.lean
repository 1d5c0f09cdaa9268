/- (pool).deliver. Conditions: those of each lemma. -/
import Derived.Test.YtjbnfigpflambacGreatDoorH36
import Derived.Test.YtjbnfigpflambacGreatDoorH37
namespace Go.Proofs.YtjbnfigpflambacGreatDoor
set_option maxRecDepth 100000
set_option maxHeartbeats 16000000
open _root_.Go.Proofs.Tryz
open Go.ChangeShapes Go.WideShapes Go.ChangeAt Go.RowKit
def DelvL(w wr:World)(B p:Nat)(V:PV)(f:Fr)(b:PB)(c L:Nat)(x0:Cl)(k:Nat):Prop:=
 ∃(x:Cl) (V':PV) (ks':List KV),x.bytes.size<k∧feedC x=feedC x0∧pN x≤L∧PoolR wr B p V' ks' (MV.of (f.set c x) b)∧Turn p w V wr V'
theorem deliver_any(w:World)(B p:Nat)(V:PV)(ks:List KV)(f:Fr)(b:PB)(N:Nat)(h:PoolR w B p V ks (MV.of f b))(hT:TabB w B)(hO:Ok (f,b) N)(c:Nat)(hc:c<6)(data:ByteArray)(hN:N+data.size≤1000000):
  Calls Tryz.prog 45 #[.pointer (some ⟨p,0,none⟩),.int .i64 (c:Nat),.string data] w fun e w'=>e= .returned (.tuple #[])∧Done w B p V (MV.of (deliverM poolB (f,b) c data).1 (deliverM poolB (f,b) c data).2) w':=by
 have g1:(c:Int)<6:=by omega
 have g2:(0:Int)≤(c:Int):=by omega
 have HC:=Hd hc;have HT:=Hd hT;have HR:=Hd h;have HN:=Hd hN;have HCL:=Hd (hO.len hc);have HP:=Hd (hO.pour hc data);have hsz:(f.c c).pend.length+(f.c c).bytes.size≤N:=hO.fit.bytes (hO.len hc);obtain⟨Mz,hMz⟩: ∃Mz,MV.of (deliverM poolB (f,b) c data).1 (deliverM poolB (f,b) c data).2=Mz:=⟨_,rfl⟩;rw[hMz];have HMZ:=Hd hMz;obtain⟨x0,hx0⟩: ∃x0:Cl,⟨(f.c c).bytes++data,(f.c c).pend,(f.c c).srv,(f.c c).sent⟩=x0:=⟨_,rfl⟩;have HX0:=Hd hx0;obtain⟨by1,hb1⟩: ∃s,(f.c c).bytes=s:=⟨_,rfl⟩;have y0:w.cell? ⟨p,6+c*10,none⟩=some (.string by1):=by rw[←hb1];exact h.b.cellC (k:=0) hc (by decide)
 have fp:=h.b.frozen;have r1:=h.put_bytes hc (by1++data);have L0:=Hd (show DelvL w (w.setCell ⟨p,6+c*10,none⟩ (.string (by1++data))) B p V f b c (N+data.size) x0 (x0.bytes.size+1)from⟨x0,V,ks,Nat.lt_succ_self _,rfl,by
  rw[←hx0];unfold pN;simp only[ByteArray.size_append];omega,by
  have e:({MV.of f b with bytes:=up (MV.of f b).bytes c (by1++data)}:MV)=MV.of (f.set c x0) b:=by
   have:=fs_bytes (b:=b) (hO.len hc) (f.c c) (by1++data);rw[set_self]at this;rw[this,←hx0,hb1]
  rw[←e];exact r1.1,r1.2⟩)
 have hbs:by1.size≤1000000∧data.size≤1000000:=by rw[←hb1];omega
 obtain⟨d1,d2⟩:=hbs;clear h hT hO hMz hx0 hb1 hN hsz hc r1;go_enter func45,ntmps45
 go_upto_block 0 with fail
 clear y0 fp d1 d2;generalize World.setCell _ _ _=x1 at L0⊢;go_wp2_with fail
 go_loopg [] (x0.bytes.size+1) (fun k wr=>Hid (DelvL w wr B p V f b c (N+data.size) x0 k))
 case atStart=>exact L0
 case round=>
  have HL:=Hd hrel.out;clear hrel;obtain⟨x,V1,ks1,hlt,hfe,hpn,r1,t1⟩:=HL.out;have HLT:=Hd hlt;have HFE:=Hd hfe;have HPN:=Hd hpn;obtain⟨by0,hb0⟩: ∃s,x.bytes=s:=⟨_,rfl⟩;have HB0:=Hd hb0;have y0:wr.cell? ⟨p,6+c*10,none⟩=some (.string by0):=by
   rw[←hb0,←(fs_at (b:=b) HCL.out x).1];exact r1.b.cellC (k:=0) HC.out (by decide)
  have fp:=r1.b.frozen;have R1:=Hd r1;have T1:=Hd t1;have hsz:by0.size≤1000000:=by
   have h1:=HN.out;unfold pN at hpn;rw[hb0]at hpn;omega
  have HSZ:=Hd hsz;have HMX:=Hd (le_maxLen (show by0.size≤140737488351232 by omega))
  clear hlt hfe hpn r1 t1 hb0 HL;go_wp2_with fail
  refine(unpack_any by0 _ HMX.out).mono ?_;rintro e w3 ⟨rfl,b3⟩;by_cases hw:wholeB by0=true
  ·rw[if_pos hw];obtain⟨h2,h3⟩:=head_le hw;have HW:=Hd hw;obtain⟨hd,hhd⟩: ∃n,headN by0=n:=⟨_,rfl⟩;obtain⟨tx,htx⟩: ∃t,textAt by0=t:=⟨_,rfl⟩;obtain⟨kv,hkv⟩: ∃k,kindAt by0=k:=⟨_,rfl⟩;obtain⟨kn,hkn⟩: ∃k:Nat,kv.toNat=k:=⟨_,rfl⟩;rw[hhd]at h2 h3⊢;rw[htx,hkv,hkn];have HHD:=Hd hhd;have HTX:=Hd htx;have HKV:=Hd hkv;have HKN:=Hd hkn;have q1:¬ ((hd:Int)=0):=by omega
   have q2:((hd:Int)==0)=false:=by simpa using q1
   have q3:(hd:Int)≤(by0.size:Int):=by omega
   have q4:(0:Int)≤(hd:Int):=by omega
   have y0:=keep_cell b3 y0;have R3:=Hd (R1.out.below b3);have T3:=Hd (T1.out.below b3);have fp:=R3.out.b.frozen;clear b3 hw hhd htx hkv hkn;go_upto_region 5 with fail
   clear y0 fp;obtain⟨x1,hx1⟩: ∃x1:Cl,⟨restAt by0,x.pend,x.srv,x.sent⟩=x1:=⟨_,rfl⟩;have HX1:=Hd hx1;have hre:by0.extract hd by0.size=restAt by0:=by unfold restAt;rw[HHD.out]
   have r4:=R3.out.put_bytes HC.out (restAt by0);rw[fs_bytes HCL.out,hx1]at r4;rw[hre];have r4':PoolR (w3.setCell ⟨p,6+c*10,none⟩ (.string (restAt by0))) B p V1 ks1 (MV.of (f.set c x1) b)∧Turn p w3 V1 (w3.setCell ⟨p,6+c*10,none⟩ (.string (restAt by0))) V1:=r4;have R4:=Hd r4'.1;have T4:=Hd (T3.out.trans r4'.2);clear r4 r4' hx1 hre R3 T3 R1 T1;generalize World.setCell _ _ _=x4 at R4 T4⊢;by_cases h88:kn=88
   ·subst h88;have hfx:feedC x=(x1,true):=by
     rw[feedC,dif_pos (by rw[HB0.out];exact HW.out),if_pos (by rw[HB0.out,HKV.out];exact UInt8.toNat_inj.1 HKN.out)]
     rw[HB0.out,HX1.out]
    have hpo:pourC (f.c c) data=(x1,true):=by
     unfold pourC;rw[HX0.out,←HFE.out,hfx]
    have hok:=HP.out;simp only[hpo]at hok;have HE:=Hd (show Mz=MV.of (pumpM poolB (closeM poolB (pumpM poolB (f.set c x1,b)) c)).1 (pumpM poolB (closeM poolB (pumpM poolB (f.set c x1,b)) c)).2 by
     rw[←HMZ.out];unfold deliverM;simp only[hpo];rfl)
    have HK1:=Hd hok;clear hfx hpo hok;go_wp2_with fail
    refine(pump_any _ B p V1 ks1 _ b (N+data.size) R4.out (HT.out.turn HR.out.o T4.out) HK1.out HN.out).mono ?_;rintro e w5 ⟨rfl,⟨V5,ks5,r5,t5⟩⟩;have R5:=Hd r5;have T5:=Hd (T4.out.trans t5);have HK5:=Hd HK1.out.pump;clear r5 t5;obtain⟨⟨f5,b5⟩,h5⟩: ∃z,pumpM poolB (f.set c x1,b)=z:=⟨_,rfl⟩;rw[h5]at R5 HK5 HE;clear h5;simp only at R5;go_wp2_with fail
    refine(close_any _ B p V5 ks5 f5 b5 (N+data.size) R5.out (HT.out.turn HR.out.o T5.out) HK5.out c HC.out).mono ?_;rintro e w6 ⟨rfl,⟨V6,ks6,r6,t6⟩⟩;have R6:=Hd r6;have T6:=Hd (T5.out.trans t6);have HK6:=Hd (HK5.out.close HC.out);clear r6 t6;obtain⟨⟨f6,b6⟩,h6⟩: ∃z,closeM poolB (f5,b5) c=z:=⟨_,rfl⟩;rw[h6]at R6 HK6 HE;clear h6;simp only at R6;go_wp2_with fail
    refine(pump_any _ B p V6 ks6 f6 b6 (N+data.size) R6.out (HT.out.turn HR.out.o T6.out) HK6.out HN.out).mono ?_;rintro e w7 ⟨rfl,d⟩;have HF:=Hd (Done.trans ⟨R6.out,T6.out⟩ d);clear d;go_wp2_with fail
    refine bodyPost_ret (results_none rfl _ _ _) rfl ⟨rfl,?_⟩;rw[HE.out];exact HF.out
   ·have hfx:feedC x=feedC ⟨restAt by0,x.pend++[askedOf by0],x.srv,x.sent⟩:=by
     rw[feedC,dif_pos (by rw[HB0.out];exact HW.out),if_neg (by rw[HB0.out,HKV.out];exact fun e=>h88 (by rw[←HKN.out,e];rfl))]
     rw[HB0.out]
    have HFX:=Hd hfx;have n1:¬ ((kn:Int)=88):=by omega
    have n2:((kn:Int)==88)=false:=by simpa using n1
    have hrd:=fun w hT=>read_any tx (by rw[←HTX.out];exact Nat.le_trans (textAt_size by0) (by decide)) w hT
    obtain⟨ev,hev⟩: ∃e,readE tx=e:=⟨_,rfl⟩;obtain⟨⟨sK,sk,sv⟩,hst⟩: ∃s,readS tx=s:=⟨_,rfl⟩;rw[hev,hst]at hrd;have HRD:=Hd hrd;have HEV:=Hd hev;have HA1:=Hd (show(askedOf by0).1=⟨sK,sk,sv⟩by unfold askedOf;rw[HTX.out];exact hst)
    clear hfx hrd hev hst;go_wp2_with fail
    refine(HRD.out _ (HT.out.turn HR.out.o T4.out).tabs).mono ?_;rintro e x5 ⟨rfl,b5⟩;unfold St.v;have R5:=Hd (R4.out.below b5);have T5:=Hd (T4.out.below b5);clear b5 R4 T4;go_upto_region 10 with fail
    have D5:=Blk.new x5 41 #[.int .i64 sK,.string sk,.string sv];have hb6:=boxed x5 (.cells #[.int .i64 sK,.string sk,.string sv] 41);have R6:=Hd (R5.out.below hb6);have T6:=Hd (T5.out.below hb6);obtain⟨z5,hz5⟩: ∃z,x5.heap.size=z:=⟨_,rfl⟩;rw[hz5]at D5;try rw[hz5]
    clear hb6 R5 T5 hz5;generalize World.alloc _ _=x6 at D5 R6 T6⊢;have HD5:=Hd D5;clear D5;have HDL:=Hd (fun(wx:World) (V2:PV) (ks2:List KV) (r2:PoolR wx B p V2 ks2 (MV.of (f.set c ⟨restAt by0,x.pend++[askedOf by0],x.srv,x.sent⟩) b)) (t2:Turn p w V wx V2)=>show DelvL w wx B p V f b c (N+data.size) x0 x.bytes.size from⟨_,V2,ks2,by rw[HB0.out];exact rest_lt HW.out,by rw[←HFX.out];exact HFE.out,by
      have h1:=HPN.out;have h2:=rest_le by0 HW.out;unfold pN at h1⊢;rw[HB0.out]at h1;simp only[List.length_append,List.length_singleton];omega,r2,t2⟩)
    obtain⟨MX,hMX⟩: ∃M,MV.of (f.set c x1) b=M:=⟨_,rfl⟩;obtain⟨PL,hPL⟩: ∃l,x.pend.map (·.1)=l:=⟨_,rfl⟩;obtain⟨QL,hQL⟩: ∃l,x.pend.map (·.2)=l:=⟨_,rfl⟩;have hp1:MX.pend c=PL:=by rw[←hMX,(fs_at HCL.out x1).2.1,←HX1.out];exact hPL
    have hp2:MX.bad c=QL:=by rw[←hMX,(fs_at HCL.out x1).2.2,←HX1.out];exact hQL
    have HM2:=Hd (fun bd:Bool=>show MV.of (f.set c ⟨restAt by0,x.pend++[(⟨sK,sk,sv⟩,bd)],x.srv,x.sent⟩) b=({({MX with pend:=up MX.pend c (PL++[⟨sK,sk,sv⟩])}:MV)with bad:=up MX.bad c (QL++[bd])}:MV)by
     have:=fs_pend (b:=b) HCL.out x1 ⟨sK,sk,sv⟩ bd;rw[hMX,←HX1.out]at this;simp only[hPL,hQL]at this;exact this.symm)
    have hl1:PL.length≤1000000∧QL.length≤1000000:=by
     have h1:=HPN.out;have h2:=HN.out;unfold pN at h1;rw[←hPL,←hQL,List.length_map,List.length_map];omega
    rw[hMX]at R6;obtain⟨A1,k1,e1,_⟩:=(R6.out.o.pend c HC.out).form;obtain⟨A2,k2,e2,_⟩:=(R6.out.o.bad c HC.out).form;rw[hp1]at e1;rw[hp2]at e2;obtain⟨np,hnp⟩: ∃n,PL.length=n:=⟨_,rfl⟩;obtain⟨nq,hnq⟩: ∃n,QL.length=n:=⟨_,rfl⟩;rw[hnp]at e1 hl1;rw[hnq]at e2 hl1;have y1:x6.cell? ⟨p,6+c*10+1,none⟩=some (V1.pend c):=R6.out.b.cellC (k:=1) HC.out (by decide)
    have y2:x6.cell? ⟨p,6+c*10+2,none⟩=some (V1.bad c):=R6.out.b.cellC (k:=2) HC.out (by decide)
    rw[e1]at y1;rw[e2]at y2;have f0:=HD5.out.cell_ 0 _ rfl;have f1:=HD5.out.cell_ 1 _ rfl;have f2:=HD5.out.cell_ 2 _ rfl;have HP1:=Hd hp1;have HP2:=Hd hp2;have HPL:=Hd hnp;have HQL:=Hd hnq;have EP:=Hd e1;have EQ:=Hd e2;have HNP:=Hd hl1.1;have HNQ:=Hd hl1.2;obtain⟨i0,hi0,hz0,hz1,hz2⟩:=info_parts stmt_info;have Y0:=Hd (show x6.drew.cell? ⟨p,6+c*10+2,none⟩=some (.slice A2 nq k2)from y2);have R0:=Hd (show PoolM x6.drew B p V1 ks1 MX V1 MX from⟨R6.out.o.below bR.drew,R6.out.b.keep rfl⟩);have T0:=Hd (T6.out.below bR.drew);clear hMX hPL hQL hp1 hp2 hnp hnq e1 e2 hl1 R6 T6;by_cases h81:kn=81
    ·subst h81;have HBD:=Hd (show(askedOf by0).2=(ev !=0)by
      unfold askedOf;simp only;rw[HKV.out,HTX.out,HEV.out,show kv=81 from UInt8.toNat_inj.1 HKN.out];by_cases h:ev=0<;>simp[h])
     refine region_sg [8,20,23,26] ?_;refine anyB_sg [0,1,2,3,4,5,6,9,10,11,13,14] 15 ?_;go_wp2_with fail
     refine sg_o ?_;clear y1 y2 f0 f1 f2;generalize World.drew _=x0 at R0 T0 Y0⊢;refine anyB_tw 7 12 (fun K hK=>?_) fun K hK=>?_
     ·go_simp;refine thK hK (boxed _ _) ?_;clear hK K;have D:=Blk.new x0 41 #[.int .i64 sK,.string sk,.string sv];have hbx:=boxed x0 (.cells #[.int .i64 sK,.string sk,.string sv] 41);have R1:=Hd (R0.out.below hbx);have T1:=Hd (T0.out.below hbx);have HD:=Hd D;have Y1:=Hd (keep_cell hbx Y0.out);obtain⟨zd,hzd⟩: ∃z,x0.heap.size=z:=⟨_,rfl⟩;rw[hzd]at HD⊢;clear D hbx R0 T0 Y0 hzd;generalize World.alloc _ _=x1 at HD R1 T1 Y1⊢;refine anyB_tw 8 12 (fun K hK=>?_) fun K hK=>?_
      ·rw[if_pos (by rfl)]
       have ho:=R1.out.o.pend c HC.out;rw[HP1.out,EP.out,HPL.out]at ho;have HO1:=Hd ho;have HB1:=Hd R1.out.o.leB;clear ho;refine wp_append_o _ _ _ _ rfl B 41 i0 _ 3 40 underlying63 hi0 hz0 hz1 hz2 rfl (by decide) (.slice A1 np k1) np (stV PL) rfl HO1.out x1.heap.size (some ⟨zd,0,none⟩) 1 1 (stV [⟨sK,sk,sv⟩]) rfl (reads_one HD.out rfl) (by intro u hu;simp only[stV,List.flatMap_cons,List.flatMap_nil,List.append_nil,List.mem_cons,List.not_mem_nil,or_false]at hu;rcases hu with rfl|rfl|rfl<;>rfl) (le_maxLen (by have:=HNP.out;omega)) (by have:=HNP.out;omega) HB1.out ?_
       intro v1 x2 ho hg hn;refine lateK hK ?_;clear hK K;obtain⟨A5,k5,e5,_⟩:=ho.form;have mm:=R1.out.app_pend HC.out (v:=v1) (l:=PL++[⟨sK,sk,sv⟩]) (by rw[List.length_append,stV_app,HPL.out];exact ho) (by rw[EP.out];exact hg) (by rw[EP.out];exact hn)
       have R2:=Hd mm.1;have T2:=Hd (T1.out.trans mm.2);have Y2:=Hd (show x2.cell? ⟨p,6+c*10+2,none⟩=some (.slice A2 nq k2)by rw[←EQ.out];exact mm.1.b.cellC (k:=2) HC.out (by decide))
       subst e5;clear mm ho hg hn HO1 HB1 R1 T1 Y1 HD;refine anyB_sg [15,16,17,18] 9 ?_;go_wp2_with fail
       refine sg_o ?_;refine anyB_tw 12 19 (fun K hK=>?_) fun K hK=>?_
       ·have y:=Y2.out;go_simp;refine thK hK bR ?_;clear hK K;clear y;generalize hx:x2=x3 at R2 T2 Y2⊢;have R3:=R2;have T3:=T2;have Y3:=Y2;try rw[hx]at HD
        clear R2 T2 Y2 hx;refine anyB_on 19 fun K hK=>?_;go_simp;refine thK hK (boxed _ _) ?_;clear hK K;have D:=Blk.new x3 4 #[.bool (ev !=0)];have hbx:=boxed x3 (.cells #[.bool (ev !=0)] 4);have R4:=Hd (R3.out.below hbx);have T4:=Hd (T3.out.below hbx);have Y4:=Hd (keep_cell hbx Y3.out);have HD:=Hd D;obtain⟨zb,hzb⟩: ∃z,x3.heap.size=z:=⟨_,rfl⟩;rw[hzb]at HD⊢;clear D hbx R3 T3 Y3 hzb;generalize World.alloc _ _=x4 at HD R4 T4 Y4⊢;obtain⟨i1,hi1,hy0,hy1,hy2⟩:=info_parts bool_info;have ho:=R4.out.o.bad c HC.out;simp only at ho;rw[HP2.out,EQ.out,HQL.out]at ho;have HO1:=Hd ho;have HB1:=Hd R4.out.o.leB;clear ho;refine anyB_on 20 fun K hK=>?_;rw[if_pos (by rfl)]
        refine wp_append_o _ _ _ _ rfl B 4 i1 _ 1 1 underlying90 hi1 hy0 hy1 hy2 rfl (by decide) (.slice A2 nq k2) nq (badV QL) rfl HO1.out x4.heap.size (some ⟨zb,0,none⟩) 1 1 (badV [(ev !=0)]) rfl (reads_one HD.out rfl) (by intro u hu;simp only[badV,List.map_cons,List.map_nil,List.mem_cons,List.not_mem_nil,or_false]at hu;subst hu;rfl) (le_maxLen (by have:=HNQ.out;omega)) (by have:=HNQ.out;omega) HB1.out ?_
        intro v2 x5 ho hg hn;refine lateK hK ?_;clear hK K;obtain⟨A6,k6,e6,_⟩:=ho.form;have mm:=R4.out.app_bad HC.out (v:=v2) (l:=QL++[(ev !=0)]) (by rw[List.length_append,badV_app,HQL.out];exact ho) (by simp only;rw[EQ.out];exact hg) (by simp only;rw[EQ.out];exact hn)
        subst e6;have c1:x5.cell? ⟨p,6+c*10+1,none⟩=some (V1.pend c):=mm.1.b.cellC (k:=1) HC.out (by decide)
        have c2:x5.cell? ⟨p,6+c*10+2,none⟩=some (V1.bad c):=mm.1.b.cellC (k:=2) HC.out (by decide)
        have fp:=mm.1.b.frozen;have sto:=mm.1.stored HC.out;have HF:=Hd (And.intro sto.1 ((T4.out.trans mm.2).trans sto.2));clear mm sto ho hg hn HO1 HB1 R4 T4 Y4 HD hi1 hy0 hy1 hy2;refine anyB_sg [21,22] 4 ?_;go_wp2_with fail
        refine sg_o ?_;refine anyB_on 23 fun K hK=>?_;go_simp;refine lateK hK ?_;clear hK K;refine anyB_sg [24,25] 1 ?_;go_wp2_with fail
        refine sg_o ?_;refine anyB_on 26 fun K hK=>?_;go_simp;refine lateK hK ?_;clear hK K;refine anyB_dn ?_;clear c1 c2 fp;generalize World.setCell _ _ _=x9 at HF⊢;have HF2:=Hd (HDL.out x9 _ _ (by rw[show askedOf by0=(⟨sK,sk,sv⟩,(ev !=0))from Prod.ext HA1.out HBD.out,HM2.out];exact HF.out.1) HF.out.2)
        clear HF;go_wp2_with fail
        go_roundg x.bytes.size
        case measure=>exact HLT.out
        case rel=>exact HF2
       ·go_simp;refine thK hK (boxed _ _) ?_;clear hK K;have D:=Blk.new x2 4 #[.bool (ev !=0)];have hbx:=boxed x2 (.cells #[.bool (ev !=0)] 4);have R3:=Hd (R2.out.below hbx);have T3:=Hd (T2.out.below hbx);have Y3:=Hd (keep_cell hbx Y2.out);have HD:=Hd D;obtain⟨zb,hzb⟩: ∃z,x2.heap.size=z:=⟨_,rfl⟩;rw[hzb]at HD⊢;clear D hbx R2 T2 Y2 hzb;generalize World.alloc _ _=x3 at HD R3 T3 Y3⊢;refine anyB_on 12 fun K hK=>?_;have y:=Y3.out;go_simp;refine thK hK bR ?_;clear hK K;clear y;generalize hx:x3=x4 at R3 T3 Y3⊢;have R4:=R3;have T4:=T3;have Y4:=Y3;try rw[hx]at HD
        clear R3 T3 Y3 hx;obtain⟨i1,hi1,hy0,hy1,hy2⟩:=info_parts bool_info;have ho:=R4.out.o.bad c HC.out;simp only at ho;rw[HP2.out,EQ.out,HQL.out]at ho;have HO1:=Hd ho;have HB1:=Hd R4.out.o.leB;clear ho;refine anyB_on 20 fun K hK=>?_;rw[if_pos (by rfl)]
        refine wp_append_o _ _ _ _ rfl B 4 i1 _ 1 1 underlying90 hi1 hy0 hy1 hy2 rfl (by decide) (.slice A2 nq k2) nq (badV QL) rfl HO1.out x4.heap.size (some ⟨zb,0,none⟩) 1 1 (badV [(ev !=0)]) rfl (reads_one HD.out rfl) (by intro u hu;simp only[badV,List.map_cons,List.map_nil,List.mem_cons,List.not_mem_nil,or_false]at hu;subst hu;rfl) (le_maxLen (by have:=HNQ.out;omega)) (by have:=HNQ.out;omega) HB1.out ?_
        intro v2 x5 ho hg hn;refine lateK hK ?_;clear hK K;obtain⟨A6,k6,e6,_⟩:=ho.form;have mm:=R4.out.app_bad HC.out (v:=v2) (l:=QL++[(ev !=0)]) (by rw[List.length_append,badV_app,HQL.out];exact ho) (by simp only;rw[EQ.out];exact hg) (by simp only;rw[EQ.out];exact hn)
        subst e6;have c1:x5.cell? ⟨p,6+c*10+1,none⟩=some (V1.pend c):=mm.1.b.cellC (k:=1) HC.out (by decide)
        have c2:x5.cell? ⟨p,6+c*10+2,none⟩=some (V1.bad c):=mm.1.b.cellC (k:=2) HC.out (by decide)
        have fp:=mm.1.b.frozen;have sto:=mm.1.stored HC.out;have HF:=Hd (And.intro sto.1 ((T4.out.trans mm.2).trans sto.2));clear mm sto ho hg hn HO1 HB1 R4 T4 Y4 HD hi1 hy0 hy1 hy2;refine anyB_sg [21,22] 4 ?_;go_wp2_with fail
        refine sg_o ?_;refine anyB_on 23 fun K hK=>?_;go_simp;refine lateK hK ?_;clear hK K;refine anyB_sg [24,25] 1 ?_;go_wp2_with fail
        refine sg_o ?_;refine anyB_on 26 fun K hK=>?_;go_simp;refine lateK hK ?_;clear hK K;refine anyB_dn ?_;clear c1 c2 fp;generalize World.setCell _ _ _=x9 at HF⊢;have HF2:=Hd (HDL.out x9 _ _ (by rw[show askedOf by0=(⟨sK,sk,sv⟩,(ev !=0))from Prod.ext HA1.out HBD.out,HM2.out];exact HF.out.1) HF.out.2)
        clear HF;go_wp2_with fail
        go_roundg x.bytes.size
        case measure=>exact HLT.out
        case rel=>exact HF2
      ·have y:=Y1.out;go_simp;refine thK hK bR ?_;clear hK K;clear y;generalize hx:x1=x2 at R1 T1 Y1⊢;have R2:=R1;have T2:=T1;have Y2:=Y1;try rw[hx]at HD
       clear R1 T1 Y1 hx;refine anyB_on 8 fun K hK=>?_;rw[if_pos (by rfl)]
       have ho:=R2.out.o.pend c HC.out;rw[HP1.out,EP.out,HPL.out]at ho;have HO1:=Hd ho;have HB1:=Hd R2.out.o.leB;clear ho;refine wp_append_o _ _ _ _ rfl B 41 i0 _ 3 40 underlying63 hi0 hz0 hz1 hz2 rfl (by decide) (.slice A1 np k1) np (stV PL) rfl HO1.out x2.heap.size (some ⟨zd,0,none⟩) 1 1 (stV [⟨sK,sk,sv⟩]) rfl (reads_one HD.out rfl) (by intro u hu;simp only[stV,List.flatMap_cons,List.flatMap_nil,List.append_nil,List.mem_cons,List.not_mem_nil,or_false]at hu;rcases hu with rfl|rfl|rfl<;>rfl) (le_maxLen (by have:=HNP.out;omega)) (by have:=HNP.out;omega) HB1.out ?_
       intro v1 x3 ho hg hn;refine lateK hK ?_;clear hK K;obtain⟨A5,k5,e5,_⟩:=ho.form;have mm:=R2.out.app_pend HC.out (v:=v1) (l:=PL++[⟨sK,sk,sv⟩]) (by rw[List.length_append,stV_app,HPL.out];exact ho) (by rw[EP.out];exact hg) (by rw[EP.out];exact hn)
       have R3:=Hd mm.1;have T3:=Hd (T2.out.trans mm.2);have Y3:=Hd (show x3.cell? ⟨p,6+c*10+2,none⟩=some (.slice A2 nq k2)by rw[←EQ.out];exact mm.1.b.cellC (k:=2) HC.out (by decide))
       subst e5;clear mm ho hg hn HO1 HB1 R2 T2 Y2 HD;refine anyB_sg [15,16,17,18] 8 ?_;go_wp2_with fail
       refine sg_o ?_;refine anyB_on 19 fun K hK=>?_;go_simp;refine thK hK (boxed _ _) ?_;clear hK K;have D:=Blk.new x3 4 #[.bool (ev !=0)];have hbx:=boxed x3 (.cells #[.bool (ev !=0)] 4);have R4:=Hd (R3.out.below hbx);have T4:=Hd (T3.out.below hbx);have Y4:=Hd (keep_cell hbx Y3.out);have HD:=Hd D;obtain⟨zb,hzb⟩: ∃z,x3.heap.size=z:=⟨_,rfl⟩;rw[hzb]at HD⊢;clear D hbx R3 T3 Y3 hzb;generalize World.alloc _ _=x4 at HD R4 T4 Y4⊢;obtain⟨i1,hi1,hy0,hy1,hy2⟩:=info_parts bool_info;have ho:=R4.out.o.bad c HC.out;simp only at ho;rw[HP2.out,EQ.out,HQL.out]at ho;have HO1:=Hd ho;have HB1:=Hd R4.out.o.leB;clear ho;refine anyB_on 20 fun K hK=>?_;rw[if_pos (by rfl)]
       refine wp_append_o _ _ _ _ rfl B 4 i1 _ 1 1 underlying90 hi1 hy0 hy1 hy2 rfl (by decide) (.slice A2 nq k2) nq (badV QL) rfl HO1.out x4.heap.size (some ⟨zb,0,none⟩) 1 1 (badV [(ev !=0)]) rfl (reads_one HD.out rfl) (by intro u hu;simp only[badV,List.map_cons,List.map_nil,List.mem_cons,List.not_mem_nil,or_false]at hu;subst hu;rfl) (le_maxLen (by have:=HNQ.out;omega)) (by have:=HNQ.out;omega) HB1.out ?_
       intro v2 x5 ho hg hn;refine lateK hK ?_;clear hK K;obtain⟨A6,k6,e6,_⟩:=ho.form;have mm:=R4.out.app_bad HC.out (v:=v2) (l:=QL++[(ev !=0)]) (by rw[List.length_append,badV_app,HQL.out];exact ho) (by simp only;rw[EQ.out];exact hg) (by simp only;rw[EQ.out];exact hn)
       subst e6;have c1:x5.cell? ⟨p,6+c*10+1,none⟩=some (V1.pend c):=mm.1.b.cellC (k:=1) HC.out (by decide)
       have c2:x5.cell? ⟨p,6+c*10+2,none⟩=some (V1.bad c):=mm.1.b.cellC (k:=2) HC.out (by decide)
       have fp:=mm.1.b.frozen;have sto:=mm.1.stored HC.out;have HF:=Hd (And.intro sto.1 ((T4.out.trans mm.2).trans sto.2));clear mm sto ho hg hn HO1 HB1 R4 T4 Y4 HD hi1 hy0 hy1 hy2;refine anyB_sg [21,22] 4 ?_;go_wp2_with fail
       refine sg_o ?_;refine anyB_on 23 fun K hK=>?_;go_simp;refine lateK hK ?_;clear hK K;refine anyB_sg [24,25] 1 ?_;go_wp2_with fail
       refine sg_o ?_;refine anyB_on 26 fun K hK=>?_;go_simp;refine lateK hK ?_;clear hK K;refine anyB_dn ?_;clear c1 c2 fp;generalize World.setCell _ _ _=x9 at HF⊢;have HF2:=Hd (HDL.out x9 _ _ (by rw[show askedOf by0=(⟨sK,sk,sv⟩,(ev !=0))from Prod.ext HA1.out HBD.out,HM2.out];exact HF.out.1) HF.out.2)
       clear HF;go_wp2_with fail
       go_roundg x.bytes.size
       case measure=>exact HLT.out
       case rel=>exact HF2
     ·have y:=Y0.out;go_simp;refine thK hK bR ?_;clear hK K;clear y;generalize hx:x0=x1 at R0 T0 Y0⊢;have R1:=R0;have T1:=T0;have Y1:=Y0;try rw[hx]at HD
      clear R0 T0 Y0 hx;refine anyB_on 7 fun K hK=>?_;go_simp;refine thK hK (boxed _ _) ?_;clear hK K;have D:=Blk.new x1 41 #[.int .i64 sK,.string sk,.string sv];have hbx:=boxed x1 (.cells #[.int .i64 sK,.string sk,.string sv] 41);have R2:=Hd (R1.out.below hbx);have T2:=Hd (T1.out.below hbx);have HD:=Hd D;have Y2:=Hd (keep_cell hbx Y1.out);obtain⟨zd,hzd⟩: ∃z,x1.heap.size=z:=⟨_,rfl⟩;rw[hzd]at HD⊢;clear D hbx R1 T1 Y1 hzd;generalize World.alloc _ _=x2 at HD R2 T2 Y2⊢;refine anyB_on 8 fun K hK=>?_;rw[if_pos (by rfl)]
      have ho:=R2.out.o.pend c HC.out;rw[HP1.out,EP.out,HPL.out]at ho;have HO1:=Hd ho;have HB1:=Hd R2.out.o.leB;clear ho;refine wp_append_o _ _ _ _ rfl B 41 i0 _ 3 40 underlying63 hi0 hz0 hz1 hz2 rfl (by decide) (.slice A1 np k1) np (stV PL) rfl HO1.out x2.heap.size (some ⟨zd,0,none⟩) 1 1 (stV [⟨sK,sk,sv⟩]) rfl (reads_one HD.out rfl) (by intro u hu;simp only[stV,List.flatMap_cons,List.flatMap_nil,List.append_nil,List.mem_cons,List.not_mem_nil,or_false]at hu;rcases hu with rfl|rfl|rfl<;>rfl) (le_maxLen (by have:=HNP.out;omega)) (by have:=HNP.out;omega) HB1.out ?_
      intro v1 x3 ho hg hn;refine lateK hK ?_;clear hK K;obtain⟨A5,k5,e5,_⟩:=ho.form;have mm:=R2.out.app_pend HC.out (v:=v1) (l:=PL++[⟨sK,sk,sv⟩]) (by rw[List.length_append,stV_app,HPL.out];exact ho) (by rw[EP.out];exact hg) (by rw[EP.out];exact hn)
      have R3:=Hd mm.1;have T3:=Hd (T2.out.trans mm.2);have Y3:=Hd (show x3.cell? ⟨p,6+c*10+2,none⟩=some (.slice A2 nq k2)by rw[←EQ.out];exact mm.1.b.cellC (k:=2) HC.out (by decide))
      subst e5;clear mm ho hg hn HO1 HB1 R2 T2 Y2 HD;refine anyB_sg [15,16,17,18] 8 ?_;go_wp2_with fail
      refine sg_o ?_;refine anyB_on 19 fun K hK=>?_;go_simp;refine thK hK (boxed _ _) ?_;clear hK K;have D:=Blk.new x3 4 #[.bool (ev !=0)];have hbx:=boxed x3 (.cells #[.bool (ev !=0)] 4);have R4:=Hd (R3.out.below hbx);have T4:=Hd (T3.out.below hbx);have Y4:=Hd (keep_cell hbx Y3.out);have HD:=Hd D;obtain⟨zb,hzb⟩: ∃z,x3.heap.size=z:=⟨_,rfl⟩;rw[hzb]at HD⊢;clear D hbx R3 T3 Y3 hzb;generalize World.alloc _ _=x4 at HD R4 T4 Y4⊢;obtain⟨i1,hi1,hy0,hy1,hy2⟩:=info_parts bool_info;have ho:=R4.out.o.bad c HC.out;simp only at ho;rw[HP2.out,EQ.out,HQL.out]at ho;have HO1:=Hd ho;have HB1:=Hd R4.out.o.leB;clear ho;refine anyB_on 20 fun K hK=>?_;rw[if_pos (by rfl)]
      refine wp_append_o _ _ _ _ rfl B 4 i1 _ 1 1 underlying90 hi1 hy0 hy1 hy2 rfl (by decide) (.slice A2 nq k2) nq (badV QL) rfl HO1.out x4.heap.size (some ⟨zb,0,none⟩) 1 1 (badV [(ev !=0)]) rfl (reads_one HD.out rfl) (by intro u hu;simp only[badV,List.map_cons,List.map_nil,List.mem_cons,List.not_mem_nil,or_false]at hu;subst hu;rfl) (le_maxLen (by have:=HNQ.out;omega)) (by have:=HNQ.out;omega) HB1.out ?_
      intro v2 x5 ho hg hn;refine lateK hK ?_;clear hK K;obtain⟨A6,k6,e6,_⟩:=ho.form;have mm:=R4.out.app_bad HC.out (v:=v2) (l:=QL++[(ev !=0)]) (by rw[List.length_append,badV_app,HQL.out];exact ho) (by simp only;rw[EQ.out];exact hg) (by simp only;rw[EQ.out];exact hn)
      subst e6;have c1:x5.cell? ⟨p,6+c*10+1,none⟩=some (V1.pend c):=mm.1.b.cellC (k:=1) HC.out (by decide)
      have c2:x5.cell? ⟨p,6+c*10+2,none⟩=some (V1.bad c):=mm.1.b.cellC (k:=2) HC.out (by decide)
      have fp:=mm.1.b.frozen;have sto:=mm.1.stored HC.out;have HF:=Hd (And.intro sto.1 ((T4.out.trans mm.2).trans sto.2));clear mm sto ho hg hn HO1 HB1 R4 T4 Y4 HD hi1 hy0 hy1 hy2;refine anyB_sg [21,22] 4 ?_;go_wp2_with fail
      refine sg_o ?_;refine anyB_on 23 fun K hK=>?_;go_simp;refine lateK hK ?_;clear hK K;refine anyB_sg [24,25] 1 ?_;go_wp2_with fail
      refine sg_o ?_;refine anyB_on 26 fun K hK=>?_;go_simp;refine lateK hK ?_;clear hK K;refine anyB_dn ?_;clear c1 c2 fp;generalize World.setCell _ _ _=x9 at HF⊢;have HF2:=Hd (HDL.out x9 _ _ (by rw[show askedOf by0=(⟨sK,sk,sv⟩,(ev !=0))from Prod.ext HA1.out HBD.out,HM2.out];exact HF.out.1) HF.out.2)
      clear HF;go_wp2_with fail
      go_roundg x.bytes.size
      case measure=>exact HLT.out
      case rel=>exact HF2
    ·have HBD:=Hd (show(askedOf by0).2=true by
      unfold askedOf;simp only;rw[HKV.out];have:¬ kv=81:=fun e=>h81 (by rw[←HKN.out,e];rfl)
      simp[this])
     have n3:¬ ((kn:Int)=81):=by omega
     have n4:((kn:Int)==81)=false:=by simpa using n3
     have n5:((kn:Int)!=81)=true:=by simpa using n3
     refine region_sg [8,20,23,26] ?_;refine anyB_sg [0,1,2,3,4,5,6,9,10,11,13,14] 15 ?_;go_wp2_with fail
     refine sg_o ?_;clear y1 y2 f0 f1 f2;generalize World.drew _=x0 at R0 T0 Y0⊢;refine anyB_tw 7 12 (fun K hK=>?_) fun K hK=>?_
     ·go_simp;refine thK hK (boxed _ _) ?_;clear hK K;have D:=Blk.new x0 41 #[.int .i64 sK,.string sk,.string sv];have hbx:=boxed x0 (.cells #[.int .i64 sK,.string sk,.string sv] 41);have R1:=Hd (R0.out.below hbx);have T1:=Hd (T0.out.below hbx);have HD:=Hd D;have Y1:=Hd (keep_cell hbx Y0.out);obtain⟨zd,hzd⟩: ∃z,x0.heap.size=z:=⟨_,rfl⟩;rw[hzd]at HD⊢;clear D hbx R0 T0 Y0 hzd;generalize World.alloc _ _=x1 at HD R1 T1 Y1⊢;refine anyB_tw 8 12 (fun K hK=>?_) fun K hK=>?_
      ·rw[if_pos (by rfl)]
       have ho:=R1.out.o.pend c HC.out;rw[HP1.out,EP.out,HPL.out]at ho;have HO1:=Hd ho;have HB1:=Hd R1.out.o.leB;clear ho;refine wp_append_o _ _ _ _ rfl B 41 i0 _ 3 40 underlying63 hi0 hz0 hz1 hz2 rfl (by decide) (.slice A1 np k1) np (stV PL) rfl HO1.out x1.heap.size (some ⟨zd,0,none⟩) 1 1 (stV [⟨sK,sk,sv⟩]) rfl (reads_one HD.out rfl) (by intro u hu;simp only[stV,List.flatMap_cons,List.flatMap_nil,List.append_nil,List.mem_cons,List.not_mem_nil,or_false]at hu;rcases hu with rfl|rfl|rfl<;>rfl) (le_maxLen (by have:=HNP.out;omega)) (by have:=HNP.out;omega) HB1.out ?_
       intro v1 x2 ho hg hn;refine lateK hK ?_;clear hK K;obtain⟨A5,k5,e5,_⟩:=ho.form;have mm:=R1.out.app_pend HC.out (v:=v1) (l:=PL++[⟨sK,sk,sv⟩]) (by rw[List.length_append,stV_app,HPL.out];exact ho) (by rw[EP.out];exact hg) (by rw[EP.out];exact hn)
       have R2:=Hd mm.1;have T2:=Hd (T1.out.trans mm.2);have Y2:=Hd (show x2.cell? ⟨p,6+c*10+2,none⟩=some (.slice A2 nq k2)by rw[←EQ.out];exact mm.1.b.cellC (k:=2) HC.out (by decide))
       subst e5;clear mm ho hg hn HO1 HB1 R1 T1 Y1 HD;refine anyB_sg [15,16,17,18] 9 ?_;go_wp2_with fail
       refine sg_o ?_;refine anyB_tw 12 19 (fun K hK=>?_) fun K hK=>?_
       ·have y:=Y2.out;go_simp;refine thK hK bR ?_;clear hK K;clear y;generalize hx:x2=x3 at R2 T2 Y2⊢;have R3:=R2;have T3:=T2;have Y3:=Y2;try rw[hx]at HD
        clear R2 T2 Y2 hx;refine anyB_on 19 fun K hK=>?_;go_simp;refine thK hK (boxed _ _) ?_;clear hK K;have D:=Blk.new x3 4 #[.bool true];have hbx:=boxed x3 (.cells #[.bool true] 4);have R4:=Hd (R3.out.below hbx);have T4:=Hd (T3.out.below hbx);have Y4:=Hd (keep_cell hbx Y3.out);have HD:=Hd D;obtain⟨zb,hzb⟩: ∃z,x3.heap.size=z:=⟨_,rfl⟩;rw[hzb]at HD⊢;clear D hbx R3 T3 Y3 hzb;generalize World.alloc _ _=x4 at HD R4 T4 Y4⊢;obtain⟨i1,hi1,hy0,hy1,hy2⟩:=info_parts bool_info;have ho:=R4.out.o.bad c HC.out;simp only at ho;rw[HP2.out,EQ.out,HQL.out]at ho;have HO1:=Hd ho;have HB1:=Hd R4.out.o.leB;clear ho;refine anyB_on 20 fun K hK=>?_;rw[if_pos (by rfl)]
        refine wp_append_o _ _ _ _ rfl B 4 i1 _ 1 1 underlying90 hi1 hy0 hy1 hy2 rfl (by decide) (.slice A2 nq k2) nq (badV QL) rfl HO1.out x4.heap.size (some ⟨zb,0,none⟩) 1 1 (badV [true]) rfl (reads_one HD.out rfl) (by intro u hu;simp only[badV,List.map_cons,List.map_nil,List.mem_cons,List.not_mem_nil,or_false]at hu;subst hu;rfl) (le_maxLen (by have:=HNQ.out;omega)) (by have:=HNQ.out;omega) HB1.out ?_
        intro v2 x5 ho hg hn;refine lateK hK ?_;clear hK K;obtain⟨A6,k6,e6,_⟩:=ho.form;have mm:=R4.out.app_bad HC.out (v:=v2) (l:=QL++[true]) (by rw[List.length_append,badV_app,HQL.out];exact ho) (by simp only;rw[EQ.out];exact hg) (by simp only;rw[EQ.out];exact hn)
        subst e6;have c1:x5.cell? ⟨p,6+c*10+1,none⟩=some (V1.pend c):=mm.1.b.cellC (k:=1) HC.out (by decide)
        have c2:x5.cell? ⟨p,6+c*10+2,none⟩=some (V1.bad c):=mm.1.b.cellC (k:=2) HC.out (by decide)
        have fp:=mm.1.b.frozen;have sto:=mm.1.stored HC.out;have HF:=Hd (And.intro sto.1 ((T4.out.trans mm.2).trans sto.2));clear mm sto ho hg hn HO1 HB1 R4 T4 Y4 HD hi1 hy0 hy1 hy2;refine anyB_sg [21,22] 4 ?_;go_wp2_with fail
        refine sg_o ?_;refine anyB_on 23 fun K hK=>?_;go_simp;refine lateK hK ?_;clear hK K;refine anyB_sg [24,25] 1 ?_;go_wp2_with fail
        refine sg_o ?_;refine anyB_on 26 fun K hK=>?_;go_simp;refine lateK hK ?_;clear hK K;refine anyB_dn ?_;clear c1 c2 fp;generalize World.setCell _ _ _=x9 at HF⊢;have HF2:=Hd (HDL.out x9 _ _ (by rw[show askedOf by0=(⟨sK,sk,sv⟩,true)from Prod.ext HA1.out HBD.out,HM2.out];exact HF.out.1) HF.out.2)
        clear HF;go_wp2_with fail
        go_roundg x.bytes.size
        case measure=>exact HLT.out
        case rel=>exact HF2
       ·go_simp;refine thK hK (boxed _ _) ?_;clear hK K;have D:=Blk.new x2 4 #[.bool true];have hbx:=boxed x2 (.cells #[.bool true] 4);have R3:=Hd (R2.out.below hbx);have T3:=Hd (T2.out.below hbx);have Y3:=Hd (keep_cell hbx Y2.out);have HD:=Hd D;obtain⟨zb,hzb⟩: ∃z,x2.heap.size=z:=⟨_,rfl⟩;rw[hzb]at HD⊢;clear D hbx R2 T2 Y2 hzb;generalize World.alloc _ _=x3 at HD R3 T3 Y3⊢;refine anyB_on 12 fun K hK=>?_;have y:=Y3.out;go_simp;refine thK hK bR ?_;clear hK K;clear y;generalize hx:x3=x4 at R3 T3 Y3⊢;have R4:=R3;have T4:=T3;have Y4:=Y3;try rw[hx]at HD
        clear R3 T3 Y3 hx;obtain⟨i1,hi1,hy0,hy1,hy2⟩:=info_parts bool_info;have ho:=R4.out.o.bad c HC.out;simp only at ho;rw[HP2.out,EQ.out,HQL.out]at ho;have HO1:=Hd ho;have HB1:=Hd R4.out.o.leB;clear ho;refine anyB_on 20 fun K hK=>?_;rw[if_pos (by rfl)]
        refine wp_append_o _ _ _ _ rfl B 4 i1 _ 1 1 underlying90 hi1 hy0 hy1 hy2 rfl (by decide) (.slice A2 nq k2) nq (badV QL) rfl HO1.out x4.heap.size (some ⟨zb,0,none⟩) 1 1 (badV [true]) rfl (reads_one HD.out rfl) (by intro u hu;simp only[badV,List.map_cons,List.map_nil,List.mem_cons,List.not_mem_nil,or_false]at hu;subst hu;rfl) (le_maxLen (by have:=HNQ.out;omega)) (by have:=HNQ.out;omega) HB1.out ?_
        intro v2 x5 ho hg hn;refine lateK hK ?_;clear hK K;obtain⟨A6,k6,e6,_⟩:=ho.form;have mm:=R4.out.app_bad HC.out (v:=v2) (l:=QL++[true]) (by rw[List.length_append,badV_app,HQL.out];exact ho) (by simp only;rw[EQ.out];exact hg) (by simp only;rw[EQ.out];exact hn)
        subst e6;have c1:x5.cell? ⟨p,6+c*10+1,none⟩=some (V1.pend c):=mm.1.b.cellC (k:=1) HC.out (by decide)
        have c2:x5.cell? ⟨p,6+c*10+2,none⟩=some (V1.bad c):=mm.1.b.cellC (k:=2) HC.out (by decide)
        have fp:=mm.1.b.frozen;have sto:=mm.1.stored HC.out;have HF:=Hd (And.intro sto.1 ((T4.out.trans mm.2).trans sto.2));clear mm sto ho hg hn HO1 HB1 R4 T4 Y4 HD hi1 hy0 hy1 hy2;refine anyB_sg [21,22] 4 ?_;go_wp2_with fail
        refine sg_o ?_;refine anyB_on 23 fun K hK=>?_;go_simp;refine lateK hK ?_;clear hK K;refine anyB_sg [24,25] 1 ?_;go_wp2_with fail
        refine sg_o ?_;refine anyB_on 26 fun K hK=>?_;go_simp;refine lateK hK ?_;clear hK K;refine anyB_dn ?_;clear c1 c2 fp;generalize World.setCell _ _ _=x9 at HF⊢;have HF2:=Hd (HDL.out x9 _ _ (by rw[show askedOf by0=(⟨sK,sk,sv⟩,true)from Prod.ext HA1.out HBD.out,HM2.out];exact HF.out.1) HF.out.2)
        clear HF;go_wp2_with fail
        go_roundg x.bytes.size
        case measure=>exact HLT.out
        case rel=>exact HF2
      ·have y:=Y1.out;go_simp;refine thK hK bR ?_;clear hK K;clear y;generalize hx:x1=x2 at R1 T1 Y1⊢;have R2:=R1;have T2:=T1;have Y2:=Y1;try rw[hx]at HD
       clear R1 T1 Y1 hx;refine anyB_on 8 fun K hK=>?_;rw[if_pos (by rfl)]
       have ho:=R2.out.o.pend c HC.out;rw[HP1.out,EP.out,HPL.out]at ho;have HO1:=Hd ho;have HB1:=Hd R2.out.o.leB;clear ho;refine wp_append_o _ _ _ _ rfl B 41 i0 _ 3 40 underlying63 hi0 hz0 hz1 hz2 rfl (by decide) (.slice A1 np k1) np (stV PL) rfl HO1.out x2.heap.size (some ⟨zd,0,none⟩) 1 1 (stV [⟨sK,sk,sv⟩]) rfl (reads_one HD.out rfl) (by intro u hu;simp only[stV,List.flatMap_cons,List.flatMap_nil,List.append_nil,List.mem_cons,List.not_mem_nil,or_false]at hu;rcases hu with rfl|rfl|rfl<;>rfl) (le_maxLen (by have:=HNP.out;omega)) (by have:=HNP.out;omega) HB1.out ?_
       intro v1 x3 ho hg hn;refine lateK hK ?_;clear hK K;obtain⟨A5,k5,e5,_⟩:=ho.form;have mm:=R2.out.app_pend HC.out (v:=v1) (l:=PL++[⟨sK,sk,sv⟩]) (by rw[List.length_append,stV_app,HPL.out];exact ho) (by rw[EP.out];exact hg) (by rw[EP.out];exact hn)
       have R3:=Hd mm.1;have T3:=Hd (T2.out.trans mm.2);have Y3:=Hd (show x3.cell? ⟨p,6+c*10+2,none⟩=some (.slice A2 nq k2)by rw[←EQ.out];exact mm.1.b.cellC (k:=2) HC.out (by decide))
       subst e5;clear mm ho hg hn HO1 HB1 R2 T2 Y2 HD;refine anyB_sg [15,16,17,18] 8 ?_;go_wp2_with fail
       refine sg_o ?_;refine anyB_on 19 fun K hK=>?_;go_simp;refine thK hK (boxed _ _) ?_;clear hK K;have D:=Blk.new x3 4 #[.bool true];have hbx:=boxed x3 (.cells #[.bool true] 4);have R4:=Hd (R3.out.below hbx);have T4:=Hd (T3.out.below hbx);have Y4:=Hd (keep_cell hbx Y3.out);have HD:=Hd D;obtain⟨zb,hzb⟩: ∃z,x3.heap.size=z:=⟨_,rfl⟩;rw[hzb]at HD⊢;clear D hbx R3 T3 Y3 hzb;generalize World.alloc _ _=x4 at HD R4 T4 Y4⊢;obtain⟨i1,hi1,hy0,hy1,hy2⟩:=info_parts bool_info;have ho:=R4.out.o.bad c HC.out;simp only at ho;rw[HP2.out,EQ.out,HQL.out]at ho;have HO1:=Hd ho;have HB1:=Hd R4.out.o.leB;clear ho;refine anyB_on 20 fun K hK=>?_;rw[if_pos (by rfl)]
       refine wp_append_o _ _ _ _ rfl B 4 i1 _ 1 1 underlying90 hi1 hy0 hy1 hy2 rfl (by decide) (.slice A2 nq k2) nq (badV QL) rfl HO1.out x4.heap.size (some ⟨zb,0,none⟩) 1 1 (badV [true]) rfl (reads_one HD.out rfl) (by intro u hu;simp only[badV,List.map_cons,List.map_nil,List.mem_cons,List.not_mem_nil,or_false]at hu;subst hu;rfl) (le_maxLen (by have:=HNQ.out;omega)) (by have:=HNQ.out;omega) HB1.out ?_
       intro v2 x5 ho hg hn;refine lateK hK ?_;clear hK K;obtain⟨A6,k6,e6,_⟩:=ho.form;have mm:=R4.out.app_bad HC.out (v:=v2) (l:=QL++[true]) (by rw[List.length_append,badV_app,HQL.out];exact ho) (by simp only;rw[EQ.out];exact hg) (by simp only;rw[EQ.out];exact hn)
       subst e6;have c1:x5.cell? ⟨p,6+c*10+1,none⟩=some (V1.pend c):=mm.1.b.cellC (k:=1) HC.out (by decide)
       have c2:x5.cell? ⟨p,6+c*10+2,none⟩=some (V1.bad c):=mm.1.b.cellC (k:=2) HC.out (by decide)
       have fp:=mm.1.b.frozen;have sto:=mm.1.stored HC.out;have HF:=Hd (And.intro sto.1 ((T4.out.trans mm.2).trans sto.2));clear mm sto ho hg hn HO1 HB1 R4 T4 Y4 HD hi1 hy0 hy1 hy2;refine anyB_sg [21,22] 4 ?_;go_wp2_with fail
       refine sg_o ?_;refine anyB_on 23 fun K hK=>?_;go_simp;refine lateK hK ?_;clear hK K;refine anyB_sg [24,25] 1 ?_;go_wp2_with fail
       refine sg_o ?_;refine anyB_on 26 fun K hK=>?_;go_simp;refine lateK hK ?_;clear hK K;refine anyB_dn ?_;clear c1 c2 fp;generalize World.setCell _ _ _=x9 at HF⊢;have HF2:=Hd (HDL.out x9 _ _ (by rw[show askedOf by0=(⟨sK,sk,sv⟩,true)from Prod.ext HA1.out HBD.out,HM2.out];exact HF.out.1) HF.out.2)
       clear HF;go_wp2_with fail
       go_roundg x.bytes.size
       case measure=>exact HLT.out
       case rel=>exact HF2
     ·have y:=Y0.out;go_simp;refine thK hK bR ?_;clear hK K;clear y;generalize hx:x0=x1 at R0 T0 Y0⊢;have R1:=R0;have T1:=T0;have Y1:=Y0;try rw[hx]at HD
      clear R0 T0 Y0 hx;refine anyB_on 7 fun K hK=>?_;go_simp;refine thK hK (boxed _ _) ?_;clear hK K;have D:=Blk.new x1 41 #[.int .i64 sK,.string sk,.string sv];have hbx:=boxed x1 (.cells #[.int .i64 sK,.string sk,.string sv] 41);have R2:=Hd (R1.out.below hbx);have T2:=Hd (T1.out.below hbx);have HD:=Hd D;have Y2:=Hd (keep_cell hbx Y1.out);obtain⟨zd,hzd⟩: ∃z,x1.heap.size=z:=⟨_,rfl⟩;rw[hzd]at HD⊢;clear D hbx R1 T1 Y1 hzd;generalize World.alloc _ _=x2 at HD R2 T2 Y2⊢;refine anyB_on 8 fun K hK=>?_;rw[if_pos (by rfl)]
      have ho:=R2.out.o.pend c HC.out;rw[HP1.out,EP.out,HPL.out]at ho;have HO1:=Hd ho;have HB1:=Hd R2.out.o.leB;clear ho;refine wp_append_o _ _ _ _ rfl B 41 i0 _ 3 40 underlying63 hi0 hz0 hz1 hz2 rfl (by decide) (.slice A1 np k1) np (stV PL) rfl HO1.out x2.heap.size (some ⟨zd,0,none⟩) 1 1 (stV [⟨sK,sk,sv⟩]) rfl (reads_one HD.out rfl) (by intro u hu;simp only[stV,List.flatMap_cons,List.flatMap_nil,List.append_nil,List.mem_cons,List.not_mem_nil,or_false]at hu;rcases hu with rfl|rfl|rfl<;>rfl) (le_maxLen (by have:=HNP.out;omega)) (by have:=HNP.out;omega) HB1.out ?_
      intro v1 x3 ho hg hn;refine lateK hK ?_;clear hK K;obtain⟨A5,k5,e5,_⟩:=ho.form;have mm:=R2.out.app_pend HC.out (v:=v1) (l:=PL++[⟨sK,sk,sv⟩]) (by rw[List.length_append,stV_app,HPL.out];exact ho) (by rw[EP.out];exact hg) (by rw[EP.out];exact hn)
      have R3:=Hd mm.1;have T3:=Hd (T2.out.trans mm.2);have Y3:=Hd (show x3.cell? ⟨p,6+c*10+2,none⟩=some (.slice A2 nq k2)by rw[←EQ.out];exact mm.1.b.cellC (k:=2) HC.out (by decide))
      subst e5;clear mm ho hg hn HO1 HB1 R2 T2 Y2 HD;refine anyB_sg [15,16,17,18] 8 ?_;go_wp2_with fail
      refine sg_o ?_;refine anyB_on 19 fun K hK=>?_;go_simp;refine thK hK (boxed _ _) ?_;clear hK K;have D:=Blk.new x3 4 #[.bool true];have hbx:=boxed x3 (.cells #[.bool true] 4);have R4:=Hd (R3.out.below hbx);have T4:=Hd (T3.out.below hbx);have Y4:=Hd (keep_cell hbx Y3.out);have HD:=Hd D;obtain⟨zb,hzb⟩: ∃z,x3.heap.size=z:=⟨_,rfl⟩;rw[hzb]at HD⊢;clear D hbx R3 T3 Y3 hzb;generalize World.alloc _ _=x4 at HD R4 T4 Y4⊢;obtain⟨i1,hi1,hy0,hy1,hy2⟩:=info_parts bool_info;have ho:=R4.out.o.bad c HC.out;simp only at ho;rw[HP2.out,EQ.out,HQL.out]at ho;have HO1:=Hd ho;have HB1:=Hd R4.out.o.leB;clear ho;refine anyB_on 20 fun K hK=>?_;rw[if_pos (by rfl)]
      refine wp_append_o _ _ _ _ rfl B 4 i1 _ 1 1 underlying90 hi1 hy0 hy1 hy2 rfl (by decide) (.slice A2 nq k2) nq (badV QL) rfl HO1.out x4.heap.size (some ⟨zb,0,none⟩) 1 1 (badV [true]) rfl (reads_one HD.out rfl) (by intro u hu;simp only[badV,List.map_cons,List.map_nil,List.mem_cons,List.not_mem_nil,or_false]at hu;subst hu;rfl) (le_maxLen (by have:=HNQ.out;omega)) (by have:=HNQ.out;omega) HB1.out ?_
      intro v2 x5 ho hg hn;refine lateK hK ?_;clear hK K;obtain⟨A6,k6,e6,_⟩:=ho.form;have mm:=R4.out.app_bad HC.out (v:=v2) (l:=QL++[true]) (by rw[List.length_append,badV_app,HQL.out];exact ho) (by simp only;rw[EQ.out];exact hg) (by simp only;rw[EQ.out];exact hn)
      subst e6;have c1:x5.cell? ⟨p,6+c*10+1,none⟩=some (V1.pend c):=mm.1.b.cellC (k:=1) HC.out (by decide)
      have c2:x5.cell? ⟨p,6+c*10+2,none⟩=some (V1.bad c):=mm.1.b.cellC (k:=2) HC.out (by decide)
      have fp:=mm.1.b.frozen;have sto:=mm.1.stored HC.out;have HF:=Hd (And.intro sto.1 ((T4.out.trans mm.2).trans sto.2));clear mm sto ho hg hn HO1 HB1 R4 T4 Y4 HD hi1 hy0 hy1 hy2;refine anyB_sg [21,22] 4 ?_;go_wp2_with fail
      refine sg_o ?_;refine anyB_on 23 fun K hK=>?_;go_simp;refine lateK hK ?_;clear hK K;refine anyB_sg [24,25] 1 ?_;go_wp2_with fail
      refine sg_o ?_;refine anyB_on 26 fun K hK=>?_;go_simp;refine lateK hK ?_;clear hK K;refine anyB_dn ?_;clear c1 c2 fp;generalize World.setCell _ _ _=x9 at HF⊢;have HF2:=Hd (HDL.out x9 _ _ (by rw[show askedOf by0=(⟨sK,sk,sv⟩,true)from Prod.ext HA1.out HBD.out,HM2.out];exact HF.out.1) HF.out.2)
      clear HF;go_wp2_with fail
      go_roundg x.bytes.size
      case measure=>exact HLT.out
      case rel=>exact HF2
  ·rw[if_neg hw];have HE:=Hd (show Mz=MV.of (pumpM poolB (f.set c x,b)).1 (pumpM poolB (f.set c x,b)).2 by
    have e:pourC (f.c c) data=(x,false):=by
     unfold pourC;rw[HX0.out,←HFE.out,feedC,HB0.out,dif_neg hw]
    rw[←HMZ.out];unfold deliverM;simp only[e];rfl)
   have HP2:=Hd (show Ok (f.set c x,b) (N+data.size)by
    have e:pourC (f.c c) data=(x,false):=by
     unfold pourC;rw[HX0.out,←HFE.out,feedC,HB0.out,dif_neg hw]
    have:=HP.out;simp only[e]at this;exact this)
   have R3:=Hd (R1.out.below b3);have T3:=Hd (T1.out.below b3);clear b3 hw y0 fp;go_wp2_with fail
   refine(pump_any _ B p V1 ks1 _ b (N+data.size) R3.out (HT.out.turn HR.out.o T3.out) HP2.out HN.out).mono ?_;rintro e w4 ⟨rfl,d⟩;have HF:=Hd (Done.trans ⟨R3.out,T3.out⟩ d);clear d;go_wp2_with fail
   refine bodyPost_end (results_none rfl _ _ _) rfl ⟨rfl,?_⟩;rw[HE.out];exact HF.out
end Go.Proofs.YtjbnfigpflambacGreatDoor
