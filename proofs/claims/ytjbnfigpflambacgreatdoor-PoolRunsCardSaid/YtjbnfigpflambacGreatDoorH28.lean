/- (own).learn, at a client of the pool. Conditions: those of each lemma. -/
import Derived.Test.YtjbnfigpflambacGreatDoorH03
import Derived.Test.YtjbnfigpflambacGreatDoorH09
namespace Go.Proofs.YtjbnfigpflambacGreatDoor
set_option maxRecDepth 100000
set_option maxHeartbeats 16000000
open _root_.Go.Proofs.Tryz
open Go.ChangeShapes Go.WideShapes Go.ChangeAt Go.RowKit
structure OwV(w:World)(p o:Nat)(A1:Option Addr)(n1 k1:Nat)(A2:Option Addr)(n2 k2:Nat)(A3:Option Addr)(n3 k3:Nat)(st:Int):Prop where
 x4:w.cell? ⟨p,o,none⟩=some (.slice A1 n1 k1)
 x5:w.cell? ⟨p,o+1,none⟩=some (.slice A2 n2 k2)
 x6:w.cell? ⟨p,o+2,none⟩=some (.slice A3 n3 k3)
 x7:w.cell? ⟨p,o+3,none⟩=some (.int .i64 st)
 fp: ∀j,w.frozen? ⟨p,j,none⟩=false
theorem PoolR.owv{w:World}{B p:Nat}{V:PV}{ks:List KV}{M:MV}(h:PoolR w B p V ks M){c:Nat}(hc:c<6): ∃A1 k1 A2 k2 A3 k3,V.set c= .slice A1 (M.ow c).set.length k1∧V.pre c= .slice A2 (M.ow c).pre.length k2∧V.sav c= .slice A3 (M.ow c).sav.length k3∧
  OwV w p (6+c*10+4) A1 (M.ow c).set.length k1 A2 (M.ow c).pre.length k2 A3 (M.ow c).sav.length k3 (M.ow c).st:=by
 obtain⟨A1,k1,e1⟩:=(h.o.ow c hc).set.form;obtain⟨A2,k2,e2⟩:=(h.o.ow c hc).pre.form;obtain⟨A3,k3,e3⟩:=(h.o.ow c hc).sav.form;refine⟨A1,k1,A2,k2,A3,k3,e1,e2,e3,?_,?_,?_,?_,h.b.frozen⟩
 ·rw[←e1];exact h.b.cellC (k:=4) hc (by decide)
 ·rw[←e2];exact h.b.cellC (k:=5) hc (by decide)
 ·rw[←e3];exact h.b.cellC (k:=6) hc (by decide)
 ·exact h.b.cellC (k:=7) hc (by decide)
def MV.setOw(M:MV)(c:Nat)(o:Ow):MV:={M with ow:=up M.ow c o}
theorem up_up{α:Type}(f:Nat→α)(c:Nat)(x y:α):up (up f c x) c y=up f c y:=by
 funext i;unfold up;split<;>rfl
theorem Done.trans{w w1 w':World}{B p:Nat}{V V1:PV}{ks1:List KV}{M1 M:MV}(h:PoolR w1 B p V1 ks1 M1∧Turn p w V w1 V1)(k:Done w1 B p V1 M w'):Done w B p V M w':=by
 obtain⟨V',ks',r,t⟩:=k;exact⟨V',ks',r,h.2.trans t⟩
theorem PoolR.done{w w':World}{B p:Nat}{V V':PV}{ks':List KV}{M:MV}(h:PoolR w' B p V' ks' M)(t:Turn p w V w' V'):Done w B p V M w':=⟨V',ks',h,t⟩
section
variable {w:World}{B p:Nat}{V:PV}{ks:List KV}{M:MV}
theorem PoolR.put_set'(h:PoolR w B p V ks M){c:Nat}(hc:c<6){v:Value}{l:List Pr}(ho:OPL w B v l): ∃V',PoolR (w.setCell ⟨p,6+c*10+4,none⟩ v) B p V' ks (M.setOw c ⟨l,(M.ow c).pre,(M.ow c).sav,(M.ow c).st⟩)∧Turn p w V (w.setCell ⟨p,6+c*10+4,none⟩ v) V':=⟨_,(h.put_set hc ho).1,(h.put_set hc ho).2⟩
theorem PoolR.put_pre'(h:PoolR w B p V ks M){c:Nat}(hc:c<6){v:Value}{l:List Pr}(ho:OPL w B v l): ∃V',PoolR (w.setCell ⟨p,6+c*10+4+1,none⟩ v) B p V' ks (M.setOw c ⟨(M.ow c).set,l,(M.ow c).sav,(M.ow c).st⟩)∧Turn p w V (w.setCell ⟨p,6+c*10+4+1,none⟩ v) V':=⟨_,(h.put_pre hc ho).1,(h.put_pre hc ho).2⟩
theorem PoolR.put_sav'(h:PoolR w B p V ks M){c:Nat}(hc:c<6){v:Value}{l:List Pr}(ho:OPL w B v l): ∃V',PoolR (w.setCell ⟨p,6+c*10+4+2,none⟩ v) B p V' ks (M.setOw c ⟨(M.ow c).set,(M.ow c).pre,l,(M.ow c).st⟩)∧Turn p w V (w.setCell ⟨p,6+c*10+4+2,none⟩ v) V':=⟨_,(h.put_sav hc ho).1,(h.put_sav hc ho).2⟩
theorem PoolR.put_st'(h:PoolR w B p V ks M){c:Nat}(hc:c<6)(x:Int):PoolR (w.setCell ⟨p,6+c*10+4+3,none⟩ (.int .i64 x)) B p V ks (M.setOw c ⟨(M.ow c).set,(M.ow c).pre,(M.ow c).sav,x⟩)∧Turn p w V (w.setCell ⟨p,6+c*10+4+3,none⟩ (.int .i64 x)) V:=h.put_st hc x
end
theorem learn_any(w:World)(B p:Nat)(V:PV)(ks:List KV)(M:MV)(h:PoolR w B p V ks M)(c:Nat)(hc:c<6)(x:St)(a:An)(hx:x.key.size≤maxLen∧x.val.size≤maxLen)(hs:Sorted (M.ow c).set∧Sorted (M.ow c).pre)(hl:(M.ow c).set.length<4398046510976∧(M.ow c).pre.length<4398046510976):
  Calls Tryz.prog 69 #[.pointer (some ⟨p,6+c*10+4,none⟩),.agg #[.int .i64 x.k,.string x.key,.string x.val],.agg #[.int .i64 a.kind,.string a.text,.int .i64 a.st]] w
   fun e w'=>e= .returned (.tuple #[])∧Done w B p V (M.setOw c (learn (M.ow c) x a)) w':=by
 obtain⟨K,key,val⟩:=x;obtain⟨AK,AT,AS⟩:=a;obtain⟨z,hz⟩: ∃z,learn (M.ow c) ⟨K,key,val⟩ ⟨AK,AT,AS⟩=z:=⟨_,rfl⟩;rw[hz];have HZ:=Hd hz;have HX:=Hd hx;have HS:=Hd hs;have HL:=Hd hl;have HC:=Hd hc;have HR:=Hd h;obtain⟨q,hq⟩: ∃q,w.heap.size=q:=⟨_,rfl⟩;have HQ:=Hd hq;have hp:=h.b.lt;have HP:=Hd hp;clear hz hx hs hl h hp;go_enter func69,ntmps69
 go_upto_region 1 with fail
 have r1:=HR.out.below (boxed2 w (.cells #[.int .i64 K,.string key,.string val] 41) (.cells #[.int .i64 AK,.string AT,.int .i64 AS] 46));obtain⟨A1,k1,A2,k2,A3,k3,e1,e2,e3,ov⟩:=r1.owv hc;obtain⟨n1,hn1⟩: ∃n,(M.ow c).set.length=n:=⟨_,rfl⟩;obtain⟨n2,hn2⟩: ∃n,(M.ow c).pre.length=n:=⟨_,rfl⟩;obtain⟨n3,hn3⟩: ∃n,(M.ow c).sav.length=n:=⟨_,rfl⟩;obtain⟨st,hst⟩: ∃n,(M.ow c).st=n:=⟨_,rfl⟩;rw[hn1,hn2,hn3,hst]at ov;rw[hn1]at e1;rw[hn2]at e2;rw[hn3]at e3;obtain⟨x4,x5,x6,x7,fp⟩:=ov;have R1:=Hd r1;have T1:=Hd ((Turn.refl p w V).below (boxed2 w (.cells #[.int .i64 K,.string key,.string val] 41) (.cells #[.int .i64 AK,.string AT,.int .i64 AS] 46)));have bx:=(Blk.new w 41 #[.int .i64 K,.string key,.string val]).alloc (.cells #[.int .i64 AK,.string AT,.int .i64 AS] 46);have ba:=Blk.new1 w (.cells #[.int .i64 K,.string key,.string val] 41) 46 #[.int .i64 AK,.string AT,.int .i64 AS];rw[hq]at bx ba;have BX:=Hd bx;have BA:=Hd ba;have HST:=Hd hst;have E1:=Hd e1;have E2:=Hd e2;have E3:=Hd e3;have a2:=ba.cell_ 2 _ rfl;have hqp:q≠p:=by have:=HP.out;omega
 have hqp1:q+1≠p:=by have:=HP.out;omega
 clear r1 bx ba hst e1 e2 e3 x4 x5 x6;clear hq;generalize World.alloc _ _=x1 at R1 T1 BX BA x7 fp a2⊢;go_upto_region 2 with fail
 go_upto_region 3 with fail
 have r2:=R1.out.put_st' hc AS;have R2:=Hd r2.1;have T2:=Hd (T1.out.trans r2.2);have bx:=BX.out.far (p:=⟨p,6+c*10+4+3,none⟩) hqp (.int .i64 AS);have ba:=BA.out.far (p:=⟨p,6+c*10+4+3,none⟩) hqp1 (.int .i64 AS);clear r2 R1 T1 BX BA x7 fp a2;generalize World.setCell _ _ _=x2 at R2 T2 bx ba⊢;have BX:=Hd bx;have b0:=bx.cell_ 0 _ rfl;have b1:=bx.cell_ 1 _ rfl;have b2:=bx.cell_ 2 _ rfl;have a0:=ba.cell_ 0 _ rfl;have e0: ∀o,(M.setOw c ⟨(M.ow c).set,(M.ow c).pre,(M.ow c).sav,AS⟩).setOw c o=M.setOw c o:=fun o=>by simp[MV.setOw,up_up]
 have e1:((M.setOw c ⟨(M.ow c).set,(M.ow c).pre,(M.ow c).sav,AS⟩).ow c)=⟨(M.ow c).set,(M.ow c).pre,(M.ow c).sav,AS⟩:=up_at _ _ _;have HE0:=Hd e0;have HE1:=Hd e1;clear bx ba e0 e1;by_cases h4:AK=4
 ·subst h4;have HZ':=Hd (show(⟨(M.ow c).set,(M.ow c).pre,(M.ow c).sav,AS⟩:Ow)=z by rw[←HZ.out];unfold learn;rw[if_pos rfl])
  go_wp2_with fail
  have HF:Hid (Done w B p V (M.setOw c z) x2):=Hd (by rw[←HZ'.out];exact R2.out.done T2.out)
  refine bodyPost_ret (results_none rfl _ _ _) rfl ⟨rfl,HF.out⟩
 have n4:(AK==4)=false:=by simpa using h4
 have HN4:=Hd (show ¬ (AK=4)from h4);clear h4;obtain⟨x4,x5,x6,x7,fp⟩:OwV x2 p (6+c*10+4) A1 n1 k1 A2 n2 k2 A3 n3 k3 AS:=by
  obtain⟨B1,l1,B2,l2,B3,l3,f1,f2,f3,ov⟩:=R2.out.owv hc;rw[HE1.out]at ov f1 f2 f3;simp only at ov f1 f2 f3;rw[hn1]at ov f1;rw[hn2]at ov f2;rw[hn3]at ov f3;rw[E1.out]at f1;rw[E2.out]at f2;rw[E3.out]at f3;injection f1 with f1 _ g1;injection f2 with f2 _ g2;injection f3 with f3 _ g3;subst f1 g1 f2 g2 f3 g3;exact ov
 by_cases hk1:K=1
 ·subst hk1;have HZ':=Hd (show(⟨(M.ow c).set,(M.ow c).pre,(M.ow c).set,AS⟩:Ow)=z by rw[←HZ.out];unfold learn;rw[if_neg HN4.out,if_pos rfl])
  have ow2:=R2.out.o.ow c hc;rw[HE1.out]at ow2;have r3:=R2.out.put_sav' hc ow2.set;rw[HE0.out,HE1.out,HZ'.out,E1.out]at r3;obtain⟨V3,r3,t3⟩:=r3;have HF:Hid (Done w B p V (M.setOw c z) (x2.setCell ⟨p,6+c*10+4+2,none⟩ (.slice A1 n1 k1))):=Hd (r3.done (T2.out.trans t3));clear r3 t3 ow2;go_wp2_with fail
  refine bodyPost_end (results_none rfl _ _ _) rfl ⟨rfl,HF.out⟩
 have m1:(K==1)=false:=by simpa using hk1
 by_cases hk2:K=2∨K=3
 ·have HK2:=Hd hk2;have HK1:=Hd hk1;by_cases hb:K=3∨st=2
  ·have HZ':=Hd (show(⟨(M.ow c).sav,(M.ow c).pre,[],AS⟩:Ow)=z by rw[←HZ.out];unfold learn;rw[if_neg HN4.out,if_neg HK1.out,if_pos HK2.out,if_pos (by rw[HST.out];exact hb)])
   have ow2:=R2.out.o.ow c hc;rw[HE1.out]at ow2;have r3:=R2.out.put_set' hc ow2.sav;rw[HE0.out,HE1.out,E3.out]at r3;obtain⟨V3,r3,t3⟩:=r3;have R3:=Hd r3;have T3:=Hd (T2.out.trans t3);have f3:=r3.b.frozen;have x63:(x2.setCell ⟨p,6+c*10+4,none⟩ (.slice A3 n3 k3)).cell? ⟨p,6+c*10+4+2,none⟩=some (V3.sav c):=r3.b.cellC (k:=6) hc (by decide)
   have r4:=R3.out.put_sav' hc (OPL.nil_ _ B);rw[show∀o,(M.setOw c ⟨(M.ow c).sav,(M.ow c).pre,(M.ow c).sav,AS⟩).setOw c o=M.setOw c o from fun o=>by simp[MV.setOw,up_up],show(M.setOw c ⟨(M.ow c).sav,(M.ow c).pre,(M.ow c).sav,AS⟩).ow c=⟨(M.ow c).sav,(M.ow c).pre,(M.ow c).sav,AS⟩from up_at _ _ _,HZ'.out]at r4
   obtain⟨V4,r4,t4⟩:=r4;have HF:Hid (Done w B p V (M.setOw c z) ((x2.setCell ⟨p,6+c*10+4,none⟩ (.slice A3 n3 k3)).setCell ⟨p,6+c*10+4+2,none⟩ (.slice none 0 0))):=Hd (r4.done (T3.out.trans t4));clear r3 t3 r4 t4 ow2 x63 f3;rcases hk2 with rfl|rfl
   ·have hb:st=2:=by omega
    subst hb;clear hk1;go_wp2_with fail
    refine bodyPost_end (results_none rfl _ _ _) rfl ⟨rfl,HF.out⟩
   ·clear hk1 hb;go_wp2_with fail
    refine bodyPost_end (results_none rfl _ _ _) rfl ⟨rfl,HF.out⟩
  ·obtain rfl:K=2:=by omega
   have hs2:¬ (st=2):=by omega
   have m3:(st==2)=false:=by simpa using hs2
   have HZ':=Hd (show(⟨(M.ow c).set,(M.ow c).pre,[],AS⟩:Ow)=z by rw[←HZ.out];unfold learn;rw[if_neg HN4.out,if_neg HK1.out,if_pos HK2.out,if_neg (by rw[HST.out];exact hb)])
   have r4:=R2.out.put_sav' hc (OPL.nil_ _ B);rw[HE0.out,HE1.out,HZ'.out]at r4;obtain⟨V4,r4,t4⟩:=r4;have HF:Hid (Done w B p V (M.setOw c z) (x2.setCell ⟨p,6+c*10+4+2,none⟩ (.slice none 0 0))):=Hd (r4.done (T2.out.trans t4));clear r4 t4 hb hs2 hk1 hk2;go_wp2_with fail
   refine bodyPost_end (results_none rfl _ _ _) rfl ⟨rfl,HF.out⟩
 have m2:(K==2)=false:=by simp;omega
 have m3:(K==3)=false:=by simp;omega
 have HK1:=Hd hk1;have HK2:=Hd hk2;clear hk1 hk2;by_cases hk4:K=4
 ·subst hk4;have HZ':=Hd (show(⟨[],[],(M.ow c).sav,AS⟩:Ow)=z by rw[←HZ.out];unfold learn;rw[if_neg HN4.out,if_neg HK1.out,if_neg HK2.out,if_pos rfl])
  have r3:=R2.out.put_set' hc (OPL.nil_ _ B);rw[HE0.out,HE1.out]at r3;obtain⟨V3,r3,t3⟩:=r3;have R3:=Hd r3;have T3:=Hd (T2.out.trans t3);have r4:=R3.out.put_pre' hc (OPL.nil_ _ B);rw[show∀o,(M.setOw c ⟨[],(M.ow c).pre,(M.ow c).sav,AS⟩).setOw c o=M.setOw c o from fun o=>by simp[MV.setOw,up_up],show(M.setOw c ⟨[],(M.ow c).pre,(M.ow c).sav,AS⟩).ow c=⟨[],(M.ow c).pre,(M.ow c).sav,AS⟩from up_at _ _ _,HZ'.out]at r4
  obtain⟨V4,r4,t4⟩:=r4;have HF:Hid (Done w B p V (M.setOw c z) ((x2.setCell ⟨p,6+c*10+4,none⟩ (.slice none 0 0)).setCell ⟨p,6+c*10+4+1,none⟩ (.slice none 0 0))):=Hd (r4.done (T3.out.trans t4));clear r3 t3 r4 t4;go_wp2_with fail
  refine bodyPost_end (results_none rfl _ _ _) rfl ⟨rfl,HF.out⟩
 have m4:(K==4)=false:=by simpa using hk4
 have HK4:=Hd hk4;clear hk4;by_cases hk9:K=9
 ·subst hk9;have HZ':=Hd (show(⟨plusP (M.ow c).set key val,(M.ow c).pre,(M.ow c).sav,AS⟩:Ow)=z by rw[←HZ.out];unfold learn;rw[if_neg HN4.out,if_neg HK1.out,if_neg HK2.out,if_neg HK4.out,if_pos rfl])
  have ow2:=R2.out.o.ow c hc;rw[HE1.out]at ow2;have PLq:=Hd (show PL x2 x2.heap.size (V.set c) (M.ow c).set from ow2.set.pl);rw[E1.out]at PLq;clear ow2;go_upto_region 15 with fail
  refine region_sg [12] ?_;refine anyB_sg [0,1,2,3,4,5,6,7,8] 4 ?_;go_wp2_with fail
  refine sg_o ?_;refine anyB_on 9 fun K hK=>?_;go_simp;refine(pput_any x2.drew _ (M.ow c).set key val (PLq.out.below bR.drew) HS.out.1 HL.out.1 HX.out.1 HX.out.2).mono ?_;rintro e x3 ⟨v3,rfl,o3,b3⟩;refine thK hK b3 ?_;clear hK K;have R3:=Hd ((R2.out.below bR.drew).below b3);have T3:=Hd ((T2.out.below bR.drew).below b3);obtain⟨A5,k5,rfl⟩:=o3.form;have r4:=R3.out.put_set' hc (o3.base (Nat.le_trans (Nat.le_trans R2.out.o.lb (Nat.le_of_lt R2.out.b.lt)) leR));rw[HE0.out,HE1.out,HZ'.out]at r4;obtain⟨V4,r4,t4⟩:=r4;have x43:x3.cell? ⟨p,6+c*10+4,none⟩=some (V.set c):=R3.out.b.cellC (k:=4) hc (by decide)
  have f3:=R3.out.b.frozen;have HF0:=Hd (r4.done (T3.out.trans t4));clear r4 t4 b0 b1 b2 a0 x4 x5 x6 x7 fp b3;refine anyB_sg [10,11] 1 ?_;go_wp2_with fail
  refine sg_o ?_;refine anyB_on 12 fun K hK=>?_;go_simp;refine lateK hK ?_;clear hK K;refine anyB_dn ?_;go_wp2_with fail
  refine bodyPost_end (results_none rfl _ _ _) rfl ⟨rfl,HF0.out⟩
 have m9:(K==9)=false:=by simpa using hk9
 have HK9:=Hd hk9;clear hk9;by_cases hk11:K=11
 ·subst hk11;have HZ':=Hd (show(⟨(M.ow c).set,plusP (M.ow c).pre key val,(M.ow c).sav,AS⟩:Ow)=z by rw[←HZ.out];unfold learn;rw[if_neg HN4.out,if_neg HK1.out,if_neg HK2.out,if_neg HK4.out,if_neg HK9.out,if_pos rfl])
  have ow2:=R2.out.o.ow c hc;rw[HE1.out]at ow2;have PLq:=Hd (show PL x2 x2.heap.size (V.pre c) (M.ow c).pre from ow2.pre.pl);rw[E2.out]at PLq;clear ow2;go_upto_region 17 with fail
  refine region_sg [12] ?_;refine anyB_sg [0,1,2,3,4,5,6,7,8] 4 ?_;go_wp2_with fail
  refine sg_o ?_;refine anyB_on 9 fun K hK=>?_;go_simp;refine(pput_any x2.drew _ (M.ow c).pre key val (PLq.out.below bR.drew) HS.out.2 HL.out.2 HX.out.1 HX.out.2).mono ?_;rintro e x3 ⟨v3,rfl,o3,b3⟩;refine thK hK b3 ?_;clear hK K;have R3:=Hd ((R2.out.below bR.drew).below b3);have T3:=Hd ((T2.out.below bR.drew).below b3);obtain⟨A5,k5,rfl⟩:=o3.form;have r4:=R3.out.put_pre' hc (o3.base (Nat.le_trans (Nat.le_trans R2.out.o.lb (Nat.le_of_lt R2.out.b.lt)) leR));rw[HE0.out,HE1.out,HZ'.out]at r4;obtain⟨V4,r4,t4⟩:=r4;have x43:x3.cell? ⟨p,6+c*10+5,none⟩=some (V.pre c):=R3.out.b.cellC (k:=5) hc (by decide)
  have f3:=R3.out.b.frozen;have HF0:=Hd (r4.done (T3.out.trans t4));clear r4 t4 b0 b1 b2 a0 x4 x5 x6 x7 fp b3;refine anyB_sg [10,11] 1 ?_;go_wp2_with fail
  refine sg_o ?_;refine anyB_on 12 fun K hK=>?_;go_simp;refine lateK hK ?_;clear hK K;refine anyB_dn ?_;go_wp2_with fail
  refine bodyPost_end (results_none rfl _ _ _) rfl ⟨rfl,HF0.out⟩
 have m11:(K==11)=false:=by simpa using hk11
 have HK11:=Hd hk11;clear hk11;have HZ':=Hd (show(⟨(M.ow c).set,(M.ow c).pre,(M.ow c).sav,AS⟩:Ow)=z by rw[←HZ.out];unfold learn;rw[if_neg HN4.out,if_neg HK1.out,if_neg HK2.out,if_neg HK4.out,if_neg HK9.out,if_neg HK11.out])
 have HF:Hid (Done w B p V (M.setOw c z) x2):=Hd (by rw[←HZ'.out];exact R2.out.done T2.out)
 go_wp2_with fail
 refine bodyPost_end (results_none rfl _ _ _) rfl ⟨rfl,HF.out⟩
end Go.Proofs.YtjbnfigpflambacGreatDoor
