/- pool.Run, its input good. pool.Run where an act is bad. tillermanlaw.sameOutcome, for outcomes that are the same. Conditions: those of each lemma. -/
import Derived.Test.YtjbnfigpflambacGreatDoorH38
namespace Go.Proofs.YtjbnfigpflambacGreatDoor
set_option maxRecDepth 100000
set_option maxHeartbeats 16000000
open _root_.Go.Proofs.Tryz
open Go.ChangeShapes Go.WideShapes Go.ChangeAt Go.RowKit
structure Outc where
 sent:List ByteArray
 deeds:List De
 rows:List Pr
noncomputable def outM(mode:Int)(n:Nat)(l:List Ac):Outc:=
 ⟨(List.range 6).map fun c=>((runM poolB (startF mode n,startP n) l).1.c c).sent,(runM poolB (startF mode n,startP n) l).1.deeds,(runM poolB (startF mode n,startP n) l).2.w.rows⟩
structure OutR(w:World)(B:Nat)(vs vd vr:Value)(o:Outc):Prop where
 sent:OwnO w B 9 1 vs o.sent.length (o.sent.map .string)
 deeds:OwnO w B 71 7 vd o.deeds.length (deV o.deeds)
 rows:OPL w B vr o.rows
theorem ac_at{w:World}{B:Nat}{A:Option Addr}{cap L:Nat}{l:List Ac}(h:AcL w B (.slice A L cap) l)(hL:l.length=L){i:Nat}(hi:i<L): ∃ad:Addr,A=some ad∧ad.block<B∧AcAt w (ad.add (i*3)) (l.getD i ⟨0,0,⟨#[]⟩⟩):=by
 obtain⟨A',c',e,h3⟩:=h;injection e with e1 e2 e3;subst e1;obtain⟨ad,h1,h2,h3⟩:=h3 (by omega)
 refine⟨ad,h1,h2,?_⟩;rw[List.getD_eq_getElem?_getD,List.getElem?_eq_getElem (by omega)]
 exact h3 i (by omega)
structure RunS(wr wx:World)(n:Nat)(x o k:Option Nat):Prop where
 hb:Below wr.heap.size wr wx
 bx: ∀y,x=some y→wx.cell? ⟨y,0,none⟩=some (.int .i64 (-1))
 bo: ∀y,o=some y→wr.heap.size≤y∧∃cs:Array Value,Blk wx y 3 cs∧cs.size=n∧∀j,j<n→cs[j]? =some (.int .i64 (-1))
 bk: ∀y,k=some y→wr.heap.size≤y∧Blk wx y 92 ((List.replicate n kv0).flatMap KV.cells).toArray
section
variable {wr wx wy:World}{n:Nat}{x o k:Option Nat}
theorem RunS.start(wr:World)(n:Nat):RunS wr wr n none none none:=⟨bR,fun _ h=>(by cases h),fun _ h=>(by cases h),fun _ h=>(by cases h)⟩
theorem RunS.keep(h:RunS wr wx n x o k)(hb:Below wx.heap.size wx wy):RunS wr wy n x o k:=
 ⟨below_step h.hb leR hb,fun y e=>keep_cell hb (h.bx y e),fun y e=>(by obtain⟨l,cs,b,r⟩:=h.bo y e;exact⟨l,cs,b.keep hb,r⟩),fun y e=>⟨(h.bk y e).1,(h.bk y e).2.keep hb⟩⟩
theorem RunS.fx(h:RunS wr wx n none o k):RunS wr (wx.alloc (.cells #[.int .i64 (-1)] 3)) n (some wx.heap.size) o k:=by
 have s:=h.keep (boxed wx (.cells #[.int .i64 (-1)] 3));exact⟨s.hb,fun y e=>(by injection e with e;subst e;exact(Blk.new wx _ _).cell_ 0 _ rfl),s.bo,s.bk⟩
theorem RunS.fo(h:RunS wr wx n x none k)(hb:Below wx.heap.size wx wy){y:Nat}{cs:Array Value}(b:Blk wy y 3 cs)(hs:cs.size=n)(hc: ∀j,j<n→cs[j]? =some (.int .i64 (-1)))(hy:wx.heap.size≤y):RunS wr wy n x (some y) k:=by
 have s:=h.keep hb;exact⟨s.hb,s.bx,fun z e=>(by injection e with e;subst e;exact⟨Nat.le_trans h.hb.size hy,cs,b,hs,hc⟩),s.bk⟩
theorem RunS.fk(h:RunS wr wx n x o none):RunS wr (wx.alloc (.cells ((List.replicate n kv0).flatMap KV.cells).toArray 92)) n x o (some wx.heap.size):=by
 have s:=h.keep (boxed wx (.cells ((List.replicate n kv0).flatMap KV.cells).toArray 92));exact⟨s.hb,s.bx,s.bo,fun y e=>(by injection e with e;subst e;exact⟨h.hb.size,Blk.new wx _ _⟩)⟩
theorem RunS.fin{zo zk B:Nat}{mode:Int}(h:RunS wr wx n x (some zo) (some zk)){p:Nat}(D:Blk wy p 101 (pool00 mode n zo zk))(hb:Below wx.heap.size wx wy)(hB:B≤wr.heap.size)(hn:n≤1000)(hp:B≤p):
  PoolR wy B p (V00 n zo zk) (List.replicate n kv0) (M00 mode n):=by
 obtain⟨l1,cs,b1,hs,hc⟩:=(h.keep hb).bo _ rfl;obtain⟨l2,b2⟩:=(h.keep hb).bk _ rfl;exact start_pool D b1 hs hc b2 hp (by omega) (by omega) hn
end
theorem run_any(w:World)(mode:Int)(n:Nat)(v:Value)(l:List Ac)(hm:setupE mode n=0)(hn1:1≤n)(hn4:n≤4)(hl:AcL w w.heap.size v l)(hlen:l.length≤300)(hok: ∀a∈l,AcOk a)(hT:Tabs w):
  Calls Tryz.prog 12 #[.agg #[.int .i64 mode,.int .i64 (n:Int)],v] w fun e w'=>∃vs vd vr,e= .returned (.tuple #[.agg #[vs,vd,vr],.int .i64 0])∧OutR w' w.heap.size vs vd vr (outM mode n l)∧Below w.heap.size w w':=by
 have hs:=fun w=>setup_any mode n w;rw[hm]at hs;have XS:=Hd hs;have HAL:=Hd hl;have HT:=Hd hT;have HOK:=Hd hok;obtain⟨A,cap,rfl,_⟩:=hl;obtain⟨L,hL⟩: ∃L,l.length=L:=⟨_,rfl⟩;rw[hL]at hlen HAL⊢;have HL:=Hd hL;have q1:(L:Int)≤300:=by omega
 have hgd: ∀i,i<L→AcOk (l.getD i ⟨0,0,⟨#[]⟩⟩):=fun i hi=>by
  rw[List.getD_eq_getElem?_getD,List.getElem?_eq_getElem (by omega)]
  exact hok _ (List.getElem_mem _)
 have HGD:=Hd hgd;clear hs hm hT hok hL hgd;go_enter func12,ntmps12
 go_wp2_with fail
 refine(XS.out _).mono ?_;rintro e w1 ⟨rfl,hb1⟩;have HU:=Hd (RU.after hb1);clear hb1;go_upto_block 0 with fail
 go_cut [] (fun wx=>RU w mode n wx)
 case first=>
  go_wp2_with fail
  go_loopw [27] (fun i wx=>∃m:Nat,m≤L∧i= .int .i64 m∧Hid (RU w mode n wx)) (fun i _=>L-(intOf i).toNat)
  case atStart=>exact⟨0,Nat.zero_le _,rfl,HU⟩
  case round=>
   obtain⟨m,hmL,rfl,HR⟩:=hrel;by_cases hlt:m<L
   ·have g1:(m:Int)<(L:Int):=by omega
    have g2:(0:Int)≤(m:Int):=by omega
    obtain⟨ad,hA,hB,ha⟩:=ac_at (HAL.out.below HR.out.bel) HL.out hlt;obtain⟨k1,c0,c6,d1⟩:=HGD.out m hlt;subst hA;obtain⟨⟨ak,ac,adt⟩,hx⟩: ∃x,l.getD m ⟨0,0,⟨#[]⟩⟩=x:=⟨_,rfl⟩;rw[hx]at ha k1 c0 c6 d1;obtain⟨a0,a1,a2⟩:=ha;simp only at a0 a1 a2 k1 c0 c6 d1;have d2:(adt.size:Int)≤1000:=by omega
    have HS:=Hd (HR.out.keep (boxed wr (.cells #[.int .i64 ak,.int .i64 ac,.string adt] 54)));clear hx;rcases k1 with rfl|rfl;all_goals
     go_wp2_with fail
     go_roundw
     case rel=>exact⟨m+1,by omega,by go_num,HS⟩
     case measure=>simp[intOf];omega
   ·have g1:(L:Int)≤(m:Int):=by omega
    go_wp2_with fail
    go_meet;exact HR.out
 case rest=>
  have HR:=Hd hcut;clear hcut HU;have s0:=HR.out.set.cell_ 0 _ rfl;have s1:=HR.out.set.cell_ 1 _ rfl;have HMO:=Hd (made_own n hn1 hn4);have HMS:=Hd (made_ses n hn1 hn4);go_upto_region 16 with fail
  go_cut [9] (fun p9 wx=>∃p,p9= .pointer (some ⟨p,0,none⟩)∧∃zo zk,PoolR wx w.heap.size p (V00 n zo zk) (List.replicate n kv0) (M00 mode n)∧RU w mode n wx)
  case first=>
   refine region_sg [] ?_;refine anyB_sg [0,2,3,5,6] 6 ?_;go_wp2_with fail
   refine sg_o ?_;have S0:=Hd ((RunS.start wc n).keep bR.drew);clear s0 s1;generalize wc.drew=x0 at S0⊢;refine anyB_tw 1 7 (fun K hK=>?_) fun K hK=>?_
   ·go_simp;refine thK hK (boxed _ _) ?_;clear hK K;have S1:=Hd S0.out.fx;obtain⟨zx,hz⟩: ∃z,x0.heap.size=z:=⟨_,rfl⟩;rw[hz]at S1⊢;generalize World.alloc _ _=x1 at S1⊢;clear S0 hz;refine anyB_tw 4 7 (fun K hK=>?_) fun K hK=>?_
    ·go_simp;refine(rep_any _ zx n hn1 (by omega) (S1.out.bx _ rfl)).mono ?_
     rintro e x2 ⟨zo,cs,rfl,b,hcs,hc1,hzo,hb⟩;refine thK hK hb ?_;clear hK K;have S2:=Hd (S1.out.fo hb b hcs hc1 hzo);clear b hcs hc1 hzo hb S1;refine anyB_on 7 fun K hK=>?_;go_simp;rw[HMO.out];go_simp;refine thK hK (boxed _ _) ?_;clear hK K;have S3:=Hd S2.out.fk;obtain⟨zk,hz⟩: ∃z,x2.heap.size=z:=⟨_,rfl⟩;rw[hz]at S3⊢;generalize World.alloc _ _=x3 at S3⊢;clear S2 hz;refine anyB_sg [8] 2 ?_;go_wp2_with fail
     refine sg_o ?_;refine anyB_on 9 fun K hK=>?_;go_simp;refine thK hK (boxed _ _) ?_;clear hK K;refine anyB_sg [10] 0 ?_;go_wp2_with fail
     refine sg_o ?_;refine anyB_dn ?_;have D:=Blk.new x3 101 (pool00 mode n zo zk);have HB9:=Hd (boxed x3 (.cells (pool00 mode n zo zk) 101));have R9:=Hd (S3.out.fin D HB9.out HR.out.bel.size (by omega) (Nat.le_trans HR.out.bel.size S3.out.hb.size))
     have U9:=Hd ((HR.out.keep S3.out.hb).keep HB9.out);clear D HB9 S3;go_wp2_with fail
     go_meet;refine⟨_,rfl,zo,zk,?_,?_⟩
     ·exact R9.out
     ·exact U9.out
    ·go_simp;rw[HMO.out];go_simp;refine thK hK (boxed _ _) ?_;clear hK K;have S2:=Hd S1.out.fk;obtain⟨zk,hz⟩: ∃z,x1.heap.size=z:=⟨_,rfl⟩;rw[hz]at S2⊢;generalize World.alloc _ _=x2 at S2⊢;clear S1 hz;refine anyB_on 4 fun K hK=>?_;go_simp;refine(rep_any _ zx n hn1 (by omega) (S2.out.bx _ rfl)).mono ?_
     rintro e x3 ⟨zo,cs,rfl,b,hcs,hc1,hzo,hb⟩;refine thK hK hb ?_;clear hK K;have S3:=Hd (S2.out.fo hb b hcs hc1 hzo);clear b hcs hc1 hzo hb S2;refine anyB_sg [8] 2 ?_;go_wp2_with fail
     refine sg_o ?_;refine anyB_on 9 fun K hK=>?_;go_simp;refine thK hK (boxed _ _) ?_;clear hK K;refine anyB_sg [10] 0 ?_;go_wp2_with fail
     refine sg_o ?_;refine anyB_dn ?_;have D:=Blk.new x3 101 (pool00 mode n zo zk);have HB9:=Hd (boxed x3 (.cells (pool00 mode n zo zk) 101));have R9:=Hd (S3.out.fin D HB9.out HR.out.bel.size (by omega) (Nat.le_trans HR.out.bel.size S3.out.hb.size))
     have U9:=Hd ((HR.out.keep S3.out.hb).keep HB9.out);clear D HB9 S3;go_wp2_with fail
     go_meet;refine⟨_,rfl,zo,zk,?_,?_⟩
     ·exact R9.out
     ·exact U9.out
   ·go_simp;rw[HMO.out];go_simp;refine thK hK (boxed _ _) ?_;clear hK K;have S1:=Hd S0.out.fk;obtain⟨zk,hz⟩: ∃z,x0.heap.size=z:=⟨_,rfl⟩;rw[hz]at S1⊢;generalize World.alloc _ _=x1 at S1⊢;clear S0 hz;refine anyB_on 1 fun K hK=>?_;go_simp;refine thK hK (boxed _ _) ?_;clear hK K;have S2:=Hd S1.out.fx;obtain⟨zx,hz⟩: ∃z,x1.heap.size=z:=⟨_,rfl⟩;rw[hz]at S2⊢;generalize World.alloc _ _=x2 at S2⊢;clear S1 hz;refine anyB_on 4 fun K hK=>?_;go_simp;refine(rep_any _ zx n hn1 (by omega) (S2.out.bx _ rfl)).mono ?_
    rintro e x3 ⟨zo,cs,rfl,b,hcs,hc1,hzo,hb⟩;refine thK hK hb ?_;clear hK K;have S3:=Hd (S2.out.fo hb b hcs hc1 hzo);clear b hcs hc1 hzo hb S2;refine anyB_sg [8] 2 ?_;go_wp2_with fail
    refine sg_o ?_;refine anyB_on 9 fun K hK=>?_;go_simp;refine thK hK (boxed _ _) ?_;clear hK K;refine anyB_sg [10] 0 ?_;go_wp2_with fail
    refine sg_o ?_;refine anyB_dn ?_;have D:=Blk.new x3 101 (pool00 mode n zo zk);have HB9:=Hd (boxed x3 (.cells (pool00 mode n zo zk) 101));have R9:=Hd (S3.out.fin D HB9.out HR.out.bel.size (by omega) (Nat.le_trans HR.out.bel.size S3.out.hb.size))
    have U9:=Hd ((HR.out.keep S3.out.hb).keep HB9.out);clear D HB9 S3;go_wp2_with fail
    go_meet;refine⟨_,rfl,zo,zk,?_,?_⟩
    ·exact R9.out
    ·exact U9.out
  case rest=>
   obtain⟨p,rfl,zo,zk,r0,u0⟩:=hcut;have y3:wc.cell? ⟨p,3,none⟩=some (.slice none 0 0):=r0.b.cell (j:=3) (by decide)
   have s1:=u0.set.cell_ 1 _ rfl;have fp:=r0.b.frozen;have hlp:=r0.b.lt;have npz:=Nat.ne_of_lt hlp;have hbx:=boxed wc (.cells (zcS n).toArray 133);have y3':=keep_cell hbx y3;have r1:=(r0.below hbx).put_ses (v:=.slice (some ⟨wc.heap.size,0,none⟩) n n) (l:=List.replicate n Se.new) ⟨_,zcS_osl (Blk.new wc _ _) (Nat.le_trans r0.o.lb (Nat.le_of_lt hlp)) (by omega)⟩
   have ew:=World.setCell_alloc_past (w:=wc) (.cells (zcS n).toArray 133) p 3 (.slice (some ⟨wc.heap.size,0,none⟩) n n) hlp;rw[ew]at r1;have e0:=m01_zero mode n;have R1:=Hd (show PoolR ((wc.setCell ⟨p,3,none⟩ (.slice (some ⟨wc.heap.size,0,none⟩) n n)).alloc (.cells (zcS n).toArray 133)) w.heap.size p {V00 n zo zk with ses:=.slice (some ⟨wc.heap.size,0,none⟩) n n} (List.replicate n kv0) (M01 mode n 0)by rw[←e0];exact r1.1)
   have O1:=Hd ((RO.mk (u0.bel) u0.out).keep hbx |>.turn (r0.below hbx) r1.2);have hms:=HMS.out;clear e0 r0 u0 hbx r1 HR ew;go_upto_region 18 with fail
   clear y3 y3' s1 fp hlp npz hms;obtain⟨V1,hV1⟩: ∃V1,({V00 n zo zk with ses:=.slice (some ⟨wc.heap.size,0,none⟩) n n}:PV)=V1:=⟨_,rfl⟩;rw[hV1]at R1;clear hV1;generalize World.alloc _ _=x1 at R1 O1⊢;have HTB:=Hd ((TabB.start HT.out).bel O1.out.bel);go_upto_block 3 with fail
   go_cut [] (fun wx=>∃V' ks',PoolR wx w.heap.size p V' ks' (MV.of (startF mode n) (startP n))∧Turn p x1 V1 wx V')
   case first=>
    go_wp2_with fail
    go_loopw [75] (fun i wx=>∃m:Nat,m≤6∧i= .int .i64 m∧Hid (∃V' ks',PoolR wx w.heap.size p V' ks' (M01 mode n m)∧Turn p x1 V1 wx V')) (fun i _=>6-(intOf i).toNat)
    case atStart=>exact⟨0,Nat.zero_le _,rfl,Hd ⟨V1,_,R1.out,Turn.refl _ _ _⟩⟩
    case round=>
     obtain⟨m,hm6,rfl,HL⟩:=hrel;by_cases hlt:m<6
     ·have g1:(m:Int)<6:=by omega
      have g2:(0:Int)≤(m:Int):=by omega
      obtain⟨V2,ks2,r2,t2⟩:=HL.out;have y: ∃u,wr.cell? ⟨p,6+m*10+3,none⟩=some u:=⟨_,r2.b.cellC (k:=3) hlt (by decide)⟩
      obtain⟨u,y⟩:=y;have fp:=r2.b.frozen;have r3:=r2.put_srv hlt (-1);rw[m01_step]at r3;have HF:=Hd (show∃V' ks',PoolR (wr.setCell ⟨p,6+m*10+3,none⟩ (.int .i64 (-1))) w.heap.size p V' ks' (M01 mode n (m+1))∧Turn p x1 V1 (wr.setCell ⟨p,6+m*10+3,none⟩ (.int .i64 (-1))) V' from⟨_,_,r3.1,t2.trans r3.2⟩);clear r2 t2 r3 HL;go_wp2_with fail
      go_roundw
      case rel=>exact⟨m+1,by omega,by go_num,HF⟩
      case measure=>simp[intOf];omega
     ·obtain rfl:m=6:=by omega
      obtain⟨V2,ks2,r2,t2⟩:=HL.out;have HF:=Hd (And.intro (m01_end r2) t2);clear r2 t2 HL;go_wp2_with fail
      go_meet;exact⟨V2,ks2,HF.out.1,HF.out.2⟩
   case rest=>
    obtain⟨V2,ks2,r2,t2⟩:=hcut;have R2:=Hd r2;have T2:=Hd t2;clear r2 t2;go_upto_block 5 with fail
    go_cut [] (fun wx=>∃V' ks',PoolR wx w.heap.size p V' ks' (MV.of (runM poolB (startF mode n,startP n) l).1 (runM poolB (startF mode n,startP n) l).2)∧Turn p x1 V1 wx V')
    case first=>
     go_wp2_with fail
     go_loopw [87] (fun i wx=>∃m:Nat,m≤L∧i= .int .i64 m∧Hid (∃V' ks',PoolR wx w.heap.size p V' ks' (MV.of (runM poolB (startF mode n,startP n) (l.take m)).1 (runM poolB (startF mode n,startP n) (l.take m)).2)∧Turn p x1 V1 wx V')) (fun i _=>L-(intOf i).toNat)
     case atStart=>exact⟨0,Nat.zero_le _,rfl,Hd ⟨V2,ks2,R2.out,T2.out⟩⟩
     case round=>
      obtain⟨m,hmL,rfl,HL2⟩:=hrel;by_cases hlt:m<L
      ·have g1:(m:Int)<(L:Int):=by omega
       have g2:(0:Int)≤(m:Int):=by omega
       have hml:m<l.length:=by rw[HL.out];exact hlt
       have hst:=run_step (startF mode n,startP n) l hml;have hok:=run_take_ok mode n (by omega) HOK.out m (Nat.le_of_lt hml)
       obtain⟨V3,ks3,r3,t3⟩:=HL2.out;have hro:=O1.out.turn R1.out t3;obtain⟨ad,hA,hB,ha⟩:=ac_at (HAL.out.below hro.bel) HL.out hlt;obtain⟨k1,c0,c6,d1⟩:=HGD.out m hlt;subst hA;rw[show l.getD m ⟨0,0,⟨#[]⟩⟩=l[m]by rw[List.getD_eq_getElem?_getD,List.getElem?_eq_getElem hml];rfl]at ha k1 c0 c6 d1
       obtain⟨⟨ak,ac,adt⟩,hx⟩: ∃x,l[m]=x:=⟨_,rfl⟩;rw[hx]at ha k1 c0 c6 d1 hst;obtain⟨a0,a1,a2⟩:=ha;simp only at a0 a1 a2 k1 c0 c6 d1;obtain⟨cn,hcn⟩: ∃c:Nat,ac=(c:Int):=⟨ac.toNat,by omega⟩
       subst hcn;obtain⟨⟨f3,b3⟩,hz3⟩: ∃z,runM poolB (startF mode n,startP n) (l.take m)=z:=⟨_,rfl⟩;rw[hz3]at r3 hst hok;have hbx:=boxed wr (.cells #[.int .i64 ak,.int .i64 (cn:Int),.string adt] 54);have R3:=Hd (r3.below hbx);have T3:=Hd (t3.below hbx);have HT3:=Hd ((TabB.start HT.out).bel ((O1.out.turn R1.out (t3.below hbx)).bel));have HOK3:=Hd hok;have HST:=Hd hst;have HC6:=Hd (show cn<6 by omega)
       have HN3:=Hd (show m*1000+adt.size≤1000000 by omega)
       clear hst hok r3 t3 hro hx hz3 hbx HL2;rcases k1 with rfl|rfl
       ·have HA:=Hd (show actM poolB (f3,b3) ⟨1,(cn:Int),adt⟩=deliverM poolB (f3,b3) cn adt by unfold actM;rw[if_neg (show ¬ (1:Int)=2 by decide)];rfl)
        go_wp2_with fail
        refine(deliver_any _ w.heap.size p V3 ks3 f3 b3 (m*1000) R3.out HT3.out HOK3.out cn HC6.out adt HN3.out).mono ?_;rintro e w5 ⟨rfl,⟨V5,ks5,r5,t5⟩⟩;have HF:=Hd (show∃V' ks',PoolR w5 w.heap.size p V' ks' (MV.of (runM poolB (startF mode n,startP n) (l.take (m+1))).1 (runM poolB (startF mode n,startP n) (l.take (m+1))).2)∧Turn p x1 V1 w5 V' from⟨V5,ks5,by rw[HST.out,HA.out];exact r5,T3.out.trans t5⟩)
        clear r5 t5;go_wp2_with fail
        go_roundw
        case rel=>exact⟨m+1,by omega,by go_num,HF⟩
        case measure=>simp[intOf];omega
       ·have HA:=Hd (show actM poolB (f3,b3) ⟨2,(cn:Int),adt⟩=pumpM poolB (closeM poolB (f3,b3) cn)by unfold actM;rw[if_pos rfl];rfl)
        go_wp2_with fail
        refine(close_any _ w.heap.size p V3 ks3 f3 b3 (m*1000) R3.out HT3.out HOK3.out cn HC6.out).mono ?_;rintro e w5 ⟨rfl,⟨V5,ks5,r5,t5⟩⟩;have HK5:=Hd (HOK3.out.close HC6.out);obtain⟨⟨f5,b5⟩,h5⟩: ∃z,closeM poolB (f3,b3) cn=z:=⟨_,rfl⟩;rw[h5]at r5 HK5 HA;have R5:=Hd r5;have T5:=Hd t5;clear r5 t5 h5;go_wp2_with fail
        refine(pump_any _ w.heap.size p V5 ks5 f5 b5 (m*1000) R5.out (HT3.out.turn R3.out.o T5.out) HK5.out (by have:=HN3.out;omega)).mono ?_
        rintro e w6 ⟨rfl,⟨V6,ks6,r6,t6⟩⟩;have HF:=Hd (show∃V' ks',PoolR w6 w.heap.size p V' ks' (MV.of (runM poolB (startF mode n,startP n) (l.take (m+1))).1 (runM poolB (startF mode n,startP n) (l.take (m+1))).2)∧Turn p x1 V1 w6 V' from⟨V6,ks6,by rw[HST.out,HA.out];exact r6,(T3.out.trans T5.out).trans t6⟩)
        clear r6 t6;go_wp2_with fail
        go_roundw
        case rel=>exact⟨m+1,by omega,by go_num,HF⟩
        case measure=>simp[intOf];omega
      ·have g1:(L:Int)≤(m:Int):=by omega
       have HF:=Hd (show∃V' ks',PoolR wr w.heap.size p V' ks' (MV.of (runM poolB (startF mode n,startP n) l).1 (runM poolB (startF mode n,startP n) l).2)∧Turn p x1 V1 wr V' by
        have:=HL2.out;rw[List.take_of_length_le (by rw[HL.out];omega)]at this
        exact this)
       go_wp2_with fail
       go_meet;exact HF.out
    case rest=>
     obtain⟨V3,ks3,r3,t3⟩:=hcut;have OB:=Hd (O1.out.turn R1.out t3);obtain⟨Mz,hMz⟩: ∃M,MV.of (runM poolB (startF mode n,startP n) l).1 (runM poolB (startF mode n,startP n) l).2=M:=⟨_,rfl⟩;rw[hMz]at r3;have HMZ:=Hd hMz;have Z0:=Hd r3;clear t3 r3 hMz R2 T2 R1 O1 HTB;obtain⟨Ad,kd,ed,_⟩:=Z0.out.o.deeds.form;obtain⟨nd,hnd⟩: ∃n,Mz.deeds.length=n:=⟨_,rfl⟩;rw[hnd]at ed;obtain⟨Aw,kw,ew⟩:=Z0.out.o.rows.form;have y67:wc.cell? ⟨p,67,none⟩=some V3.deeds:=Z0.out.b.cell (j:=67) (by decide)
     have y2:wc.cell? ⟨p,2,none⟩=some V3.rows:=Z0.out.b.cell (j:=2) (by decide)
     rw[ed]at y67;rw[ew]at y2;obtain⟨nw,hnw⟩: ∃n,Mz.w.rows.length=n:=⟨_,rfl⟩;rw[hnw]at ew y2;have ED:=Hd ed;have ERW:=Hd ew;clear ed ew hnd hnw;go_upto_region 31 with fail
     go_cut [13] (fun p13 wx=>∃z13 vr,p13= .pointer (some ⟨z13,0,none⟩)∧RunE w wx p V3 Mz z13 0 0 (.slice none 0 0) vr)
     case first=>
      refine region_sg [12] ?_;refine anyB_sg [0,1,2,3,4,5,6,7,8] 4 ?_;go_wp2_with fail
      refine sg_o ?_;have S0:=Hd ((RunC.start w.heap.size wc Mz.w.rows).keep bR.drew);clear y67 y2;generalize wc.drew=x0 at S0⊢;refine anyB_tw 9 11 (fun K hK=>?_) fun K hK=>?_
      ·go_simp;have pl:=((Z0.out.o.rows.keeps (.of_below S0.out.hb)).pl);rw[ERW.out]at pl;refine(clone_own _ w.heap.size _ _ pl (Nat.le_trans OB.out.bel.size S0.out.hb.size)).mono ?_;rintro e x1 ⟨vr,rfl,o,hb⟩;refine thK hK hb ?_;clear hK K;have S1:=Hd (S0.out.fv hb o);obtain⟨Ar,kr,er⟩:=o.form;subst er;clear o hb pl S0;refine anyB_sg [10] 2 ?_;go_wp2_with fail
       refine sg_o ?_;refine anyB_on 11 fun K hK=>?_;go_simp;refine thK hK (boxed _ _) ?_;clear hK K;have S2:=Hd S1.out.fz;obtain⟨z13,hz⟩: ∃z,x1.heap.size=z:=⟨_,rfl⟩;rw[hz]at S2⊢;generalize World.alloc _ _=x2 at S2⊢;clear S1 hz;obtain⟨bz,-⟩:=S2.out.bz _ rfl;have f0:=bz.cell_ 0 _ rfl;have f1:=bz.cell_ 1 _ rfl;have f2:=bz.cell_ 2 _ rfl;have ff:=bz.frozen;clear bz;refine anyB_on 12 fun K hK=>?_;go_simp;refine lateK hK ?_;clear hK K;refine anyB_dn ?_;have FN:=Hd (S2.out.fin OB.out Z0.out (.slice none 0 0) (.slice Ad nd kd) _ rfl ED.out.symm rfl rfl);clear f0 f1 f2 ff S2;generalize World.setCell _ _ _=x9 at FN⊢;go_wp2_with fail
       go_meet;exact⟨z13,_,rfl,FN.out⟩
      ·go_simp;refine thK hK (boxed _ _) ?_;clear hK K;have S1:=Hd S0.out.fz;obtain⟨z13,hz⟩: ∃z,x0.heap.size=z:=⟨_,rfl⟩;rw[hz]at S1⊢;generalize World.alloc _ _=x1 at S1⊢;clear S0 hz;refine anyB_on 9 fun K hK=>?_;go_simp;have pl:=((Z0.out.o.rows.keeps (.of_below S1.out.hb)).pl);rw[ERW.out]at pl;refine(clone_own _ w.heap.size _ _ pl (Nat.le_trans OB.out.bel.size S1.out.hb.size)).mono ?_;rintro e x2 ⟨vr,rfl,o,hb⟩;refine thK hK hb ?_;clear hK K;have S2:=Hd (S1.out.fv hb o);obtain⟨Ar,kr,er⟩:=o.form;subst er;clear o hb pl S1;refine anyB_sg [10] 1 ?_;go_wp2_with fail
       refine sg_o ?_;obtain⟨bz,-⟩:=S2.out.bz _ rfl;have f0:=bz.cell_ 0 _ rfl;have f1:=bz.cell_ 1 _ rfl;have f2:=bz.cell_ 2 _ rfl;have ff:=bz.frozen;clear bz;refine anyB_on 12 fun K hK=>?_;go_simp;refine lateK hK ?_;clear hK K;refine anyB_dn ?_;have FN:=Hd (S2.out.fin OB.out Z0.out (.slice none 0 0) (.slice Ad nd kd) _ rfl ED.out.symm rfl rfl);clear f0 f1 f2 ff S2;generalize World.setCell _ _ _=x9 at FN⊢;go_wp2_with fail
       go_meet;exact⟨z13,_,rfl,FN.out⟩
     case rest=>
      obtain⟨z13,vr,rfl,e0⟩:=hcut;have E0:=Hd e0;clear e0 y67 y2;go_upto_block 7 with fail
      go_cut [] (fun wx=>∃vs,RunE w wx p V3 Mz z13 6 6 vs vr)
      case first=>
       go_wp2_with fail
       go_loopw [118] (fun i wx=>∃m:Nat,m≤6∧i= .int .i64 m∧Hid (∃vs,RunE w wx p V3 Mz z13 m m vs vr)) (fun i _=>6-(intOf i).toNat)
       case atStart=>exact⟨0,Nat.zero_le _,rfl,Hd ⟨_,E0.out⟩⟩
       case round=>
        obtain⟨m,hm6,rfl,HE⟩:=hrel;by_cases hlt:m<6
        ·have g1:(m:Int)<6:=by omega
         have g2:(0:Int)≤(m:Int):=by omega
         have H6:=Hd hlt;obtain⟨vs,es⟩:=HE.out;obtain⟨As,ks,e5,_⟩:=es.sent.form;subst e5;have S0:=Hd (es.keep bR.drew);have y0:=es.box.cell_ 0 _ rfl;clear es HE;go_upto_region 35 with fail
         refine region_sg [8,10,12] ?_;refine anyB_sg [0,2,3,4,5,6,7] 6 ?_;go_wp2_with fail
         refine sg_o ?_;clear y0;generalize wr.drew=x0 at S0⊢;refine anyB_tw 1 8 (fun K hK=>?_) fun K hK=>?_
         ·have y:=S0.out.box.cell_ 0 _ rfl;go_simp;refine thK hK bR ?_;clear hK K;clear y;generalize hx:x0=x1 at S0⊢;have S1:=S0;try rw[hx]at HD
          clear S0 hx;refine anyB_on 8 fun K hK=>?_;go_simp;have hx:x1.cell? ⟨p,6+m*10+9,none⟩=some (V3.buf m):=S1.out.pb.cellC (k:=9) H6.out (by decide)
          refine(string_any _ w.heap.size p m H6.out _ _ hx (S1.out.buf m leR H6.out)).mono ?_;rintro e x2 ⟨rfl,g⟩;refine lateK hK ?_;clear hK K;have S2:=Hd (S1.out.read H6.out g);clear hx g S1;refine anyB_on 9 fun K hK=>?_;go_simp;refine thK hK (boxed _ _) ?_;clear hK K;have HD:=Hd (Blk.new x2 9 #[.string (Mz.sent m)]);have S3:=Hd (S2.out.keep (boxed x2 (.cells #[.string (Mz.sent m)] 9)));obtain⟨zs,hz⟩: ∃z,x2.heap.size=z:=⟨_,rfl⟩;rw[hz]at HD⊢;generalize World.alloc _ _=x3 at HD S3⊢;clear S2 hz;obtain⟨i0,hi0,hz0,hz1,hz2⟩:=info_parts str_info;have HSE:=Hd S3.out.sent;have HBS:=Hd S3.out.ro.bel.size;refine anyB_on 10 fun K hK=>?_;rw[if_pos (by rfl)]
          refine wp_append_o _ _ _ _ rfl w.heap.size 9 i0 _ 1 16 underlying25 hi0 hz0 hz1 hz2 rfl (by decide) (.slice As m ks) m _ rfl HSE.out x3.heap.size (some ⟨zs,0,none⟩) 1 1 [.string (Mz.sent m)] rfl (reads_one HD.out rfl) (by intro u hu;simp only[List.mem_cons,List.not_mem_nil,or_false]at hu;subst hu;rfl) (le_maxLen (by omega)) (by omega) HBS.out ?_
          intro v' x4 ho hg hn;refine lateK hK ?_;clear hK K;obtain⟨A7,k7,e7,_⟩:=ho.form;have ad:=S3.out.add ho hg;subst e7;have y0:=ad.2.1;have fp:=ad.2.2;have S4:=Hd ad.1;clear ad ho hg hn hi0 hz0 hz1 hz2 HD HSE HBS S3;refine anyB_sg [11] 1 ?_;go_wp2_with fail
          refine sg_o ?_;refine anyB_on 12 fun K hK=>?_;go_simp;refine lateK hK ?_;clear hK K;refine anyB_dn ?_;clear y0 fp;generalize World.setCell _ _ _=x9 at S4⊢;go_wp2_with fail
          go_roundw
          case rel=>exact⟨m+1,by omega,by go_num,Hd ⟨_,S4.out⟩⟩
          case measure=>simp[intOf];omega
         ·go_simp;have hx:x0.cell? ⟨p,6+m*10+9,none⟩=some (V3.buf m):=S0.out.pb.cellC (k:=9) H6.out (by decide)
          refine(string_any _ w.heap.size p m H6.out _ _ hx (S0.out.buf m leR H6.out)).mono ?_;rintro e x1 ⟨rfl,g⟩;refine lateK hK ?_;clear hK K;have S1:=Hd (S0.out.read H6.out g);clear hx g S0;refine anyB_tw 1 9 (fun K hK=>?_) fun K hK=>?_
          ·have y:=S1.out.box.cell_ 0 _ rfl;go_simp;refine thK hK bR ?_;clear hK K;clear y;generalize hx:x1=x2 at S1⊢;have S2:=S1;try rw[hx]at HD
           clear S1 hx;refine anyB_on 9 fun K hK=>?_;go_simp;refine thK hK (boxed _ _) ?_;clear hK K;have HD:=Hd (Blk.new x2 9 #[.string (Mz.sent m)]);have S3:=Hd (S2.out.keep (boxed x2 (.cells #[.string (Mz.sent m)] 9)));obtain⟨zs,hz⟩: ∃z,x2.heap.size=z:=⟨_,rfl⟩;rw[hz]at HD⊢;generalize World.alloc _ _=x3 at HD S3⊢;clear S2 hz;obtain⟨i0,hi0,hz0,hz1,hz2⟩:=info_parts str_info;have HSE:=Hd S3.out.sent;have HBS:=Hd S3.out.ro.bel.size;refine anyB_on 10 fun K hK=>?_;rw[if_pos (by rfl)]
           refine wp_append_o _ _ _ _ rfl w.heap.size 9 i0 _ 1 16 underlying25 hi0 hz0 hz1 hz2 rfl (by decide) (.slice As m ks) m _ rfl HSE.out x3.heap.size (some ⟨zs,0,none⟩) 1 1 [.string (Mz.sent m)] rfl (reads_one HD.out rfl) (by intro u hu;simp only[List.mem_cons,List.not_mem_nil,or_false]at hu;subst hu;rfl) (le_maxLen (by omega)) (by omega) HBS.out ?_
           intro v' x4 ho hg hn;refine lateK hK ?_;clear hK K;obtain⟨A7,k7,e7,_⟩:=ho.form;have ad:=S3.out.add ho hg;subst e7;have y0:=ad.2.1;have fp:=ad.2.2;have S4:=Hd ad.1;clear ad ho hg hn hi0 hz0 hz1 hz2 HD HSE HBS S3;refine anyB_sg [11] 1 ?_;go_wp2_with fail
           refine sg_o ?_;refine anyB_on 12 fun K hK=>?_;go_simp;refine lateK hK ?_;clear hK K;refine anyB_dn ?_;clear y0 fp;generalize World.setCell _ _ _=x9 at S4⊢;go_wp2_with fail
           go_roundw
           case rel=>exact⟨m+1,by omega,by go_num,Hd ⟨_,S4.out⟩⟩
           case measure=>simp[intOf];omega
          ·go_simp;refine thK hK (boxed _ _) ?_;clear hK K;have HD:=Hd (Blk.new x1 9 #[.string (Mz.sent m)]);have S2:=Hd (S1.out.keep (boxed x1 (.cells #[.string (Mz.sent m)] 9)));obtain⟨zs,hz⟩: ∃z,x1.heap.size=z:=⟨_,rfl⟩;rw[hz]at HD⊢;generalize World.alloc _ _=x2 at HD S2⊢;clear S1 hz;refine anyB_on 1 fun K hK=>?_;have y:=S2.out.box.cell_ 0 _ rfl;go_simp;refine thK hK bR ?_;clear hK K;clear y;generalize hx:x2=x3 at S2⊢;have S3:=S2;try rw[hx]at HD
           clear S2 hx;obtain⟨i0,hi0,hz0,hz1,hz2⟩:=info_parts str_info;have HSE:=Hd S3.out.sent;have HBS:=Hd S3.out.ro.bel.size;refine anyB_on 10 fun K hK=>?_;rw[if_pos (by rfl)]
           refine wp_append_o _ _ _ _ rfl w.heap.size 9 i0 _ 1 16 underlying25 hi0 hz0 hz1 hz2 rfl (by decide) (.slice As m ks) m _ rfl HSE.out x3.heap.size (some ⟨zs,0,none⟩) 1 1 [.string (Mz.sent m)] rfl (reads_one HD.out rfl) (by intro u hu;simp only[List.mem_cons,List.not_mem_nil,or_false]at hu;subst hu;rfl) (le_maxLen (by omega)) (by omega) HBS.out ?_
           intro v' x4 ho hg hn;refine lateK hK ?_;clear hK K;obtain⟨A7,k7,e7,_⟩:=ho.form;have ad:=S3.out.add ho hg;subst e7;have y0:=ad.2.1;have fp:=ad.2.2;have S4:=Hd ad.1;clear ad ho hg hn hi0 hz0 hz1 hz2 HD HSE HBS S3;refine anyB_sg [11] 1 ?_;go_wp2_with fail
           refine sg_o ?_;refine anyB_on 12 fun K hK=>?_;go_simp;refine lateK hK ?_;clear hK K;refine anyB_dn ?_;clear y0 fp;generalize World.setCell _ _ _=x9 at S4⊢;go_wp2_with fail
           go_roundw
           case rel=>exact⟨m+1,by omega,by go_num,Hd ⟨_,S4.out⟩⟩
           case measure=>simp[intOf];omega
        ·obtain rfl:m=6:=by omega
         go_wp2_with fail
         go_meet;exact HE.out
      case rest=>
       obtain⟨vs,es⟩:=hcut;obtain⟨As,ks,e5,_⟩:=es.sent.form;subst e5;obtain⟨Ad,kd,ed,_⟩:=es.deeds.form;obtain⟨Aw,kw,ew⟩:=es.rows.form;obtain⟨nd2,hnd2⟩: ∃n,Mz.deeds.length=n:=⟨_,rfl⟩;obtain⟨nw2,hnw2⟩: ∃n,Mz.w.rows.length=n:=⟨_,rfl⟩;have ed:V3.deeds= .slice Ad nd2 kd:=by rw[←hnd2];exact ed
       rw[hnw2]at ew;subst ew;have y0:=es.box.cell_ 0 _ rfl;have y1:=es.box.cell_ 1 _ rfl;have y2:=es.box.cell_ 2 _ rfl;rw[ed]at y1;have c0:=es.ro.out.cell_ 0 _ rfl;have c1:=es.ro.out.cell_ 1 _ rfl;have c2:=es.ro.out.cell_ 2 _ rfl;have fr:=es.ro.out.frozen;have nz:=es.ne;have nz2:w.heap.size+1≠z13:=fun e=>nz e.symm;have HES:=Hd es;have HED:=Hd ed;clear es ed hnd2 hnw2 E0;go_wp2_with fail
       have k: ∀t,29≠t→Keeps t wc (((wc.setCell ⟨w.heap.size+1,0,none⟩ (.slice As 6 ks)).setCell ⟨w.heap.size+1,1,none⟩ (.slice Ad nd2 kd)).setCell ⟨w.heap.size+1,2,none⟩ (.slice Aw nw2 kw)):=fun t ht=>
        ((Keeps.set_ (p:=⟨w.heap.size+1,0,none⟩) (show wc.heap[w.heap.size+1]? =_ from HES.out.ro.out) ht _).trans (Keeps.set_ (p:=⟨w.heap.size+1,1,none⟩) (HES.out.ro.out.set_ 0 _) ht _)).trans (Keeps.set_ (p:=⟨w.heap.size+1,2,none⟩) ((HES.out.ro.out.set_ 0 _).set_ 1 _) ht _)
       have B:=((HES.out.ro.out.set_ 0 (.slice As 6 ks)).set_ 1 (.slice Ad nd2 kd)).set_ 2 (.slice Aw nw2 kw);have t0:=B.cell_ 0 _ rfl;have t1:=B.cell_ 1 _ rfl;have t2:=B.cell_ 2 _ rfl;have HB:=Hd ((((HES.out.ro.bel.setCell (p:=⟨w.heap.size+1,0,none⟩) (Nat.le_succ _) (.slice As 6 ks)).setCell (p:=⟨w.heap.size+1,1,none⟩) (Nat.le_succ _) (.slice Ad nd2 kd)).setCell (p:=⟨w.heap.size+1,2,none⟩) (Nat.le_succ _) (.slice Aw nw2 kw)));have hd:=HES.out.deeds;rw[HED.out]at hd;have HO:=Hd (show OutR (((wc.setCell ⟨w.heap.size+1,0,none⟩ (.slice As 6 ks)).setCell ⟨w.heap.size+1,1,none⟩ (.slice Ad nd2 kd)).setCell ⟨w.heap.size+1,2,none⟩ (.slice Aw nw2 kw)) w.heap.size (.slice As 6 ks) (.slice Ad nd2 kd) (.slice Aw nw2 kw) (outM mode n l)from⟨by
        have hs:=HES.out.sent.ofKeeps (k _ (by decide))
        rw[←HMZ.out]at hs;unfold outM;rw[List.map_map];exact hs,by
        have hs:=hd.ofKeeps (k _ (by decide))
        rw[←HMZ.out]at hs;exact hs,by
        have hs:=HES.out.rows.keeps (k _ (by decide))
        rw[←HMZ.out]at hs;exact hs⟩)
       clear k B hd;refine bodyPost_ret (v:=.tuple #[.agg #[.slice As 6 ks,.slice Ad nd2 kd,.slice Aw nw2 kw],.int .i64 0]) ?_ rfl ⟨_,_,_,rfl,?_,?_⟩
       ·simp[results,results12,go_sem,t0,t1,t2]
       ·exact HO.out
       ·exact HB.out
def ac0:Ac:=⟨0,0,⟨#[]⟩⟩
def actsE:List Ac→Int
 |[]=>0
 |a::l=>if actE a.kind a.c a.data≠0 then actE a.kind a.c a.data else actsE l
theorem actE_ok{a:Ac}(h:actE a.kind a.c a.data=0):AcOk a:=by
 unfold actE at h;split at h
 ·cases h
 split at h
 ·cases h
 split at h
 ·cases h
 ·exact⟨by omega,by omega,by omega,by omega⟩
theorem actsE_no: ∀{l:List Ac},actsE l=0→∀a∈l,AcOk a
 |[],_,_,h=>by cases h
 |b::l,h,a,ha=>by
  unfold actsE at h;split at h
  ·rename_i h1;exact absurd h h1
  ·rename_i h1;rcases List.mem_cons.1 ha with rfl|ha
   ·exact actE_ok (Decidable.not_not.1 h1)
   ·exact actsE_no h a ha
theorem actsE_at: ∀{l:List Ac},actsE l≠0→∃j,j<l.length∧(∀i,i<j→AcOk (l.getD i ac0))∧actE (l.getD j ac0).kind (l.getD j ac0).c (l.getD j ac0).data=actsE l
 |[],h=>absurd rfl h
 |b::l,h=>by
  by_cases h1:actE b.kind b.c b.data≠0
  ·refine⟨0,by simp,fun i hi=>absurd hi (Nat.not_lt_zero _),?_⟩
   unfold actsE;rw[if_pos h1];rfl
  ·have e:actsE (b::l)=actsE l:=by
    show(if actE b.kind b.c b.data≠0 then _ else actsE l)=_
    rw[if_neg h1]
   rw[e]at h⊢;obtain⟨j,h2,h3,h4⟩:=actsE_at h;refine⟨j+1,by simpa using h2,fun i hi=>?_,by simpa using h4⟩
   rcases i with _|i
   ·exact actE_ok (Decidable.not_not.1 h1)
   ·simpa using h3 i (by omega)
theorem run_bad(w:World)(m s:Int)(v:Value)(l:List Ac)(h:setupE m s=0)(hl:AcL w w.heap.size v l)(hlen:l.length≤300)(hbad:actsE l≠0):
  Calls Tryz.prog 12 #[.agg #[.int .i64 m,.int .i64 s],v] w fun e w'=>e= .returned (.tuple #[outZ,.int .i64 (actsE l)])∧Below w.heap.size w w':=by
 have hs:=fun w=>setup_any m s w;rw[h]at hs;have XS:=Hd hs;obtain⟨j,hj,hok,hE⟩:=actsE_at hbad;rw[←hE]at hbad⊢;have hcs:=actE_cases hbad;generalize actE _ _ _=E at hcs⊢;have HAL:=Hd hl;have HCS:=Hd hcs;have HOK:=Hd hok;obtain⟨A,cap,rfl,_⟩:=hl;obtain⟨L,hL⟩: ∃L,l.length=L:=⟨_,rfl⟩;rw[hL]at hlen HAL hj⊢;have HL:=Hd hL;have q1:(L:Int)≤300:=by omega
 clear hs h hbad hL hE hcs hok;unfold outZ;go_enter func12,ntmps12
 go_wp2_with fail
 refine(XS.out _).mono ?_;rintro e w1 ⟨rfl,hb1⟩;have HU:=Hd (RU.after hb1);clear hb1;go_wp2_with fail
 go_loopw [27] (fun i wx=>∃m':Nat,m'≤j∧i= .int .i64 m'∧Hid (RU w m s wx)) (fun i _=>L-(intOf i).toNat)
 case atStart=>exact⟨0,Nat.zero_le _,rfl,HU⟩
 case round=>
  obtain⟨k,hmL,rfl,HR⟩:=hrel;have hlt:k<L:=by omega
  have g1:(k:Int)<(L:Int):=by omega
  have g2:(0:Int)≤(k:Int):=by omega
  obtain⟨ad,hA,hB,ha⟩:=ac_at (HAL.out.below HR.out.bel) HL.out hlt;subst hA;obtain⟨⟨ak,ac,adt⟩,hx⟩: ∃x,l.getD k ⟨0,0,⟨#[]⟩⟩=x:=⟨_,rfl⟩;have HX:=Hd hx;rw[hx]at ha;obtain⟨a0,a1,a2⟩:=ha;simp only at a0 a1 a2;by_cases hkj:k<j
  ·obtain⟨k1,c0,c6,d1⟩:=HOK.out k hkj;rw[show l.getD k ac0=⟨ak,ac,adt⟩from HX.out]at k1 c0 c6 d1;simp only at k1 c0 c6 d1;have d2:(adt.size:Int)≤1000:=by omega
   have HS:=Hd (HR.out.keep (boxed wr (.cells #[.int .i64 ak,.int .i64 ac,.string adt] 54)));clear hx;rcases k1 with rfl|rfl;all_goals
    go_wp2_with fail
    go_roundw
    case rel=>exact⟨k+1,by omega,by go_num,HS⟩
    case measure=>simp[intOf];omega
  ·obtain rfl:k=j:=by omega
   have hcs:=HCS.out;rw[show l.getD k ac0=⟨ak,ac,adt⟩from HX.out]at hcs;simp only at hcs;have c0:=HR.out.out.cell_ 0 _ rfl;have c1:=HR.out.out.cell_ 1 _ rfl;have c2:=HR.out.out.cell_ 2 _ rfl;have fr:=HR.out.out.frozen;have lo:=HR.out.out.lt;have nlo:=Nat.ne_of_lt lo;clear hx HX HCS HOK;rcases hcs with⟨h1,rfl⟩|⟨h1,h2,rfl⟩|⟨h1,h2,h3,rfl⟩|⟨h1,h2,h3,h4,rfl⟩|⟨h1,h2,h3,h4,h5,rfl⟩;all_goals
    try (have h6:(1000:Int)<(adt.size:Int):=by omega)
    go_wp2_with fail
    have B:=(((HR.out.out.set_ 0 (.slice none 0 0)).set_ 1 (.slice none 0 0)).set_ 2 (.slice none 0 0)).alloc (.cells #[.int .i64 ak,.int .i64 ac,.string adt] 54 (0,0));have t0:=B.cell_ 0 _ rfl;have t1:=B.cell_ 1 _ rfl;have t2:=B.cell_ 2 _ rfl;refine bodyPost_ret (v:=.tuple #[.agg #[.slice none 0 0,.slice none 0 0,.slice none 0 0],.int .i64 _]) ?_ rfl ⟨rfl,?_⟩
    ·simp[results,results12,go_sem,t0,t1,t2]
    ·exact(((HR.out.bel.setCell (Nat.le_succ _) _).setCell (Nat.le_succ _) _).setCell (Nat.le_succ _) _).alloc (by have:=lo;simp;omega) _
def dV(d:De):List Value:=[.int .i64 (d.c:Int),.int .i64 d.x.k,.string d.x.key,.string d.x.val,.int .i64 d.a.kind,.string d.a.text,.int .i64 d.a.st]
theorem deV_at: ∀(l:List De) (k:Nat) (h:k<l.length) (j:Nat),j<7→(deV l)[k*7+j]? =(dV l[k])[j]?
 |[],_,h,_,_=>absurd h (by simp)
 |d::l,0,_,j,hj=>by
  show((dV d)++deV l)[0*7+j]? =_;rw[List.getElem?_append_left (by simp[dV];omega)]
  simp
 |d::l,k+1,h,j,hj=>by
  show((dV d)++deV l)[(k+1)*7+j]? =_;rw[List.getElem?_append_right (by simp[dV];omega)]
  have:=deV_at l k (by simpa using h) j hj
  rw[show(k+1)*7+j-(dV d).length=k*7+j by simp[dV];omega,this]
  rfl
structure DeAt(w:World)(p:Addr)(d:De):Prop where
 c:w.cell? p=some (.int .i64 (d.c:Int))
 k:w.cell? ⟨p.block,p.off+1,none⟩=some (.int .i64 d.x.k)
 key:w.cell? ⟨p.block,p.off+2,none⟩=some (.string d.x.key)
 val:w.cell? ⟨p.block,p.off+3,none⟩=some (.string d.x.val)
 kind:w.cell? ⟨p.block,p.off+4,none⟩=some (.int .i64 d.a.kind)
 text:w.cell? ⟨p.block,p.off+5,none⟩=some (.string d.a.text)
 st:w.cell? ⟨p.block,p.off+6,none⟩=some (.int .i64 d.a.st)
theorem DeAt.below{w w':World}{B:Nat}{p:Addr}{x:De}(h:DeAt w p x)(hp:p.block<B)(hb:Below B w w'):DeAt w' p x:=
 ⟨(hb.cell hp).trans h.c,(hb.cell (by exact hp)).trans h.k,(hb.cell (by exact hp)).trans h.key,(hb.cell (by exact hp)).trans h.val,(hb.cell (by exact hp)).trans h.kind,(hb.cell (by exact hp)).trans h.text,(hb.cell (by exact hp)).trans h.st⟩
theorem deed_at{w:World}{B:Nat}{A:Option Addr}{l:List De}(h:Reads w B 7 A l.length (deV l)){k:Nat}(hk:k<l.length): ∃ad:Addr,A=some ad∧ad.block<B∧DeAt w (ad.add (k*7)) l[k]:=by
 obtain⟨ad,hA,hB,hcell⟩:=h.2 (by omega)
 have e: ∀j,j<7→∀u,(dV l[k])[j]? =some u→w.cell? (ad.add (k*7+j))=some u:=fun j hj u hu=>hcell _ _ ((deV_at l k hk j hj).trans hu);have ea: ∀j,(⟨(ad.add (k*7)).block,(ad.add (k*7)).off+(j+1),none⟩:Addr)=ad.add (k*7+(j+1)):=fun j=>by rw[←add_of_add];rfl
 exact⟨ad,hA,hB,e 0 (by omega) _ rfl,by rw[ea 0];exact e 1 (by omega) _ rfl,by rw[ea 1];exact e 2 (by omega) _ rfl,by rw[ea 2];exact e 3 (by omega) _ rfl,by rw[ea 3];exact e 4 (by omega) _ rfl,by rw[ea 4];exact e 5 (by omega) _ rfl,by rw[ea 5];exact e 6 (by omega) _ rfl⟩
theorem OwnO.most{w:World}{B:Nat}{e:TypeId}{size n:Nat}{v:Value}{xs:List Value}(h:OwnO w B e size v n xs):n≤maxLen:=by
 rcases h.2 with⟨_,rfl⟩|⟨_,_,_,_,_,_,_,h1,h2,_⟩
 ·exact Nat.zero_le _
 ·omega
theorem own_strs{w:World}{B n:Nat}{v:Value}{l:List ByteArray}(h:OwnO w B 9 1 v n (l.map .string))(hn:0<n): ∃g off cap,v= .slice (some ⟨g,off,none⟩) n cap∧∀j,j<l.length→w.cell? ⟨g,off+j,none⟩=some (.string (l.getD j ByteArray.empty)):=by
 obtain⟨A,c,e,_,r⟩:=h.reads;rcases h.2 with⟨_,h0⟩|⟨g,off,cap,cur,e2,_⟩
 ·omega
 ·obtain⟨a,hA,_,hc⟩:=r.2 hn;rw[e2]at e;injection e with e3 e4 e5;rw[hA]at e3;injection e3 with e3;subst e3;refine⟨g,off,cap,e2,fun j hj=>?_⟩;have:=hc j _ (by rw[List.getElem?_map,List.getElem?_eq_getElem hj];rfl)
  rw[List.getD_eq_getElem?_getD,List.getElem?_eq_getElem hj];unfold Addr.add at this;split at this
  ·rename_i h0;subst h0;exact this
  ·exact this
theorem OutR.kept{w w':World}{B:Nat}{vs vd vr:Value}{o:Outc}(h:OutR w B vs vd vr o)(hb:Below w.heap.size w w'):OutR w' B vs vd vr o:=⟨h.sent.below hb,h.deeds.below hb,h.rows.keeps (.of_below hb)⟩
theorem same_any(w:World)(B1 B2:Nat)(vs vd vr us ud ur:Value)(o:Outc)(h1:OutR w B1 vs vd vr o)(h2:OutR w B2 us ud ur o):
  Calls Tryz.prog 14 #[.agg #[vs,vd,vr],.agg #[us,ud,ur]] w fun e w'=>e= .returned (.bool true)∧Below w.heap.size w w':=by
 have HP:Hid (∀w',Below w.heap.size w w'→Calls Tryz.prog 55 #[vr,ur] w' fun e w''=>e= .returned (.bool true)∧Below w'.heap.size w' w''):=Hd fun w' hb=>
  (same_pairs w' _ _ vr ur o.rows (h1.kept hb).rows.pl (h2.kept hb).rows.pl).mono fun e w'' ⟨h,n,hn⟩=>⟨h,by rw[hn];exact below_drewN bR n⟩
 have HA:=Hd h1;have HB:=Hd h2;have m1:=h1.sent.most;have m2:=h1.deeds.most;unfold maxLen at m1 m2;obtain⟨A1,c1,rfl,_⟩:=h1.sent.form;obtain⟨A2,c2,rfl,_⟩:=h1.deeds.form;obtain⟨A3,c3,rfl⟩:=h1.rows.form;obtain⟨E1,d1,rfl,_⟩:=h2.sent.form;obtain⟨E2,d2,rfl,_⟩:=h2.deeds.form;obtain⟨E3,d3,rfl⟩:=h2.rows.form;clear h1 h2;obtain⟨n1,hn1⟩: ∃n,o.sent.length=n:=⟨_,rfl⟩;obtain⟨n2,hn2⟩: ∃n,o.deeds.length=n:=⟨_,rfl⟩;obtain⟨n3,hn3⟩: ∃n,o.rows.length=n:=⟨_,rfl⟩;rw[hn1,hn2,hn3]at HA HB;rw[hn1]at m1;rw[hn2]at m2;rw[hn3]at HP;rw[hn1,hn2,hn3];have HN1:=Hd hn1;have HN2:=Hd hn2;clear hn1 hn2 hn3;have Y:Hid (Blk ((w.alloc (.cells #[.slice A1 n1 c1,.slice A2 n2 c2,.slice A3 n3 c3] 29)).alloc (.cells #[.slice E1 n1 d1,.slice E2 n2 d2,.slice E3 n3 d3] 29)) w.heap.size 29 #[.slice A1 n1 c1,.slice A2 n2 c2,.slice A3 n3 c3]):=Hd ((Blk.new w _ _).alloc _);have Z:Hid (Blk ((w.alloc (.cells #[.slice A1 n1 c1,.slice A2 n2 c2,.slice A3 n3 c3] 29)).alloc (.cells #[.slice E1 n1 d1,.slice E2 n2 d2,.slice E3 n3 d3] 29)) (w.heap.size+1) 29 #[.slice E1 n1 d1,.slice E2 n2 d2,.slice E3 n3 d3]):=Hd (by
  have:=Blk.new (w.alloc (.cells #[.slice A1 n1 c1,.slice A2 n2 c2,.slice A3 n3 c3] 29)) 29 #[.slice E1 n1 d1,.slice E2 n2 d2,.slice E3 n3 d3];rwa[show(w.alloc (.cells #[.slice A1 n1 c1,.slice A2 n2 c2,.slice A3 n3 c3] 29)).heap.size=w.heap.size+1 by simp]at this)
 go_enter func14,ntmps14
 go_wp2_with fail
 refine(HP.out _ (boxed2 w _ _)).mono ?_;rintro e w1 ⟨rfl,b1⟩;have B1:=Hd (below_step (boxed2 w _ _) leR b1);have Y1:=Hd (Y.out.keep b1);have Z1:=Hd (Z.out.keep b1);clear b1 Y Z;go_upto_block 0 with fail
 go_cut [] (fun wx=>Hid (Below w1.heap.size w1 wx))
 case first=>
  go_wp2_with fail
  go_loopw [5] (fun i wx=>∃k:Nat,k≤n1∧i= .int .i64 k∧Hid (Below w1.heap.size w1 wx)) (fun i _=>n1-(intOf i).toNat)
  case atStart=>exact⟨0,Nat.zero_le _,rfl,Hd bR⟩
  case round=>
   obtain⟨k,hk,rfl,HI⟩:=hrel;have y0:=(Y1.out.keep HI.out).cell_ 0 _ rfl;have z0:=(Z1.out.keep HI.out).cell_ 0 _ rfl;by_cases hlt:k<n1
   ·have g1:(k:Int)<(n1:Int):=by omega
    have g2:(0:Int)≤(k:Int):=by omega
    have hb:=B1.out.trans (HI.out.mono B1.out.size);have s1:=HA.out.sent.keep fun q hq=>hb.block q (HA.out.sent.lt q hq).2;have s2:=HB.out.sent.keep fun q hq=>hb.block q (HB.out.sent.lt q hq).2;rw[HN1.out]at s1 s2;obtain⟨ga,oa,ca,ea,ra⟩:=own_strs s1 (by omega)
    obtain⟨gb,ob,cb,eb,rb⟩:=own_strs s2 (by omega)
    injection ea with ea1 _ ea3;injection eb with eb1 _ eb3;subst ea1 ea3 eb1 eb3;have x1:=ra k (by rw[HN1.out];exact hlt)
    have x2:=rb k (by rw[HN1.out];exact hlt)
    obtain⟨t,ht⟩: ∃t,o.sent.getD k ByteArray.empty=t:=⟨_,rfl⟩;rw[ht]at x1 x2;have HB2:=Hd HI.out.drew;clear s1 s2 ra rb hb ht HI;go_upto_region 6 with fail
    refine region_sg [] ?_;refine anyB_sg [0,1,2,3,4,5,6,7,8,9,10] 0 ?_;go_wp2_with fail
    refine⟨rfl,by simp[plainOps,plainV,plain1,Act.eval],?_⟩
    refine anyB_dn ?_;clear x1 x2 y0 z0;generalize World.drew _=x9 at HB2⊢;go_wp2_with fail
    go_roundw
    case rel=>exact⟨k+1,by omega,by go_num,HB2⟩
    case measure=>simp[intOf];omega
   ·have g1:(n1:Int)≤(k:Int):=by omega
    go_wp2_with fail
    go_meet;exact HI
 case rest=>
  have HI2:=hcut;clear hcut;go_wp2_with fail
  go_loopw [6] (fun i wx=>∃k:Nat,k≤n2∧i= .int .i64 k∧Hid (Below w1.heap.size w1 wx)) (fun i _=>n2-(intOf i).toNat)
  case atStart=>exact⟨0,Nat.zero_le _,rfl,HI2⟩
  case round=>
   obtain⟨k,hk,rfl,HI⟩:=hrel;have y0:=(Y1.out.keep HI.out).cell_ 1 _ rfl;have z0:=(Z1.out.keep HI.out).cell_ 1 _ rfl;by_cases hlt:k<n2
   ·have g1:(k:Int)<(n2:Int):=by omega
    have g2:(0:Int)≤(k:Int):=by omega
    have hb:=B1.out.trans (HI.out.mono B1.out.size);have s1:=HA.out.deeds.keep fun q hq=>hb.block q (HA.out.deeds.lt q hq).2;have s2:=HB.out.deeds.keep fun q hq=>hb.block q (HB.out.deeds.lt q hq).2;rw[HN2.out]at s1 s2;obtain⟨Aa,ca,ea,_,ra⟩:=s1.reads;obtain⟨Ab,cb,eb,_,rb⟩:=s2.reads;injection ea with ea1 _ ea3;injection eb with eb1 _ eb3;subst ea1 ea3 eb1 eb3;have hkl:k<o.deeds.length:=by rw[HN2.out];exact hlt
    rw[←HN2.out]at ra rb;obtain⟨a1,hA1,-,x⟩:=deed_at ra hkl;obtain⟨a2,hA2,-,y⟩:=deed_at rb hkl;subst hA1 hA2;obtain⟨q,hq⟩: ∃q,o.deeds[k]=q:=⟨_,rfl⟩;rw[hq]at x y;obtain⟨x0,x1,x2,x3,x4,x5,x6⟩:=x;obtain⟨y1,y2,y3,y4,y5,y6,y7⟩:=y;have HB2:=Hd HI.out.drew;clear s1 s2 ra rb hb hq HI;go_upto_region 11 with fail
    refine region_sg [] ?_;refine anyB_sg [0,1,2,3,4,5,6,7,8,9] 1 ?_;go_wp2_with fail
    refine⟨rfl,by simp[plainOps,plainV,plain1,Act.eval],?_⟩
    refine anyB_on 10 fun K hK=>?_;go_simp;refine thK hK bR ?_;clear hK K;refine anyB_dn ?_;clear x0 x1 x2 x3 x4 x5 x6 y1 y2 y3 y4 y5 y6 y7 y0 z0;generalize World.drew _=x9 at HB2⊢;go_wp2_with fail
    go_roundw
    case rel=>exact⟨k+1,by omega,by go_num,HB2⟩
    case measure=>simp[intOf];omega
   ·have g1:(n2:Int)≤(k:Int):=by omega
    have HF:=Hd (below_step B1.out leR HI.out);go_wp2_with fail
    go_ret;exact⟨rfl,HF.out⟩
end Go.Proofs.YtjbnfigpflambacGreatDoor
