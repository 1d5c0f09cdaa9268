/- Reference's house.one: what is so in its midst. Reference's house.one. Reference's house.leave. Conditions: those of each lemma. -/
import Derived.Test.YtjbnfigpflambacGreatDoorH26
import Derived.Test.YtjbnfigpflambacGreatDoorH30
namespace Go.Proofs.YtjbnfigpflambacGreatDoor
set_option maxRecDepth 100000
set_option maxHeartbeats 16000000
open _root_.Go.Proofs.Tryz
open Go.ChangeShapes Go.WideShapes Go.ChangeAt Go.RowKit
def DoneH(w:World)(B p ga gs cap:Nat)(z:Fr × Wo)(e:Ending)(w':World):Prop:=e= .returned (.tuple #[])∧(∃V cs,HouR w' B p ga gs cap V cs z.1 z.2)∧HouF B w w'
structure OneL(w wx:World)(B p ga gs cap:Nat)(f:Fr)(h:Wo)(q:Nat)(x:St)(bad:Bool):Prop where
 r: ∃V cs,HouR wx B p ga gs cap V cs f h
 t:HouF B w wx
 b:Blk wx q 117 #[.int .i64 x.k,.string x.key,.string x.val,.bool (!bad)]
 l:w.heap.size≤q
section
variable {w wx wy:World}{B p ga gs cap:Nat}{f f':Fr}{h h':Wo}{q:Nat}{x:St}{bad:Bool}
theorem OneL.keep(o:OneL w wx B p ga gs cap f h q x bad)(hb:Below wx.heap.size wx wy):OneL w wy B p ga gs cap f h q x bad:=by
 obtain⟨⟨V,cs,r⟩,t,b,l⟩:=o;exact⟨⟨V,cs,r.below hb⟩,t.trans (.of_below hb r.leB),b.keep hb,l⟩
theorem OneL.did(o:OneL w wx B p ga gs cap f h q x bad){V:HoV}{cs:List Value}(r:HouR wy B p ga gs cap V cs f' h')(t:HouF B wx wy):OneL w wy B p ga gs cap f' h' q x bad:=
 ⟨⟨V,cs,r⟩,o.t.trans t,t.blk o.b (by decide) (by decide) (by decide) (by decide) (by decide),o.l⟩
theorem OneL.leB(o:OneL w wx B p ga gs cap f h q x bad):B≤wx.heap.size:=by obtain⟨⟨V,cs,r⟩,_⟩:=o;exact r.leB
theorem HouR.dropWait{V:HoV}{cs:List Value}(H:HouR w B p ga gs cap V cs f h)(hl:f.cl.length=6){c:Nat}(hc:c<6){y:St × Bool}{l:List (St × Bool)}(hp:(f.c c).pend=y::l){A:Option Addr}{n k:Nat}(e:V.wait c= .slice A n k):
  (∃V',HouR (w.setCell ⟨ga,c*4+1,none⟩ (.slice (if k=1 then A else A.map (·.add 4)) (n-1) (k-1))) B p ga gs cap V' cs (f.drop c) h)∧HouF B w (w.setCell ⟨ga,c*4+1,none⟩ (.slice (if k=1 then A else A.map (·.add 4)) (n-1) (k-1))):=by
 have o1:=H.wait c hc;rw[hp,e]at o1;obtain⟨_,_,en,_⟩:=o1.form;injection en with _ en _;subst en;have c1:=o1.cut (k:=1) (by simp)
 have own: ∀{m q:Nat},(Value.slice (if k=1 then A else A.map (·.add 4)) m q).ownBlock=(Value.slice A (y::l).length k).ownBlock:=fun {m q}=>by
  split
  ·cases A<;>rfl
  ·cases A with
   |none=>rfl
   |some a=>
    show some (a.add 4).block=some a.block;rw[block_of_add]
 have r:=H.putWait hl hc l (.slice (if k=1 then A else A.map (·.add 4)) ((y::l).length-1) (k-1)) (by simpa[askV]using c1) (fun c' j h1 h2 h3 h4=>h2 (H.ww c' c j h1 hc h3 (by rw[e,←own,h4])))
 have e2:f.drop c=f.set c ⟨(f.c c).bytes,l,(f.c c).srv,(f.c c).sent⟩:=by unfold Fr.drop;rw[hp];rfl
 rw[e2];exact⟨⟨_,r.1⟩,r.2⟩
structure OneS(w wx:World)(B p ga gs cap:Nat)(f:Fr)(rows:List Pr)(ss:List Se)(q:Nat)(x:St)(z7 z8:Option Nat)(rd:Option (Value × List Pr)):Prop where
 one:OneL w wx B p ga gs cap f ⟨rows,ss⟩ q x false
 b7: ∀z,z7=some z→Blk wx z 39 #[.slice none 0 0,.slice none 0 0]∧w.heap.size≤z
 b8: ∀z,z8=some z→Blk wx z 46 #[.int .i64 0,.string ⟨#[]⟩,.int .i64 0]∧w.heap.size≤z
 rd: ∀v l,rd=some (v,l)→OPL wx B v l
 sz:w.heap.size≤wx.heap.size
variable {rows:List Pr}{ss:List Se}{z7 z8:Option Nat}{rd:Option (Value × List Pr)}
theorem OneS.start(o:OneL w wx B p ga gs cap f ⟨rows,ss⟩ q x false){v:Value}(o1:OPL wx B v rows):OneS w wx B p ga gs cap f rows ss q x none none (some (v,rows)):=
 ⟨o,fun _ h=>(by cases h),fun _ h=>(by cases h),fun _ _ h=>(by injection h with h;injection h with h1 h2;subst h1 h2;exact o1),o.t.size⟩
theorem OneS.keep(o:OneS w wx B p ga gs cap f rows ss q x z7 z8 rd)(hb:Below wx.heap.size wx wy):OneS w wy B p ga gs cap f rows ss q x z7 z8 rd:=
 ⟨o.one.keep hb,fun z hz=>⟨(o.b7 z hz).1.keep hb,(o.b7 z hz).2⟩,fun z hz=>⟨(o.b8 z hz).1.keep hb,(o.b8 z hz).2⟩,fun v l e=>(o.rd v l e).keeps (.of_below hb),Nat.le_trans o.sz hb.size⟩
theorem OneS.f7(o:OneS w wx B p ga gs cap f rows ss q x none z8 rd):OneS w (wx.alloc (.cells #[.slice none 0 0,.slice none 0 0] 39)) B p ga gs cap f rows ss q x (some wx.heap.size) z8 rd:=by
 have k:=o.keep (boxed wx (.cells #[.slice none 0 0,.slice none 0 0] 39));exact⟨k.one,fun z hz=>(by injection hz with hz;subst hz;exact⟨Blk.new wx _ _,o.sz⟩),k.b8,k.rd,k.sz⟩
theorem OneS.f8(o:OneS w wx B p ga gs cap f rows ss q x z7 none rd):OneS w (wx.alloc (.cells #[.int .i64 0,.string ⟨#[]⟩,.int .i64 0] 46)) B p ga gs cap f rows ss q x z7 (some wx.heap.size) rd:=by
 have k:=o.keep (boxed wx (.cells #[.int .i64 0,.string ⟨#[]⟩,.int .i64 0] 46));exact⟨k.one,k.b7,fun z hz=>(by injection hz with hz;subst hz;exact⟨Blk.new wx _ _,o.sz⟩),k.rd,k.sz⟩
theorem OneS.did(o:OneS w wx B p ga gs cap f rows ss q x z7 z8 rd){v:Value}{R:List Pr}{ss':List Se}{cs':List Value}(o1:OPL wy B v R)(o2:OSL wy B (.slice (some ⟨gs,0,none⟩) 6 cap) ss' cs')(h6:ss'.length=6)(on:Only2 gs gs wx wy):OneS w wy B p ga gs cap f rows ss' q x z7 z8 (some (v,R)):=by
 obtain⟨⟨V,cs,r⟩,t,b,l⟩:=o.one;obtain⟨cur,hg⟩:=r.ses.row;have kp: ∀t,133≠t→Keeps t wx wy:=fun t ht=>on.keeps hg ht;have lg:=r.ses.lt.1;refine⟨⟨⟨V,cs',r.reses kp o2 h6⟩,t.trans ⟨on.bel bR r.leB lg lg,on.size,fun t _ _ _ h4 _=>kp t h4⟩,kp _ (by decide) q _ (0,0) b,l⟩,fun z hz=>⟨kp _ (by decide) z _ (0,0) (o.b7 z hz).1,(o.b7 z hz).2⟩,fun z hz=>⟨kp _ (by decide) z _ (0,0) (o.b8 z hz).1,(o.b8 z hz).2⟩,fun v' l' e=>?_,Nat.le_trans o.sz on.size⟩
 injection e with e;injection e with e1 e2;subst e1 e2;exact o1
structure OneF(w wx:World)(B p ga gs cap:Nat)(f:Fr)(rows:List Pr)(ss:List Se)(q:Nat)(x:St)(z7 z8:Nat)(v:Value)(R:List Pr)(a:An):Prop where
 one:OneL w wx B p ga gs cap f ⟨rows,ss⟩ q x false
 b7:Blk wx z7 39 #[v,.slice (some ⟨gs,0,none⟩) 6 cap]
 b8:Blk wx z8 46 #[.int .i64 a.kind,.string a.text,.int .i64 a.st]
 rd:OPL wx B v R
theorem OneS.fin{v:Value}{R:List Pr}{z y:Nat}(o:OneS w wx B p ga gs cap f rows ss q x (some z) (some y) (some (v,R)))(hB:B≤w.heap.size)(a:An)(e:wy=((((wx.setCell ⟨z,0,none⟩ v).setCell ⟨z,1,none⟩ (.slice (some ⟨gs,0,none⟩) 6 cap)).setCell ⟨y,0,none⟩ (.int .i64 a.kind)).setCell ⟨y,1,none⟩ (.string a.text)).setCell ⟨y,2,none⟩ (.int .i64 a.st)):OneF w wy B p ga gs cap f rows ss q x z y v R a:=by
 subst e;obtain⟨⟨V,cs,r⟩,t,b,l⟩:=o.one;obtain⟨b7,l7⟩:=o.b7 _ rfl;obtain⟨b8,l8⟩:=o.b8 _ rfl;have n87:y≠z:=b8.ne_ b7 (by decide)
 have s0:=b7.set_ 0 v;have s1:=s0.set_ 1 (.slice (some ⟨gs,0,none⟩) 6 cap);have u0:=(b8.far (p:=⟨z,0,none⟩) n87 v).far (p:=⟨z,1,none⟩) n87 (.slice (some ⟨gs,0,none⟩) 6 cap);have u1:=u0.set_ 0 (.int .i64 a.kind);have u2:=u1.set_ 1 (.string a.text);have u3:=u2.set_ 2 (.int .i64 a.st);have k7: ∀t,39≠t→Keeps t wx ((wx.setCell ⟨z,0,none⟩ v).setCell ⟨z,1,none⟩ (.slice (some ⟨gs,0,none⟩) 6 cap)):=fun t ht=>(Keeps.set_ (p:=⟨z,0,none⟩) b7 ht _).trans (Keeps.set_ (p:=⟨z,1,none⟩) s0 ht _);have k8: ∀t,46≠t→Keeps t ((wx.setCell ⟨z,0,none⟩ v).setCell ⟨z,1,none⟩ (.slice (some ⟨gs,0,none⟩) 6 cap)) (((((wx.setCell ⟨z,0,none⟩ v).setCell ⟨z,1,none⟩ (.slice (some ⟨gs,0,none⟩) 6 cap)).setCell ⟨y,0,none⟩ (.int .i64 a.kind)).setCell ⟨y,1,none⟩ (.string a.text)).setCell ⟨y,2,none⟩ (.int .i64 a.st)):=fun t ht=>((Keeps.set_ (p:=⟨y,0,none⟩) u0 ht _).trans (Keeps.set_ (p:=⟨y,1,none⟩) u1 ht _)).trans (Keeps.set_ (p:=⟨y,2,none⟩) u2 ht _);have t5:=((((t.set_new hB (a:=⟨z,0,none⟩) l7 v).set_new hB (a:=⟨z,1,none⟩) l7 (.slice (some ⟨gs,0,none⟩) 6 cap)).set_new hB (a:=⟨y,0,none⟩) l8 (.int .i64 a.kind)).set_new hB (a:=⟨y,1,none⟩) l8 (.string a.text)).set_new hB (a:=⟨y,2,none⟩) l8 (.int .i64 a.st);refine⟨⟨⟨V,cs,(r.other k7 (by decide)).other k8 (by decide)⟩,t5,k8 _ (by decide) q _ (0,0) (k7 _ (by decide) q _ (0,0) b),l⟩,?_,u3,((o.rd _ _ rfl).keeps (k7 _ (by decide))).keeps (k8 _ (by decide))⟩
 exact((s1.far (p:=⟨y,0,none⟩) n87.symm _).far (p:=⟨y,1,none⟩) n87.symm _).far (p:=⟨y,2,none⟩) n87.symm _
theorem OneF.keep{z y:Nat}{v:Value}{R:List Pr}{a:An}(o:OneF w wx B p ga gs cap f rows ss q x z y v R a)(hb:Below wx.heap.size wx wy):OneF w wy B p ga gs cap f rows ss q x z y v R a:=
 ⟨o.one.keep hb,o.b7.keep hb,o.b8.keep hb,o.rd.keeps (.of_below hb)⟩
end
theorem OSL.stat{w:World}{B g n cap:Nat}{ss:List Se}{cs:List Value}(h:OSL w B (.slice (some ⟨g,0,none⟩) n cap) ss cs)(i:Nat)(hi:i<ss.length):w.cell? ⟨g,i*5,none⟩=some (.int .i64 (ss.getD i Se.new).st):=by
 obtain⟨a,b,c,d,k0,_⟩:=SesC.at_ h.ses i hi;have hc:=h.own.cells (g:=g) rfl;rw[←adr0,getD_at hi];exact hc _ _ k0
theorem OkH.srv{f:Fr}{h:Wo}{N:Nat}(o:OkH (f,h) N){c:Nat}(hc:c<6)(h0:0≤(f.c c).srv): ∃s:Nat,(f.c c).srv=(s:Int)∧s<f.owner.length:=by
 rcases o.fi.fo.cl c hc with h1|⟨s,h1,h2,_⟩
 ·exact absurd h1 (by show ¬ (f.c c).srv= -1;omega)
 ·exact⟨s,h2,h1⟩
theorem OkH.own8{f:Fr}{h:Wo}{N:Nat}(o:OkH (f,h) N):f.owner.length≤8:=by
 obtain⟨b,s⟩:=o.sim;have h1:=s.rb.ses;have h2:=s.rb.good.few;simp only at h1 h2;omega
theorem one_any(w:World)(B p ga gs cap:Nat)(V:HoV)(cs:List Value)(f:Fr)(h:Wo)(N:Nat)(H:HouR w B p ga gs cap V cs f h)(hT:TabB w B)(hO:OkH (f,h) N)(hN:N≤1000000)(c:Nat)(hc:c<6)(hr:ready f c=true):
  Calls Tryz.prog 81 #[.pointer (some ⟨p,0,none⟩),.int .i64 (c:Nat)] w (DoneH w B p ga gs cap (nextM houseB (f,h) c)):=by
 have g1:(c:Int)<6:=by omega
 have g2:(0:Int)≤(c:Int):=by omega
 have HC:=Hd hc;have HTT:=Hd hT;have HO:=Hd hO;have HCL:=Hd (hO.len hc);have HL:=Hd hO.fi.six;have HS6:=Hd hO.six;have HGD:=Hd hO.good;have HBW:=Hd H.leB;have HSN:Hid (((f.drop c).c c).sent.size≤1000000000):=Hd (by
  have:=hO.fit.sent (hO.len hc);have e:((f.drop c).c c).sent=(f.c c).sent:=by unfold Fr.drop;rw[c_same f (hO.len hc)]
  rw[e];simp only at this;omega)
 have HDL:=Hd (show f.deeds.length≤1000000 from Nat.le_trans hO.fit.deeds hN);obtain⟨Z,hz⟩: ∃z,nextM houseB (f,h) c=z:=⟨_,rfl⟩;rw[hz];have HZ:=Hd hz;have hbz:=ready_busy hr;have HRD:=Hd hr;obtain⟨⟨x,bad⟩,l,hp⟩: ∃q l,(f.c c).pend=q::l:=by
  cases e:(f.c c).pend with
  |nil=>unfold busy at hbz;rw[e]at hbz;cases hbz
  |cons q l=>exact⟨q,l,rfl⟩
 have HP:=Hd hp;have HSM:=Hd (hO.fit.z c (x,bad) (by show _∈(f.c c).pend;rw[hp];exact List.mem_cons_self))
 have HCK:=Hd (fun(hb:bad=false)=>hO.fi.pend c hc (x,bad) (by show _∈(f.c c).pend;rw[hp];exact List.mem_cons_self) hb)
 have hwt:=H.wait c hc;rw[hp]at hwt;obtain⟨g,off,k,hv,hk,y0,y1,y2,y3⟩:=ask0 hwt;have a4:w.cell? ⟨p,4,none⟩=some (.slice (some ⟨ga,0,none⟩) 6 6):=H.blk.cell_ 4 _ rfl;have w1:w.cell? ⟨ga,c*4+1,none⟩=some (V.wait c):=H.all.cell hc (by decide)
 rw[hv]at w1;obtain⟨xk,key,val⟩:=x;simp only at y0 y1 y2;have n1:l.length+1≠0:=by omega
 have g3:(0:Int)<((l.length+1:Nat):Int):=by omega
 have L0:=Hd (show OneL w (w.alloc (.cells #[.int .i64 xk,.string key,.string val,.bool (!bad)] 117)) B p ga gs cap f h w.heap.size ⟨xk,key,val⟩ bad from⟨⟨V,cs,H.below (boxed _ _)⟩,.of_below (boxed _ _) H.leB,Blk.new _ _ _,Nat.le_refl _⟩);obtain⟨q,hq⟩: ∃q,w.heap.size=q:=⟨_,rfl⟩;have HQ:=Hd hq;rw[hq]at L0;clear hT hO hN H hr hz hbz hp hwt hv hc hk;go_enter func81,ntmps81
 go_upto_region 1 with fail
 generalize World.alloc _ _=x1 at L0⊢;clear a4 w1 y0 y1 y2 y3 n1 g3 hq;go_wp2_with fail
 obtain⟨⟨V1,cs1,r1⟩,-,-,-⟩:=L0.out;refine(halone_any x1 B p ga gs cap V1 cs1 f h r1 c HC.out ⟨xk,key,val⟩ bad l HP.out).mono ?_;rintro e x2 ⟨rfl,b2⟩;have L1:=Hd (L0.out.keep b2);clear r1 b2 L0;obtain⟨nd,hnd⟩: ∃b,needs f c=b:=⟨_,rfl⟩;have HND:=Hd hnd;rw[hnd];clear hnd;go_upto_region 2 with fail
 go_cut [] (fun wx=>OneL w wx B p ga gs cap (f.drop c) h q ⟨xk,key,val⟩ bad)
 case first=>
  obtain⟨⟨V2,cs2,r2⟩,t2,b2,l2⟩:=L1.out;have hwt:=r2.wait c HC.out;rw[HP.out]at hwt;obtain⟨g,off,k,hv,hk,-⟩:=ask0 hwt;have a4:x2.cell? ⟨p,4,none⟩=some (.slice (some ⟨ga,0,none⟩) 6 6):=r2.blk.cell_ 4 _ rfl;have w1:x2.cell? ⟨ga,c*4+1,none⟩=some (V2.wait c):=r2.all.cell HC.out (by decide)
  rw[hv]at w1;have fp:=r2.all.frozen;obtain⟨nw,hnw⟩: ∃n,l.length+1=n:=⟨_,rfl⟩;rw[hnw]at w1 hk hv;have r3:=r2.dropWait HL.out HC.out HP.out hv;have j1:(1:Int)≤(nw:Int):=by omega
  have j2:(nw:Int)≤(k:Int):=by omega
  clear r2 t2 b2 l2 hwt hv hk hnw;by_cases k1:k=1
  ·simp only[k1,↓reduceIte,Nat.sub_self]at r3;have R3:=Hd r3;clear r3;refine region_sg [16] ?_;refine anyB_sg [0,1,2,3,4,5,6,7,8,9,10,11,12,13,14,15] 1 ?_;go_wp2_with fail
   refine sg_o ?_;refine anyB_on 16 fun K hK=>?_;go_simp;refine lateK hK ?_;clear hK K;refine anyB_dn ?_;obtain⟨⟨V4,r4⟩,t4⟩:=R3.out;have L2:=Hd ((L1.out.did r4 t4).keep bR.drew);clear r4 t4;generalize World.drew _=x4 at L2⊢;go_wp2_with fail
   go_meet;exact L2.out
  ·simp only[k1,↓reduceIte,Option.map_some,Addr.add_lit]at r3;have R3:=Hd r3;clear r3;refine region_sg [16] ?_;refine anyB_sg [0,1,2,3,4,5,6,7,8,9,10,11,12,13,14,15] 1 ?_;go_wp2_with fail
   refine sg_o ?_;refine anyB_on 16 fun K hK=>?_;go_simp;refine lateK hK ?_;clear hK K;refine anyB_dn ?_;obtain⟨⟨V4,r4⟩,t4⟩:=R3.out;have L2:=Hd ((L1.out.did r4 t4).keep bR.drew);clear r4 t4;generalize World.drew _=x4 at L2⊢;go_wp2_with fail
   go_meet;exact L2.out
 case rest=>
  have L2:=Hd hcut;clear hcut L1;obtain⟨⟨V2,cs2,r2⟩,-,-,-⟩:=L2.out;have R2:=Hd r2;have HZ6:=Hd (show w.heap.size≤wc.heap.size from L2.out.t.size);clear r2;cases bad with
  |true=>
   have e:nd=false:=by rw[←HND.out];unfold needs;rw[HP.out];rfl
   subst e;have e3:wc.cell? ⟨p,3,none⟩=some (.slice (some ⟨gs,0,none⟩) 6 cap):=R2.out.blk.cell_ 3 _ rfl;have s0:wc.cell? ⟨gs,c*5,none⟩=some (.int .i64 (h.se c).st):=R2.out.ses.stat c (by rw[HS6.out];exact HC.out)
   obtain⟨st,hst⟩: ∃s,(h.se c).st=s:=⟨_,rfl⟩;rw[hst]at s0;have HST:=Hd hst;have q3:=L2.out.b.cell_ 3 _ rfl;clear hst;go_upto_region 5 with fail
   have A4:=Hd (Blk.new wc 46 #[.int .i64 4,.string tNotUnd,.int .i64 st]);have L4:=Hd (L2.out.keep (boxed wc (.cells #[.int .i64 4,.string tNotUnd,.int .i64 st] 46)));obtain⟨z6,hz6⟩: ∃z,wc.heap.size=z:=⟨_,rfl⟩;have HZ7:=Hd (show w.heap.size≤z6 by rw[←hz6];exact HZ6.out)
   rw[hz6]at A4⊢;clear e3 s0 q3 hz6 L2 R2;generalize hx4:World.alloc _ _=x4;have A4:Hid (Blk x4 z6 46 #[.int .i64 4,.string tNotUnd,.int .i64 st]):=Hd (by rw[←hx4];exact A4.out)
   have L4:Hid (OneL w x4 B p ga gs cap (f.drop c) h q ⟨xk,key,val⟩ true):=Hd (by rw[←hx4];exact L4.out)
   clear hx4;have q3:=L4.out.b.cell_ 3 _ rfl;have a1:=A4.out.cell_ 1 _ rfl;have af:=A4.out.frozen;go_upto_region 7 with fail
   have A5:=A4;have L5:=L4;obtain⟨x5,hx5⟩: ∃u,x4=u:=⟨_,rfl⟩;rw[hx5]at A5 L5⊢;clear hx5 q3 a1 af A4 L4;have a0:=A5.out.cell_ 0 _ rfl;have a1:=A5.out.cell_ 1 _ rfl;have a2:=A5.out.cell_ 2 _ rfl;go_wp2_with fail
   obtain⟨⟨V5,cs5,r5⟩,t5,-,-⟩:=L5.out;have T5:=Hd t5;refine(htell_any x5 B p ga gs cap V5 cs5 (f.drop c) h r5 (by rw[len_drop];exact HL.out) c HC.out ⟨4,tNotUnd,st⟩ (by show ByteArray.size tNotUnd≤_;decide) HSN.out).mono ?_
   rintro e x6 ⟨rfl,r6,t6⟩;have R6:=Hd r6;have T6:=Hd (T5.out.trans t6);clear r5 t5 r6 t6 a0 a1 a2 A5 L5 T5;go_wp2_with fail
   refine bodyPost_ret (results_none rfl _ _ _) rfl ?_;refine⟨rfl,⟨V5,cs5,?_⟩,T6.out⟩;rw[←HZ.out,next_bad houseB (f,h) c HP.out];show HouR _ _ _ _ _ _ _ _ ((f.drop c).tell c ⟨4,tNotUnd,(h.se c).st⟩) h;rw[HST.out];exact R6.out
  |false=>
   have hn:nd=(decide (f.mode≠3)||decide (xk≠1)):=by rw[←HND.out];unfold needs;rw[HP.out];rfl
   by_cases hm:f.mode=3∧xk=1
   ·have e:nd=false:=by rw[hn,hm.1,hm.2];rfl
    subst e;have HMO:=Hd hm;clear hn hm;have e3:wc.cell? ⟨p,3,none⟩=some (.slice (some ⟨gs,0,none⟩) 6 cap):=R2.out.blk.cell_ 3 _ rfl;have s0:wc.cell? ⟨gs,c*5,none⟩=some (.int .i64 (h.se c).st):=R2.out.ses.stat c (by rw[HS6.out];exact HC.out)
    obtain⟨st,hst⟩: ∃s,(h.se c).st=s:=⟨_,rfl⟩;rw[hst]at s0;have HST:=Hd hst;have q3:=L2.out.b.cell_ 3 _ rfl;clear hst;go_upto_region 5 with fail
    have A4:=Hd (Blk.new wc 46 #[.int .i64 4,.string tNotUnd,.int .i64 st]);have L4:=Hd (L2.out.keep (boxed wc (.cells #[.int .i64 4,.string tNotUnd,.int .i64 st] 46)));obtain⟨z6,hz6⟩: ∃z,wc.heap.size=z:=⟨_,rfl⟩;have HZ7:=Hd (show w.heap.size≤z6 by rw[←hz6];exact HZ6.out)
    rw[hz6]at A4⊢;clear e3 s0 q3 hz6 L2 R2;generalize hx4:World.alloc _ _=x4;have A4:Hid (Blk x4 z6 46 #[.int .i64 4,.string tNotUnd,.int .i64 st]):=Hd (by rw[←hx4];exact A4.out)
    have L4:Hid (OneL w x4 B p ga gs cap (f.drop c) h q ⟨xk,key,val⟩ false):=Hd (by rw[←hx4];exact L4.out)
    clear hx4;have q3:=L4.out.b.cell_ 3 _ rfl;have a1:=A4.out.cell_ 1 _ rfl;have af:=A4.out.frozen;go_upto_region 7 with fail
    have A5:=Hd (A4.out.set_ 1 (.string tNotMode));have L5:Hid (OneL w (x4.setCell ⟨z6,1,none⟩ (.string tNotMode)) B p ga gs cap (f.drop c) h q ⟨xk,key,val⟩ false):=Hd (by
     obtain⟨⟨V4,cs4,r4⟩,t4,b4,l4⟩:=L4.out;have kz: ∀t,46≠t→Keeps t x4 (x4.setCell ⟨z6,1,none⟩ (.string tNotMode)):=fun t ht=>Keeps.set_ (p:=⟨z6,1,none⟩) A4.out ht _;exact⟨⟨V4,cs4,r4.other kz (by decide)⟩,t4.set_new HBW.out (a:=⟨z6,1,none⟩) HZ7.out _,kz _ (by decide) q _ (0,0) b4,l4⟩)
    clear q3 a1 af A4;generalize hx5:World.setCell _ _ _=x5;have A5:Hid (Blk x5 z6 46 #[.int .i64 4,.string tNotMode,.int .i64 st]):=Hd (by rw[←hx5];exact A5.out)
    have L5:Hid (OneL w x5 B p ga gs cap (f.drop c) h q ⟨xk,key,val⟩ false):=Hd (by rw[←hx5];exact L5.out)
    clear hx5 L4;have a0:=A5.out.cell_ 0 _ rfl;have a1:=A5.out.cell_ 1 _ rfl;have a2:=A5.out.cell_ 2 _ rfl;go_wp2_with fail
    obtain⟨⟨V5,cs5,r5⟩,t5,-,-⟩:=L5.out;have T5:=Hd t5;refine(htell_any x5 B p ga gs cap V5 cs5 (f.drop c) h r5 (by rw[len_drop];exact HL.out) c HC.out ⟨4,tNotMode,st⟩ (by show ByteArray.size tNotMode≤_;decide) HSN.out).mono ?_
    rintro e x6 ⟨rfl,r6,t6⟩;have R6:=Hd r6;have T6:=Hd (T5.out.trans t6);clear r5 t5 r6 t6 a0 a1 a2 A5 L5 T5;go_wp2_with fail
    refine bodyPost_ret (results_none rfl _ _ _) rfl ?_;refine⟨rfl,⟨V5,cs5,?_⟩,T6.out⟩;rw[←HZ.out,next_mode houseB (f,h) c HP.out HMO.out];show HouR _ _ _ _ _ _ _ _ ((f.drop c).tell c ⟨4,tNotMode,(h.se c).st⟩) h;rw[HST.out];exact R6.out
   ·have e:nd=true:=by
     rw[hn,Bool.or_eq_true,decide_eq_true_eq,decide_eq_true_eq];by_cases h3:f.mode=3
     ·exact .inr fun h1=>hm ⟨h3,h1⟩
     ·exact .inl h3
    subst e;have HMO:=Hd hm;clear hn hm;have hck:=HCK.out rfl;have HKK:=Hd (stK hck);have HKV:=Hd (show key.size≤maxLen∧val.size≤maxLen from⟨Nat.le_trans HSM.out.1 (by decide),Nat.le_trans HSM.out.2 (by decide)⟩)
    obtain⟨⟨⟨RW,RS⟩,⟨aK,aT,aS⟩⟩,hrr⟩: ∃r,doW h c ⟨xk,key,val⟩=r:=⟨_,rfl⟩;have HRR:=Hd hrr;have HV6:Hid (RS.length=6):=Hd (by have:=doW_length h c ⟨xk,key,val⟩;rw[hrr]at this;exact this.trans HS6.out)
    have HTX:Hid (aT.size≤maxLen):=Hd (by
     have:=ans_size (doW_ok HGD.out (by rw[HS6.out];exact HC.out) ⟨xk,key,val⟩)
     simp only[hrr]at this;exact Nat.le_trans this (by decide))
    have HSV:Hid (∃s:Nat,(f.c c).srv=(s:Int)∧s<f.owner.length):=Hd (HO.out.srv HC.out (by
     have hr:=HRD.out;unfold ready at hr;rw[HND.out]at hr;simp only[Bool.not_true,Bool.or_false,Bool.and_eq_true,decide_eq_true_eq]at hr;exact hr.2))
    have ho1:=R2.out.rows;obtain⟨Ar,cr,er⟩:=ho1.form;rw[er]at ho1;have S0:=Hd (OneS.start L2.out ho1);have e2:wc.cell? ⟨p,2,none⟩=some V2.rows:=R2.out.blk.cell_ 2 _ rfl;have e3:wc.cell? ⟨p,3,none⟩=some (.slice (some ⟨gs,0,none⟩) 6 cap):=R2.out.blk.cell_ 3 _ rfl;rw[er]at e2;obtain⟨nr,hnr⟩: ∃n,h.rows.length=n:=⟨_,rfl⟩;rw[hnr]at S0 e2;have q0:=L2.out.b.cell_ 0 _ rfl;have q1:=L2.out.b.cell_ 1 _ rfl;have q2:=L2.out.b.cell_ 2 _ rfl;simp only at q0 q1 q2;clear hck hrr ho1 er R2 L2 hnr;go_upto_region 8 with fail
    go_cut [7,8] (fun p7 p8 wx=>∃z7 z8 v,p7= .pointer (some ⟨z7,0,none⟩)∧p8= .pointer (some ⟨z8,0,none⟩)∧OneF w wx B p ga gs cap (f.drop c) h.rows RS q ⟨xk,key,val⟩ z7 z8 v RW ⟨aK,aT,aS⟩)
    case first=>
     refine region_sg [7,13,14] ?_;refine anyB_sg [0,1,2,3,4,5,6] 8 ?_;go_wp2_with fail
     refine sg_o ?_;have S0:=Hd (S0.out.keep bR.drew);clear e2 e3 q0 q1 q2;generalize wc.drew=x0 at S0⊢;refine anyB_three (i:=7) (j:=11) (k:=12) (by kernel_rfl) rfl rfl rfl (fun K hK=>?_) (fun K hK=>?_) (fun K hK=>?_)
     ·go_simp;obtain⟨⟨V3,cs3,r3⟩,-,-,-⟩:=S0.out.one;refine(refDid_any x0 B (.slice Ar nr cr) gs cap 6 h cs3 c ⟨xk,key,val⟩ r3.leB HS6.out (S0.out.rd _ _ rfl) r3.ses HC.out HGD.out (HTT.out.bel S0.out.one.t.bel).tabs HKK.out.1 HKK.out.2 HKV.out.1 HKV.out.2).mono ?_;rintro e x1 ⟨v3,cs4,rfl,o3,o4,on⟩;refine lateK hK ?_;clear hK K;rw[HRR.out]at o3 o4⊢;obtain⟨A3,k3,rfl⟩:=o3.form;have S1:=Hd (S0.out.did o3 o4 HV6.out on);clear S0 r3 o3 o4 on;unfold anV;refine anyB_sg [8,9,10] 4 ?_;go_wp2_with fail
      refine sg_o ?_;refine anyB_tw 11 12 (fun K hK=>?_) fun K hK=>?_
      ·go_simp;refine thK hK (boxed _ _) ?_;clear hK K;have S2:=Hd S1.out.f7;obtain⟨z7,hz⟩: ∃z,x1.heap.size=z:=⟨_,rfl⟩;rw[hz]at S2⊢;generalize World.alloc _ _=x2 at S2⊢;clear S1 hz;refine anyB_on 12 fun K hK=>?_;go_simp;refine thK hK (boxed _ _) ?_;clear hK K;have S3:=Hd S2.out.f8;obtain⟨z8,hz⟩: ∃z,x2.heap.size=z:=⟨_,rfl⟩;rw[hz]at S3⊢;generalize World.alloc _ _=x3 at S3⊢;clear S2 hz;obtain⟨b7,l7⟩:=S3.out.b7 _ rfl;obtain⟨b8,l8⟩:=S3.out.b8 _ rfl;have n87:¬ (z8=z7):=b8.ne_ b7 (by decide)
       have f0:=b7.cell_ 0 _ rfl;have f1:=b7.cell_ 1 _ rfl;have f2:=b8.cell_ 0 _ rfl;have f3:=b8.cell_ 1 _ rfl;have f4:=b8.cell_ 2 _ rfl;have ff:=b7.frozen;have fg:=b8.frozen;clear b7 b8 l7 l8;refine anyB_on 13 fun K hK=>?_;go_simp;refine lateK hK ?_;clear hK K;refine anyB_on 14 fun K hK=>?_;go_simp;refine lateK hK ?_;clear hK K;refine anyB_dn ?_;have FN:=Hd (S3.out.fin HBW.out ⟨aK,aT,aS⟩ rfl);clear f0 f1 f2 f3 f4 ff fg n87 S3;generalize World.setCell _ _ _=x9 at FN⊢;go_wp2_with fail
       go_meet;exact⟨z7,z8,_,rfl,rfl,FN.out⟩
      ·go_simp;refine thK hK (boxed _ _) ?_;clear hK K;have S2:=Hd S1.out.f8;obtain⟨z8,hz⟩: ∃z,x1.heap.size=z:=⟨_,rfl⟩;rw[hz]at S2⊢;generalize World.alloc _ _=x2 at S2⊢;clear S1 hz;refine anyB_on 11 fun K hK=>?_;go_simp;refine thK hK (boxed _ _) ?_;clear hK K;have S3:=Hd S2.out.f7;obtain⟨z7,hz⟩: ∃z,x2.heap.size=z:=⟨_,rfl⟩;rw[hz]at S3⊢;generalize World.alloc _ _=x3 at S3⊢;clear S2 hz;obtain⟨b7,l7⟩:=S3.out.b7 _ rfl;obtain⟨b8,l8⟩:=S3.out.b8 _ rfl;have n87:¬ (z8=z7):=b8.ne_ b7 (by decide)
       have f0:=b7.cell_ 0 _ rfl;have f1:=b7.cell_ 1 _ rfl;have f2:=b8.cell_ 0 _ rfl;have f3:=b8.cell_ 1 _ rfl;have f4:=b8.cell_ 2 _ rfl;have ff:=b7.frozen;have fg:=b8.frozen;clear b7 b8 l7 l8;refine anyB_on 13 fun K hK=>?_;go_simp;refine lateK hK ?_;clear hK K;refine anyB_on 14 fun K hK=>?_;go_simp;refine lateK hK ?_;clear hK K;refine anyB_dn ?_;have FN:=Hd (S3.out.fin HBW.out ⟨aK,aT,aS⟩ rfl);clear f0 f1 f2 f3 f4 ff fg n87 S3;generalize World.setCell _ _ _=x9 at FN⊢;go_wp2_with fail
       go_meet;exact⟨z7,z8,_,rfl,rfl,FN.out⟩
     ·go_simp;refine thK hK (boxed _ _) ?_;clear hK K;have S1:=Hd S0.out.f7;obtain⟨z7,hz⟩: ∃z,x0.heap.size=z:=⟨_,rfl⟩;rw[hz]at S1⊢;generalize World.alloc _ _=x1 at S1⊢;clear S0 hz;refine anyB_tw 7 12 (fun K hK=>?_) fun K hK=>?_
      ·go_simp;obtain⟨⟨V3,cs3,r3⟩,-,-,-⟩:=S1.out.one;refine(refDid_any x1 B (.slice Ar nr cr) gs cap 6 h cs3 c ⟨xk,key,val⟩ r3.leB HS6.out (S1.out.rd _ _ rfl) r3.ses HC.out HGD.out (HTT.out.bel S1.out.one.t.bel).tabs HKK.out.1 HKK.out.2 HKV.out.1 HKV.out.2).mono ?_;rintro e x2 ⟨v3,cs4,rfl,o3,o4,on⟩;refine lateK hK ?_;clear hK K;rw[HRR.out]at o3 o4⊢;obtain⟨A3,k3,rfl⟩:=o3.form;have S2:=Hd (S1.out.did o3 o4 HV6.out on);clear S1 r3 o3 o4 on;unfold anV;refine anyB_sg [8,9,10] 3 ?_;go_wp2_with fail
       refine sg_o ?_;refine anyB_on 12 fun K hK=>?_;go_simp;refine thK hK (boxed _ _) ?_;clear hK K;have S3:=Hd S2.out.f8;obtain⟨z8,hz⟩: ∃z,x2.heap.size=z:=⟨_,rfl⟩;rw[hz]at S3⊢;generalize World.alloc _ _=x3 at S3⊢;clear S2 hz;obtain⟨b7,l7⟩:=S3.out.b7 _ rfl;obtain⟨b8,l8⟩:=S3.out.b8 _ rfl;have n87:¬ (z8=z7):=b8.ne_ b7 (by decide)
       have f0:=b7.cell_ 0 _ rfl;have f1:=b7.cell_ 1 _ rfl;have f2:=b8.cell_ 0 _ rfl;have f3:=b8.cell_ 1 _ rfl;have f4:=b8.cell_ 2 _ rfl;have ff:=b7.frozen;have fg:=b8.frozen;clear b7 b8 l7 l8;refine anyB_on 13 fun K hK=>?_;go_simp;refine lateK hK ?_;clear hK K;refine anyB_on 14 fun K hK=>?_;go_simp;refine lateK hK ?_;clear hK K;refine anyB_dn ?_;have FN:=Hd (S3.out.fin HBW.out ⟨aK,aT,aS⟩ rfl);clear f0 f1 f2 f3 f4 ff fg n87 S3;generalize World.setCell _ _ _=x9 at FN⊢;go_wp2_with fail
       go_meet;exact⟨z7,z8,_,rfl,rfl,FN.out⟩
      ·go_simp;refine thK hK (boxed _ _) ?_;clear hK K;have S2:=Hd S1.out.f8;obtain⟨z8,hz⟩: ∃z,x1.heap.size=z:=⟨_,rfl⟩;rw[hz]at S2⊢;generalize World.alloc _ _=x2 at S2⊢;clear S1 hz;refine anyB_on 7 fun K hK=>?_;go_simp;obtain⟨⟨V3,cs3,r3⟩,-,-,-⟩:=S2.out.one;refine(refDid_any x2 B (.slice Ar nr cr) gs cap 6 h cs3 c ⟨xk,key,val⟩ r3.leB HS6.out (S2.out.rd _ _ rfl) r3.ses HC.out HGD.out (HTT.out.bel S2.out.one.t.bel).tabs HKK.out.1 HKK.out.2 HKV.out.1 HKV.out.2).mono ?_;rintro e x3 ⟨v3,cs4,rfl,o3,o4,on⟩;refine lateK hK ?_;clear hK K;rw[HRR.out]at o3 o4⊢;obtain⟨A3,k3,rfl⟩:=o3.form;have S3:=Hd (S2.out.did o3 o4 HV6.out on);clear S2 r3 o3 o4 on;unfold anV;refine anyB_sg [8,9,10] 2 ?_;go_wp2_with fail
       refine sg_o ?_;obtain⟨b7,l7⟩:=S3.out.b7 _ rfl;obtain⟨b8,l8⟩:=S3.out.b8 _ rfl;have n87:¬ (z8=z7):=b8.ne_ b7 (by decide)
       have f0:=b7.cell_ 0 _ rfl;have f1:=b7.cell_ 1 _ rfl;have f2:=b8.cell_ 0 _ rfl;have f3:=b8.cell_ 1 _ rfl;have f4:=b8.cell_ 2 _ rfl;have ff:=b7.frozen;have fg:=b8.frozen;clear b7 b8 l7 l8;refine anyB_on 13 fun K hK=>?_;go_simp;refine lateK hK ?_;clear hK K;refine anyB_on 14 fun K hK=>?_;go_simp;refine lateK hK ?_;clear hK K;refine anyB_dn ?_;have FN:=Hd (S3.out.fin HBW.out ⟨aK,aT,aS⟩ rfl);clear f0 f1 f2 f3 f4 ff fg n87 S3;generalize World.setCell _ _ _=x9 at FN⊢;go_wp2_with fail
       go_meet;exact⟨z7,z8,_,rfl,rfl,FN.out⟩
     ·go_simp;refine thK hK (boxed _ _) ?_;clear hK K;have S1:=Hd S0.out.f8;obtain⟨z8,hz⟩: ∃z,x0.heap.size=z:=⟨_,rfl⟩;rw[hz]at S1⊢;generalize World.alloc _ _=x1 at S1⊢;clear S0 hz;refine anyB_tw 7 11 (fun K hK=>?_) fun K hK=>?_
      ·go_simp;obtain⟨⟨V3,cs3,r3⟩,-,-,-⟩:=S1.out.one;refine(refDid_any x1 B (.slice Ar nr cr) gs cap 6 h cs3 c ⟨xk,key,val⟩ r3.leB HS6.out (S1.out.rd _ _ rfl) r3.ses HC.out HGD.out (HTT.out.bel S1.out.one.t.bel).tabs HKK.out.1 HKK.out.2 HKV.out.1 HKV.out.2).mono ?_;rintro e x2 ⟨v3,cs4,rfl,o3,o4,on⟩;refine lateK hK ?_;clear hK K;rw[HRR.out]at o3 o4⊢;obtain⟨A3,k3,rfl⟩:=o3.form;have S2:=Hd (S1.out.did o3 o4 HV6.out on);clear S1 r3 o3 o4 on;unfold anV;refine anyB_sg [8,9,10] 3 ?_;go_wp2_with fail
       refine sg_o ?_;refine anyB_on 11 fun K hK=>?_;go_simp;refine thK hK (boxed _ _) ?_;clear hK K;have S3:=Hd S2.out.f7;obtain⟨z7,hz⟩: ∃z,x2.heap.size=z:=⟨_,rfl⟩;rw[hz]at S3⊢;generalize World.alloc _ _=x3 at S3⊢;clear S2 hz;obtain⟨b7,l7⟩:=S3.out.b7 _ rfl;obtain⟨b8,l8⟩:=S3.out.b8 _ rfl;have n87:¬ (z8=z7):=b8.ne_ b7 (by decide)
       have f0:=b7.cell_ 0 _ rfl;have f1:=b7.cell_ 1 _ rfl;have f2:=b8.cell_ 0 _ rfl;have f3:=b8.cell_ 1 _ rfl;have f4:=b8.cell_ 2 _ rfl;have ff:=b7.frozen;have fg:=b8.frozen;clear b7 b8 l7 l8;refine anyB_on 13 fun K hK=>?_;go_simp;refine lateK hK ?_;clear hK K;refine anyB_on 14 fun K hK=>?_;go_simp;refine lateK hK ?_;clear hK K;refine anyB_dn ?_;have FN:=Hd (S3.out.fin HBW.out ⟨aK,aT,aS⟩ rfl);clear f0 f1 f2 f3 f4 ff fg n87 S3;generalize World.setCell _ _ _=x9 at FN⊢;go_wp2_with fail
       go_meet;exact⟨z7,z8,_,rfl,rfl,FN.out⟩
      ·go_simp;refine thK hK (boxed _ _) ?_;clear hK K;have S2:=Hd S1.out.f7;obtain⟨z7,hz⟩: ∃z,x1.heap.size=z:=⟨_,rfl⟩;rw[hz]at S2⊢;generalize World.alloc _ _=x2 at S2⊢;clear S1 hz;refine anyB_on 7 fun K hK=>?_;go_simp;obtain⟨⟨V3,cs3,r3⟩,-,-,-⟩:=S2.out.one;refine(refDid_any x2 B (.slice Ar nr cr) gs cap 6 h cs3 c ⟨xk,key,val⟩ r3.leB HS6.out (S2.out.rd _ _ rfl) r3.ses HC.out HGD.out (HTT.out.bel S2.out.one.t.bel).tabs HKK.out.1 HKK.out.2 HKV.out.1 HKV.out.2).mono ?_;rintro e x3 ⟨v3,cs4,rfl,o3,o4,on⟩;refine lateK hK ?_;clear hK K;rw[HRR.out]at o3 o4⊢;obtain⟨A3,k3,rfl⟩:=o3.form;have S3:=Hd (S2.out.did o3 o4 HV6.out on);clear S2 r3 o3 o4 on;unfold anV;refine anyB_sg [8,9,10] 2 ?_;go_wp2_with fail
       refine sg_o ?_;obtain⟨b7,l7⟩:=S3.out.b7 _ rfl;obtain⟨b8,l8⟩:=S3.out.b8 _ rfl;have n87:¬ (z8=z7):=b8.ne_ b7 (by decide)
       have f0:=b7.cell_ 0 _ rfl;have f1:=b7.cell_ 1 _ rfl;have f2:=b8.cell_ 0 _ rfl;have f3:=b8.cell_ 1 _ rfl;have f4:=b8.cell_ 2 _ rfl;have ff:=b7.frozen;have fg:=b8.frozen;clear b7 b8 l7 l8;refine anyB_on 13 fun K hK=>?_;go_simp;refine lateK hK ?_;clear hK K;refine anyB_on 14 fun K hK=>?_;go_simp;refine lateK hK ?_;clear hK K;refine anyB_dn ?_;have FN:=Hd (S3.out.fin HBW.out ⟨aK,aT,aS⟩ rfl);clear f0 f1 f2 f3 f4 ff fg n87 S3;generalize World.setCell _ _ _=x9 at FN⊢;go_wp2_with fail
       go_meet;exact⟨z7,z8,_,rfl,rfl,FN.out⟩
    case rest=>
     obtain⟨z7,z8,v,rfl,rfl,fn⟩:=hcut;have FN:=Hd fn;obtain⟨⟨⟨V3,cs3,r3⟩,-,-,-⟩,b7,b8,rd⟩:=fn;obtain⟨A3,k3,rfl⟩:=rd.form;have f0:=b7.cell_ 0 _ rfl;have f1:=b7.cell_ 1 _ rfl;have e2:=r3.blk.cell_ 2 _ rfl;have e3:=r3.blk.cell_ 3 _ rfl;have fp:=r3.blk.frozen;have R4:=Hd (r3.putW (W:=⟨RW,RS⟩) rd r3.ses HV6.out);have L4:=Hd (FN.out.one.did R4.out.1 R4.out.2);have B8:=Hd (R4.out.2.blk b8 (by decide) (by decide) (by decide) (by decide) (by decide))
     obtain⟨nr',hnr'⟩: ∃n,RW.length=n:=⟨_,rfl⟩;clear r3 b7 b8 rd FN S0 q0 q1 q2 R4;rw[hnr']at f0 L4 B8;clear hnr';go_upto_region 10 with fail
     clear f0 f1 e2 e3 fp;generalize World.setCell _ _ _=x3 at L4 B8⊢;obtain⟨⟨V4,cs4,r4⟩,-,-,-⟩:=L4.out;obtain⟨A6,k6,e6,_⟩:=r4.deeds.form;have y7:x3.cell? ⟨p,7,none⟩=some V4.deeds:=r4.blk.cell_ 7 _ rfl;rw[e6]at y7;obtain⟨nd,hnd⟩: ∃n,(f.drop c).deeds.length=n:=⟨_,rfl⟩;rw[hnd]at y7 e6;have HND2:=Hd hnd;have q0:=L4.out.b.cell_ 0 _ rfl;have q1:=L4.out.b.cell_ 1 _ rfl;have q2:=L4.out.b.cell_ 2 _ rfl;simp only at q0 q1 q2;have h0:=B8.out.cell_ 0 _ rfl;have h1:=B8.out.cell_ 1 _ rfl;have h2:=B8.out.cell_ 2 _ rfl;have R5:=Hd (r4.below (Below.refl x3.heap.size x3).drew);have L5:=Hd (L4.out.keep (Below.refl x3.heap.size x3).drew);have B85:=Hd (B8.out.keep (Below.refl x3.heap.size x3).drew);have E6:=Hd e6;clear r4 e6 hnd L4 B8;refine region_sg [11,14] ?_;refine anyB_sg [0,1,2,3,4,5,6,7,8,9] 5 ?_;go_wp2_with fail
     refine sg_o ?_;clear q0 q1 q2 h0 h1 h2 y7;generalize x3.drew=x4 at R5 L5 B85⊢;refine anyB_on 10 fun K hK=>?_;go_simp;refine thK hK (boxed _ _) ?_;clear hK K;have D:=Blk.new x4 71 #[.int .i64 (c:Int),.int .i64 xk,.string key,.string val,.int .i64 aK,.string aT,.int .i64 aS];obtain⟨zd,hzd⟩: ∃z,x4.heap.size=z:=⟨_,rfl⟩;have bx:=boxed x4 (.cells #[.int .i64 (c:Int),.int .i64 xk,.string key,.string val,.int .i64 aK,.string aT,.int .i64 aS] 71);have R6:=Hd (R5.out.below bx);have L6:=Hd (L5.out.keep bx);have B86:=Hd (B85.out.keep bx);rw[hzd]at D⊢;clear R5 L5 B85 hzd bx;generalize World.alloc _ _=x5 at D R6 L6 B86⊢;have HD:=Hd D;clear D;obtain⟨i0,hi0,hz0,hz1,hz2⟩:=info_parts deed_info;have ho6:=R6.out.deeds;rw[HND2.out,E6.out]at ho6;have HO6:=Hd ho6;have HB6:=Hd R6.out.leB;have HLE:=Hd (show nd≤1000000 by rw[←HND2.out];exact HDL.out)
     clear ho6;refine anyB_on 11 fun K hK=>?_;rw[if_pos (by rfl)]
     refine wp_append_o _ _ _ _ rfl B 71 i0 _ 7 80 underlying26 hi0 hz0 hz1 hz2 rfl (by decide) (.slice A6 nd k6) nd (deV (f.drop c).deeds) rfl HO6.out x5.heap.size (some ⟨zd,0,none⟩) 1 1 (deV [⟨c,⟨xk,key,val⟩,⟨aK,aT,aS⟩⟩]) rfl (reads_one HD.out rfl) (by intro u hu;simp only[deV,List.flatMap_cons,List.flatMap_nil,List.append_nil,List.mem_cons,List.not_mem_nil,or_false]at hu;rcases hu with rfl|rfl|rfl|rfl|rfl|rfl|rfl<;>rfl) (le_maxLen (by have:=HLE.out;omega)) (by have:=HLE.out;omega) HB6.out ?_
     intro v' x6 ho hg hn;refine lateK hK ?_;clear hK K;obtain⟨A7,k7,e7,_⟩:=ho.form;have ap:=R6.out.appDeeds (v:=v') (l:=(f.drop c).deeds++[⟨c,⟨xk,key,val⟩,⟨aK,aT,aS⟩⟩]) (by rw[List.length_append,deV_app,HND2.out];exact ho) (by rw[E6.out];exact hg)
     obtain⟨r7,t7,y6,fp⟩:=ap;rw[E6.out]at y6;have L7:=Hd (L6.out.did r7 t7);have B87:=Hd (t7.blk B86.out (by decide) (by decide) (by decide) (by decide) (by decide))
     subst e7;clear r7 t7 ho hg hn R6 L6 B86 HD HO6 HB6 HLE E6 hi0 hz0 hz1 hz2;refine anyB_sg [12,13] 1 ?_;go_wp2_with fail
     refine sg_o ?_;refine anyB_on 14 fun K hK=>?_;go_simp;refine lateK hK ?_;clear hK K;refine anyB_dn ?_;clear y6 fp;generalize World.setCell _ _ _=x7 at L7 B87⊢;have L7:Hid (OneL w x7 B p ga gs cap ((f.drop c).deed ⟨c,⟨xk,key,val⟩,⟨aK,aT,aS⟩⟩) ⟨RW,RS⟩ q ⟨xk,key,val⟩ false):=L7;obtain⟨⟨V7,cs7,r7⟩,-,-,-⟩:=L7.out;have h0:=B87.out.cell_ 0 _ rfl;have h1:=B87.out.cell_ 1 _ rfl;have h2:=B87.out.cell_ 2 _ rfl;have R7:=Hd r7;clear r7;go_wp2_with fail
     refine(htell_any x7 B p ga gs cap V7 cs7 _ _ R7.out (by show(f.drop c).cl.length=6;rw[len_drop];exact HL.out) c HC.out ⟨aK,aT,aS⟩ HTX.out HSN.out).mono ?_
     rintro e x8 ⟨rfl,r8,t8⟩;have L8:=Hd (L7.out.did r8 t8);have B88:=Hd (t8.blk B87.out (by decide) (by decide) (by decide) (by decide) (by decide))
     have R8:Hid (HouR x8 B p ga gs cap V7 cs7 (doneF f c ⟨xk,key,val⟩ ⟨aK,aT,aS⟩) ⟨RW,RS⟩):=Hd r8;have hne:=next_act houseB (f,h) c HP.out HMO.out;have hact:houseB.act h c (f.c c).srv.toNat ⟨xk,key,val⟩=(⟨RW,RS⟩,⟨aK,aT,aS⟩):=HRR.out;simp only[hact,HZ.out]at hne;have HE:=Hd hne;clear r8 t8 h0 h1 h2 R7 L7 B87 hne hact;have h2:=B88.out.cell_ 2 _ rfl;have y0:x8.cell? ⟨p,0,none⟩=some (.int .i64 f.mode):=R8.out.blk.cell_ 0 _ rfl;have T8:=Hd L8.out.t;clear B88 L8;obtain⟨md,hmd⟩: ∃n,f.mode=n:=⟨_,rfl⟩;have HMDE:=Hd hmd;rw[hmd]at y0;clear hmd;by_cases c1:md=1
     ·subst c1;go_wp2_with fail
      refine bodyPost_end (results_none rfl _ _ _) rfl ⟨rfl,?_⟩;rw[HE.out,if_neg (by rw[HMDE.out];exact fun h=>h.1 rfl)]
      exact⟨⟨V7,cs7,R8.out⟩,T8.out⟩
     ·have n1:(md !=1)=true:=by simpa using c1
      have n2:(!(md==1))=true:=n1;by_cases c2:aS=0
      ·subst c2;have HE2:=Hd (show Z=((doneF f c ⟨xk,key,val⟩ ⟨aK,aT,0⟩).freeS c,⟨RW,RS⟩)by
        rw[HE.out,if_pos ⟨by rw[HMDE.out];exact c1,by first|rfl|trivial⟩]
        rfl)
       obtain⟨s,hs1,hs2⟩:=HSV.out;have hsv:((doneF f c ⟨xk,key,val⟩ ⟨aK,aT,0⟩).c c).srv=(s:Int):=by
        have:=congrFun (svs_done (f:=f) (i:=c) HCL.out ⟨xk,key,val⟩ ⟨aK,aT,0⟩) c;exact this.trans hs1
       obtain⟨F,hF⟩: ∃F,doneF f c ⟨xk,key,val⟩ ⟨aK,aT,0⟩=F:=⟨_,rfl⟩;have ho:F.owner=f.owner:=by rw[←hF];rfl
       have hcl:F.cl.length=6:=by rw[←hF,len_done];exact HL.out
       rw[hF]at R8 HE2 hsv;rw[←ho]at hs2;have y4:x8.cell? ⟨p,4,none⟩=some (.slice (some ⟨ga,0,none⟩) 6 6):=R8.out.blk.cell_ 4 _ rfl;have s2:x8.cell? ⟨ga,c*4+2,none⟩=some (.int .i64 (F.c c).srv):=R8.out.all.cell HC.out (by decide)
       rw[hsv]at s2;obtain⟨go,oo,ko,eo,_,hoc,hof⟩:=R8.out.owner.pos (by omega)
       have y5:x8.cell? ⟨p,5,none⟩=some V7.owner:=R8.out.blk.cell_ 5 _ rfl;rw[eo]at y5;have o5:=hoc s (by omega)
       have hil:s<(intV F.owner).length:=by unfold intV;simpa using hs2
       rw[List.getElem?_eq_getElem hil]at o5;obtain⟨ov,hov⟩: ∃v,(intV F.owner)[s]=v:=⟨_,rfl⟩;rw[hov]at o5;obtain⟨no,hno⟩: ∃n,F.owner.length=n:=⟨_,rfl⟩;have g5:(s:Int)<(no:Int):=by omega
       have g6:(0:Int)≤(s:Int):=by omega
       rw[hno]at y5;have HEO:=Hd eo;have HSS:=Hd hsv;have HCF:=Hd hcl;clear hs1 hs2 hsv ho hcl eo hno hF hov hil hoc;go_upto_region 13 with fail
       refine region_sg [13] ?_;refine anyB_sg [0,1,2,3,4,5,6,7,8,9,10,11,12] 1 ?_;go_wp2_with fail
       refine sg_o ?_;refine anyB_on 13 fun K hK=>?_;go_simp;refine lateK hK ?_;clear hK K;refine anyB_dn ?_;obtain⟨r9,t9⟩:=R8.out.putOwner HEO.out s (-1);have R9:=Hd (r9.below bR.drew);have T9:=Hd (T8.out.trans (t9.trans (.of_below bR.drew r9.leB)));clear r9 t9 y4 s2 y5 o5 hof g5 g6 y0 h2;generalize World.drew _=x9 at R9 T9⊢;have y4:x9.cell? ⟨p,4,none⟩=some (.slice (some ⟨ga,0,none⟩) 6 6):=R9.out.blk.cell_ 4 _ rfl;have s2:x9.cell? ⟨ga,c*4+2,none⟩=some (.int .i64 (F.c c).srv):=R9.out.all.cell HC.out (by decide)
       have fq:=R9.out.all.frozen;have hC:=fun j=>c_set F (i:=c) (by rw[HCF.out];exact HC.out) ⟨(F.c c).bytes,(F.c c).pend,-1,(F.c c).sent⟩ j
       have hC': ∀j,(F.freeS c).c j=if j=c then⟨(F.c c).bytes,(F.c c).pend,-1,(F.c c).sent⟩else F.c j:=hC
       obtain⟨r10,t10⟩:=R9.out.guest (f':=F.freeS c) (k:=2) HC.out (by decide) (v:=.int .i64 (-1)) (by show Value.int _ ((F.freeS c).c c).srv=_;rw[hC' c,if_pos rfl]) (fun c' k' _ hk' hn=>by
        unfold guV;rw[hC' c'];by_cases e:c'=c
        ·subst e;rw[if_pos rfl];match k',hk' with
         |0,_=>rfl
         |1,_=>rfl
         |2,_=>exact absurd ⟨rfl,rfl⟩ hn
         |3,_=>rfl
        ·rw[if_neg e];rfl) rfl (by show F.owner.set (F.c c).srv.toNat (-1)=F.owner.set s (-1);rw[HSS.out,Int.toNat_natCast]) rfl rfl (fun j _=>by
        rw[hC' j];by_cases e:j=c
        ·subst e;rw[if_pos rfl];rfl
        ·rw[if_neg e];rfl)
       have R10:=Hd r10;have T10:=Hd (T9.out.trans t10);clear hC hC' r10 t10;go_wp2_with fail
       refine bodyPost_end (results_none rfl _ _ _) rfl ⟨rfl,?_⟩;rw[HE2.out];exact⟨⟨V7,cs7,R10.out⟩,T10.out⟩
      ·have n3:(aS==0)=false:=by simpa using c2
       go_wp2_with fail
       refine bodyPost_end (results_none rfl _ _ _) rfl ⟨rfl,?_⟩;rw[HE.out,if_neg (fun h=>c2 h.2)];exact⟨⟨V7,cs7,R8.out⟩,T8.out⟩
theorem OwnO.low{w:World}{B B':Nat}{e:TypeId}{size n:Nat}{v:Value}{xs:List Value}(h:OwnO w B' e size v n xs)(hB:B≤B'):OwnO w B e size v n xs:=by
 refine⟨h.1,h.2.imp id ?_⟩;rintro⟨g,off,cap,cur,e1,h1,r⟩;exact⟨g,off,cap,cur,e1,Nat.le_trans hB h1,r⟩
theorem OSL.five{w:World}{B g n cap:Nat}{ss:List Se}{cs:List Value}(h:OSL w B (.slice (some ⟨g,0,none⟩) n cap) ss cs)(i:Nat)(hi:i<ss.length): ∃a0 a1 a2 a3 a4,w.cell? ⟨g,i*5,none⟩=some a0∧w.cell? ⟨g,i*5+1,none⟩=some a1∧w.cell? ⟨g,i*5+2,none⟩=some a2∧w.cell? ⟨g,i*5+3,none⟩=some a3∧w.cell? ⟨g,i*5+4,none⟩=some a4∧∀j,w.frozen? ⟨g,j,none⟩=false:=by
 obtain⟨a,b,c,d,k0,k1,k2,k3,k4,_⟩:=SesC.at_ h.ses i hi;obtain⟨cur,hb⟩:=h.row;have hc: ∀j u,cs[j]? =some u→w.cell? ⟨g,j,none⟩=some u:=fun j u hu=>by rw[←adr0];exact h.own.cells (g:=g) rfl _ _ hu
 exact⟨_,a,b,c,d,hc _ _ k0,hc _ _ k1,hc _ _ k2,hc _ _ k3,hc _ _ k4,hb.frozen⟩
def goneF(f:Fr)(c:Nat):Fr:=⟨f.mode,if 0≤(f.c c).srv then f.owner.set (f.c c).srv.toNat (-1)else f.owner,f.cl,f.wait,f.deeds⟩
structure LeaL(w wx:World)(B p ga gs cap:Nat)(f:Fr)(h:Wo):Prop where
 r: ∃V cs,HouR wx B p ga gs cap V cs f h
 t:HouF B w wx
theorem leave_any(w:World)(B p ga gs cap:Nat)(V:HoV)(cs:List Value)(f:Fr)(h:Wo)(N:Nat)(H:HouR w B p ga gs cap V cs f h)(hO:OkH (f,h) N)(c:Nat)(hc:c<6):
  Calls Tryz.prog 53 #[.pointer (some ⟨p,0,none⟩),.int .i64 (c:Nat)] w (DoneH w B p ga gs cap (closeM houseB (f,h) c)):=by
 have g1:(c:Int)<6:=by omega
 have g2:(0:Int)≤(c:Int):=by omega
 have HC:=Hd hc;have HCL:=Hd (hO.len hc);have HL:=Hd hO.fi.six;have HS6:=Hd hO.six;have HW6:=Hd hO.fi.few;have HSV:=Hd (fun h0=>hO.srv hc h0);have HR:=Hd H;have a4:w.cell? ⟨p,4,none⟩=some (.slice (some ⟨ga,0,none⟩) 6 6):=H.blk.cell_ 4 _ rfl;have s2:w.cell? ⟨ga,c*4+2,none⟩=some (.int .i64 (f.c c).srv):=H.all.cell hc (by decide)
 obtain⟨sv,hsv⟩: ∃s,(f.c c).srv=s:=⟨_,rfl⟩;rw[hsv]at s2 HSV;have HSE:=Hd hsv;clear H hO hc hsv;go_enter func53,ntmps53
 go_upto_if 14 with fail
 go_cut [] (fun wx=>LeaL w wx B p ga gs cap (goneF f c) h)
 case first=>
  by_cases h0:0≤sv
  ·obtain⟨s,rfl,hs2⟩:=HSV.out h0;have e1:decide (0≤(s:Int))=true:=by simp
   obtain⟨go,oo,ko,eo,_,hoc,hof⟩:=HR.out.owner.pos (by omega)
   have y5:w.cell? ⟨p,5,none⟩=some V.owner:=HR.out.blk.cell_ 5 _ rfl;rw[eo]at y5;have o5:=hoc s (by omega)
   have hil:s<(intV f.owner).length:=by unfold intV;simpa using hs2
   rw[List.getElem?_eq_getElem hil]at o5;obtain⟨ov,hov⟩: ∃v,(intV f.owner)[s]=v:=⟨_,rfl⟩;rw[hov]at o5;obtain⟨no,hno⟩: ∃n,f.owner.length=n:=⟨_,rfl⟩;have g5:(s:Int)<(no:Int):=by omega
   have g6:(0:Int)≤(s:Int):=by omega
   rw[hno]at y5;have HEO:=Hd eo;clear hs2 eo hno hov hil hoc h0 HSV;go_upto_region 1 with fail
   refine region_sg [13] ?_;refine anyB_sg [0,1,2,3,4,5,6,7,8,9,10,11,12] 1 ?_;go_wp2_with fail
   refine sg_o ?_;refine anyB_on 13 fun K hK=>?_;go_simp;refine lateK hK ?_;clear hK K;refine anyB_dn ?_;obtain⟨r9,t9⟩:=HR.out.putOwner HEO.out s (-1);have ef:goneF f c={f with owner:=f.owner.set s (-1)}:=by
    unfold goneF;rw[HSE.out,if_pos (by omega),Int.toNat_natCast]
   have L9:=Hd (show LeaL w (w.setCell ⟨go,oo+s,none⟩ (.int .i64 (-1))).drew B p ga gs cap (goneF f c) h by
    rw[ef];exact⟨⟨V,cs,r9.below bR.drew⟩,t9.trans (.of_below bR.drew r9.leB)⟩)
   clear r9 t9 ef a4 s2 y5 o5 hof g5 g6;generalize World.drew _=x9 at L9⊢;go_wp2_with fail
   go_meet;exact L9.out
  ·have e1:decide (0≤sv)=false:=by simpa using h0
   have ef:=Hd (show goneF f c=f by unfold goneF;rw[HSE.out,if_neg h0])
   have g5:sv<0:=by omega
   go_wp2_with fail
   go_meet;rw[ef.out];exact⟨⟨V,cs,HR.out⟩,HouF.refl _ _⟩
 case rest=>
  obtain⟨⟨V1,cs1,r1⟩,t1⟩:=hcut;have e3:wc.cell? ⟨p,3,none⟩=some (.slice (some ⟨gs,0,none⟩) 6 cap):=r1.blk.cell_ 3 _ rfl;obtain⟨b0,b1,b2,b3,b4,k0,k1,k2,k3,k4,kf⟩:=r1.ses.five c (by rw[HS6.out];exact HC.out)
  obtain⟨⟨cs2,r2⟩,t2⟩:=r1.putSes HC.out (s':=Se.new) (OPL.nil_ wc B) (OPL.nil_ _ _) (OPL.nil_ _ _) (OPL.nil_ _ _) (by decide)
  have R2:=Hd r2;have T2:=Hd (t1.trans t2);clear r1 t1 r2 t2 a4 s2 HR;go_upto_region 3 with fail
  have R2:Hid (HouR (((((wc.setCell ⟨gs,c*5,none⟩ (.int .i64 0)).setCell ⟨gs,c*5+1,none⟩ (.slice none 0 0)).setCell ⟨gs,c*5+2,none⟩ (.slice none 0 0)).setCell ⟨gs,c*5+3,none⟩ (.slice none 0 0)).setCell ⟨gs,c*5+4,none⟩ (.slice none 0 0)) B p ga gs cap V1 cs2 (goneF f c) (h.put c Se.new)):=R2;have T2:Hid (HouF B w (((((wc.setCell ⟨gs,c*5,none⟩ (.int .i64 0)).setCell ⟨gs,c*5+1,none⟩ (.slice none 0 0)).setCell ⟨gs,c*5+2,none⟩ (.slice none 0 0)).setCell ⟨gs,c*5+3,none⟩ (.slice none 0 0)).setCell ⟨gs,c*5+4,none⟩ (.slice none 0 0))):=T2;clear e3 k0 k1 k2 k3 k4 kf;generalize World.setCell _ _ _=x2 at R2 T2⊢;have y4:x2.cell? ⟨p,4,none⟩=some (.slice (some ⟨ga,0,none⟩) 6 6):=R2.out.blk.cell_ 4 _ rfl;have m0:x2.cell? ⟨ga,c*4,none⟩=some (.string ((goneF f c).c c).bytes):=R2.out.all.cell (k:=0) HC.out (by decide)
  have m1:x2.cell? ⟨ga,c*4+1,none⟩=some (V1.wait c):=R2.out.all.cell HC.out (by decide)
  have m2:x2.cell? ⟨ga,c*4+2,none⟩=some (.int .i64 ((goneF f c).c c).srv):=R2.out.all.cell HC.out (by decide)
  have m3:x2.cell? ⟨ga,c*4+3,none⟩=some (.string (f.c c).sent):=R2.out.all.cell HC.out (by decide)
  have fp:=R2.out.all.frozen;refine region_sg [15] ?_;refine anyB_sg [0,1,2,3,4,5,6,7,8,9,10,11,12,13,14] 1 ?_;go_wp2_with fail
  refine sg_o ?_;refine anyB_on 15 fun K hK=>?_;go_simp;refine lateK hK ?_;clear hK K;refine anyB_dn ?_;obtain⟨r3,t3⟩:=R2.out.putGuest HL.out HC.out ⟨⟨#[]⟩,[],-1,(f.c c).sent⟩ (.slice none 0 0) (OwnO.nil _ _ _ _) (fun _ _ _ _ _=>by simp[Value.ownBlock])
  have R3:=Hd (r3.below bR.drew);have T3:=Hd (T2.out.trans (t3.trans (.of_below bR.drew r3.leB)));clear r3 t3 y4 m0 m1 m2 m3 fp R2 T2;generalize World.drew _=x3 at R3 T3⊢;obtain⟨V3,hV3⟩: ∃V3:HoV,{V1 with wait:=up V1.wait c (.slice none 0 0)}=V3:=⟨_,rfl⟩;rw[hV3]at R3;obtain⟨F3,hF3⟩: ∃F3:Fr,(goneF f c).set c ⟨⟨#[]⟩,[],-1,(f.c c).sent⟩=F3:=⟨_,rfl⟩;rw[hF3]at R3;have HF3:=Hd hF3;have hw3:F3.wait=f.wait:=by rw[←hF3];rfl
  have hl3:=R3.out.line;obtain⟨A6,k6,e6,_,rd6⟩:=hl3.reads;obtain⟨n,hn⟩: ∃n,F3.wait.length=n:=⟨_,rfl⟩;have hn6:n≤6:=by rw[←hn,hw3];exact HW6.out
  rw[hn]at e6 rd6;have HRD:=Hd rd6;have HE6:=Hd e6;have HN:=Hd hn;have HW3:=Hd hw3;clear hV3 hF3 hl3 rd6 e6 hn hw3;go_wp2_with fail
  go_loopw [4,5] (fun v i wx=>∃k:Nat,k≤n∧i= .int .i64 k∧Hid (Below x3.heap.size x3 wx∧OwnO wx x3.heap.size 3 1 v (dropC (F3.wait.take k) c).length (natV (dropC (F3.wait.take k) c)))) (fun _ i _=>n-(intOf i).toNat)
  case atStart=>exact⟨0,Nat.zero_le _,rfl,Hd ⟨bR,OwnO.nil _ _ _ _⟩⟩
  case round=>
   obtain⟨k,hk,rfl,HI⟩:=hrel;have y6:wr.cell? ⟨p,6,none⟩=some V3.line:=(R3.out.below HI.out.1).blk.cell_ 6 _ rfl;rw[HE6.out]at y6;by_cases hlt:k<n
   ·have g3:(k:Int)<(n:Int):=by omega
    have g4:(0:Int)≤(k:Int):=by omega
    have hkl:k<F3.wait.length:=by rw[HN.out];exact hlt
    have hst:=drop_step (c:=c) hkl;obtain⟨ad,hA,hB,hcell⟩:=HRD.out.2 (by omega)
    have hx0:=hcell k _ (natV_at hkl);obtain⟨a,ha⟩: ∃a,F3.wait.getD k 0=a:=⟨_,rfl⟩;rw[ha]at hx0 hst;have hx:wr.cell? (ad.add k)=some (.int .i64 (a:Nat)):=(HI.out.1.cell (by rw[block_of_add];exact hB)).trans hx0
    subst hA;have ie:=nat_eqI a c;have HST:=Hd hst;have HLN:=Hd (show(dropC (F3.wait.take k) c).length≤6 by
     have h1:(dropC (F3.wait.take k) c).length≤(F3.wait.take k).length:=List.length_filter_le _ _;rw[List.length_take]at h1;omega)
    clear hcell hx0 ha hst hkl hB;by_cases hac:a=c
    ·have e1:decide (a=c)=true:=by simpa using hac
     rw[e1]at ie;have hnx:=HST.out;rw[if_pos hac]at hnx;have HNX:=Hd hnx;clear hnx;go_wp2_with fail
     go_roundw
     case rel=>exact⟨k+1,by omega,by go_num,Hd (by rw[HNX.out];exact HI.out)⟩
     case measure=>simp[intOf];omega
    ·have e1:decide (a=c)=false:=by simpa using hac
     rw[e1]at ie;have hnx:=HST.out;rw[if_neg hac]at hnx;have HNX:=Hd hnx;clear hnx;have e2:((a:Int)!=(c:Int))=true:=by simp;omega
     obtain⟨L,hL⟩: ∃L,dropC (F3.wait.take k) c=L:=⟨_,rfl⟩;rw[hL]at HI HNX HLN;obtain⟨Av,kv,ev,_⟩:=HI.out.2.form;obtain⟨nl,hnl⟩: ∃m,L.length=m:=⟨_,rfl⟩;rw[hnl]at ev;have HNL:=Hd hnl;rw[ev];have HO3:Hid (OwnO wr x3.heap.size 3 1 (.slice Av nl kv) nl (natV L)):=Hd (by
      have h2:=HI.out.2;rw[ev,hnl]at h2;exact h2)
     have HBL:=Hd HI.out.1;have HNB:=Hd (show nl≤6 by rw[←hnl];exact HLN.out)
     clear hL hnl ev HI HLN;go_upto_region 9 with fail
     obtain⟨i0,hi0,hz0,hz1,hz2⟩:=info_parts int_info;have D:=Hd (Blk.new wr 3 #[.int .i64 (a:Int)]);have HO4:=Hd (HO3.out.below (boxed wr (.cells #[.int .i64 (a:Int)] 3)));have HB4:=Hd (Nat.le_trans HBL.out.size (boxed wr (.cells #[.int .i64 (a:Int)] 3)).size);go_wp2_with (at_builtin;refine wpList_append_o _ rfl _ _ 87 rfl x3.heap.size 3 i0 _ 1 8 underlying87 hi0 hz0 hz1 hz2 rfl (by decide) (.slice Av nl kv) nl (natV L) rfl HO4.out _ (some ⟨wr.heap.size,0,none⟩) 1 1 [.int .i64 (a:Int)] rfl (reads_int D.out) (by intro u hu;simp only[List.mem_cons,List.not_mem_nil,or_false]at hu;subst hu;rfl) (le_maxLen (by have:=HNB.out;omega)) (by have:=HNB.out;omega) HB4.out ?_)
     intro v' w4 ho hg hn';obtain⟨A7,k7,e7,_⟩:=ho.form;have HF:=Hd (show Below x3.heap.size x3 w4∧OwnO w4 x3.heap.size 3 1 v' (dropC (F3.wait.take (k+1)) c).length (natV (dropC (F3.wait.take (k+1)) c))from
      ⟨(HBL.out.trans ((boxed wr _).mono HBL.out.size)).grown hg HB4.out (fun q hq=>(HO4.out.lt q hq).1),by rw[HNX.out,List.length_append,natV_app,HNL.out];exact ho⟩)
     subst e7;clear ho hg hn' D HO3 HO4 HB4 hi0 hz0 hz1 hz2;go_wp2_with fail
     go_roundw
     case rel=>exact⟨k+1,by omega,by go_num,Hd HF.out⟩
     case measure=>simp[intOf];omega
   ·have g3:(n:Int)≤(k:Int):=by omega
    obtain rfl:k=n:=by omega
    have hd:dropC (F3.wait.take k) c=dropC f.wait c:=by rw[←HW3.out,List.take_of_length_le (by rw[HN.out];exact Nat.le_refl _)]
    have h2:=HI.out.2;rw[hd]at h2;obtain⟨Av,kv,ev,_⟩:=h2.form;have R4:=R3.out.below HI.out.1;have fp:=R4.blk.frozen;obtain⟨r5,t5⟩:=R4.putLine (h2.low (Nat.le_trans R3.out.leB leR)) (fun q hq e=>by
     have h1:=(h2.lt q e).1;have h3:=(R3.out.owner.lt q hq).2;omega)
    have R5:=Hd r5;have T5:=Hd ((T3.out.trans (.of_below HI.out.1 R3.out.leB)).trans t5);rw[ev]at R5 T5⊢;clear h2 R4 r5 t5 hd ev HI;go_wp2_with fail
    refine bodyPost_end (results_none rfl _ _ _) rfl ⟨rfl,⟨{V3 with line:=.slice Av (dropC f.wait c).length kv},cs2,?_⟩,T5.out⟩;have e9:(closeM houseB (f,h) c).1={F3 with wait:=dropC f.wait c}:=by rw[←HF3.out];rfl
    rw[e9];exact R5.out
end Go.Proofs.YtjbnfigpflambacGreatDoor
