/- Reference's did. (pool).free. Reference's did at Get. Conditions: those of each lemma. -/
import Derived.Test.YtjbnfigpflambacGreatDoorH03
import Derived.Test.YtjbnfigpflambacGreatDoorH05
namespace Go.Proofs.YtjbnfigpflambacGreatDoor
set_option maxRecDepth 100000
set_option maxHeartbeats 16000000
open _root_.Go.Proofs.Tryz
open Go.ChangeShapes Go.WideShapes Go.ChangeAt Go.RowKit
theorem did_boxes(w:World)(r s:Value)(x:St): ∀w4,w4=((((w.alloc (.cells #[r,s] 39)).alloc (.cells #[.int .i64 x.k,.string x.key,.string x.val] 41)).alloc (.cells #[.slice none 0 0,.slice none 0 0] 39)).alloc (.cells #[.int .i64 0,.string ⟨#[]⟩,.int .i64 0] 46))→
  Below w.heap.size w w4∧w4.heap.size=w.heap.size+4∧Blk w4 w.heap.size 39 #[r,s]∧Blk w4 (w.heap.size+1) 41 #[.int .i64 x.k,.string x.key,.string x.val]∧
  Blk w4 (w.heap.size+2) 39 #[.slice none 0 0,.slice none 0 0]∧Blk w4 (w.heap.size+3) 46 #[.int .i64 0,.string ⟨#[]⟩,.int .i64 0]:=by
 rintro w4 rfl;have e1:(w.alloc (.cells #[r,s] 39)).heap.size=w.heap.size+1:=by simp
 have b2:=Blk.new1 w (.cells #[r,s] 39) 41 #[.int .i64 x.k,.string x.key,.string x.val];have b3:=Blk.new1 (w.alloc (.cells #[r,s] 39)) (.cells #[.int .i64 x.k,.string x.key,.string x.val] 41) 39 #[.slice none 0 0,.slice none 0 0];have b4:=Blk.new1 ((w.alloc (.cells #[r,s] 39)).alloc (.cells #[.int .i64 x.k,.string x.key,.string x.val] 41)) (.cells #[.slice none 0 0,.slice none 0 0] 39) 46 #[.int .i64 0,.string ⟨#[]⟩,.int .i64 0];rw[e1]at b3;rw[show((w.alloc (.cells #[r,s] 39)).alloc (.cells #[.int .i64 x.k,.string x.key,.string x.val] 41)).heap.size=w.heap.size+2 by simp]at b4
 exact⟨((boxed2 w _ _).alloc (by simp;omega) _).alloc (by simp;omega) _,by simp,(((Blk.new w _ _).alloc _).alloc _).alloc _,(b2.alloc _).alloc _,b3.alloc _,b4⟩
theorem refdid_failed(w:World)(A:Option Addr)(n c:Nat)(Ar:Option Addr)(nr cr:Nat)(ss:List Se)(i:Nat)(x:St)(hn:ss.length=n)(h:SL w w.heap.size (.slice A n c) ss)(hi:i<n)(hst:(ss.getD i Se.new).st=2)(h2:x.k≠2)(h3:x.k≠3):
  Calls Tryz.prog 133 #[.agg #[.slice Ar nr cr,.slice A n c],.int .i64 (i:Nat),.agg #[.int .i64 x.k,.string x.key,.string x.val]] w fun e w'=>
   e= .returned (.tuple #[.agg #[.slice Ar nr cr,.slice A n c],.agg #[.int .i64 4,.string tFailed,.int .i64 0]])∧Below w.heap.size w w':=by
 have hil:i<ss.length:=by omega
 have hgd:ss.getD i Se.new=ss[i]:=getD_at hil Se.new;obtain⟨A',c',e,hc,hz,hs⟩:=h;injection e with e1 e2 e3;subst e1 e3;obtain⟨ad,hA,hAB,hse⟩:=hs (by omega)
 subst hA;have y:=hse i hil;rw[hgd]at hst;obtain⟨t,ht⟩: ∃t,ss[i]=t:=⟨_,rfl⟩;rw[ht]at y hst;obtain⟨x0,⟨v1,x1,p1⟩,⟨v2,x2,p2⟩,⟨v3,x3,p3⟩,⟨v4,x4,p4⟩,-,-⟩:=y;obtain⟨A1,z1,rfl⟩:=p1.form;obtain⟨A2,z2,rfl⟩:=p2.form;obtain⟨A3,z3,rfl⟩:=p3.form;obtain⟨A4,z4,rfl⟩:=p4.form;have g1:(i:Int)<(n:Int):=by omega
 have g2:(0:Int)≤(i:Int):=by omega
 clear hs hse hgd hz hc ht p1 p2 p3 p4 e2;rw[hst]at x0;go_enter func133,ntmps133
 go_upto_region 1 with fail
 obtain⟨w4,hw4⟩: ∃w4,w4=((((w.alloc (.cells #[.slice Ar nr cr,.slice (some ad) n c] 39)).alloc (.cells #[.int .i64 x.k,.string x.key,.string x.val] 41)).alloc (.cells #[.slice none 0 0,.slice none 0 0] 39)).alloc (.cells #[.int .i64 0,.string ⟨#[]⟩,.int .i64 0] 46)):=⟨_,rfl⟩;obtain⟨d1,d2,d3,d4,d5,d6⟩:=did_boxes w _ _ x w4 hw4;rw[←hw4];have hlb:(ad.add (i*5)).block<w.heap.size:=by rw[block_of_add];exact hAB
 have y0:=(d1.cell hlb).trans x0;have y1:=(d1.cell (by exact hlb)).trans x1
 have y2:=(d1.cell (by exact hlb)).trans x2
 have y3:=(d1.cell (by exact hlb)).trans x3
 have y4:=(d1.cell (by exact hlb)).trans x4
 have f1:=d3.cell_ 1 _ rfl;have D1:=Hd d1;have D3:=Hd d3;have D4:=Hd d4;have D5:=Hd d5;have D6:=Hd d6;have D2:=Hd d2;clear x0 x1 x2 x3 x4 hw4 d1 d2 d3 d4 d5 d6 hlb;go_upto_region 2 with fail
 have bb:=boxed w4 (.cells #[.int .i64 2,.slice A1 t.set.length z1,.slice A2 t.pre.length z2,.slice A3 t.sav.length z3,.slice A4 t.wri.length z4] 133);have S5:=Blk.new w4 133 #[.int .i64 2,.slice A1 t.set.length z1,.slice A2 t.pre.length z2,.slice A3 t.sav.length z3,.slice A4 t.wri.length z4];have bb2:=boxed2 w4 (.cells #[.int .i64 2,.slice A1 t.set.length z1,.slice A2 t.pre.length z2,.slice A3 t.sav.length z3,.slice A4 t.wri.length z4] 133) (.cells #[.int .i64 1,.string ⟨#[]⟩,.int .i64 0] 46);clear y0 y1 y2 y3 y4 f1;go_upto_region 3 with fail
 have s0:=(S5.alloc (.cells #[.int .i64 1,.string ⟨#[]⟩,.int .i64 0] 46)).cell_ 0 _ rfl;have r0:=(D3.out.keep bb2).cell_ 0 _ rfl;have r1:=(D3.out.keep bb2).cell_ 1 _ rfl;have t0:=(D4.out.keep bb2).cell_ 0 _ rfl;have R2:=Hd (D5.out.keep bb2);have R3:=Hd (D6.out.keep bb2);have BB:=Hd (below_step D1.out leR bb2);have e2:(x.k==2)=false:=by simpa using h2
 have e3:(x.k==3)=false:=by simpa using h3
 clear bb bb2 S5;generalize (w4.alloc _).alloc _=w6 at s0 r0 r1 t0 R2 R3 BB⊢;go_upto_region 5 with fail
 refine region_sg [2,3] ?_;refine anyB_sg [0] 3 ?_;go_wp2_with fail
 refine sg_o ?_;have R2:=Hd (R2.out.keep bR.drew);have R3:=Hd (R3.out.keep bR.drew);have BB:=Hd BB.out.drew;clear s0 r0 r1 t0;generalize w6.drew=w7 at R2 R3 BB⊢;refine anyB_on 1 fun K hK=>?_;go_simp;refine(refno_any w7 tFailed).mono ?_;rintro e w8 ⟨rfl,b⟩;refine thK hK b ?_;clear hK K;have b8:=below_step BB.out leR b;have R8:=R2.out.keep b;have T8:=R3.out.keep b;have u0:=R8.cell_ 0 _ rfl;have u1:=R8.cell_ 1 _ rfl;have v0:=T8.cell_ 0 _ rfl;have v1:=T8.cell_ 1 _ rfl;have v2:=T8.cell_ 2 _ rfl;have ff:=R8.frozen;have fg:=T8.frozen;have n23:w.heap.size+3≠w.heap.size+2:=by omega
 have FIN:=Hd (((((b8.setCell (p:=⟨w.heap.size+2,0,none⟩) (by show w.heap.size≤w.heap.size+2;omega) (.slice Ar nr cr)).setCell (p:=⟨w.heap.size+2,1,none⟩) (by show w.heap.size≤w.heap.size+2;omega) (.slice (some ad) n c)).setCell (p:=⟨w.heap.size+3,0,none⟩) (by show w.heap.size≤w.heap.size+3;omega) (.int .i64 4)).setCell (p:=⟨w.heap.size+3,1,none⟩) (by show w.heap.size≤w.heap.size+3;omega) (.string tFailed)).setCell (p:=⟨w.heap.size+3,2,none⟩) (by show w.heap.size≤w.heap.size+3;omega) (.int .i64 0))
 have hb2:=((((R8.set_ 0 (.slice Ar nr cr)).set_ 1 (.slice (some ad) n c)).far (p:=⟨w.heap.size+3,0,none⟩) n23.symm (.int .i64 4)).far (p:=⟨w.heap.size+3,1,none⟩) n23.symm (.string tFailed)).far (p:=⟨w.heap.size+3,2,none⟩) n23.symm (.int .i64 0);have hb3:=((((T8.far (p:=⟨w.heap.size+2,0,none⟩) n23 (.slice Ar nr cr)).far (p:=⟨w.heap.size+2,1,none⟩) n23 (.slice (some ad) n c)).set_ 0 (.int .i64 4)).set_ 1 (.string tFailed)).set_ 2 (.int .i64 0);have q0:=hb2.cell_ 0 _ rfl;have q1:=hb2.cell_ 1 _ rfl;have p0:=hb3.cell_ 0 _ rfl;have p1:=hb3.cell_ 1 _ rfl;have p2:=hb3.cell_ 2 _ rfl;clear hb2 hb3 R8 T8 b b8;refine anyB_on 2 fun K hK=>?_;go_simp;refine lateK hK ?_;clear hK K;refine anyB_on 3 fun K hK=>?_;go_simp;refine lateK hK ?_;clear hK K;refine anyB_dn ?_;clear u0 u1 v0 v1 v2 ff fg;generalize World.setCell _ _ _=w9 at FIN q0 q1 p0 p1 p2⊢;go_wp2_with fail
 refine bodyPost_ret (v:=.tuple #[.agg #[.slice Ar nr cr,.slice (some ad) n c],.agg #[.int .i64 4,.string tFailed,.int .i64 0]]) ?_ rfl ⟨rfl,FIN.out⟩;simp[results,results133,go_sem,q0,q1,p0,p1,p2]
theorem OwnO.pos{w:World}{B:Nat}{e:TypeId}{size n:Nat}{v:Value}{xs:List Value}(h:OwnO w B e size v n xs)(hn:0<n): ∃g off cap,v= .slice (some ⟨g,off,none⟩) n cap∧n≤cap∧(∀j,j<n*size→w.cell? ⟨g,off+j,none⟩=xs[j]?)∧∀j,w.frozen? ⟨g,j,none⟩=false:=by
 rcases h.2 with⟨_,e0⟩|⟨g,off,cap,cur,e,_,hg,hn',hm,hc,hx⟩
 ·omega
 ·refine⟨g,off,cap,e,hn',fun j hj=>?_,fun j=>Blk.frozen (w:=w) (g:=g) hg j⟩;rw[cell_of_row w g (off+j) cur _ (0,0) hg,←hx,List.getElem?_take_of_lt (by omega),List.getElem?_drop,Array.getElem?_toList]
def MV.freed(M:MV)(c s:Nat):MV:={M with known:=M.known.set s (M.ow c),owner:=M.owner.set s (-1),srv:=up M.srv c (-1)}
theorem OwR.forms{w:World}{B:Nat}{a b c:Value}{o:Ow}(h:OwR w B a b c o):(∃A k,a= .slice A o.set.length k)∧(∃A k,b= .slice A o.pre.length k)∧∃A k,c= .slice A o.sav.length k:=⟨h.set.form,h.pre.form,h.sav.form⟩
theorem free_any(w:World)(B p:Nat)(V:PV)(ks:List KV)(M:MV)(h:PoolR w B p V ks M)(c:Nat)(hc:c<6)(s:Nat)(hs:M.srv c=(s:Int))(hk:s<M.known.length)(ho:s<M.owner.length):
  Calls Tryz.prog 71 #[.pointer (some ⟨p,0,none⟩),.int .i64 (c:Nat)] w fun e w'=>e= .returned (.tuple #[])∧Done w B p V (M.freed c s) w':=by
 have g1:(c:Int)<6:=by omega
 have g2:(0:Int)≤(c:Int):=by omega
 have HR:=Hd h;have HS:=Hd hs;obtain⟨⟨A1,k1,e1⟩,⟨A2,k2,e2⟩,⟨A3,k3,e3⟩⟩:=(h.o.ow c hc).forms;have x3:w.cell? ⟨p,6+c*10+3,none⟩=some (.int .i64 (M.srv c)):=h.b.cellC (k:=3) hc (by decide)
 have x4:w.cell? ⟨p,6+c*10+4,none⟩=some (V.set c):=h.b.cellC (k:=4) hc (by decide)
 have x5:w.cell? ⟨p,6+c*10+5,none⟩=some (V.pre c):=h.b.cellC (k:=5) hc (by decide)
 have x6:w.cell? ⟨p,6+c*10+6,none⟩=some (V.sav c):=h.b.cellC (k:=6) hc (by decide)
 have x7:w.cell? ⟨p,6+c*10+7,none⟩=some (.int .i64 (M.ow c).st):=h.b.cellC (k:=7) hc (by decide)
 have y4:w.cell? ⟨p,4,none⟩=some V.owner:=h.b.cell (j:=4) (by decide)
 have y5:w.cell? ⟨p,5,none⟩=some V.known:=h.b.cell (j:=5) (by decide)
 have hkl:=h.o.klen;obtain⟨gk,fk,ck,eK,nk,cK,zK⟩:=h.o.known.pos (by omega)
 obtain⟨go,fo,co,eO,no_,cO,zO⟩:=h.o.owner.pos (by omega)
 have E1:=Hd e1;have E2:=Hd e2;have E3:=Hd e3;have EK:=Hd eK;have EO:=Hd eO;rw[hs]at x3;rw[e1]at x4;rw[e2]at x5;rw[e3]at x6;rw[eO]at y4;rw[eK]at y5;obtain⟨st,hst⟩: ∃z,(M.ow c).st=z:=⟨_,rfl⟩;rw[hst]at x7;have HST:=Hd hst;have fp:=h.b.frozen;have q1:(s:Int)<(ks.length:Int):=by omega
 have q2:(0:Int)≤(s:Int):=by omega
 have q3:(s:Int)<(M.owner.length:Int):=by omega
 have nkp:gk≠p:=fun e=>absurd (h.o.apart .known .pool p trivial trivial (by show V.known.ownBlock=_;rw[eK,e];rfl) rfl) (by simp)
 have nop:go≠p:=fun e=>absurd (h.o.apart .owner .pool p trivial trivial (by show V.owner.ownBlock=_;rw[eO,e];rfl) rfl) (by simp)
 have nko:gk≠go:=fun e=>absurd (h.o.apart .known .owner go trivial trivial (by show V.known.ownBlock=_;rw[eK,e];rfl) (by show V.owner.ownBlock=_;rw[eO];rfl)) (by simp)
 have CK:=Hd cK;have kc0: ∀j,j<4→∃u,w.cell? ⟨gk,fk+s*4+j,none⟩=some u:=fun j hj=>by
  have hl:(ks.flatMap KV.cells).length=ks.length*4:=by have:=h.o.known.1;exact this
  rw[Nat.add_assoc,cK (s*4+j) (by omega)]
  exact⟨_,List.getElem?_eq_getElem (by omega)⟩
 obtain⟨u0,z0⟩:=kc0 0 (by decide)
 rw[Nat.add_zero]at z0;obtain⟨u1,z1⟩:=kc0 1 (by decide)
 obtain⟨u2,z2⟩:=kc0 2 (by decide)
 obtain⟨u3,z3⟩:=kc0 3 (by decide)
 have oc: ∃u,w.cell? ⟨go,fo+s,none⟩=some u:=by
  have hl:(intV M.owner).length=M.owner.length*1:=h.o.owner.1;rw[cO s (by omega)]
  exact⟨_,List.getElem?_eq_getElem (by omega)⟩
 obtain⟨u4,z4⟩:=oc;obtain⟨n,hn⟩: ∃n,ks.length=n:=⟨_,rfl⟩;obtain⟨m,hm⟩: ∃n,M.owner.length=n:=⟨_,rfl⟩;rw[hn]at y5 q1 nk;rw[hm]at y4 q3 no_;have HN:=Hd hn;have HM:=Hd hm;clear h hs e1 e2 e3 hst cK cO kc0 hkl hn hm eK eO;go_enter func71,ntmps71
 go_upto_region 1 with fail
 refine region_sg [13] ?_;refine anyB_sg [0,1,2,3,4,5,6,7,8,9,10,11,12] 1 ?_;go_wp2_with fail
 refine sg_o ?_;refine anyB_on 13 fun K hK=>?_;go_simp;refine lateK hK ?_;clear hK K;refine anyB_dn ?_;have hr1:=HR.out.put_known EK.out s (by rw[HN.out];omega) ⟨V.set c,V.pre c,V.sav c,st⟩ (M.ow c) ⟨HR.out.o.ow c hc,HST.out.symm⟩
 simp only[E1.out,E2.out,E3.out]at hr1;have HR1:=Hd (And.intro (hr1.1.below bR.drew) (hr1.2.below bR.drew));clear hr1;clear z0 z1 z2 z3 z4 x3 x4 x5 x6 x7 y4 y5 q1 nk fp zK zO CK;generalize World.drew _=x1 at HR1⊢;have x3:x1.cell? ⟨p,6+c*10+3,none⟩=some (.int .i64 (M.srv c)):=HR1.out.1.b.cellC (k:=3) hc (by decide)
 rw[HS.out]at x3;have y4:x1.cell? ⟨p,4,none⟩=some V.owner:=HR1.out.1.b.cell (j:=4) (by decide)
 rw[EO.out,HM.out]at y4;obtain⟨_,_,_,eO',_,cO,zO⟩:=HR1.out.1.o.owner.pos (by show 0<M.owner.length;omega)
 have eO':=EO.out.symm.trans eO';injection eO' with e1 e2 e3;injection e1 with e1;injection e1 with e1 e4;subst e1 e4;have z4: ∃u,x1.cell? ⟨go,fo+s,none⟩=some u:=by
  have hl:(intV M.owner).length=M.owner.length*1:=HR1.out.1.o.owner.1;rw[cO s (by show s<M.owner.length*1;omega)]
  exact⟨_,List.getElem?_eq_getElem (by rw[hl];omega)⟩
 obtain⟨u4,z4⟩:=z4;clear e2 e3 cO;go_upto_region 2 with fail
 refine region_sg [9] ?_;refine anyB_sg [0,1,2,3,4,5,6,7,8] 1 ?_;go_wp2_with fail
 refine sg_o ?_;refine anyB_on 9 fun K hK=>?_;go_simp;refine lateK hK ?_;clear hK K;refine anyB_dn ?_;have hr2:=HR1.out.1.put_owner EO.out s (-1);have HR2:=Hd (And.intro (hr2.1.below bR.drew) ((HR1.out.2.trans hr2.2).below bR.drew));clear x3 y4 z4 zO HR1 hr2;generalize World.drew _=x2 at HR2⊢;have x3:x2.cell? ⟨p,6+c*10+3,none⟩=some (.int .i64 (M.srv c)):=HR2.out.1.b.cellC (k:=3) hc (by decide)
 have fp:=HR2.out.1.b.frozen;go_upto_region 3 with fail
 have HR3:=Hd (HR2.out.1.put_srv hc (-1));have T2:=Hd (HR2.out.2.trans HR3.out.2);go_wp2_with fail
 refine bodyPost_end (results_none rfl _ _ _) rfl ⟨rfl,_,_,HR3.out.1,T2.out⟩
theorem refdid_begun(w:World)(A:Option Addr)(n c:Nat)(Ar:Option Addr)(nr cr:Nat)(ss:List Se)(i:Nat)(key val:ByteArray)(hn:ss.length=n)(h:SL w w.heap.size (.slice A n c) ss)(hi:i<n)(hs0:(ss.getD i Se.new).st≠2)(hs1:(ss.getD i Se.new).st≠0):
  Calls Tryz.prog 133 #[.agg #[.slice Ar nr cr,.slice A n c],.int .i64 (i:Nat),.agg #[.int .i64 1,.string key,.string val]] w fun e w'=>
   e= .returned (.tuple #[.agg #[.slice Ar nr cr,.slice A n c],.agg #[.int .i64 4,.string tBegun,.int .i64 0]])∧Below w.heap.size w w':=by
 have hil:i<ss.length:=by omega
 have hgd:ss.getD i Se.new=ss[i]:=getD_at hil Se.new;obtain⟨A',c',e,hc,hz,hs⟩:=h;injection e with e1 e2 e3;subst e1 e3;obtain⟨ad,hA,hAB,hse⟩:=hs (by omega)
 subst hA;have y:=hse i hil;rw[hgd]at hs0 hs1;obtain⟨t,ht⟩: ∃t,ss[i]=t:=⟨_,rfl⟩;rw[ht]at y hs0 hs1;obtain⟨x0,⟨v1,x1,p1⟩,⟨v2,x2,p2⟩,⟨v3,x3,p3⟩,⟨v4,x4,p4⟩,-,-⟩:=y;obtain⟨A1,z1,rfl⟩:=p1.form;obtain⟨A2,z2,rfl⟩:=p2.form;obtain⟨A3,z3,rfl⟩:=p3.form;obtain⟨A4,z4,rfl⟩:=p4.form;have g1:(i:Int)<(n:Int):=by omega
 have g2:(0:Int)≤(i:Int):=by omega
 clear hs hse hgd hz hc ht p1 p2 p3 p4 e2;go_enter func133,ntmps133
 go_upto_region 1 with fail
 obtain⟨w4,hw4⟩: ∃w4,w4=((((w.alloc (.cells #[.slice Ar nr cr,.slice (some ad) n c] 39)).alloc (.cells #[.int .i64 1,.string key,.string val] 41)).alloc (.cells #[.slice none 0 0,.slice none 0 0] 39)).alloc (.cells #[.int .i64 0,.string ⟨#[]⟩,.int .i64 0] 46)):=⟨_,rfl⟩;obtain⟨d1,d2,d3,d4,d5,d6⟩:=did_boxes w _ _ ⟨1,key,val⟩ w4 hw4;have d4:Blk w4 (w.heap.size+1) 41 #[.int .i64 1,.string key,.string val]:=d4;rw[←hw4];have hlb:(ad.add (i*5)).block<w.heap.size:=by rw[block_of_add];exact hAB
 have y0:=(d1.cell hlb).trans x0;have y1:=(d1.cell (by exact hlb)).trans x1
 have y2:=(d1.cell (by exact hlb)).trans x2
 have y3:=(d1.cell (by exact hlb)).trans x3
 have y4:=(d1.cell (by exact hlb)).trans x4
 have f1:=d3.cell_ 1 _ rfl;have D1:=Hd d1;have D3:=Hd d3;have D4:=Hd d4;have D5:=Hd d5;have D6:=Hd d6;have D2:=Hd d2;clear x0 x1 x2 x3 x4 hw4 d1 d2 d3 d4 d5 d6 hlb;go_upto_region 2 with fail
 have bb:=boxed w4 (.cells #[.int .i64 t.st,.slice A1 t.set.length z1,.slice A2 t.pre.length z2,.slice A3 t.sav.length z3,.slice A4 t.wri.length z4] 133);have S5:=Blk.new w4 133 #[.int .i64 t.st,.slice A1 t.set.length z1,.slice A2 t.pre.length z2,.slice A3 t.sav.length z3,.slice A4 t.wri.length z4];have bb2:=boxed2 w4 (.cells #[.int .i64 t.st,.slice A1 t.set.length z1,.slice A2 t.pre.length z2,.slice A3 t.sav.length z3,.slice A4 t.wri.length z4] 133) (.cells #[.int .i64 1,.string ⟨#[]⟩,.int .i64 0] 46);clear y0 y1 y2 y3 y4 f1;go_upto_region 3 with fail
 have s0:=(S5.alloc (.cells #[.int .i64 1,.string ⟨#[]⟩,.int .i64 0] 46)).cell_ 0 _ rfl;have r0:=(D3.out.keep bb2).cell_ 0 _ rfl;have r1:=(D3.out.keep bb2).cell_ 1 _ rfl;have t0:=(D4.out.keep bb2).cell_ 0 _ rfl;have R2:=Hd (D5.out.keep bb2);have R3:=Hd (D6.out.keep bb2);have BB:=Hd (below_step D1.out leR bb2);have e2:(t.st==2)=false:=by simpa using hs0
 have e2':¬ t.st=2:=hs0;have e0:(t.st==0)=false:=by simpa using hs1
 have e0':¬ t.st=0:=hs1;clear bb bb2 S5;generalize (w4.alloc _).alloc _=w6 at s0 r0 r1 t0 R2 R3 BB⊢;go_upto_region 9 with fail
 refine region_sg [2,3] ?_;refine anyB_sg [0] 3 ?_;go_wp2_with fail
 refine sg_o ?_;have R2:=Hd (R2.out.keep bR.drew);have R3:=Hd (R3.out.keep bR.drew);have BB:=Hd BB.out.drew;clear s0 r0 r1 t0;generalize w6.drew=w7 at R2 R3 BB⊢;refine anyB_on 1 fun K hK=>?_;go_simp;refine(refno_any w7 tBegun).mono ?_;rintro e w8 ⟨rfl,b⟩;refine thK hK b ?_;clear hK K;have b8:=below_step BB.out leR b;have R8:=R2.out.keep b;have T8:=R3.out.keep b;have u0:=R8.cell_ 0 _ rfl;have u1:=R8.cell_ 1 _ rfl;have v0:=T8.cell_ 0 _ rfl;have v1:=T8.cell_ 1 _ rfl;have v2:=T8.cell_ 2 _ rfl;have ff:=R8.frozen;have fg:=T8.frozen;have n23:w.heap.size+3≠w.heap.size+2:=by omega
 have FIN:=Hd (((((b8.setCell (p:=⟨w.heap.size+2,0,none⟩) (by show w.heap.size≤w.heap.size+2;omega) (.slice Ar nr cr)).setCell (p:=⟨w.heap.size+2,1,none⟩) (by show w.heap.size≤w.heap.size+2;omega) (.slice (some ad) n c)).setCell (p:=⟨w.heap.size+3,0,none⟩) (by show w.heap.size≤w.heap.size+3;omega) (.int .i64 4)).setCell (p:=⟨w.heap.size+3,1,none⟩) (by show w.heap.size≤w.heap.size+3;omega) (.string tBegun)).setCell (p:=⟨w.heap.size+3,2,none⟩) (by show w.heap.size≤w.heap.size+3;omega) (.int .i64 0))
 have hb2:=((((R8.set_ 0 (.slice Ar nr cr)).set_ 1 (.slice (some ad) n c)).far (p:=⟨w.heap.size+3,0,none⟩) n23.symm (.int .i64 4)).far (p:=⟨w.heap.size+3,1,none⟩) n23.symm (.string tBegun)).far (p:=⟨w.heap.size+3,2,none⟩) n23.symm (.int .i64 0);have hb3:=((((T8.far (p:=⟨w.heap.size+2,0,none⟩) n23 (.slice Ar nr cr)).far (p:=⟨w.heap.size+2,1,none⟩) n23 (.slice (some ad) n c)).set_ 0 (.int .i64 4)).set_ 1 (.string tBegun)).set_ 2 (.int .i64 0);have q0:=hb2.cell_ 0 _ rfl;have q1:=hb2.cell_ 1 _ rfl;have p0:=hb3.cell_ 0 _ rfl;have p1:=hb3.cell_ 1 _ rfl;have p2:=hb3.cell_ 2 _ rfl;clear hb2 hb3 R8 T8 b b8;refine anyB_on 2 fun K hK=>?_;go_simp;refine lateK hK ?_;clear hK K;refine anyB_on 3 fun K hK=>?_;go_simp;refine lateK hK ?_;clear hK K;refine anyB_dn ?_;clear u0 u1 v0 v1 v2 ff fg;generalize World.setCell _ _ _=w9 at FIN q0 q1 p0 p1 p2⊢;go_wp2_with fail
 refine bodyPost_ret (v:=.tuple #[.agg #[.slice Ar nr cr,.slice (some ad) n c],.agg #[.int .i64 4,.string tBegun,.int .i64 0]]) ?_ rfl ⟨rfl,FIN.out⟩;simp[results,results133,go_sem,q0,q1,p0,p1,p2]
theorem refdid_notx2(w:World)(A:Option Addr)(n c:Nat)(Ar:Option Addr)(nr cr:Nat)(ss:List Se)(i:Nat)(key val:ByteArray)(hn:ss.length=n)(h:SL w w.heap.size (.slice A n c) ss)(hi:i<n)(hs0:(ss.getD i Se.new).st=0):
  Calls Tryz.prog 133 #[.agg #[.slice Ar nr cr,.slice A n c],.int .i64 (i:Nat),.agg #[.int .i64 2,.string key,.string val]] w fun e w'=>
   e= .returned (.tuple #[.agg #[.slice Ar nr cr,.slice A n c],.agg #[.int .i64 4,.string tNoTx,.int .i64 0]])∧Below w.heap.size w w':=by
 have hil:i<ss.length:=by omega
 have hgd:ss.getD i Se.new=ss[i]:=getD_at hil Se.new;obtain⟨A',c',e,hc,hz,hs⟩:=h;injection e with e1 e2 e3;subst e1 e3;obtain⟨ad,hA,hAB,hse⟩:=hs (by omega)
 subst hA;have y:=hse i hil;rw[hgd]at hs0;obtain⟨t,ht⟩: ∃t,ss[i]=t:=⟨_,rfl⟩;rw[ht]at y hs0;obtain⟨x0,⟨v1,x1,p1⟩,⟨v2,x2,p2⟩,⟨v3,x3,p3⟩,⟨v4,x4,p4⟩,-,-⟩:=y;obtain⟨A1,z1,rfl⟩:=p1.form;obtain⟨A2,z2,rfl⟩:=p2.form;obtain⟨A3,z3,rfl⟩:=p3.form;obtain⟨A4,z4,rfl⟩:=p4.form;have g1:(i:Int)<(n:Int):=by omega
 have g2:(0:Int)≤(i:Int):=by omega
 clear hs hse hgd hz hc ht p1 p2 p3 p4 e2;rw[hs0]at x0;clear hs0;go_enter func133,ntmps133
 go_upto_region 1 with fail
 obtain⟨w4,hw4⟩: ∃w4,w4=((((w.alloc (.cells #[.slice Ar nr cr,.slice (some ad) n c] 39)).alloc (.cells #[.int .i64 2,.string key,.string val] 41)).alloc (.cells #[.slice none 0 0,.slice none 0 0] 39)).alloc (.cells #[.int .i64 0,.string ⟨#[]⟩,.int .i64 0] 46)):=⟨_,rfl⟩;obtain⟨d1,d2,d3,d4,d5,d6⟩:=did_boxes w _ _ ⟨2,key,val⟩ w4 hw4;have d4:Blk w4 (w.heap.size+1) 41 #[.int .i64 2,.string key,.string val]:=d4;rw[←hw4];have hlb:(ad.add (i*5)).block<w.heap.size:=by rw[block_of_add];exact hAB
 have y0:=(d1.cell hlb).trans x0;have y1:=(d1.cell (by exact hlb)).trans x1
 have y2:=(d1.cell (by exact hlb)).trans x2
 have y3:=(d1.cell (by exact hlb)).trans x3
 have y4:=(d1.cell (by exact hlb)).trans x4
 have f1:=d3.cell_ 1 _ rfl;have D1:=Hd d1;have D3:=Hd d3;have D4:=Hd d4;have D5:=Hd d5;have D6:=Hd d6;have D2:=Hd d2;clear x0 x1 x2 x3 x4 hw4 d1 d2 d3 d4 d5 d6 hlb;go_upto_region 2 with fail
 have bb:=boxed w4 (.cells #[.int .i64 0,.slice A1 t.set.length z1,.slice A2 t.pre.length z2,.slice A3 t.sav.length z3,.slice A4 t.wri.length z4] 133);have S5:=Blk.new w4 133 #[.int .i64 0,.slice A1 t.set.length z1,.slice A2 t.pre.length z2,.slice A3 t.sav.length z3,.slice A4 t.wri.length z4];have bb2:=boxed2 w4 (.cells #[.int .i64 0,.slice A1 t.set.length z1,.slice A2 t.pre.length z2,.slice A3 t.sav.length z3,.slice A4 t.wri.length z4] 133) (.cells #[.int .i64 1,.string ⟨#[]⟩,.int .i64 0] 46);clear y0 y1 y2 y3 y4 f1;go_upto_region 3 with fail
 have s0:=(S5.alloc (.cells #[.int .i64 1,.string ⟨#[]⟩,.int .i64 0] 46)).cell_ 0 _ rfl;have r0:=(D3.out.keep bb2).cell_ 0 _ rfl;have r1:=(D3.out.keep bb2).cell_ 1 _ rfl;have t0:=(D4.out.keep bb2).cell_ 0 _ rfl;have R2:=Hd (D5.out.keep bb2);have R3:=Hd (D6.out.keep bb2);have BB:=Hd (below_step D1.out leR bb2);clear bb bb2 S5;generalize (w4.alloc _).alloc _=w6 at s0 r0 r1 t0 R2 R3 BB⊢;go_upto_region 15 with fail
 refine region_sg [2,3] ?_;refine anyB_sg [0] 3 ?_;go_wp2_with fail
 refine sg_o ?_;have R2:=Hd (R2.out.keep bR.drew);have R3:=Hd (R3.out.keep bR.drew);have BB:=Hd BB.out.drew;clear s0 r0 r1 t0;generalize w6.drew=w7 at R2 R3 BB⊢;refine anyB_on 1 fun K hK=>?_;go_simp;refine(refno_any w7 tNoTx).mono ?_;rintro e w8 ⟨rfl,b⟩;refine thK hK b ?_;clear hK K;have b8:=below_step BB.out leR b;have R8:=R2.out.keep b;have T8:=R3.out.keep b;have u0:=R8.cell_ 0 _ rfl;have u1:=R8.cell_ 1 _ rfl;have v0:=T8.cell_ 0 _ rfl;have v1:=T8.cell_ 1 _ rfl;have v2:=T8.cell_ 2 _ rfl;have ff:=R8.frozen;have fg:=T8.frozen;have n23:w.heap.size+3≠w.heap.size+2:=by omega
 have FIN:=Hd (((((b8.setCell (p:=⟨w.heap.size+2,0,none⟩) (by show w.heap.size≤w.heap.size+2;omega) (.slice Ar nr cr)).setCell (p:=⟨w.heap.size+2,1,none⟩) (by show w.heap.size≤w.heap.size+2;omega) (.slice (some ad) n c)).setCell (p:=⟨w.heap.size+3,0,none⟩) (by show w.heap.size≤w.heap.size+3;omega) (.int .i64 4)).setCell (p:=⟨w.heap.size+3,1,none⟩) (by show w.heap.size≤w.heap.size+3;omega) (.string tNoTx)).setCell (p:=⟨w.heap.size+3,2,none⟩) (by show w.heap.size≤w.heap.size+3;omega) (.int .i64 0))
 have hb2:=((((R8.set_ 0 (.slice Ar nr cr)).set_ 1 (.slice (some ad) n c)).far (p:=⟨w.heap.size+3,0,none⟩) n23.symm (.int .i64 4)).far (p:=⟨w.heap.size+3,1,none⟩) n23.symm (.string tNoTx)).far (p:=⟨w.heap.size+3,2,none⟩) n23.symm (.int .i64 0);have hb3:=((((T8.far (p:=⟨w.heap.size+2,0,none⟩) n23 (.slice Ar nr cr)).far (p:=⟨w.heap.size+2,1,none⟩) n23 (.slice (some ad) n c)).set_ 0 (.int .i64 4)).set_ 1 (.string tNoTx)).set_ 2 (.int .i64 0);have q0:=hb2.cell_ 0 _ rfl;have q1:=hb2.cell_ 1 _ rfl;have p0:=hb3.cell_ 0 _ rfl;have p1:=hb3.cell_ 1 _ rfl;have p2:=hb3.cell_ 2 _ rfl;clear hb2 hb3 R8 T8 b b8;refine anyB_on 2 fun K hK=>?_;go_simp;refine lateK hK ?_;clear hK K;refine anyB_on 3 fun K hK=>?_;go_simp;refine lateK hK ?_;clear hK K;refine anyB_dn ?_;clear u0 u1 v0 v1 v2 ff fg;generalize World.setCell _ _ _=w9 at FIN q0 q1 p0 p1 p2⊢;go_wp2_with fail
 refine bodyPost_ret (v:=.tuple #[.agg #[.slice Ar nr cr,.slice (some ad) n c],.agg #[.int .i64 4,.string tNoTx,.int .i64 0]]) ?_ rfl ⟨rfl,FIN.out⟩;simp[results,results133,go_sem,q0,q1,p0,p1,p2]
theorem refdid_notx3(w:World)(A:Option Addr)(n c:Nat)(Ar:Option Addr)(nr cr:Nat)(ss:List Se)(i:Nat)(key val:ByteArray)(hn:ss.length=n)(h:SL w w.heap.size (.slice A n c) ss)(hi:i<n)(hs0:(ss.getD i Se.new).st=0):
  Calls Tryz.prog 133 #[.agg #[.slice Ar nr cr,.slice A n c],.int .i64 (i:Nat),.agg #[.int .i64 3,.string key,.string val]] w fun e w'=>
   e= .returned (.tuple #[.agg #[.slice Ar nr cr,.slice A n c],.agg #[.int .i64 4,.string tNoTx,.int .i64 0]])∧Below w.heap.size w w':=by
 have hil:i<ss.length:=by omega
 have hgd:ss.getD i Se.new=ss[i]:=getD_at hil Se.new;obtain⟨A',c',e,hc,hz,hs⟩:=h;injection e with e1 e2 e3;subst e1 e3;obtain⟨ad,hA,hAB,hse⟩:=hs (by omega)
 subst hA;have y:=hse i hil;rw[hgd]at hs0;obtain⟨t,ht⟩: ∃t,ss[i]=t:=⟨_,rfl⟩;rw[ht]at y hs0;obtain⟨x0,⟨v1,x1,p1⟩,⟨v2,x2,p2⟩,⟨v3,x3,p3⟩,⟨v4,x4,p4⟩,-,-⟩:=y;obtain⟨A1,z1,rfl⟩:=p1.form;obtain⟨A2,z2,rfl⟩:=p2.form;obtain⟨A3,z3,rfl⟩:=p3.form;obtain⟨A4,z4,rfl⟩:=p4.form;have g1:(i:Int)<(n:Int):=by omega
 have g2:(0:Int)≤(i:Int):=by omega
 clear hs hse hgd hz hc ht p1 p2 p3 p4 e2;rw[hs0]at x0;clear hs0;go_enter func133,ntmps133
 go_upto_region 1 with fail
 obtain⟨w4,hw4⟩: ∃w4,w4=((((w.alloc (.cells #[.slice Ar nr cr,.slice (some ad) n c] 39)).alloc (.cells #[.int .i64 3,.string key,.string val] 41)).alloc (.cells #[.slice none 0 0,.slice none 0 0] 39)).alloc (.cells #[.int .i64 0,.string ⟨#[]⟩,.int .i64 0] 46)):=⟨_,rfl⟩;obtain⟨d1,d2,d3,d4,d5,d6⟩:=did_boxes w _ _ ⟨3,key,val⟩ w4 hw4;have d4:Blk w4 (w.heap.size+1) 41 #[.int .i64 3,.string key,.string val]:=d4;rw[←hw4];have hlb:(ad.add (i*5)).block<w.heap.size:=by rw[block_of_add];exact hAB
 have y0:=(d1.cell hlb).trans x0;have y1:=(d1.cell (by exact hlb)).trans x1
 have y2:=(d1.cell (by exact hlb)).trans x2
 have y3:=(d1.cell (by exact hlb)).trans x3
 have y4:=(d1.cell (by exact hlb)).trans x4
 have f1:=d3.cell_ 1 _ rfl;have D1:=Hd d1;have D3:=Hd d3;have D4:=Hd d4;have D5:=Hd d5;have D6:=Hd d6;have D2:=Hd d2;clear x0 x1 x2 x3 x4 hw4 d1 d2 d3 d4 d5 d6 hlb;go_upto_region 2 with fail
 have bb:=boxed w4 (.cells #[.int .i64 0,.slice A1 t.set.length z1,.slice A2 t.pre.length z2,.slice A3 t.sav.length z3,.slice A4 t.wri.length z4] 133);have S5:=Blk.new w4 133 #[.int .i64 0,.slice A1 t.set.length z1,.slice A2 t.pre.length z2,.slice A3 t.sav.length z3,.slice A4 t.wri.length z4];have bb2:=boxed2 w4 (.cells #[.int .i64 0,.slice A1 t.set.length z1,.slice A2 t.pre.length z2,.slice A3 t.sav.length z3,.slice A4 t.wri.length z4] 133) (.cells #[.int .i64 1,.string ⟨#[]⟩,.int .i64 0] 46);clear y0 y1 y2 y3 y4 f1;go_upto_region 3 with fail
 have s0:=(S5.alloc (.cells #[.int .i64 1,.string ⟨#[]⟩,.int .i64 0] 46)).cell_ 0 _ rfl;have r0:=(D3.out.keep bb2).cell_ 0 _ rfl;have r1:=(D3.out.keep bb2).cell_ 1 _ rfl;have t0:=(D4.out.keep bb2).cell_ 0 _ rfl;have R2:=Hd (D5.out.keep bb2);have R3:=Hd (D6.out.keep bb2);have BB:=Hd (below_step D1.out leR bb2);clear bb bb2 S5;generalize (w4.alloc _).alloc _=w6 at s0 r0 r1 t0 R2 R3 BB⊢;go_upto_region 15 with fail
 refine region_sg [2,3] ?_;refine anyB_sg [0] 3 ?_;go_wp2_with fail
 refine sg_o ?_;have R2:=Hd (R2.out.keep bR.drew);have R3:=Hd (R3.out.keep bR.drew);have BB:=Hd BB.out.drew;clear s0 r0 r1 t0;generalize w6.drew=w7 at R2 R3 BB⊢;refine anyB_on 1 fun K hK=>?_;go_simp;refine(refno_any w7 tNoTx).mono ?_;rintro e w8 ⟨rfl,b⟩;refine thK hK b ?_;clear hK K;have b8:=below_step BB.out leR b;have R8:=R2.out.keep b;have T8:=R3.out.keep b;have u0:=R8.cell_ 0 _ rfl;have u1:=R8.cell_ 1 _ rfl;have v0:=T8.cell_ 0 _ rfl;have v1:=T8.cell_ 1 _ rfl;have v2:=T8.cell_ 2 _ rfl;have ff:=R8.frozen;have fg:=T8.frozen;have n23:w.heap.size+3≠w.heap.size+2:=by omega
 have FIN:=Hd (((((b8.setCell (p:=⟨w.heap.size+2,0,none⟩) (by show w.heap.size≤w.heap.size+2;omega) (.slice Ar nr cr)).setCell (p:=⟨w.heap.size+2,1,none⟩) (by show w.heap.size≤w.heap.size+2;omega) (.slice (some ad) n c)).setCell (p:=⟨w.heap.size+3,0,none⟩) (by show w.heap.size≤w.heap.size+3;omega) (.int .i64 4)).setCell (p:=⟨w.heap.size+3,1,none⟩) (by show w.heap.size≤w.heap.size+3;omega) (.string tNoTx)).setCell (p:=⟨w.heap.size+3,2,none⟩) (by show w.heap.size≤w.heap.size+3;omega) (.int .i64 0))
 have hb2:=((((R8.set_ 0 (.slice Ar nr cr)).set_ 1 (.slice (some ad) n c)).far (p:=⟨w.heap.size+3,0,none⟩) n23.symm (.int .i64 4)).far (p:=⟨w.heap.size+3,1,none⟩) n23.symm (.string tNoTx)).far (p:=⟨w.heap.size+3,2,none⟩) n23.symm (.int .i64 0);have hb3:=((((T8.far (p:=⟨w.heap.size+2,0,none⟩) n23 (.slice Ar nr cr)).far (p:=⟨w.heap.size+2,1,none⟩) n23 (.slice (some ad) n c)).set_ 0 (.int .i64 4)).set_ 1 (.string tNoTx)).set_ 2 (.int .i64 0);have q0:=hb2.cell_ 0 _ rfl;have q1:=hb2.cell_ 1 _ rfl;have p0:=hb3.cell_ 0 _ rfl;have p1:=hb3.cell_ 1 _ rfl;have p2:=hb3.cell_ 2 _ rfl;clear hb2 hb3 R8 T8 b b8;refine anyB_on 2 fun K hK=>?_;go_simp;refine lateK hK ?_;clear hK K;refine anyB_on 3 fun K hK=>?_;go_simp;refine lateK hK ?_;clear hK K;refine anyB_dn ?_;clear u0 u1 v0 v1 v2 ff fg;generalize World.setCell _ _ _=w9 at FIN q0 q1 p0 p1 p2⊢;go_wp2_with fail
 refine bodyPost_ret (v:=.tuple #[.agg #[.slice Ar nr cr,.slice (some ad) n c],.agg #[.int .i64 4,.string tNoTx,.int .i64 0]]) ?_ rfl ⟨rfl,FIN.out⟩;simp[results,results133,go_sem,q0,q1,p0,p1,p2]
theorem refdid_notin(w:World)(A:Option Addr)(n c:Nat)(Ar:Option Addr)(nr cr:Nat)(ss:List Se)(i:Nat)(key val:ByteArray)(hn:ss.length=n)(h:SL w w.heap.size (.slice A n c) ss)(hi:i<n)(hs0:(ss.getD i Se.new).st≠2)(hs1:(ss.getD i Se.new).st≠0):
  Calls Tryz.prog 133 #[.agg #[.slice Ar nr cr,.slice A n c],.int .i64 (i:Nat),.agg #[.int .i64 4,.string key,.string val]] w fun e w'=>
   e= .returned (.tuple #[.agg #[.slice Ar nr cr,.slice A n c],.agg #[.int .i64 4,.string tNotIn,.int .i64 0]])∧Below w.heap.size w w':=by
 have hil:i<ss.length:=by omega
 have hgd:ss.getD i Se.new=ss[i]:=getD_at hil Se.new;obtain⟨A',c',e,hc,hz,hs⟩:=h;injection e with e1 e2 e3;subst e1 e3;obtain⟨ad,hA,hAB,hse⟩:=hs (by omega)
 subst hA;have y:=hse i hil;rw[hgd]at hs0 hs1;obtain⟨t,ht⟩: ∃t,ss[i]=t:=⟨_,rfl⟩;rw[ht]at y hs0 hs1;obtain⟨x0,⟨v1,x1,p1⟩,⟨v2,x2,p2⟩,⟨v3,x3,p3⟩,⟨v4,x4,p4⟩,-,-⟩:=y;obtain⟨A1,z1,rfl⟩:=p1.form;obtain⟨A2,z2,rfl⟩:=p2.form;obtain⟨A3,z3,rfl⟩:=p3.form;obtain⟨A4,z4,rfl⟩:=p4.form;have g1:(i:Int)<(n:Int):=by omega
 have g2:(0:Int)≤(i:Int):=by omega
 clear hs hse hgd hz hc ht p1 p2 p3 p4 e2;go_enter func133,ntmps133
 go_upto_region 1 with fail
 obtain⟨w4,hw4⟩: ∃w4,w4=((((w.alloc (.cells #[.slice Ar nr cr,.slice (some ad) n c] 39)).alloc (.cells #[.int .i64 4,.string key,.string val] 41)).alloc (.cells #[.slice none 0 0,.slice none 0 0] 39)).alloc (.cells #[.int .i64 0,.string ⟨#[]⟩,.int .i64 0] 46)):=⟨_,rfl⟩;obtain⟨d1,d2,d3,d4,d5,d6⟩:=did_boxes w _ _ ⟨4,key,val⟩ w4 hw4;have d4:Blk w4 (w.heap.size+1) 41 #[.int .i64 4,.string key,.string val]:=d4;rw[←hw4];have hlb:(ad.add (i*5)).block<w.heap.size:=by rw[block_of_add];exact hAB
 have y0:=(d1.cell hlb).trans x0;have y1:=(d1.cell (by exact hlb)).trans x1
 have y2:=(d1.cell (by exact hlb)).trans x2
 have y3:=(d1.cell (by exact hlb)).trans x3
 have y4:=(d1.cell (by exact hlb)).trans x4
 have f1:=d3.cell_ 1 _ rfl;have D1:=Hd d1;have D3:=Hd d3;have D4:=Hd d4;have D5:=Hd d5;have D6:=Hd d6;have D2:=Hd d2;clear x0 x1 x2 x3 x4 hw4 d1 d2 d3 d4 d5 d6 hlb;go_upto_region 2 with fail
 have bb:=boxed w4 (.cells #[.int .i64 t.st,.slice A1 t.set.length z1,.slice A2 t.pre.length z2,.slice A3 t.sav.length z3,.slice A4 t.wri.length z4] 133);have S5:=Blk.new w4 133 #[.int .i64 t.st,.slice A1 t.set.length z1,.slice A2 t.pre.length z2,.slice A3 t.sav.length z3,.slice A4 t.wri.length z4];have bb2:=boxed2 w4 (.cells #[.int .i64 t.st,.slice A1 t.set.length z1,.slice A2 t.pre.length z2,.slice A3 t.sav.length z3,.slice A4 t.wri.length z4] 133) (.cells #[.int .i64 1,.string ⟨#[]⟩,.int .i64 0] 46);clear y0 y1 y2 y3 y4 f1;go_upto_region 3 with fail
 have s0:=(S5.alloc (.cells #[.int .i64 1,.string ⟨#[]⟩,.int .i64 0] 46)).cell_ 0 _ rfl;have r0:=(D3.out.keep bb2).cell_ 0 _ rfl;have r1:=(D3.out.keep bb2).cell_ 1 _ rfl;have t0:=(D4.out.keep bb2).cell_ 0 _ rfl;have R2:=Hd (D5.out.keep bb2);have R3:=Hd (D6.out.keep bb2);have BB:=Hd (below_step D1.out leR bb2);have e2:(t.st==2)=false:=by simpa using hs0
 have e2':¬ t.st=2:=hs0;have e0:(t.st==0)=false:=by simpa using hs1
 have e0':¬ t.st=0:=hs1;clear bb bb2 S5;generalize (w4.alloc _).alloc _=w6 at s0 r0 r1 t0 R2 R3 BB⊢;go_upto_region 27 with fail
 refine region_sg [2,3] ?_;refine anyB_sg [0] 3 ?_;go_wp2_with fail
 refine sg_o ?_;have R2:=Hd (R2.out.keep bR.drew);have R3:=Hd (R3.out.keep bR.drew);have BB:=Hd BB.out.drew;clear s0 r0 r1 t0;generalize w6.drew=w7 at R2 R3 BB⊢;refine anyB_on 1 fun K hK=>?_;go_simp;refine(refno_any w7 tNotIn).mono ?_;rintro e w8 ⟨rfl,b⟩;refine thK hK b ?_;clear hK K;have b8:=below_step BB.out leR b;have R8:=R2.out.keep b;have T8:=R3.out.keep b;have u0:=R8.cell_ 0 _ rfl;have u1:=R8.cell_ 1 _ rfl;have v0:=T8.cell_ 0 _ rfl;have v1:=T8.cell_ 1 _ rfl;have v2:=T8.cell_ 2 _ rfl;have ff:=R8.frozen;have fg:=T8.frozen;have n23:w.heap.size+3≠w.heap.size+2:=by omega
 have FIN:=Hd (((((b8.setCell (p:=⟨w.heap.size+2,0,none⟩) (by show w.heap.size≤w.heap.size+2;omega) (.slice Ar nr cr)).setCell (p:=⟨w.heap.size+2,1,none⟩) (by show w.heap.size≤w.heap.size+2;omega) (.slice (some ad) n c)).setCell (p:=⟨w.heap.size+3,0,none⟩) (by show w.heap.size≤w.heap.size+3;omega) (.int .i64 4)).setCell (p:=⟨w.heap.size+3,1,none⟩) (by show w.heap.size≤w.heap.size+3;omega) (.string tNotIn)).setCell (p:=⟨w.heap.size+3,2,none⟩) (by show w.heap.size≤w.heap.size+3;omega) (.int .i64 0))
 have hb2:=((((R8.set_ 0 (.slice Ar nr cr)).set_ 1 (.slice (some ad) n c)).far (p:=⟨w.heap.size+3,0,none⟩) n23.symm (.int .i64 4)).far (p:=⟨w.heap.size+3,1,none⟩) n23.symm (.string tNotIn)).far (p:=⟨w.heap.size+3,2,none⟩) n23.symm (.int .i64 0);have hb3:=((((T8.far (p:=⟨w.heap.size+2,0,none⟩) n23 (.slice Ar nr cr)).far (p:=⟨w.heap.size+2,1,none⟩) n23 (.slice (some ad) n c)).set_ 0 (.int .i64 4)).set_ 1 (.string tNotIn)).set_ 2 (.int .i64 0);have q0:=hb2.cell_ 0 _ rfl;have q1:=hb2.cell_ 1 _ rfl;have p0:=hb3.cell_ 0 _ rfl;have p1:=hb3.cell_ 1 _ rfl;have p2:=hb3.cell_ 2 _ rfl;clear hb2 hb3 R8 T8 b b8;refine anyB_on 2 fun K hK=>?_;go_simp;refine lateK hK ?_;clear hK K;refine anyB_on 3 fun K hK=>?_;go_simp;refine lateK hK ?_;clear hK K;refine anyB_dn ?_;clear u0 u1 v0 v1 v2 ff fg;generalize World.setCell _ _ _=w9 at FIN q0 q1 p0 p1 p2⊢;go_wp2_with fail
 refine bodyPost_ret (v:=.tuple #[.agg #[.slice Ar nr cr,.slice (some ad) n c],.agg #[.int .i64 4,.string tNotIn,.int .i64 0]]) ?_ rfl ⟨rfl,FIN.out⟩;simp[results,results133,go_sem,q0,q1,p0,p1,p2]
theorem refdid_asked(w:World)(A:Option Addr)(n c:Nat)(Ar:Option Addr)(nr cr:Nat)(ss:List Se)(i:Nat)(key val:ByteArray)(hn:ss.length=n)(h:SL w w.heap.size (.slice A n c) ss)(hi:i<n)(hs0:(ss.getD i Se.new).st≠2):
  Calls Tryz.prog 133 #[.agg #[.slice Ar nr cr,.slice A n c],.int .i64 (i:Nat),.agg #[.int .i64 5,.string key,.string val]] w fun e w'=>
   e= .returned (.tuple #[.agg #[.slice Ar nr cr,.slice A n c],.agg #[.int .i64 4,.string tAsked,.int .i64 0]])∧Below w.heap.size w w':=by
 have hil:i<ss.length:=by omega
 have hgd:ss.getD i Se.new=ss[i]:=getD_at hil Se.new;obtain⟨A',c',e,hc,hz,hs⟩:=h;injection e with e1 e2 e3;subst e1 e3;obtain⟨ad,hA,hAB,hse⟩:=hs (by omega)
 subst hA;have y:=hse i hil;rw[hgd]at hs0;obtain⟨t,ht⟩: ∃t,ss[i]=t:=⟨_,rfl⟩;rw[ht]at y hs0;obtain⟨x0,⟨v1,x1,p1⟩,⟨v2,x2,p2⟩,⟨v3,x3,p3⟩,⟨v4,x4,p4⟩,-,-⟩:=y;obtain⟨A1,z1,rfl⟩:=p1.form;obtain⟨A2,z2,rfl⟩:=p2.form;obtain⟨A3,z3,rfl⟩:=p3.form;obtain⟨A4,z4,rfl⟩:=p4.form;have g1:(i:Int)<(n:Int):=by omega
 have g2:(0:Int)≤(i:Int):=by omega
 clear hs hse hgd hz hc ht p1 p2 p3 p4 e2;go_enter func133,ntmps133
 go_upto_region 1 with fail
 obtain⟨w4,hw4⟩: ∃w4,w4=((((w.alloc (.cells #[.slice Ar nr cr,.slice (some ad) n c] 39)).alloc (.cells #[.int .i64 5,.string key,.string val] 41)).alloc (.cells #[.slice none 0 0,.slice none 0 0] 39)).alloc (.cells #[.int .i64 0,.string ⟨#[]⟩,.int .i64 0] 46)):=⟨_,rfl⟩;obtain⟨d1,d2,d3,d4,d5,d6⟩:=did_boxes w _ _ ⟨5,key,val⟩ w4 hw4;have d4:Blk w4 (w.heap.size+1) 41 #[.int .i64 5,.string key,.string val]:=d4;rw[←hw4];have hlb:(ad.add (i*5)).block<w.heap.size:=by rw[block_of_add];exact hAB
 have y0:=(d1.cell hlb).trans x0;have y1:=(d1.cell (by exact hlb)).trans x1
 have y2:=(d1.cell (by exact hlb)).trans x2
 have y3:=(d1.cell (by exact hlb)).trans x3
 have y4:=(d1.cell (by exact hlb)).trans x4
 have f1:=d3.cell_ 1 _ rfl;have D1:=Hd d1;have D3:=Hd d3;have D4:=Hd d4;have D5:=Hd d5;have D6:=Hd d6;have D2:=Hd d2;clear x0 x1 x2 x3 x4 hw4 d1 d2 d3 d4 d5 d6 hlb;go_upto_region 2 with fail
 have bb:=boxed w4 (.cells #[.int .i64 t.st,.slice A1 t.set.length z1,.slice A2 t.pre.length z2,.slice A3 t.sav.length z3,.slice A4 t.wri.length z4] 133);have S5:=Blk.new w4 133 #[.int .i64 t.st,.slice A1 t.set.length z1,.slice A2 t.pre.length z2,.slice A3 t.sav.length z3,.slice A4 t.wri.length z4];have bb2:=boxed2 w4 (.cells #[.int .i64 t.st,.slice A1 t.set.length z1,.slice A2 t.pre.length z2,.slice A3 t.sav.length z3,.slice A4 t.wri.length z4] 133) (.cells #[.int .i64 1,.string ⟨#[]⟩,.int .i64 0] 46);clear y0 y1 y2 y3 y4 f1;go_upto_region 3 with fail
 have s0:=(S5.alloc (.cells #[.int .i64 1,.string ⟨#[]⟩,.int .i64 0] 46)).cell_ 0 _ rfl;have r0:=(D3.out.keep bb2).cell_ 0 _ rfl;have r1:=(D3.out.keep bb2).cell_ 1 _ rfl;have t0:=(D4.out.keep bb2).cell_ 0 _ rfl;have R2:=Hd (D5.out.keep bb2);have R3:=Hd (D6.out.keep bb2);have BB:=Hd (below_step D1.out leR bb2);have e2:(t.st==2)=false:=by simpa using hs0
 have e2':¬ t.st=2:=hs0;clear bb bb2 S5;generalize (w4.alloc _).alloc _=w6 at s0 r0 r1 t0 R2 R3 BB⊢;go_upto_region 31 with fail
 refine region_sg [2,3] ?_;refine anyB_sg [0] 3 ?_;go_wp2_with fail
 refine sg_o ?_;have R2:=Hd (R2.out.keep bR.drew);have R3:=Hd (R3.out.keep bR.drew);have BB:=Hd BB.out.drew;clear s0 r0 r1 t0;generalize w6.drew=w7 at R2 R3 BB⊢;refine anyB_on 1 fun K hK=>?_;go_simp;refine(refno_any w7 tAsked).mono ?_;rintro e w8 ⟨rfl,b⟩;refine thK hK b ?_;clear hK K;have b8:=below_step BB.out leR b;have R8:=R2.out.keep b;have T8:=R3.out.keep b;have u0:=R8.cell_ 0 _ rfl;have u1:=R8.cell_ 1 _ rfl;have v0:=T8.cell_ 0 _ rfl;have v1:=T8.cell_ 1 _ rfl;have v2:=T8.cell_ 2 _ rfl;have ff:=R8.frozen;have fg:=T8.frozen;have n23:w.heap.size+3≠w.heap.size+2:=by omega
 have FIN:=Hd (((((b8.setCell (p:=⟨w.heap.size+2,0,none⟩) (by show w.heap.size≤w.heap.size+2;omega) (.slice Ar nr cr)).setCell (p:=⟨w.heap.size+2,1,none⟩) (by show w.heap.size≤w.heap.size+2;omega) (.slice (some ad) n c)).setCell (p:=⟨w.heap.size+3,0,none⟩) (by show w.heap.size≤w.heap.size+3;omega) (.int .i64 4)).setCell (p:=⟨w.heap.size+3,1,none⟩) (by show w.heap.size≤w.heap.size+3;omega) (.string tAsked)).setCell (p:=⟨w.heap.size+3,2,none⟩) (by show w.heap.size≤w.heap.size+3;omega) (.int .i64 0))
 have hb2:=((((R8.set_ 0 (.slice Ar nr cr)).set_ 1 (.slice (some ad) n c)).far (p:=⟨w.heap.size+3,0,none⟩) n23.symm (.int .i64 4)).far (p:=⟨w.heap.size+3,1,none⟩) n23.symm (.string tAsked)).far (p:=⟨w.heap.size+3,2,none⟩) n23.symm (.int .i64 0);have hb3:=((((T8.far (p:=⟨w.heap.size+2,0,none⟩) n23 (.slice Ar nr cr)).far (p:=⟨w.heap.size+2,1,none⟩) n23 (.slice (some ad) n c)).set_ 0 (.int .i64 4)).set_ 1 (.string tAsked)).set_ 2 (.int .i64 0);have q0:=hb2.cell_ 0 _ rfl;have q1:=hb2.cell_ 1 _ rfl;have p0:=hb3.cell_ 0 _ rfl;have p1:=hb3.cell_ 1 _ rfl;have p2:=hb3.cell_ 2 _ rfl;clear hb2 hb3 R8 T8 b b8;refine anyB_on 2 fun K hK=>?_;go_simp;refine lateK hK ?_;clear hK K;refine anyB_on 3 fun K hK=>?_;go_simp;refine lateK hK ?_;clear hK K;refine anyB_dn ?_;clear u0 u1 v0 v1 v2 ff fg;generalize World.setCell _ _ _=w9 at FIN q0 q1 p0 p1 p2⊢;go_wp2_with fail
 refine bodyPost_ret (v:=.tuple #[.agg #[.slice Ar nr cr,.slice (some ad) n c],.agg #[.int .i64 4,.string tAsked,.int .i64 0]]) ?_ rfl ⟨rfl,FIN.out⟩;simp[results,results133,go_sem,q0,q1,p0,p1,p2]
theorem refdid_get(w:World)(A:Option Addr)(n c:Nat)(Ar:Option Addr)(nr cr:Nat)(ss:List Se)(i:Nat)(key val:ByteArray)(hn:ss.length=n)(h:SL w w.heap.size (.slice A n c) ss)(hi:i<n)(hs0:(ss.getD i Se.new).st≠2):
  Calls Tryz.prog 133 #[.agg #[.slice Ar nr cr,.slice A n c],.int .i64 (i:Nat),.agg #[.int .i64 6,.string key,.string val]] w fun e w'=>
   e= .returned (.tuple #[.agg #[.slice Ar nr cr,.slice A n c],(if hasK (ss.getD i Se.new).set key=true then .agg #[.int .i64 2,.string ((atP (ss.getD i Se.new).set key).getD ⟨#[]⟩),.int .i64 0]else .agg #[.int .i64 3,.string ⟨#[]⟩,.int .i64 0])])∧Below w.heap.size w w':=by
 have hil:i<ss.length:=by omega
 have hgd:ss.getD i Se.new=ss[i]:=getD_at hil Se.new;obtain⟨A',c',e,hc,hz,hs⟩:=h;injection e with e1 e2 e3;subst e1 e3;obtain⟨ad,hA,hAB,hse⟩:=hs (by omega)
 subst hA;have y:=hse i hil;have hgd2:(ss.getD i Se.new).set=ss[i].set:=by rw[hgd]
 rw[hgd2];rw[hgd]at hs0;obtain⟨t,ht⟩: ∃t,ss[i]=t:=⟨_,rfl⟩;rw[ht]at y hs0;rw[ht];obtain⟨x0,⟨v1,x1,p1⟩,⟨v2,x2,p2⟩,⟨v3,x3,p3⟩,⟨v4,x4,p4⟩,-,-⟩:=y;obtain⟨A1,z1,rfl⟩:=p1.form;obtain⟨A2,z2,rfl⟩:=p2.form;obtain⟨A3,z3,rfl⟩:=p3.form;obtain⟨A4,z4,rfl⟩:=p4.form;have g1:(i:Int)<(n:Int):=by omega
 have g2:(0:Int)≤(i:Int):=by omega
 have P1:=Hd (fun(u:World) (hb:Below w.heap.size w u)=>(p1.below hb).more hb.size);clear hs hse hgd hgd2 hz hc ht p1 p2 p3 p4 e2;go_enter func133,ntmps133
 go_upto_region 1 with fail
 obtain⟨w4,hw4⟩: ∃w4,w4=((((w.alloc (.cells #[.slice Ar nr cr,.slice (some ad) n c] 39)).alloc (.cells #[.int .i64 6,.string key,.string val] 41)).alloc (.cells #[.slice none 0 0,.slice none 0 0] 39)).alloc (.cells #[.int .i64 0,.string ⟨#[]⟩,.int .i64 0] 46)):=⟨_,rfl⟩;obtain⟨d1,d2,d3,d4,d5,d6⟩:=did_boxes w _ _ ⟨6,key,val⟩ w4 hw4;have d4:Blk w4 (w.heap.size+1) 41 #[.int .i64 6,.string key,.string val]:=d4;rw[←hw4];have hlb:(ad.add (i*5)).block<w.heap.size:=by rw[block_of_add];exact hAB
 have y0:=(d1.cell hlb).trans x0;have y1:=(d1.cell (by exact hlb)).trans x1
 have y2:=(d1.cell (by exact hlb)).trans x2
 have y3:=(d1.cell (by exact hlb)).trans x3
 have y4:=(d1.cell (by exact hlb)).trans x4
 have f1:=d3.cell_ 1 _ rfl;have D1:=Hd d1;have D3:=Hd d3;have D4:=Hd d4;have D5:=Hd d5;have D6:=Hd d6;have D2:=Hd d2;clear x0 x1 x2 x3 x4 hw4 d1 d2 d3 d4 d5 d6 hlb;go_upto_region 2 with fail
 have bb:=boxed w4 (.cells #[.int .i64 t.st,.slice A1 t.set.length z1,.slice A2 t.pre.length z2,.slice A3 t.sav.length z3,.slice A4 t.wri.length z4] 133);have S5:=Blk.new w4 133 #[.int .i64 t.st,.slice A1 t.set.length z1,.slice A2 t.pre.length z2,.slice A3 t.sav.length z3,.slice A4 t.wri.length z4];have bb2:=boxed2 w4 (.cells #[.int .i64 t.st,.slice A1 t.set.length z1,.slice A2 t.pre.length z2,.slice A3 t.sav.length z3,.slice A4 t.wri.length z4] 133) (.cells #[.int .i64 1,.string ⟨#[]⟩,.int .i64 0] 46);clear y0 y1 y2 y3 y4 f1;go_upto_region 3 with fail
 have s0:=(S5.alloc (.cells #[.int .i64 1,.string ⟨#[]⟩,.int .i64 0] 46)).cell_ 0 _ rfl;have r0:=(D3.out.keep bb2).cell_ 0 _ rfl;have r1:=(D3.out.keep bb2).cell_ 1 _ rfl;have t0:=(D4.out.keep bb2).cell_ 0 _ rfl;have R2:=Hd (D5.out.keep bb2);have R3:=Hd (D6.out.keep bb2);have BB:=Hd (below_step D1.out leR bb2);have e2:(t.st==2)=false:=by simpa using hs0
 have e2':¬ t.st=2:=hs0;have s1:=(S5.alloc (.cells #[.int .i64 1,.string ⟨#[]⟩,.int .i64 0] 46)).cell_ 1 _ rfl;have t1:=(D4.out.keep bb2).cell_ 1 _ rfl;clear bb bb2 S5;generalize (w4.alloc _).alloc _=w6 at s0 s1 r0 r1 t0 t1 R2 R3 BB⊢;have W6:=Hd (D3.out);go_wp2_with fail
 refine(refat_val w6 _ t.set key (P1.out _ BB.out)).mono ?_;rintro e w7 ⟨rfl,b⟩;obtain⟨a0,ha0⟩: ∃a,(atP t.set key).getD ⟨#[]⟩=a:=⟨_,rfl⟩;obtain⟨b0,hb0⟩: ∃b,hasK t.set key=b:=⟨_,rfl⟩;rw[ha0,hb0];have k0:w7.cell? ⟨w.heap.size,0,none⟩=some (.slice Ar nr cr):=(b.cell (World.block_lt_of_cell? _ _ r0)).trans r0;have k1:w7.cell? ⟨w.heap.size,1,none⟩=some (.slice (some ad) n c):=(b.cell (World.block_lt_of_cell? _ _ r1)).trans r1;have R2:=Hd (R2.out.keep b);have R3:=Hd (R3.out.keep b);have BB:=Hd (below_step BB.out leR b);have HA:=Hd ha0;have HB0:=Hd hb0;clear s0 s1 r0 r1 t0 t1 b ha0 hb0;go_upto_region 34 with fail
 refine region_sg [4,5] ?_;refine anyB_sg [0,1,2] 3 ?_;go_wp2_with fail
 refine sg_o ?_;have R2:=Hd (R2.out.keep bR.drew);have R3:=Hd (R3.out.keep bR.drew);have BB:=Hd BB.out.drew;clear k0 k1;generalize w7.drew=w7 at R2 R3 BB⊢;cases b0 with
 |true=>
  have hf:=reffound_any w7 a0 true;simp only[if_true]at hf;refine anyB_on 3 fun K hK=>?_;go_simp;refine hf.mono ?_;rintro e w8 ⟨rfl,b⟩;refine thK hK b ?_;clear hK K;have b8:=below_step BB.out leR b;have R8:=R2.out.keep b;have T8:=R3.out.keep b;have u0:=R8.cell_ 0 _ rfl;have u1:=R8.cell_ 1 _ rfl;have v0:=T8.cell_ 0 _ rfl;have v1:=T8.cell_ 1 _ rfl;have v2:=T8.cell_ 2 _ rfl;have ff:=R8.frozen;have fg:=T8.frozen;have n23:w.heap.size+3≠w.heap.size+2:=by omega
  have FIN:=Hd (((((b8.setCell (p:=⟨w.heap.size+2,0,none⟩) (by show w.heap.size≤w.heap.size+2;omega) (.slice Ar nr cr)).setCell (p:=⟨w.heap.size+2,1,none⟩) (by show w.heap.size≤w.heap.size+2;omega) (.slice (some ad) n c)).setCell (p:=⟨w.heap.size+3,0,none⟩) (by show w.heap.size≤w.heap.size+3;omega) (.int .i64 2)).setCell (p:=⟨w.heap.size+3,1,none⟩) (by show w.heap.size≤w.heap.size+3;omega) (.string a0)).setCell (p:=⟨w.heap.size+3,2,none⟩) (by show w.heap.size≤w.heap.size+3;omega) (.int .i64 0))
  have hb2:=((((R8.set_ 0 (.slice Ar nr cr)).set_ 1 (.slice (some ad) n c)).far (p:=⟨w.heap.size+3,0,none⟩) n23.symm (.int .i64 2)).far (p:=⟨w.heap.size+3,1,none⟩) n23.symm (.string a0)).far (p:=⟨w.heap.size+3,2,none⟩) n23.symm (.int .i64 0);have hb3:=((((T8.far (p:=⟨w.heap.size+2,0,none⟩) n23 (.slice Ar nr cr)).far (p:=⟨w.heap.size+2,1,none⟩) n23 (.slice (some ad) n c)).set_ 0 (.int .i64 2)).set_ 1 (.string a0)).set_ 2 (.int .i64 0);have q0:=hb2.cell_ 0 _ rfl;have q1:=hb2.cell_ 1 _ rfl;have p0:=hb3.cell_ 0 _ rfl;have p1:=hb3.cell_ 1 _ rfl;have p2:=hb3.cell_ 2 _ rfl;clear hb2 hb3 R8 T8 b b8;refine anyB_on 4 fun K hK=>?_;go_simp;refine lateK hK ?_;clear hK K;refine anyB_on 5 fun K hK=>?_;go_simp;refine lateK hK ?_;clear hK K;refine anyB_dn ?_;clear u0 u1 v0 v1 v2 ff fg;generalize World.setCell _ _ _=w9 at FIN q0 q1 p0 p1 p2⊢;have hb9:=HB0.out;go_wp2_with fail
  refine bodyPost_ret (v:=.tuple #[.agg #[.slice Ar nr cr,.slice (some ad) n c],.agg #[.int .i64 2,.string a0,.int .i64 0]]) ?_ rfl ⟨by simp[HA.out],FIN.out⟩
  simp[results,results133,go_sem,q0,q1,p0,p1,p2]
 |false=>
  have hf:=reffound_any w7 a0 false;simp only[Bool.false_eq_true,if_false]at hf;refine anyB_on 3 fun K hK=>?_;go_simp;refine hf.mono ?_;rintro e w8 ⟨rfl,b⟩;refine thK hK b ?_;clear hK K;have b8:=below_step BB.out leR b;have R8:=R2.out.keep b;have T8:=R3.out.keep b;have u0:=R8.cell_ 0 _ rfl;have u1:=R8.cell_ 1 _ rfl;have v0:=T8.cell_ 0 _ rfl;have v1:=T8.cell_ 1 _ rfl;have v2:=T8.cell_ 2 _ rfl;have ff:=R8.frozen;have fg:=T8.frozen;have n23:w.heap.size+3≠w.heap.size+2:=by omega
  have FIN:=Hd (((((b8.setCell (p:=⟨w.heap.size+2,0,none⟩) (by show w.heap.size≤w.heap.size+2;omega) (.slice Ar nr cr)).setCell (p:=⟨w.heap.size+2,1,none⟩) (by show w.heap.size≤w.heap.size+2;omega) (.slice (some ad) n c)).setCell (p:=⟨w.heap.size+3,0,none⟩) (by show w.heap.size≤w.heap.size+3;omega) (.int .i64 3)).setCell (p:=⟨w.heap.size+3,1,none⟩) (by show w.heap.size≤w.heap.size+3;omega) (.string ⟨#[]⟩)).setCell (p:=⟨w.heap.size+3,2,none⟩) (by show w.heap.size≤w.heap.size+3;omega) (.int .i64 0))
  have hb2:=((((R8.set_ 0 (.slice Ar nr cr)).set_ 1 (.slice (some ad) n c)).far (p:=⟨w.heap.size+3,0,none⟩) n23.symm (.int .i64 3)).far (p:=⟨w.heap.size+3,1,none⟩) n23.symm (.string ⟨#[]⟩)).far (p:=⟨w.heap.size+3,2,none⟩) n23.symm (.int .i64 0);have hb3:=((((T8.far (p:=⟨w.heap.size+2,0,none⟩) n23 (.slice Ar nr cr)).far (p:=⟨w.heap.size+2,1,none⟩) n23 (.slice (some ad) n c)).set_ 0 (.int .i64 3)).set_ 1 (.string ⟨#[]⟩)).set_ 2 (.int .i64 0);have q0:=hb2.cell_ 0 _ rfl;have q1:=hb2.cell_ 1 _ rfl;have p0:=hb3.cell_ 0 _ rfl;have p1:=hb3.cell_ 1 _ rfl;have p2:=hb3.cell_ 2 _ rfl;clear hb2 hb3 R8 T8 b b8;refine anyB_on 4 fun K hK=>?_;go_simp;refine lateK hK ?_;clear hK K;refine anyB_on 5 fun K hK=>?_;go_simp;refine lateK hK ?_;clear hK K;refine anyB_dn ?_;clear u0 u1 v0 v1 v2 ff fg;generalize World.setCell _ _ _=w9 at FIN q0 q1 p0 p1 p2⊢;have hb9:=HB0.out;go_wp2_with fail
  ·exact absurd (hb9.symm.trans (by assumption)) (by decide)
  refine bodyPost_ret (v:=.tuple #[.agg #[.slice Ar nr cr,.slice (some ad) n c],.agg #[.int .i64 3,.string ⟨#[]⟩,.int .i64 0]]) ?_ rfl ⟨by simp,FIN.out⟩
  simp[results,results133,go_sem,q0,q1,p0,p1,p2]
end Go.Proofs.YtjbnfigpflambacGreatDoor
