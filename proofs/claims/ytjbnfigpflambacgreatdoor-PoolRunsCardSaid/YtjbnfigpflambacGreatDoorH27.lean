/- (pool).bind. Conditions: those of each lemma. -/
import Derived.Test.YtjbnfigpflambacGreatDoorH06
import Derived.Test.YtjbnfigpflambacGreatDoorH23
namespace Go.Proofs.YtjbnfigpflambacGreatDoor
set_option maxRecDepth 100000
set_option maxHeartbeats 16000000
open _root_.Go.Proofs.Tryz
open Go.ChangeShapes Go.WideShapes Go.ChangeAt Go.RowKit
theorem Turn.keeps{w w':World}{B p:Nat}{V V':PV}{ks:List KV}{M:MV}(t:Turn p w V w' V')(h:PoolO w B p V ks M){ty:TypeId}(ht: ∀r:Role,r.ty≠ty):Keeps ty w w':=fun g cs fr hg=>
 (t.block g (heap_lt hg) fun hm=>by
  obtain⟨r,hr,e⟩:=hm;obtain⟨_,_,cs',hb⟩:=h.at_ hr e;unfold Blk at hb;rw[hg]at hb;injection hb with hb;injection hb with _ h2;exact ht r h2.symm).trans hg
structure OwS(wr wx:World)(z6 z7:Option Nat):Prop where
 hb:Below wr.heap.size wr wx
 b6: ∀z,z6=some z→Blk wx z 92 #[.slice none 0 0,.slice none 0 0,.slice none 0 0,.int .i64 0]∧wr.heap.size≤z
 b7: ∀z,z7=some z→Blk wx z 92 #[.slice none 0 0,.slice none 0 0,.slice none 0 0,.int .i64 0]∧wr.heap.size≤z
 ne: ∀z y,z6=some z→z7=some y→z≠y
structure OwN(wr wy:World)(z6 z7:Nat)(a b c d a' b' c' d':Value):Prop where
 hb:Below wr.heap.size wr wy
 b6:Blk wy z6 92 #[a,b,c,d]
 b7:Blk wy z7 92 #[a',b',c',d']
 l6:wr.heap.size≤z6
 l7:wr.heap.size≤z7
section
variable {wr wx wy:World}{z6 z7:Option Nat}
theorem OwS.start(wr:World):OwS wr wr none none:=⟨bR,fun _ h=>(by cases h),fun _ h=>(by cases h),fun _ _ h=>(by cases h)⟩
theorem OwS.keep(h:OwS wr wx z6 z7)(hb:Below wx.heap.size wx wy):OwS wr wy z6 z7:=
 ⟨below_step h.hb leR hb,fun z hz=>⟨(h.b6 z hz).1.keep hb,(h.b6 z hz).2⟩,fun z hz=>⟨(h.b7 z hz).1.keep hb,(h.b7 z hz).2⟩,h.ne⟩
theorem OwS.f6(h:OwS wr wx none z7):OwS wr (wx.alloc (.cells #[.slice none 0 0,.slice none 0 0,.slice none 0 0,.int .i64 0] 92)) (some wx.heap.size) z7:=by
 have k:=h.keep (boxed wx (.cells #[.slice none 0 0,.slice none 0 0,.slice none 0 0,.int .i64 0] 92));exact⟨k.hb,fun z hz=>(by injection hz with hz;subst hz;exact⟨Blk.new wx _ _,h.hb.size⟩),k.b7,fun z y hz hy=>by
  injection hz with hz;have:=(h.b7 y hy).1.lt;omega⟩
theorem OwS.f7(h:OwS wr wx z6 none):OwS wr (wx.alloc (.cells #[.slice none 0 0,.slice none 0 0,.slice none 0 0,.int .i64 0] 92)) z6 (some wx.heap.size):=by
 have k:=h.keep (boxed wx (.cells #[.slice none 0 0,.slice none 0 0,.slice none 0 0,.int .i64 0] 92));exact⟨k.hb,k.b6,fun z hz=>(by injection hz with hz;subst hz;exact⟨Blk.new wx _ _,h.hb.size⟩),fun z y hz hy=>by
  injection hy with hy;have:=(h.b6 z hz).1.lt;omega⟩
theorem OwS.fin{z6 z7:Nat}(h:OwS wr wx (some z6) (some z7))(a b c d a' b' c' d':Value)
  (e:wy=(((((((wx.setCell ⟨z6,0,none⟩ a).setCell ⟨z6,1,none⟩ b).setCell ⟨z6,2,none⟩ c).setCell ⟨z6,3,none⟩ d).setCell ⟨z7,0,none⟩ a').setCell ⟨z7,1,none⟩ b').setCell ⟨z7,2,none⟩ c').setCell ⟨z7,3,none⟩ d'):OwN wr wy z6 z7 a b c d a' b' c' d':=by
 subst e;obtain⟨b6,l6⟩:=h.b6 _ rfl;obtain⟨b7,l7⟩:=h.b7 _ rfl;have ne:=h.ne _ _ rfl rfl;have ne6: ∀j,z7≠(⟨z6,j,none⟩:Addr).block:=fun _=>Ne.symm ne;have ne7: ∀j,z6≠(⟨z7,j,none⟩:Addr).block:=fun _=>ne;have m6: ∀j,wr.heap.size≤(⟨z6,j,none⟩:Addr).block:=fun _=>l6;have m7: ∀j,wr.heap.size≤(⟨z7,j,none⟩:Addr).block:=fun _=>l7;exact⟨(((((((h.hb.setCell (m6 0) _).setCell (m6 1) _).setCell (m6 2) _).setCell (m6 3) _).setCell (m7 0) _).setCell (m7 1) _).setCell (m7 2) _).setCell (m7 3) _,
  ((((((((b6.set_ 0 a).set_ 1 b).set_ 2 c).set_ 3 d).far (ne7 0) _).far (ne7 1) _).far (ne7 2) _).far (ne7 3) _),
  ((((((((b7.far (ne6 0) _).far (ne6 1) _).far (ne6 2) _).far (ne6 3) _).set_ 0 a').set_ 1 b').set_ 2 c').set_ 3 d'),l6,l7⟩
end
open Classical in
noncomputable def bindV(M:MV)(s c:Nat):Wo:=
 if(M.ow c).set=(M.known.getD s Ow.new).set∧(M.ow c).pre=(M.known.getD s Ow.new).pre then M.w
 else sayAll (sayAll (poDo M.w s resetS).1 s 9 (M.ow c).set) s 11 (M.ow c).pre
noncomputable def MV.bound(M:MV)(s c:Nat):MV:={M with owner:=M.owner.set s (c:Int),srv:=up M.srv c (s:Int),w:=bindV M s c}
theorem poDo_len(w:Wo)(s:Nat)(x:St):(poDo w s x).1.ses.length=w.ses.length:=by
 unfold poDo;split
 ·exact doW_length _ _ _
 ·rfl
theorem say_len(s:Nat)(k:Int): ∀(l:List Pr) (w:Wo),(sayAll w s k l).ses.length=w.ses.length
 |[],_=>rfl
 |_::l,_=>(say_len s k l _).trans (poDo_len _ _ _)
theorem say_take(w:Wo)(s:Nat)(k:Int)(l:List Pr){i:Nat}(h:i<l.length):sayAll w s k (l.take (i+1))=(poDo (sayAll w s k (l.take i)) s ⟨k,l[i].k,l[i].v⟩).1:=by
 unfold sayAll;rw[List.take_succ_eq_append_getElem h,List.foldl_append];rfl
structure BindL(w wx:World)(B p:Nat)(V:PV)(M:MV)(c s z6:Nat)(W:Wo)(A1:Option Addr)(n1 k1:Nat)(A2:Option Addr)(n2 k2:Nat):Prop where
 r: ∃V' ks',PoolR wx B p V' ks' {M with owner:=M.owner.set s (c:Int),srv:=up M.srv c (s:Int),w:=W}∧Turn p w V wx V'∧¬ V'.mine p z6
 b6: ∃u v,Blk wx z6 92 #[.slice A1 n1 k1,.slice A2 n2 k2,u,v]
theorem BindL.keep{w wx wy:World}{B p:Nat}{V:PV}{M:MV}{c s z6:Nat}{W:Wo}{A1:Option Addr}{n1 k1:Nat}{A2:Option Addr}{n2 k2:Nat}(h:BindL w wx B p V M c s z6 W A1 n1 k1 A2 n2 k2)(hb:Below wx.heap.size wx wy):BindL w wy B p V M c s z6 W A1 n1 k1 A2 n2 k2:=by
 obtain⟨V',ks',r,t,n⟩:=h.r;obtain⟨u,v,b⟩:=h.b6;exact⟨⟨V',ks',r.below hb,t.below hb,n⟩,u,v,b.keep hb⟩
theorem BindL.did{w wx wy:World}{B p:Nat}{V V1:PV}{ks1:List KV}{M:MV}{c s z6:Nat}{W W':Wo}{A1:Option Addr}{n1 k1:Nat}{A2:Option Addr}{n2 k2:Nat}{u v:Value}(_r:PoolR wx B p V1 ks1 {M with owner:=M.owner.set s (c:Int),srv:=up M.srv c (s:Int),w:=W})(t:Turn p w V wx V1)(n:¬ V1.mine p z6)
  (b:Blk wx z6 92 #[.slice A1 n1 k1,.slice A2 n2 k2,u,v]) (d:Done wx B p V1 {M with owner:=M.owner.set s (c:Int),srv:=up M.srv c (s:Int),w:=W'} wy):BindL w wy B p V M c s z6 W' A1 n1 k1 A2 n2 k2:=by
 obtain⟨V2,ks2,r2,t2⟩:=d;exact⟨⟨V2,ks2,r2,t.trans t2,t2.not b.lt n⟩,u,v,t2.box b n⟩
theorem bind_any(w:World)(B p:Nat)(V:PV)(ks:List KV)(M:MV)(h:PoolR w B p V ks M)(hT:TabB w B)(c s:Nat)(hc:c<6)(hk:s<M.known.length)(ho:s<M.owner.length)(h8:M.w.ses.length≤1000)(hs8:s≤1000):
  Calls Tryz.prog 78 #[.pointer (some ⟨p,0,none⟩),.int .i64 (s:Nat),.int .i64 (c:Nat)] w fun e w'=>e= .returned (.tuple #[])∧Done w B p V (M.bound s c) w':=by
 have g1:(c:Int)<6:=by omega
 have g2:(0:Int)≤(c:Int):=by omega
 have HR:=Hd h;have HT:=Hd hT;have H8:=Hd h8;have HKN:=Hd hk;have hkl:=h.o.klen;have y4:w.cell? ⟨p,4,none⟩=some V.owner:=h.b.cell (j:=4) (by decide)
 have x3:w.cell? ⟨p,6+c*10+3,none⟩=some (.int .i64 (M.srv c)):=h.b.cellC (k:=3) hc (by decide)
 obtain⟨go,fo,co,eO,no_,cO,zO⟩:=h.o.owner.pos (by omega)
 have EO:=Hd eO;rw[eO]at y4;have q1:(s:Int)<(M.owner.length:Int):=by omega
 have q2:(0:Int)≤(s:Int):=by omega
 have nop:go≠p:=fun e=>absurd (h.o.apart .owner .pool p trivial trivial (by show V.owner.ownBlock=_;rw[eO,e];rfl) rfl) (by simp)
 have oc: ∃u,w.cell? ⟨go,fo+s,none⟩=some u:=by
  have hl:(intV M.owner).length=M.owner.length*1:=h.o.owner.1;rw[cO s (by omega)]
  exact⟨_,List.getElem?_eq_getElem (by omega)⟩
 obtain⟨u4,z4⟩:=oc;have fp:=h.b.frozen;obtain⟨m,hm⟩: ∃n,M.owner.length=n:=⟨_,rfl⟩;rw[hm]at y4 q1;have HM:=Hd hm;have HKL:=Hd hkl;clear h hT h8 hkl hm cO eO no_;go_enter func78,ntmps78
 go_upto_region 0 with fail
 refine region_sg [10,15] ?_;refine anyB_sg [0,1,2,3,4,5,6,7,8,9,11,12] 4 ?_;go_wp2_with fail
 refine sg_o ?_;refine anyB_on 10 fun K hK=>?_;go_simp;refine lateK hK ?_;clear hK K;refine anyB_sg [13,14] 1 ?_;go_wp2_with fail
 refine sg_o ?_;refine anyB_on 15 fun K hK=>?_;go_simp;refine lateK hK ?_;clear hK K;refine anyB_dn ?_;have hr1:=HR.out.put_owner EO.out s (c:Int);have hr2:=hr1.1.put_srv hc (s:Int);have L1:=Hd (And.intro (hr2.1.below bR.drew) ((hr1.2.trans hr2.2).below bR.drew));clear hr1 hr2 y4 x3 z4 zO fp;generalize World.drew _=x1 at L1⊢;have r1:=L1.out.1;obtain⟨⟨A1,k1,e1⟩,⟨A2,k2,e2⟩,⟨A3,k3,e3⟩⟩:=(r1.o.ow c hc).forms;have hks:s<ks.length:=by rw[HKL.out];exact hk
 obtain⟨⟨A4,k4,e4⟩,⟨A5,k5,e5⟩,⟨A6,k6,e6⟩⟩:=(r1.o.kn s hks).1.forms;obtain⟨x4,x5,x6,x7⟩:x1.cell? ⟨p,6+c*10+4,none⟩=some (V.set c)∧x1.cell? ⟨p,6+c*10+5,none⟩=some (V.pre c)∧x1.cell? ⟨p,6+c*10+6,none⟩=some (V.sav c)∧x1.cell? ⟨p,6+c*10+7,none⟩=some (.int .i64 (M.ow c).st):=
  ⟨r1.b.cellC (k:=4) hc (by decide),r1.b.cellC (k:=5) hc (by decide),r1.b.cellC (k:=6) hc (by decide),r1.b.cellC (k:=7) hc (by decide)⟩
 have y5:x1.cell? ⟨p,5,none⟩=some V.known:=r1.b.cell (j:=5) (by decide)
 obtain⟨gk,fk,ck,eK,nk,cK,zK⟩:=r1.o.known.pos (by omega)
 have kc: ∀j,j<4→x1.cell? ⟨gk,fk+s*4+j,none⟩=(ks[s].cells)[j]? :=fun j hj=>by
  rw[Nat.add_assoc,cK (s*4+j) (by omega)]
  have h0:ks.flatMap KV.cells=(ks.set s ks[s]).flatMap KV.cells:=by rw[List.set_getElem_self]
  have hl:(ks.flatMap KV.cells).length=ks.length*4:=r1.o.known.1;rw[h0,flat_set KV.cells 4 kv_len ks s ks[s] hks];have h3:((ks.flatMap KV.cells).take (s*4)).length=s*4:=by rw[List.length_take];omega
  rw[List.getElem?_append_left (by rw[List.length_append,h3,kv_len];omega),List.getElem?_append_right (by omega),h3]
  congr 1
  omega
 have kst:=(r1.o.kn s hks).2;obtain⟨KV1,hKV⟩: ∃k,ks[s]=k:=⟨_,rfl⟩;rw[hKV]at kc e4 e5 e6 kst;have z0:x1.cell? ⟨gk,fk+s*4,none⟩=some KV1.set:=kc 0 (by decide)
 have z1:x1.cell? ⟨gk,fk+s*4+1,none⟩=some KV1.pre:=kc 1 (by decide)
 have z2:x1.cell? ⟨gk,fk+s*4+2,none⟩=some KV1.sav:=kc 2 (by decide)
 have z3:x1.cell? ⟨gk,fk+s*4+3,none⟩=some (.int .i64 KV1.st):=kc 3 (by decide)
 have O1:=Hd (r1.o.ow c hc);have O2:=Hd (r1.o.kn s hks).1;rw[hKV]at O2;rw[e1]at x4;rw[e2]at x5;rw[e3]at x6;rw[eK]at y5;rw[e4]at z0;rw[e5]at z1;rw[e6]at z2;rw[e1,e2]at O1;rw[e4,e5]at O2;simp only at x4 x5 x6 x7 e1 e2 e3 e4 e5 e6 O1 O2 z0 z1 z2;obtain⟨n1,hn1⟩: ∃n,(M.ow c).set.length=n:=⟨_,rfl⟩;obtain⟨n2,hn2⟩: ∃n,(M.ow c).pre.length=n:=⟨_,rfl⟩;obtain⟨n3,hn3⟩: ∃n,(M.ow c).sav.length=n:=⟨_,rfl⟩;obtain⟨st,hst⟩: ∃n,(M.ow c).st=n:=⟨_,rfl⟩;obtain⟨n4,hn4⟩: ∃n,(M.known.getD s Ow.new).set.length=n:=⟨_,rfl⟩;obtain⟨n5,hn5⟩: ∃n,(M.known.getD s Ow.new).pre.length=n:=⟨_,rfl⟩;obtain⟨n6,hn6⟩: ∃n,(M.known.getD s Ow.new).sav.length=n:=⟨_,rfl⟩;obtain⟨st2,hst2⟩: ∃n,KV1.st=n:=⟨_,rfl⟩;rw[hn1]at x4 O1;rw[hn2]at x5 O1;rw[hn3]at x6;rw[hst]at x7;rw[hn4]at z0 O2;rw[hn5]at z1 O2;rw[hn6]at z2;rw[hst2]at z3;have q3:(s:Int)<(ks.length:Int):=by omega
 obtain⟨nK,hnK⟩: ∃n,ks.length=n:=⟨_,rfl⟩;rw[hnK]at y5 q3;have HN1:=Hd hn1;have HN2:=Hd hn2;rw[hn1]at e1;rw[hn2]at e2;have E1:=Hd e1;have E2:=Hd e2;clear r1 e1 e2 e3 e4 e5 e6 kc cK zK kst hKV hn1 hn2 hn3 hst hn4 hn5 hn6 hst2 hnK eK nk;go_upto_region 1 with fail
 go_cut [6,7] (fun p6 p7 wc=>∃z6 z7,p6= .pointer (some ⟨z6,0,none⟩)∧p7= .pointer (some ⟨z7,0,none⟩)∧OwN x1 wc z6 z7 (.slice A1 n1 k1) (.slice A2 n2 k2) (.slice A3 n3 k3) (.int .i64 st) (.slice A4 n4 k4) (.slice A5 n5 k5) (.slice A6 n6 k6) (.int .i64 st2))
 case first=>
  refine region_sgO [] ?_;refine anyO_sg true [0,1,2,3,4,5,6,7,8,9,10,11,12,13] 4 ?_ (fun _=>rfl);go_wp2_with fail
  refine sg_o ?_;have S0:=Hd ((OwS.start x1).keep bR.drew);clear x4 x5 x6 x7 y5 z0 z1 z2 z3;generalize x1.drew=x0 at S0⊢;refine anyO_tw 14 15 (fun K hK=>?_) fun K hK=>?_
  ·go_simp;refine thK hK ((boxed _ _).mono S0.out.hb.size) ?_;clear hK K;have S1:=Hd S0.out.f6;obtain⟨z6,hz⟩: ∃z,x0.heap.size=z:=⟨_,rfl⟩;rw[hz]at S1⊢;generalize World.alloc _ _=x1 at S1⊢;clear S0 hz;refine anyO_on 15 fun K hK=>?_;go_simp;refine thK hK ((boxed _ _).mono S1.out.hb.size) ?_;clear hK K;have S2:=Hd S1.out.f7;obtain⟨z7,hz⟩: ∃z,x1.heap.size=z:=⟨_,rfl⟩;rw[hz]at S2⊢;generalize World.alloc _ _=x2 at S2⊢;clear S1 hz;obtain⟨b6,l6⟩:=S2.out.b6 _ rfl;obtain⟨b7,l7⟩:=S2.out.b7 _ rfl;have n67:=S2.out.ne _ _ rfl rfl;have n76:¬ (z7=z6):=fun e=>n67 e.symm;have f0:=b6.cell_ 0 _ rfl;have f1:=b6.cell_ 1 _ rfl;have f2:=b6.cell_ 2 _ rfl;have f3:=b6.cell_ 3 _ rfl;have h0:=b7.cell_ 0 _ rfl;have h1:=b7.cell_ 1 _ rfl;have h2:=b7.cell_ 2 _ rfl;have h3:=b7.cell_ 3 _ rfl;have ff:=b6.frozen;have fg:=b7.frozen;clear b6 b7;refine anyO_on 16 fun K hK=>?_;go_simp;refine thK hK (((((((bR.setCell (p:=⟨z6,0,none⟩) l6 _)).setCell (p:=⟨z6,1,none⟩) l6 _)).setCell (p:=⟨z6,2,none⟩) l6 _)).setCell (p:=⟨z6,3,none⟩) l6 _) ?_;clear hK K;refine anyO_on 17 fun K hK=>?_;go_simp;refine thK hK (((((((bR.setCell (p:=⟨z7,0,none⟩) l7 _)).setCell (p:=⟨z7,1,none⟩) l7 _)).setCell (p:=⟨z7,2,none⟩) l7 _)).setCell (p:=⟨z7,3,none⟩) l7 _) ?_;clear hK K;clear l6 l7;refine anyO_dn ?_;have FN:=Hd (S2.out.fin (.slice A1 n1 k1) (.slice A2 n2 k2) (.slice A3 n3 k3) (.int .i64 st) (.slice A4 n4 k4) (.slice A5 n5 k5) (.slice A6 n6 k6) (.int .i64 st2) rfl);clear f0 f1 f2 f3 h0 h1 h2 h3 ff fg n67 n76;generalize World.setCell _ _ _=x9 at FN⊢;go_wp2_with fail
   go_meet;exact⟨z6,z7,rfl,rfl,FN.out⟩
  ·go_simp;refine thK hK ((boxed _ _).mono S0.out.hb.size) ?_;clear hK K;have S1:=Hd S0.out.f7;obtain⟨z7,hz⟩: ∃z,x0.heap.size=z:=⟨_,rfl⟩;rw[hz]at S1⊢;generalize World.alloc _ _=x1 at S1⊢;clear S0 hz;refine anyO_on 14 fun K hK=>?_;go_simp;refine thK hK ((boxed _ _).mono S1.out.hb.size) ?_;clear hK K;have S2:=Hd S1.out.f6;obtain⟨z6,hz⟩: ∃z,x1.heap.size=z:=⟨_,rfl⟩;rw[hz]at S2⊢;generalize World.alloc _ _=x2 at S2⊢;clear S1 hz;obtain⟨b6,l6⟩:=S2.out.b6 _ rfl;obtain⟨b7,l7⟩:=S2.out.b7 _ rfl;have n67:=S2.out.ne _ _ rfl rfl;have n76:¬ (z7=z6):=fun e=>n67 e.symm;have f0:=b6.cell_ 0 _ rfl;have f1:=b6.cell_ 1 _ rfl;have f2:=b6.cell_ 2 _ rfl;have f3:=b6.cell_ 3 _ rfl;have h0:=b7.cell_ 0 _ rfl;have h1:=b7.cell_ 1 _ rfl;have h2:=b7.cell_ 2 _ rfl;have h3:=b7.cell_ 3 _ rfl;have ff:=b6.frozen;have fg:=b7.frozen;clear b6 b7;refine anyO_on 16 fun K hK=>?_;go_simp;refine thK hK (((((((bR.setCell (p:=⟨z6,0,none⟩) l6 _)).setCell (p:=⟨z6,1,none⟩) l6 _)).setCell (p:=⟨z6,2,none⟩) l6 _)).setCell (p:=⟨z6,3,none⟩) l6 _) ?_;clear hK K;refine anyO_on 17 fun K hK=>?_;go_simp;refine thK hK (((((((bR.setCell (p:=⟨z7,0,none⟩) l7 _)).setCell (p:=⟨z7,1,none⟩) l7 _)).setCell (p:=⟨z7,2,none⟩) l7 _)).setCell (p:=⟨z7,3,none⟩) l7 _) ?_;clear hK K;clear l6 l7;refine anyO_dn ?_;have FN:=Hd (S2.out.fin (.slice A1 n1 k1) (.slice A2 n2 k2) (.slice A3 n3 k3) (.int .i64 st) (.slice A4 n4 k4) (.slice A5 n5 k5) (.slice A6 n6 k6) (.int .i64 st2) rfl);clear f0 f1 f2 f3 h0 h1 h2 h3 ff fg n67 n76;generalize World.setCell _ _ _=x9 at FN⊢;go_wp2_with fail
   go_meet;exact⟨z6,z7,rfl,rfl,FN.out⟩
 case rest=>
  obtain⟨z6,z7,rfl,rfl,FN⟩:=hcut;clear x4 x5 x6 x7 y5 z0 z1 z2 z3;have fr6:=L1.out.1.o.fresh FN.l6;have HL0:=Hd (show BindL w wc B p V M c s z6 M.w A1 n1 k1 A2 n2 k2 from⟨⟨V,ks,L1.out.1.below FN.hb,L1.out.2.below FN.hb,fr6⟩,_,_,FN.b6⟩);have P1:=Hd (O1.out.set.keeps (.of_below FN.hb)).pl;have P2:=Hd (O1.out.pre.keeps (.of_below FN.hb)).pl;have P4:=Hd (O2.out.set.keeps (.of_below FN.hb)).pl;have P5:=Hd (O2.out.pre.keeps (.of_below FN.hb)).pl;have f0:=FN.b6.cell_ 0 _ rfl;have h0:=FN.b7.cell_ 0 _ rfl;have B67:=Hd (And.intro FN.b6 FN.b7);clear fr6 FN O1 O2 L1;go_upto_region 2 with fail
  go_cut [6,7,51] (fun p6 p7 r wd=>p6= .pointer (some ⟨z6,0,none⟩)∧p7= .pointer (some ⟨z7,0,none⟩)∧∃b,r= .bool b∧Hid (b=true↔((M.ow c).set=(M.known.getD s Ow.new).set∧(M.ow c).pre=(M.known.getD s Ow.new).pre))∧Below wc.heap.size wc wd)
  case first=>
   go_wp2_with fail
   refine(equal_any _ _ _ _ _ P1.out P4.out).mono ?_;rintro e x2 ⟨b,rfl,hb,b2⟩;have HB:=Hd hb;have HB2:=Hd b2;have f1:=(B67.out.1.keep b2).cell_ 1 _ rfl;have h1:=(B67.out.2.keep b2).cell_ 1 _ rfl;clear hb b2 f0 h0;cases b with
   |false=>
    go_wp2_with fail
    go_meet;exact⟨rfl,rfl,false,rfl,Hd ⟨fun h=>(by cases h),fun h=>(by have:=HB.out.2 h.1;cases this)⟩,HB2.out⟩
   |true=>
    go_wp2_with fail
    refine(equal_any _ _ _ _ _ (P2.out.keep HB2.out) (P5.out.keep HB2.out)).mono ?_;rintro e x3 ⟨b,rfl,hb,b3⟩;have HC:=Hd hb;have HB3:=Hd (below_step HB2.out leR b3);clear hb b3;go_wp2_with fail
    go_meet;exact⟨rfl,rfl,b,rfl,Hd ⟨fun h=>⟨HB.out.1 rfl,HC.out.1 h⟩,fun h=>HC.out.2 h.2⟩,HB3.out⟩
  case rest=>
   obtain⟨rfl,rfl,b,rfl,HB,hbd⟩:=hcut;have HL1:=Hd (HL0.out.keep hbd);clear HL0 hbd f0 h0 P1 P2 P4 P5 B67;cases b with
   |true=>
    obtain⟨V2,ks2,r2,t2,_⟩:=HL1.out.r;have HF:=Hd (show Done w B p V (M.bound s c) _ from⟨V2,ks2,by unfold MV.bound bindV;rw[if_pos (HB.out.1 rfl)];exact r2,t2⟩)
    clear r2 t2;go_wp2_with fail
    refine bodyPost_ret (results_none rfl _ _ _) rfl ⟨rfl,HF.out⟩
   |false=>
    have HN:=Hd (show ¬ ((M.ow c).set=(M.known.getD s Ow.new).set∧(M.ow c).pre=(M.known.getD s Ow.new).pre)from fun h=>by have:=HB.out.2 h;cases this)
    obtain⟨⟨V2,ks2,r2,t2,m2⟩,u,v,b2⟩:=HL1.out;have R2:=Hd r2;have T2:=Hd t2;have B2:=Hd b2;have M2:=Hd m2;have HI:=Hd (i64_wf (a:=(s:Int)) (by omega) (by omega))
    obtain⟨W1,hW1⟩: ∃W,(poDo M.w s resetS).1=W:=⟨_,rfl⟩;have H81:=Hd (show W1.ses.length≤1000 by rw[←hW1,poDo_len];exact H8.out)
    have HW1:=Hd hW1;clear r2 t2 m2 b2 HB hW1;go_wp2_with fail
    refine(pdo_any _ B p V2 ks2 _ R2.out (HT.out.turn HR.out.o T2.out) s HI.out ⟨4,⟨#[]⟩,⟨#[]⟩⟩ ⟨by decide,by decide⟩ H8.out).mono ?_
    rintro e x3 ⟨rfl,d3⟩;have HL2:=Hd (BindL.did (W':=W1) R2.out T2.out M2.out B2.out (by rw[←HW1.out];exact d3))
    clear d3 HL1 R2 T2 B2 M2;obtain⟨W2,hW2⟩: ∃W,sayAll W1 s 9 (M.ow c).set=W:=⟨_,rfl⟩;have H82:=Hd (show W2.ses.length≤1000 by rw[←hW2,say_len];exact H81.out)
    have HW2:=Hd hW2;clear hW2;obtain⟨_,_,rb⟩:=HL2.out.b6;have f0:=rb.cell_ 0 _ rfl;clear rb;go_upto_region 5 with fail
    clear f0;have hnb:n1≤4398046510976:=by rw[←HN1.out];exact(HR.out.o.ow c hc).set.fits.1
    go_loopw [59] (fun i wx=>∃k:Nat,k≤n1∧i= .int .i64 k∧Hid (BindL w wx B p V M c s z6 (sayAll W1 s 9 ((M.ow c).set.take k)) A1 n1 k1 A2 n2 k2)) (fun i _=>n1-(intOf i).toNat)
    case atStart=>exact⟨0,Nat.zero_le _,rfl,Hd (by rw[List.take_zero];exact HL2.out)⟩
    case round=>
     obtain⟨k,hk,rfl,HLk⟩:=hrel;by_cases hlt:k<n1
     ·have hkl:k<(M.ow c).set.length:=by rw[HN1.out];exact hlt
      obtain⟨⟨V4,ks4,r4,t4,m4⟩,u,v,b4⟩:=HLk.out;have pl:=((HR.out.o.ow c hc).set.keeps (t4.keeps HR.out.o ty_pair)).pl;rw[E1.out]at pl;obtain⟨A0,c0,e0,_,rd,ft⟩:=pl;injection e0 with e0 e1 e2;subst e0 e2;clear e1;obtain⟨ad,hA,_,x1,x2⟩:=pair_at rd hkl;subst hA;have hft:=ft.2 _ (List.getElem_mem hkl);have hst:=say_take W1 s 9 (M.ow c).set hkl;obtain⟨pr,hpr⟩: ∃p,(M.ow c).set[k]=p:=⟨_,rfl⟩;rw[hpr]at x1 x2 hft hst;obtain⟨pk,pv⟩:=pr;have HF:=Hd hft;have HS:=Hd hst;have R4:=Hd (r4.below (boxed wr (.cells #[.string pk,.string pv] 60)));have T4:=Hd (t4.below (boxed wr (.cells #[.string pk,.string pv] 60)));have B4:=Hd (b4.keep (boxed wr (.cells #[.string pk,.string pv] 60)));have M4:=Hd m4;have g3:(k:Int)<(n1:Int):=by omega
      have g4:(0:Int)≤(k:Int):=by omega
      have hl8:(sayAll W1 s 9 ((M.ow c).set.take k)).ses.length≤1000:=by rw[say_len];exact H81.out
      have HL8:=Hd hl8;clear r4 t4 m4 b4 rd ft hft hst hpr hl8;go_wp2_with fail
      refine(pdo_any _ B p V4 ks4 _ R4.out (HT.out.turn HR.out.o T4.out) s HI.out ⟨9,pk,pv⟩ ⟨HF.out.1,HF.out.2⟩ HL8.out).mono ?_;rintro e x9 ⟨rfl,d9⟩;have HL9:=Hd (BindL.did R4.out T4.out M4.out B4.out d9);clear d9;go_wp2_with fail
      go_roundw
      case rel=>exact⟨k+1,by omega,by go_num,Hd (by rw[HS.out];exact HL9.out)⟩
      case measure=>simp[intOf];omega
     ·have g5:(n1:Int)≤(k:Int):=by omega
      have HL3:=Hd (show BindL w wr B p V M c s z6 W2 A1 n1 k1 A2 n2 k2 by
       have:=HLk.out;rw[List.take_of_length_le (by rw[HN1.out];omega),HW2.out]at this
       exact this)
      clear HLk hlt HL2;obtain⟨_,_,rb⟩:=HL3.out.b6;have f1:=rb.cell_ 1 _ rfl;clear rb;go_upto_region 10 with fail
      generalize Value.bool (decide (k<n1))=s60;clear f1;have hnb:n2≤4398046510976:=by rw[←HN2.out];exact(HR.out.o.ow c hc).pre.fits.1
      go_loopw [75] (fun i wx=>∃j:Nat,j≤n2∧i= .int .i64 j∧Hid (BindL w wx B p V M c s z6 (sayAll W2 s 11 ((M.ow c).pre.take j)) A1 n1 k1 A2 n2 k2)) (fun i _=>n2-(intOf i).toNat)
      case atStart=>exact⟨0,Nat.zero_le _,rfl,Hd (by rw[List.take_zero];exact HL3.out)⟩
      case round=>
       obtain⟨j,hj,rfl,HLj⟩:=hrel;by_cases hlt:j<n2
       ·have hkl:j<(M.ow c).pre.length:=by rw[HN2.out];exact hlt
        obtain⟨⟨V4,ks4,r4,t4,m4⟩,u,v,b4⟩:=HLj.out;have pl:=((HR.out.o.ow c hc).pre.keeps (t4.keeps HR.out.o ty_pair)).pl;rw[E2.out]at pl;obtain⟨A0,c0,e0,_,rd,ft⟩:=pl;injection e0 with e0 e1 e2;subst e0 e2;clear e1;obtain⟨ad,hA,_,x1,x2⟩:=pair_at rd hkl;subst hA;have hft:=ft.2 _ (List.getElem_mem hkl);have hst:=say_take W2 s 11 (M.ow c).pre hkl;obtain⟨pr,hpr⟩: ∃p,(M.ow c).pre[j]=p:=⟨_,rfl⟩;rw[hpr]at x1 x2 hft hst;obtain⟨pk,pv⟩:=pr;have HF:=Hd hft;have HS:=Hd hst;have R4:=Hd (r4.below (boxed wr (.cells #[.string pk,.string pv] 60)));have T4:=Hd (t4.below (boxed wr (.cells #[.string pk,.string pv] 60)));have B4:=Hd (b4.keep (boxed wr (.cells #[.string pk,.string pv] 60)));have M4:=Hd m4;have g3:(j:Int)<(n2:Int):=by omega
        have g4:(0:Int)≤(j:Int):=by omega
        have hl8:(sayAll W2 s 11 ((M.ow c).pre.take j)).ses.length≤1000:=by rw[say_len];exact H82.out
        have HL8:=Hd hl8;clear r4 t4 m4 b4 rd ft hft hst hpr hl8;go_wp2_with fail
        refine(pdo_any _ B p V4 ks4 _ R4.out (HT.out.turn HR.out.o T4.out) s HI.out ⟨11,pk,pv⟩ ⟨HF.out.1,HF.out.2⟩ HL8.out).mono ?_;rintro e x9 ⟨rfl,d9⟩;have HL9:=Hd (BindL.did R4.out T4.out M4.out B4.out d9);clear d9;go_wp2_with fail
        go_roundw
        case rel=>exact⟨j+1,by omega,by go_num,Hd (by rw[HS.out];exact HL9.out)⟩
        case measure=>simp[intOf];omega
       ·have g5:(n2:Int)≤(j:Int):=by omega
        obtain⟨V4,ks4,r4,t4,_⟩:=HLj.out.r;have HF:=Hd (show Done w B p V (M.bound s c) wr from⟨V4,ks4,by
         rw[List.take_of_length_le (by rw[HN2.out];omega)]at r4
         unfold MV.bound bindV;rw[if_neg HN.out,HW1.out,HW2.out];exact r4,t4⟩)
        clear r4 t4 hlt;go_wp2_with fail
        refine bodyPost_end (results_none rfl _ _ _) rfl ⟨rfl,HF.out⟩
end Go.Proofs.YtjbnfigpflambacGreatDoor
