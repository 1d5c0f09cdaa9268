/- back.Do where it answers without a fault. The pattern 'next, a, e := back.Do(..)', whose boxes may come up at any time. Conditions: those of each lemma. -/
import Derived.Test.YtjbnfigpflambacGreatDoorH21
namespace Go.Proofs.YtjbnfigpflambacGreatDoor
set_option maxRecDepth 100000
set_option maxHeartbeats 16000000
open _root_.Go.Proofs.Tryz
open Go.ChangeShapes Go.WideShapes Go.ChangeAt Go.RowKit
theorem own_base{w:World}{B B':Nat}{t:TypeId}{size n:Nat}{v:Value}{xs:List Value}(h:w.ownsRow B t size v n xs)(hB:B'≤B):w.ownsRow B' t size v n xs:=by
 refine⟨h.1,?_⟩;rcases h.2 with h0|⟨g,cap,cur,e,hb,hh⟩
 ·exact .inl h0
 ·exact .inr ⟨g,cap,cur,e,Nat.le_trans hB hb,hh⟩
theorem SesC.base{w:World}{B B':Nat}(hB:B'≤B): ∀{ss:List Se} {cs:List Value},SesC w B cs ss→SesC w B' cs ss
 |[],_,h=>h
 |_::_,_,⟨a,b,c,d,rest,e,h1,h2,h3,h4,h5,h6⟩=>⟨a,b,c,d,rest,e,h1.base hB,h2.base hB,h3.base hB,h4.base hB,h5,SesC.base hB h6⟩
theorem OSL.base{w:World}{B B':Nat}{v:Value}{ss:List Se}{cs:List Value}(h:OSL w B v ss cs)(hB:B'≤B):OSL w B' v ss cs:=⟨own_base h.own hB,h.ses.base hB⟩
theorem OSL.form{w:World}{B:Nat}{v:Value}{ss:List Se}{cs:List Value}(h:OSL w B v ss cs)(hn:0<ss.length): ∃g cap,v= .slice (some ⟨g,0,none⟩) ss.length cap:=by
 rcases h.own.2 with⟨_,e⟩|⟨g,cap,cur,e,_⟩
 ·have:0=ss.length:=by first|exact e.2.symm|exact e|exact e.symm|exact e.1.symm
  omega
 ·exact⟨g,cap,e⟩
structure DoB(w wx:World)(q bv g cap i:Nat)(W:Wo)(x:St):Prop where
 sv:SvAt w wx bv q g cap i W
 ax:Blk wx (q+1) 41 #[.int .i64 x.k,.string x.key,.string x.val]
 rw_:Blk wx (q+2) 39 #[.slice none 0 0,.slice none 0 0]
 ra:Blk wx (q+3) 46 #[.int .i64 0,.string ⟨#[]⟩,.int .i64 0]
theorem DoB.keep{w wx wy:World}{q bv g cap i:Nat}{W:Wo}{x:St}(h:DoB w wx q bv g cap i W x)(hb:Below wx.heap.size wx wy):DoB w wy q bv g cap i W x:=
 ⟨h.sv.keep hb,h.ax.keep hb,h.rw_.keep hb,h.ra.keep hb⟩
theorem DoB.far{w wx:World}{q bv g cap i:Nat}{W:Wo}{x:St}(h:DoB w wx q bv g cap i W x):q+1≠g∧q+2≠g∧q+3≠g:=by
 obtain⟨cs,hg⟩:=h.sv.rowg;exact⟨h.ax.ne_ hg (by decide),h.rw_.ne_ hg (by decide),h.ra.ne_ hg (by decide)⟩
theorem DoB.step{w wx wy:World}{q bv g cap i:Nat}{W W':Wo}{x:St}(h:DoB w wx q bv g cap i W x)(S:SvAt w wy bv q g cap i W')(o:Only2 q g wx wy):DoB w wy q bv g cap i W' x:=
 ⟨S,o.blk h.ax (by omega) h.far.1,o.blk h.rw_ (by omega) h.far.2.1,o.blk h.ra (by omega) h.far.2.2⟩
theorem DoB.start{w x3:World}{q g cap i:Nat}{W:Wo}{x:St}{r0 s0 r':Value}{cs:List Value}(h:DoAt w x3 q r0 s0 x)(hq:w.heap.size=q)(B:Nat)(hB:w.heap.size≤B)(o1:OPL x3 B r' W.rows)(o2:OSL x3 B (.slice (some ⟨g,0,none⟩) W.ses.length cap) W.ses cs)(hi:i<W.ses.length):
  DoB w (((x3.setCell ⟨q,0,none⟩ r').setCell ⟨q,1,none⟩ (.slice (some ⟨g,0,none⟩) W.ses.length cap)).alloc (.cells #[.pointer (some ⟨q,0,none⟩),.int .i64 (i:Nat)] 129)) q x3.heap.size g cap i W x:=by
 have e:((x3.setCell ⟨q,0,none⟩ r').setCell ⟨q,1,none⟩ (.slice (some ⟨g,0,none⟩) W.ses.length cap)).heap.size=x3.heap.size:=by simp[World.setCell]
 have k: ∀t,39≠t→Keeps t x3 (((x3.setCell ⟨q,0,none⟩ r').setCell ⟨q,1,none⟩ (.slice (some ⟨g,0,none⟩) W.ses.length cap)).alloc (.cells #[.pointer (some ⟨q,0,none⟩),.int .i64 (i:Nat)] 129)):=fun t ht=>
  ((Keeps.set_ (p:=⟨q,0,none⟩) h.bx ht _).trans (Keeps.set_ (p:=⟨q,1,none⟩) (h.bx.set_ 0 _) ht _)).trans (.alloc _ _)
 have nb:=Blk.new ((x3.setCell ⟨q,0,none⟩ r').setCell ⟨q,1,none⟩ (.slice (some ⟨g,0,none⟩) W.ses.length cap)) 129 #[.pointer (some ⟨q,0,none⟩),.int .i64 (i:Nat)];rw[e]at nb;have far: ∀{m:Nat} {t:TypeId} {c:Array Value},Blk x3 m t c→m≠q→Blk (((x3.setCell ⟨q,0,none⟩ r').setCell ⟨q,1,none⟩ (.slice (some ⟨g,0,none⟩) W.ses.length cap)).alloc (.cells #[.pointer (some ⟨q,0,none⟩),.int .i64 (i:Nat)] 129)) m t c:=fun hm hne=>((hm.far hne _).far hne _).alloc _;refine⟨⟨?_,nb,⟨r',((h.bx.set_ 0 r').set_ 1 _).alloc _,(o1.base hB).keeps (k _ (by decide))⟩,⟨cs,(k _ (by decide)).own (own_base o2.own hB),(o2.ses.base hB).keeps (k _ (by decide))⟩,hi,h.bel.size,by omega⟩,far h.ax (by omega),far h.rw_ (by omega),far h.ra (by omega)⟩
 exact((h.bel.setCell (p:=⟨q,0,none⟩) (by show w.heap.size≤q;omega) _).setCell (p:=⟨q,1,none⟩) (by show w.heap.size≤q;omega) _).alloc (by rw[e];exact h.bel.size) _
structure DoC(w wx:World)(q bv g cap i z:Nat)(W:Wo)(x:St)(a:An):Prop where
 b:DoB w wx q bv g cap i W x
 an:Blk wx z 46 #[.int .i64 a.kind,.string a.text,.int .i64 a.st]
 lz:q+3<z
theorem DoC.keep{w wx wy:World}{q bv g cap i z:Nat}{W:Wo}{x:St}{a:An}(h:DoC w wx q bv g cap i z W x a)(hb:Below wx.heap.size wx wy):DoC w wy q bv g cap i z W x a:=⟨h.b.keep hb,h.an.keep hb,h.lz⟩
theorem DoC.zg{w wx:World}{q bv g cap i z:Nat}{W:Wo}{x:St}{a:An}(h:DoC w wx q bv g cap i z W x a):z≠g:=by
 obtain⟨cs,hg⟩:=h.b.sv.rowg;exact h.an.ne_ hg (by decide)
theorem DoB.answer{w wx:World}{q bv g cap i:Nat}{W:Wo}{x:St}(h:DoB w wx q bv g cap i W x)(a:An):
  DoC w (wx.alloc (.cells #[.int .i64 a.kind,.string a.text,.int .i64 a.st] 46)) q bv g cap i wx.heap.size W x a:=
 ⟨h.keep (boxed wx _),Blk.new wx _ _,h.ra.lt⟩
theorem DoC.fail{w wx:World}{q bv g cap i z:Nat}{W:Wo}{x:St}{a:An}(h:DoC w wx q bv g cap i z W x a)(h4:a.kind=4)(h1:(W.se i).st=1):
  DoC w ((wx.setCell ⟨g,i*5,none⟩ (.int .i64 2)).setCell ⟨g,i*5+4,none⟩ (.slice none 0 0)) q bv g cap i z (W.put i (failSe (W.se i) a)) x a:=by
 have hi:=h.b.sv.hi;have h1':SvAt w (wx.setCell ⟨g,i*5,none⟩ (.int .i64 2)) bv q g cap i (W.put i ⟨2,(W.se i).set,(W.se i).pre,(W.se i).sav,(W.se i).wri⟩):=
  h.b.sv.put_ (j:=0) (by decide) fun w' a b c d hk h1 h2 h3 h4=>⟨a,b,c,d,rfl,h1,h2,h3,h4,show(-9223372036854775808:Int)≤2 by decide,show(2:Int)≤9223372036854775807 by decide⟩
 have h2:=h1'.put_ (j:=4) (u:=.slice none 0 0) (s':=⟨2,(W.se i).set,(W.se i).pre,(W.se i).sav,[]⟩) (by decide) fun w' a b c d hk k1 k2 k3 k4=>by
  rw[put_self W hi]at k1 k2 k3 k4⊢;exact⟨a,b,c,_,rfl,k1,k2,k3,OPL.nil_ _ _,show(-9223372036854775808:Int)≤2 by decide,show(2:Int)≤9223372036854775807 by decide⟩
 rw[put_put]at h2;have e:failSe (W.se i) a=⟨2,(W.se i).set,(W.se i).pre,(W.se i).sav,[]⟩:=by unfold failSe;rw[if_pos ⟨h4,h1⟩]
 rw[e];obtain⟨f1,f2,f3⟩:=h.b.far;exact⟨⟨h2,(h.b.ax.far f1 _).far f1 _,(h.b.rw_.far f2 _).far f2 _,(h.b.ra.far f3 _).far f3 _⟩,(h.an.far h.zg _).far h.zg _,h.lz⟩
theorem DoC.st{w wx:World}{q bv g cap i z:Nat}{W:Wo}{x:St}{a:An}(h:DoC w wx q bv g cap i z W x a)(hq:w.heap.size=q)(s:Int):DoC w (wx.setCell ⟨z,2,none⟩ (.int .i64 s)) q bv g cap i z W x ⟨a.kind,a.text,s⟩:=by
 have lz:=h.lz;have hs:SvAt w (wx.setCell ⟨z,2,none⟩ (.int .i64 s)) bv q g cap i W:=by
  obtain⟨r,b1,b2⟩:=h.b.sv.box;obtain⟨cs,b3⟩:=h.b.sv.ses;have k: ∀t,46≠t→Keeps t wx (wx.setCell ⟨z,2,none⟩ (.int .i64 s)):=fun t ht=>Keeps.set_ (p:=⟨z,2,none⟩) h.an ht _;exact⟨h.b.sv.bel.setCell (by show w.heap.size≤z;omega) _,h.b.sv.srv.far (h.b.sv.srv.ne_ h.an (by decide)) _,⟨r,b1.far (b1.ne_ h.an (by decide)) _,b2.keeps (k _ (by decide))⟩,⟨cs,(k _ (by decide)).own b3.own,b3.ses.keeps (k _ (by decide))⟩,h.b.sv.hi,h.b.sv.lv,h.b.sv.lw⟩
 exact⟨⟨hs,h.b.ax.far (by show q+1≠z;omega) _,h.b.rw_.far (by show q+2≠z;omega) _,h.b.ra.far (by show q+3≠z;omega) _⟩,h.an.set_ 2 _,lz⟩
structure DoD(w wx:World)(q bv g cap i z:Nat)(W:Wo)(a:An)(r u v:Value):Prop where
 sv:SvAt w wx bv q g cap i W
 an:Blk wx z 46 #[.int .i64 a.kind,.string a.text,.int .i64 a.st]
 rw_:Blk wx (q+2) 39 #[u,v]
 ra:Blk wx (q+3) 46 #[.int .i64 0,.string ⟨#[]⟩,.int .i64 0]
 o:OPL wx w.heap.size r W.rows
theorem DoC.put2{w wx:World}{q bv g cap i z:Nat}{W:Wo}{x:St}{a:An}(h:DoC w wx q bv g cap i z W x a)(hq:w.heap.size=q){r:Value}(o:OPL wx w.heap.size r W.rows)(u v:Value):DoD w ((wx.setCell ⟨q+2,0,none⟩ u).setCell ⟨q+2,1,none⟩ v) q bv g cap i z W a r u v:=by
 have lz:=h.lz;obtain⟨r',b1,b2⟩:=h.b.sv.box;obtain⟨cs,b3⟩:=h.b.sv.ses;have k: ∀t,39≠t→Keeps t wx ((wx.setCell ⟨q+2,0,none⟩ u).setCell ⟨q+2,1,none⟩ v):=fun t h1=>(Keeps.set_ (p:=⟨q+2,0,none⟩) h.b.rw_ h1 _).trans (Keeps.set_ (p:=⟨q+2,1,none⟩) (h.b.rw_.set_ 0 u) h1 _);have far: ∀{m:Nat} {t:TypeId} {c:Array Value},Blk wx m t c→m≠q+2→Blk ((wx.setCell ⟨q+2,0,none⟩ u).setCell ⟨q+2,1,none⟩ v) m t c:=fun hm hne=>(hm.far hne _).far hne _;have l2: ∀j,w.heap.size≤(⟨q+2,j,none⟩:Addr).block:=fun j=>by show w.heap.size≤q+2;omega
 exact⟨⟨(h.b.sv.bel.setCell (l2 0) _).setCell (l2 1) _,far h.b.sv.srv (h.b.sv.srv.ne_ h.b.rw_ (by decide)),⟨r',far b1 (by omega),b2.keeps (k _ (by decide))⟩,⟨cs,(k _ (by decide)).own b3.own,b3.ses.keeps (k _ (by decide))⟩,h.b.sv.hi,h.b.sv.lv,h.b.sv.lw⟩,
  far h.an (by omega),(h.b.rw_.set_ 0 u).set_ 1 v,far h.b.ra (by omega),o.keeps (k _ (by decide))⟩
theorem DoD.ends{w wx:World}{q bv g cap i z:Nat}{W:Wo}{a:An}{r u v:Value}(h:DoD w wx q bv g cap i z W a r u v)(hq:w.heap.size=q)(a0 a1 a2:Value){wy:World}
  (e:wy=(((wx.setCell ⟨q+3,0,none⟩ a0).setCell ⟨q+3,1,none⟩ a1).setCell ⟨q+3,2,none⟩ a2)):
  OPL wy w.heap.size r W.rows∧(∃cs,OSL wy w.heap.size (.slice (some ⟨g,0,none⟩) W.ses.length cap) W.ses cs)∧Below w.heap.size w wy∧Blk wy (q+2) 39 #[u,v]∧Blk wy (q+3) 46 #[a0,a1,a2]:=by
 subst e;have A1:=h.ra.set_ 0 a0;have A2:=A1.set_ 1 a1;have k: ∀t,46≠t→Keeps t wx (((wx.setCell ⟨q+3,0,none⟩ a0).setCell ⟨q+3,1,none⟩ a1).setCell ⟨q+3,2,none⟩ a2):=fun t h2=>
  ((Keeps.set_ (p:=⟨q+3,0,none⟩) h.ra h2 _).trans (Keeps.set_ (p:=⟨q+3,1,none⟩) A1 h2 _)).trans (Keeps.set_ (p:=⟨q+3,2,none⟩) A2 h2 _)
 obtain⟨cs,hs⟩:=h.sv.ses;have l3: ∀j,w.heap.size≤(⟨q+3,j,none⟩:Addr).block:=fun j=>by show w.heap.size≤q+3;omega
 have ne: ∀j,q+2≠(⟨q+3,j,none⟩:Addr).block:=fun j=>by show q+2≠q+3;omega
 exact⟨h.o.keeps (k _ (by decide)),⟨cs,(k _ (by decide)).own hs.own,hs.ses.keeps (k _ (by decide))⟩,((h.sv.bel.setCell (l3 0) _).setCell (l3 1) _).setCell (l3 2) _,((h.rw_.far (ne 0) a0).far (ne 1) a1).far (ne 2) a2,A2.set_ 2 a2⟩
theorem stK{x:St}(h:checkE x=0):1≤x.k∧x.k≤11:=by
 unfold checkE plainE at h;split at h
 ·omega
 ·split at h
  ·omega
  ·omega
theorem doR_good{W:Wo}{i:Nat}{x:St}(h:doE W i x=0):doR W i x=doW W i x:=by unfold doR;rw[if_pos h];rfl
theorem do_good(w:World)(r s:Value)(W:Wo)(i:Nat)(x:St)(hT:Tabs w)(h:WL w w.heap.size r s W)(hk:x.key.size≤maxLen)(hv:x.val.size≤maxLen)(hE:doE W i x=0):
  Calls Tryz.prog 33 #[.agg #[r,s],.int .i64 (i:Nat),.agg #[.int .i64 x.k,.string x.key,.string x.val]] w (DoP w W i x):=by
 obtain⟨A,c,er⟩:=h.rows.form;obtain⟨A',c',es,_,hn',_⟩:=h.ses;subst er es;have D0:=Hd (DoAt.start w (.slice A W.rows.length c) (.slice A' W.ses.length c') x);have HW:=Hd h;have HT:=Hd hT;have HKV:=Hd (And.intro hk hv);have hg:goodW W=true:=Decidable.byContradiction fun hg=>by unfold doE at hE;rw[if_neg hg]at hE;cases hE
 have hin:(0:Int)≤(i:Int)∧(i:Int)<W.ses.length:=Decidable.byContradiction fun hin=>by unfold doE at hE;rw[if_pos hg,if_neg hin]at hE;cases hE
 have hx:checkE x=0:=by unfold doE at hE;rw[if_pos hg,if_pos hin]at hE;exact hE
 have hG:=(good_iff W).mp hg;have hfew:=hG.few;have HG:=Hd hG;have XE:=Hd hx;have hC:=Hd (show chkE W=0 by unfold chkE;rw[if_pos hg])
 have hR:=Hd (doR_good hE);have HE:=Hd hE;have HX:=Hd (stK hx);have HDN:=Hd (did_mine W i x).1;obtain⟨n,hN⟩: ∃n,W.ses.length=n:=⟨_,rfl⟩;rw[hN]at D0 HW hn' hin hfew HDN⊢;have HN:=Hd hN;have HDI:=Hd (show i<(did W i x).1.ses.length by rw[HDN.out];omega)
 obtain⟨K,key,val⟩:=x;obtain⟨q,hq⟩: ∃q,w.heap.size=q:=⟨_,rfl⟩;rw[hq]at D0;have HQ:=Hd hq;have g1:=hin.1;have g2:=hin.2;clear hT hk hv hE h hN hg hin hx hG;go_enter func33,ntmps33
 go_wp2_with fail
 generalize (((w.alloc (.cells #[.slice A W.rows.length c,.slice A' n c'] 39 (0,0))).alloc (.cells #[.int .i64 K,.string key,.string val] 41 (0,0))).alloc (.cells #[.slice none 0 0,.slice none 0 0] 39 (0,0))).alloc (.cells #[.int .i64 0,.string ⟨#[]⟩,.int .i64 0] 46 (0,0))=x0 at D0⊢;refine(check_world _ _ _ W (HT.out.below D0.out.bel) ((HW.out.below D0.out.bel).more D0.out.bel.size)).mono ?_;rintro e x1 ⟨rfl,b1⟩;have D1:=Hd (D0.out.keep b1);clear b1 D0 hq;rw[hC.out];have y1:=D1.out.bx.cell_ 1 _ rfl;have a0:=D1.out.ax.cell_ 0 _ rfl;have a1:=D1.out.ax.cell_ 1 _ rfl;have a2:=D1.out.ax.cell_ 2 _ rfl;go_wp2_with fail
 refine(check_all ⟨K,key,val⟩ _ (HT.out.below D1.out.bel) HKV.out.1 HKV.out.2).mono ?_;rintro e x2 ⟨rfl,b2⟩;have D2:=Hd (D1.out.keep b2);rw[XE.out];clear b2 y1 a0 a1 a2 D1;have y0:=D2.out.bx.cell_ 0 _ rfl;have y1:=D2.out.bx.cell_ 1 _ rfl;go_wp2_with fail
 refine(copy_any _ _ _ W ((HW.out.below D2.out.bel).more D2.out.bel.size)).mono ?_;rintro e x3 ⟨r',s',cs,rfl,o1,o2,b3⟩;have D3:=Hd (D2.out.keep b3);obtain⟨Ar,cr,rfl⟩:=o1.form;obtain⟨g,cap,rfl⟩:=o2.form (by rw[HN.out];omega)
 have B0:=Hd (DoB.start D3.out HQ.out _ D2.out.bel.size o1 o2 (i:=i) (by rw[HN.out];omega))
 rw[HN.out]at B0;obtain⟨bv,hb⟩: ∃b,x3.heap.size=b:=⟨_,rfl⟩;rw[hb]at B0;have y0:=D3.out.bx.cell_ 0 _ rfl;have y1:=D3.out.bx.cell_ 1 _ rfl;have yf:=D3.out.bx.frozen;clear o1 o2 b3 D2;rw[HN.out];go_upto_region 11 with fail
 generalize ((x3.setCell ⟨q,0,none⟩ (.slice Ar W.rows.length cr)).setCell ⟨q,1,none⟩ (.slice (some ⟨g,0,none⟩) n cap)).alloc (.cells #[.pointer (some ⟨q,0,none⟩),.int .i64 (i:Nat)] 129 (0,0))=x4 at B0⊢;have a0:=B0.out.ax.cell_ 0 _ rfl;have a1:=B0.out.ax.cell_ 1 _ rfl;have a2:=B0.out.ax.cell_ 2 _ rfl;go_wp2_with fail
 refine(do_any w _ bv q g cap i W ⟨K,key,val⟩ B0.out.sv HG.out HT.out HKV.out.1 HKV.out.2 HX.out).mono ?_;rintro e x5 ⟨rfl,S5,O5⟩;have B1:=Hd (B0.out.step S5 O5);clear S5 O5 B0 y0 y1 yf a0 a1 a2 hb D3;obtain⟨R,hRD⟩: ∃R,did W i ⟨K,key,val⟩=R:=⟨_,rfl⟩;have XD:=Hd hRD;rw[hRD]at B1 HDN HDI⊢;clear hRD;obtain⟨W1,a⟩:=R;obtain⟨ak,aT,aS⟩:=a;unfold anV;have C1:=Hd (B1.out.answer ⟨ak,aT,aS⟩);obtain⟨z,hz⟩: ∃z,x5.heap.size=z:=⟨_,rfl⟩;rw[hz]at C1;go_upto_region 12 with fail
 generalize x5.alloc _=x6 at C1⊢;clear hz B1;obtain⟨Ar,cr,A1,k1,A2,k2,A3,k3,A4,k4,V⟩:=C1.out.b.sv.view;rw[HDN.out]at V;have y1:=V.b1;have c0:=V.c0;have fg:=V.fg;have c4:=V.c4;have p0:x6.cell? ⟨z,0,none⟩=some (.int .i64 ak):=C1.out.an.cell_ 0 _ rfl;have p2:x6.cell? ⟨z,2,none⟩=some (.int .i64 aS):=C1.out.an.cell_ 2 _ rfl;have fz:=C1.out.an.frozen;clear V;obtain⟨sT,hst⟩: ∃s,(W1.se i).st=s:=⟨_,rfl⟩;rw[hst]at c0;have XT:=Hd hst;clear hst;by_cases h4:ak=4
 ·have z4:(ak==4)=true:=by simpa using h4
  have X4:=Hd h4;clear h4;by_cases h1:sT=1
  ·have z1:(sT==1)=true:=by simpa using h1
   have F1:=Hd (C1.out.fail X4.out (by rw[XT.out];exact h1))
   have XF:=Hd (show failSe (W1.se i) ⟨ak,aT,aS⟩=⟨2,(W1.se i).set,(W1.se i).pre,(W1.se i).sav,[]⟩by unfold failSe;rw[if_pos ⟨X4.out,by rw[XT.out];exact h1⟩])
   rw[XF.out]at F1;have HDD:=Hd (show doW W i ⟨K,key,val⟩=(W1.put i ⟨2,(W1.se i).set,(W1.se i).pre,(W1.se i).sav,[]⟩,⟨ak,aT,2⟩)by unfold doW;rw[XD.out];show(W1.put i (failSe (W1.se i) ⟨ak,aT,aS⟩),(⟨ak,aT,(failSe (W1.se i) ⟨ak,aT,aS⟩).st⟩:An))=_;rw[XF.out])
   clear h1;have HL:=Hd (show(W1.put i ⟨2,(W1.se i).set,(W1.se i).pre,(W1.se i).sav,[]⟩).ses.length=n by rw[put_length];exact HDN.out)
   have F2:=Hd (F1.out.st HQ.out 2);go_upto_region 16 with fail
   generalize World.setCell _ _ _=x8 at F2⊢;clear c0 c4 p0 p2 fz F1 fg y0 y1;obtain⟨Ar,cr,A1,k1,A2,k2,A3,k3,A4,k4,V⟩:=(F2.out.keep bR.drew).b.sv.view;rw[HL.out,put_self _ HDI.out]at V;have b0:=V.b0;have b1:=V.b1;obtain⟨rl,hrl⟩: ∃rl,(W1.put i ⟨2,(W1.se i).set,(W1.se i).pre,(W1.se i).sav,[]⟩).rows.length=rl:=⟨_,rfl⟩;have HO:=Hd V.o0;rw[hrl]at b0 HO;have HRL:=Hd hrl;clear V hrl;have F9:=Hd (F2.out.keep bR.drew);clear F2;refine region_sg [2,3] ?_;generalize x8.drew=x9 at F9 HO b0 b1⊢;refine anyB_sg [0] 4 ?_;go_wp2_with fail
   refine sg_o ?_;clear b0 b1;refine anyB_tw 1 2 (fun K hK=>?_) fun K hK=>?_
   ·have e0:=F9.out.an.cell_ 0 _ rfl;have e1:=F9.out.an.cell_ 1 _ rfl;have e2:=F9.out.an.cell_ 2 _ rfl;go_simp;refine thK hK bR ?_;clear hK K;clear e0 e1 e2;have r0:=F9.out.b.rw_.cell_ 0 _ rfl;have r1:=F9.out.b.rw_.cell_ 1 _ rfl;have rf:=F9.out.b.rw_.frozen;refine anyB_on 2 fun K hK=>?_;go_simp;refine lateK hK ?_;clear hK K;clear r0 r1 rf;have G:=Hd (F9.out.put2 HQ.out HO.out (.slice Ar rl cr) (.slice (some ⟨g,0,none⟩) n cap));generalize World.setCell _ _ _=x10 at G⊢;clear F9 HO;have r2:=G.out.ra.cell_ 0 _ rfl;have r3:=G.out.ra.cell_ 1 _ rfl;have r4:=G.out.ra.cell_ 2 _ rfl;have rg:=G.out.ra.frozen;refine anyB_on 3 fun K hK=>?_;go_simp;refine lateK hK ?_;clear hK K;refine anyB_sg [4] 0 ?_;go_wp2_with fail
    refine sg_o ?_;refine anyB_dn ?_;clear r2 r3 r4 rg;obtain⟨E1,⟨cs',E2⟩,E3,E4,E5⟩:=G.out.ends HQ.out (.int .i64 ak) (.string aT) (.int .i64 (2)) rfl;have t0:=E4.cell_ 0 _ rfl;have t1:=E4.cell_ 1 _ rfl;have t2:=E5.cell_ 0 _ rfl;have t3:=E5.cell_ 1 _ rfl;have t4:=E5.cell_ 2 _ rfl;have HE1:=Hd E1;have HE2:=Hd E2;have HE3:=Hd E3;clear E1 E2 E3 E4 E5 G;generalize World.setCell _ _ _=x11 at HE1 HE2 HE3 t0 t1 t2 t3 t4⊢;go_wp2_with fail
    refine bodyPost_ret (v:=.tuple #[.agg #[.slice Ar rl cr,.slice (some ⟨g,0,none⟩) n cap],.agg #[.int .i64 ak,.string aT,.int .i64 (2)],.int .i64 0]) (by simp[results,results33,go_sem,t0,t1,t2,t3,t4]) rfl ?_
    refine⟨.slice Ar rl cr,.slice (some ⟨g,0,none⟩) n cap,cs',?_,?_,?_,HE3.out⟩
    ·rw[hR.out,HDD.out,HE.out];rfl
    ·rw[hR.out,HDD.out];exact HE1.out
    ·rw[hR.out,HDD.out];have hh:=HE2.out;rw[HL.out]at hh;exact hh
   ·have r0:=F9.out.b.rw_.cell_ 0 _ rfl;have r1:=F9.out.b.rw_.cell_ 1 _ rfl;have rf:=F9.out.b.rw_.frozen;go_simp;refine lateK hK ?_;clear hK K;clear r0 r1 rf;have G:=Hd (F9.out.put2 HQ.out HO.out (.slice Ar rl cr) (.slice (some ⟨g,0,none⟩) n cap));generalize World.setCell _ _ _=x10 at G⊢;clear F9 HO;have e0:=G.out.an.cell_ 0 _ rfl;have e1:=G.out.an.cell_ 1 _ rfl;have e2:=G.out.an.cell_ 2 _ rfl;refine anyB_sg [1] 2 ?_;go_wp2_with fail
    refine sg_o ?_;clear e0 e1 e2;have r2:=G.out.ra.cell_ 0 _ rfl;have r3:=G.out.ra.cell_ 1 _ rfl;have r4:=G.out.ra.cell_ 2 _ rfl;have rg:=G.out.ra.frozen;refine anyB_on 3 fun K hK=>?_;go_simp;refine lateK hK ?_;clear hK K;refine anyB_sg [4] 0 ?_;go_wp2_with fail
    refine sg_o ?_;refine anyB_dn ?_;clear r2 r3 r4 rg;obtain⟨E1,⟨cs',E2⟩,E3,E4,E5⟩:=G.out.ends HQ.out (.int .i64 ak) (.string aT) (.int .i64 (2)) rfl;have t0:=E4.cell_ 0 _ rfl;have t1:=E4.cell_ 1 _ rfl;have t2:=E5.cell_ 0 _ rfl;have t3:=E5.cell_ 1 _ rfl;have t4:=E5.cell_ 2 _ rfl;have HE1:=Hd E1;have HE2:=Hd E2;have HE3:=Hd E3;clear E1 E2 E3 E4 E5 G;generalize World.setCell _ _ _=x11 at HE1 HE2 HE3 t0 t1 t2 t3 t4⊢;go_wp2_with fail
    refine bodyPost_ret (v:=.tuple #[.agg #[.slice Ar rl cr,.slice (some ⟨g,0,none⟩) n cap],.agg #[.int .i64 ak,.string aT,.int .i64 (2)],.int .i64 0]) (by simp[results,results33,go_sem,t0,t1,t2,t3,t4]) rfl ?_
    refine⟨.slice Ar rl cr,.slice (some ⟨g,0,none⟩) n cap,cs',?_,?_,?_,HE3.out⟩
    ·rw[hR.out,HDD.out,HE.out];rfl
    ·rw[hR.out,HDD.out];exact HE1.out
    ·rw[hR.out,HDD.out];have hh:=HE2.out;rw[HL.out]at hh;exact hh
  ·have z1:(sT==1)=false:=by simpa using h1
   have XF:=Hd (show failSe (W1.se i) ⟨ak,aT,aS⟩=W1.se i by unfold failSe;rw[if_neg (fun h=>h1 (XT.out.symm.trans h.2))])
   clear h1;have HDD:=Hd (show doW W i ⟨K,key,val⟩=(W1,⟨ak,aT,sT⟩)by unfold doW;rw[XD.out];show(W1.put i (failSe (W1.se i) ⟨ak,aT,aS⟩),(⟨ak,aT,(failSe (W1.se i) ⟨ak,aT,aS⟩).st⟩:An))=_;rw[XF.out,put_same _ HDI.out,XT.out])
   have F2:=Hd (C1.out.st HQ.out sT);go_upto_region 16 with fail
   generalize World.setCell _ _ _=x8 at F2⊢;clear c0 c4 p0 p2 fz fg y0 y1;obtain⟨Ar,cr,A1,k1,A2,k2,A3,k3,A4,k4,V⟩:=(F2.out.keep bR.drew).b.sv.view;rw[HDN.out]at V;have b0:=V.b0;have b1:=V.b1;obtain⟨rl,hrl⟩: ∃rl,(W1).rows.length=rl:=⟨_,rfl⟩;have HO:=Hd V.o0;rw[hrl]at b0 HO;have HRL:=Hd hrl;clear V hrl;have F9:=Hd (F2.out.keep bR.drew);clear F2;refine region_sg [2,3] ?_;generalize x8.drew=x9 at F9 HO b0 b1⊢;refine anyB_sg [0] 4 ?_;go_wp2_with fail
   refine sg_o ?_;clear b0 b1;refine anyB_tw 1 2 (fun K hK=>?_) fun K hK=>?_
   ·have e0:=F9.out.an.cell_ 0 _ rfl;have e1:=F9.out.an.cell_ 1 _ rfl;have e2:=F9.out.an.cell_ 2 _ rfl;go_simp;refine thK hK bR ?_;clear hK K;clear e0 e1 e2;have r0:=F9.out.b.rw_.cell_ 0 _ rfl;have r1:=F9.out.b.rw_.cell_ 1 _ rfl;have rf:=F9.out.b.rw_.frozen;refine anyB_on 2 fun K hK=>?_;go_simp;refine lateK hK ?_;clear hK K;clear r0 r1 rf;have G:=Hd (F9.out.put2 HQ.out HO.out (.slice Ar rl cr) (.slice (some ⟨g,0,none⟩) n cap));generalize World.setCell _ _ _=x10 at G⊢;clear F9 HO;have r2:=G.out.ra.cell_ 0 _ rfl;have r3:=G.out.ra.cell_ 1 _ rfl;have r4:=G.out.ra.cell_ 2 _ rfl;have rg:=G.out.ra.frozen;refine anyB_on 3 fun K hK=>?_;go_simp;refine lateK hK ?_;clear hK K;refine anyB_sg [4] 0 ?_;go_wp2_with fail
    refine sg_o ?_;refine anyB_dn ?_;clear r2 r3 r4 rg;obtain⟨E1,⟨cs',E2⟩,E3,E4,E5⟩:=G.out.ends HQ.out (.int .i64 ak) (.string aT) (.int .i64 (sT)) rfl;have t0:=E4.cell_ 0 _ rfl;have t1:=E4.cell_ 1 _ rfl;have t2:=E5.cell_ 0 _ rfl;have t3:=E5.cell_ 1 _ rfl;have t4:=E5.cell_ 2 _ rfl;have HE1:=Hd E1;have HE2:=Hd E2;have HE3:=Hd E3;clear E1 E2 E3 E4 E5 G;generalize World.setCell _ _ _=x11 at HE1 HE2 HE3 t0 t1 t2 t3 t4⊢;go_wp2_with fail
    refine bodyPost_ret (v:=.tuple #[.agg #[.slice Ar rl cr,.slice (some ⟨g,0,none⟩) n cap],.agg #[.int .i64 ak,.string aT,.int .i64 (sT)],.int .i64 0]) (by simp[results,results33,go_sem,t0,t1,t2,t3,t4]) rfl ?_
    refine⟨.slice Ar rl cr,.slice (some ⟨g,0,none⟩) n cap,cs',?_,?_,?_,HE3.out⟩
    ·rw[hR.out,HDD.out,HE.out];rfl
    ·rw[hR.out,HDD.out];exact HE1.out
    ·rw[hR.out,HDD.out];have hh:=HE2.out;rw[HDN.out]at hh;exact hh
   ·have r0:=F9.out.b.rw_.cell_ 0 _ rfl;have r1:=F9.out.b.rw_.cell_ 1 _ rfl;have rf:=F9.out.b.rw_.frozen;go_simp;refine lateK hK ?_;clear hK K;clear r0 r1 rf;have G:=Hd (F9.out.put2 HQ.out HO.out (.slice Ar rl cr) (.slice (some ⟨g,0,none⟩) n cap));generalize World.setCell _ _ _=x10 at G⊢;clear F9 HO;have e0:=G.out.an.cell_ 0 _ rfl;have e1:=G.out.an.cell_ 1 _ rfl;have e2:=G.out.an.cell_ 2 _ rfl;refine anyB_sg [1] 2 ?_;go_wp2_with fail
    refine sg_o ?_;clear e0 e1 e2;have r2:=G.out.ra.cell_ 0 _ rfl;have r3:=G.out.ra.cell_ 1 _ rfl;have r4:=G.out.ra.cell_ 2 _ rfl;have rg:=G.out.ra.frozen;refine anyB_on 3 fun K hK=>?_;go_simp;refine lateK hK ?_;clear hK K;refine anyB_sg [4] 0 ?_;go_wp2_with fail
    refine sg_o ?_;refine anyB_dn ?_;clear r2 r3 r4 rg;obtain⟨E1,⟨cs',E2⟩,E3,E4,E5⟩:=G.out.ends HQ.out (.int .i64 ak) (.string aT) (.int .i64 (sT)) rfl;have t0:=E4.cell_ 0 _ rfl;have t1:=E4.cell_ 1 _ rfl;have t2:=E5.cell_ 0 _ rfl;have t3:=E5.cell_ 1 _ rfl;have t4:=E5.cell_ 2 _ rfl;have HE1:=Hd E1;have HE2:=Hd E2;have HE3:=Hd E3;clear E1 E2 E3 E4 E5 G;generalize World.setCell _ _ _=x11 at HE1 HE2 HE3 t0 t1 t2 t3 t4⊢;go_wp2_with fail
    refine bodyPost_ret (v:=.tuple #[.agg #[.slice Ar rl cr,.slice (some ⟨g,0,none⟩) n cap],.agg #[.int .i64 ak,.string aT,.int .i64 (sT)],.int .i64 0]) (by simp[results,results33,go_sem,t0,t1,t2,t3,t4]) rfl ?_
    refine⟨.slice Ar rl cr,.slice (some ⟨g,0,none⟩) n cap,cs',?_,?_,?_,HE3.out⟩
    ·rw[hR.out,HDD.out,HE.out];rfl
    ·rw[hR.out,HDD.out];exact HE1.out
    ·rw[hR.out,HDD.out];have hh:=HE2.out;rw[HDN.out]at hh;exact hh
 ·have z4:(ak==4)=false:=by simpa using h4
  have XF:=Hd (show failSe (W1.se i) ⟨ak,aT,aS⟩=W1.se i by unfold failSe;rw[if_neg (fun h=>h4 h.1)])
  clear h4;have HDD:=Hd (show doW W i ⟨K,key,val⟩=(W1,⟨ak,aT,sT⟩)by unfold doW;rw[XD.out];show(W1.put i (failSe (W1.se i) ⟨ak,aT,aS⟩),(⟨ak,aT,(failSe (W1.se i) ⟨ak,aT,aS⟩).st⟩:An))=_;rw[XF.out,put_same _ HDI.out,XT.out])
  have F2:=Hd (C1.out.st HQ.out sT);go_upto_region 16 with fail
  generalize World.setCell _ _ _=x8 at F2⊢;clear c0 c4 p0 p2 fz fg y0 y1;obtain⟨Ar,cr,A1,k1,A2,k2,A3,k3,A4,k4,V⟩:=(F2.out.keep bR.drew).b.sv.view;rw[HDN.out]at V;have b0:=V.b0;have b1:=V.b1;obtain⟨rl,hrl⟩: ∃rl,(W1).rows.length=rl:=⟨_,rfl⟩;have HO:=Hd V.o0;rw[hrl]at b0 HO;have HRL:=Hd hrl;clear V hrl;have F9:=Hd (F2.out.keep bR.drew);clear F2;refine region_sg [2,3] ?_;generalize x8.drew=x9 at F9 HO b0 b1⊢;refine anyB_sg [0] 4 ?_;go_wp2_with fail
  refine sg_o ?_;clear b0 b1;refine anyB_tw 1 2 (fun K hK=>?_) fun K hK=>?_
  ·have e0:=F9.out.an.cell_ 0 _ rfl;have e1:=F9.out.an.cell_ 1 _ rfl;have e2:=F9.out.an.cell_ 2 _ rfl;go_simp;refine thK hK bR ?_;clear hK K;clear e0 e1 e2;have r0:=F9.out.b.rw_.cell_ 0 _ rfl;have r1:=F9.out.b.rw_.cell_ 1 _ rfl;have rf:=F9.out.b.rw_.frozen;refine anyB_on 2 fun K hK=>?_;go_simp;refine lateK hK ?_;clear hK K;clear r0 r1 rf;have G:=Hd (F9.out.put2 HQ.out HO.out (.slice Ar rl cr) (.slice (some ⟨g,0,none⟩) n cap));generalize World.setCell _ _ _=x10 at G⊢;clear F9 HO;have r2:=G.out.ra.cell_ 0 _ rfl;have r3:=G.out.ra.cell_ 1 _ rfl;have r4:=G.out.ra.cell_ 2 _ rfl;have rg:=G.out.ra.frozen;refine anyB_on 3 fun K hK=>?_;go_simp;refine lateK hK ?_;clear hK K;refine anyB_sg [4] 0 ?_;go_wp2_with fail
   refine sg_o ?_;refine anyB_dn ?_;clear r2 r3 r4 rg;obtain⟨E1,⟨cs',E2⟩,E3,E4,E5⟩:=G.out.ends HQ.out (.int .i64 ak) (.string aT) (.int .i64 (sT)) rfl;have t0:=E4.cell_ 0 _ rfl;have t1:=E4.cell_ 1 _ rfl;have t2:=E5.cell_ 0 _ rfl;have t3:=E5.cell_ 1 _ rfl;have t4:=E5.cell_ 2 _ rfl;have HE1:=Hd E1;have HE2:=Hd E2;have HE3:=Hd E3;clear E1 E2 E3 E4 E5 G;generalize World.setCell _ _ _=x11 at HE1 HE2 HE3 t0 t1 t2 t3 t4⊢;go_wp2_with fail
   refine bodyPost_ret (v:=.tuple #[.agg #[.slice Ar rl cr,.slice (some ⟨g,0,none⟩) n cap],.agg #[.int .i64 ak,.string aT,.int .i64 (sT)],.int .i64 0]) (by simp[results,results33,go_sem,t0,t1,t2,t3,t4]) rfl ?_
   refine⟨.slice Ar rl cr,.slice (some ⟨g,0,none⟩) n cap,cs',?_,?_,?_,HE3.out⟩
   ·rw[hR.out,HDD.out,HE.out];rfl
   ·rw[hR.out,HDD.out];exact HE1.out
   ·rw[hR.out,HDD.out];have hh:=HE2.out;rw[HDN.out]at hh;exact hh
  ·have r0:=F9.out.b.rw_.cell_ 0 _ rfl;have r1:=F9.out.b.rw_.cell_ 1 _ rfl;have rf:=F9.out.b.rw_.frozen;go_simp;refine lateK hK ?_;clear hK K;clear r0 r1 rf;have G:=Hd (F9.out.put2 HQ.out HO.out (.slice Ar rl cr) (.slice (some ⟨g,0,none⟩) n cap));generalize World.setCell _ _ _=x10 at G⊢;clear F9 HO;have e0:=G.out.an.cell_ 0 _ rfl;have e1:=G.out.an.cell_ 1 _ rfl;have e2:=G.out.an.cell_ 2 _ rfl;refine anyB_sg [1] 2 ?_;go_wp2_with fail
   refine sg_o ?_;clear e0 e1 e2;have r2:=G.out.ra.cell_ 0 _ rfl;have r3:=G.out.ra.cell_ 1 _ rfl;have r4:=G.out.ra.cell_ 2 _ rfl;have rg:=G.out.ra.frozen;refine anyB_on 3 fun K hK=>?_;go_simp;refine lateK hK ?_;clear hK K;refine anyB_sg [4] 0 ?_;go_wp2_with fail
   refine sg_o ?_;refine anyB_dn ?_;clear r2 r3 r4 rg;obtain⟨E1,⟨cs',E2⟩,E3,E4,E5⟩:=G.out.ends HQ.out (.int .i64 ak) (.string aT) (.int .i64 (sT)) rfl;have t0:=E4.cell_ 0 _ rfl;have t1:=E4.cell_ 1 _ rfl;have t2:=E5.cell_ 0 _ rfl;have t3:=E5.cell_ 1 _ rfl;have t4:=E5.cell_ 2 _ rfl;have HE1:=Hd E1;have HE2:=Hd E2;have HE3:=Hd E3;clear E1 E2 E3 E4 E5 G;generalize World.setCell _ _ _=x11 at HE1 HE2 HE3 t0 t1 t2 t3 t4⊢;go_wp2_with fail
   refine bodyPost_ret (v:=.tuple #[.agg #[.slice Ar rl cr,.slice (some ⟨g,0,none⟩) n cap],.agg #[.int .i64 ak,.string aT,.int .i64 (sT)],.int .i64 0]) (by simp[results,results33,go_sem,t0,t1,t2,t3,t4]) rfl ?_
   refine⟨.slice Ar rl cr,.slice (some ⟨g,0,none⟩) n cap,cs',?_,?_,?_,HE3.out⟩
   ·rw[hR.out,HDD.out,HE.out];rfl
   ·rw[hR.out,HDD.out];exact HE1.out
   ·rw[hR.out,HDD.out];have hh:=HE2.out;rw[HDN.out]at hh;exact hh
theorem do_world(w:World)(r s:Value)(W:Wo)(i:Int)(x:St)(hT:Tabs w)(h:WL w w.heap.size r s W)(hi:(Lit.int .i64 i).wf=true)(hk:x.key.size≤maxLen)(hv:x.val.size≤maxLen):
  Calls Tryz.prog 33 #[.agg #[r,s],.int .i64 i,.agg #[.int .i64 x.k,.string x.key,.string x.val]] w (DoP w W i x):=by
 by_cases hE:doE W i x=0
 ·have h0:0≤i:=Decidable.byContradiction fun hn=>by
   unfold doE at hE;split at hE
   ·rw[if_neg (fun hh=>hn hh.1)]at hE;cases hE
   ·cases hE
  obtain⟨k,rfl⟩:=Int.eq_ofNat_of_zero_le h0;exact do_good w r s W k x hT h hk hv hE
 ·exact do_bad w r s W i x hT h hi hk hv hE
theorem i64_wf{a:Int}(h0:0≤a)(h1:a≤9223372036854775807):(Lit.int .i64 a).wf=true:=by
 simp[Lit.wf,IntKind.min,IntKind.max,IntKind.signed,IntKind.bits];omega
structure BoxW(B:Nat)(w:World)(q:Nat)(W:Wo):Prop where
 box: ∃r s,Blk w q 39 #[r,s]∧OPL w B r W.rows∧∃cs,OSL w B s W.ses cs
theorem BoxW.keep{B:Nat}{w w':World}{q:Nat}{W:Wo}(h:BoxW B w q W)(hb:Below w.heap.size w w'):BoxW B w' q W:=by
 obtain⟨r,s,h1,h2,cs,h3⟩:=h.box;exact⟨r,s,h1.keep hb,h2.keeps (.of_below hb),cs,(Keeps.of_below hb).own h3.own,h3.ses.keeps (.of_below hb)⟩
theorem osl_keeps{B:Nat}{w w':World}{s:Value}{ss:List Se}{cs:List Value}(h:OSL w B s ss cs)(k1:Keeps 133 w w')(k2:Keeps 60 w w'):OSL w' B s ss cs:=⟨k1.own h.own,h.ses.keeps k2⟩
structure DoS(B:Nat)(wr wx:World)(z12 z13:Option Nat)(X:Option (Value × Value × Wo)):Prop where
 hb:Below wr.heap.size wr wx
 b12: ∀z,z12=some z→Blk wx z 39 #[.slice none 0 0,.slice none 0 0]∧wr.heap.size≤z
 b13: ∀z,z13=some z→Blk wx z 46 #[.int .i64 0,.string ⟨#[]⟩,.int .i64 0]∧wr.heap.size≤z
 nx: ∀r s V,X=some (r,s,V)→OPL wx B r V.rows∧∃cs,OSL wx B s V.ses cs
section
variable {B:Nat}{wr wx wy:World}{z12 z13:Option Nat}{X:Option (Value × Value × Wo)}
theorem DoS.start(B:Nat)(wr:World):DoS B wr wr none none none:=
 ⟨bR,fun _ h=>(by cases h),fun _ h=>(by cases h),fun _ _ _ h=>(by cases h)⟩
theorem DoS.keep(h:DoS B wr wx z12 z13 X)(hb:Below wx.heap.size wx wy):DoS B wr wy z12 z13 X:=
 ⟨below_step h.hb leR hb,fun z hz=>⟨(h.b12 z hz).1.keep hb,(h.b12 z hz).2⟩,fun z hz=>⟨(h.b13 z hz).1.keep hb,(h.b13 z hz).2⟩,fun r s V hx=>by
  obtain⟨h1,cs,h2⟩:=h.nx r s V hx;exact⟨h1.keeps (.of_below hb),cs,osl_keeps h2 (.of_below hb) (.of_below hb)⟩⟩
theorem DoS.f12(h:DoS B wr wx none z13 X):DoS B wr (wx.alloc (.cells #[.slice none 0 0,.slice none 0 0] 39)) (some wx.heap.size) z13 X:=by
 have k:=h.keep (boxed wx (.cells #[.slice none 0 0,.slice none 0 0] 39));exact⟨k.hb,fun z hz=>(by injection hz with hz;subst hz;exact⟨Blk.new wx _ _,h.hb.size⟩),k.b13,k.nx⟩
theorem DoS.f13(h:DoS B wr wx z12 none X):DoS B wr (wx.alloc (.cells #[.int .i64 0,.string ⟨#[]⟩,.int .i64 0] 46)) z12 (some wx.heap.size) X:=by
 have k:=h.keep (boxed wx (.cells #[.int .i64 0,.string ⟨#[]⟩,.int .i64 0] 46));exact⟨k.hb,k.b12,fun z hz=>(by injection hz with hz;subst hz;exact⟨Blk.new wx _ _,h.hb.size⟩),k.nx⟩
theorem DoS.did(h:DoS B wr wx z12 z13 none)(hB:B≤wx.heap.size){r s:Value}{cs:List Value}{V:Wo}(o1:OPL wy wx.heap.size r V.rows)(o2:OSL wy wx.heap.size s V.ses cs)(hb:Below wx.heap.size wx wy):DoS B wr wy z12 z13 (some (r,s,V)):=by
 have k:=h.keep hb;exact⟨k.hb,k.b12,k.b13,fun r' s' V' hx=>(by injection hx with hx;injection hx with h1 h2;injection h2 with h2 h3;subst h1 h2 h3;exact⟨o1.base hB,cs,o2.base hB⟩)⟩
structure DoN(B:Nat)(wr wy:World)(z12 z13:Nat)(r s:Value)(V:Wo)(a:An):Prop where
 hb:Below wr.heap.size wr wy
 b12:Blk wy z12 39 #[r,s]
 b13:Blk wy z13 46 #[.int .i64 a.kind,.string a.text,.int .i64 a.st]
 rows:OPL wy B r V.rows
 ses: ∃cs,OSL wy B s V.ses cs
 l12:wr.heap.size≤z12
 l13:wr.heap.size≤z13
theorem DoN.box{z12 z13:Nat}{r s:Value}{V:Wo}{a:An}(h:DoN B wr wy z12 z13 r s V a):BoxW B wy z12 V:=⟨r,s,h.b12,h.rows,h.ses⟩
theorem DoN.keep{wz:World}{z12 z13:Nat}{r s:Value}{V:Wo}{a:An}(h:DoN B wr wy z12 z13 r s V a)(hb:Below wy.heap.size wy wz):DoN B wr wz z12 z13 r s V a:=by
 obtain⟨cs,h3⟩:=h.ses;exact⟨below_step h.hb leR hb,h.b12.keep hb,h.b13.keep hb,h.rows.keeps (.of_below hb),⟨cs,osl_keeps h3 (.of_below hb) (.of_below hb)⟩,h.l12,h.l13⟩
theorem DoS.fin{z12 z13:Nat}{r s:Value}{V:Wo}{a:An}(h:DoS B wr wx (some z12) (some z13) (some (r,s,V)))
  (e:wy=((((wx.setCell ⟨z12,0,none⟩ r).setCell ⟨z12,1,none⟩ s).setCell ⟨z13,0,none⟩ (.int .i64 a.kind)).setCell ⟨z13,1,none⟩ (.string a.text)).setCell ⟨z13,2,none⟩ (.int .i64 a.st)):DoN B wr wy z12 z13 r s V a:=by
 subst e;obtain⟨b12,l12⟩:=h.b12 _ rfl;obtain⟨b13,l13⟩:=h.b13 _ rfl;obtain⟨o1,cs,o2⟩:=h.nx _ _ _ rfl;have ne:z13≠z12:=b13.ne_ b12 (by decide)
 have A0:=(b13.far (p:=⟨z12,0,none⟩) ne r).far (p:=⟨z12,1,none⟩) ne s;have A1:=A0.set_ 0 (.int .i64 a.kind);have A2:=A1.set_ 1 (.string a.text);have k: ∀t,39≠t→46≠t→Keeps t wx (((((wx.setCell ⟨z12,0,none⟩ r).setCell ⟨z12,1,none⟩ s).setCell ⟨z13,0,none⟩ (.int .i64 a.kind)).setCell ⟨z13,1,none⟩ (.string a.text)).setCell ⟨z13,2,none⟩ (.int .i64 a.st)):=fun t h1 h2=>
  ((((Keeps.set_ (p:=⟨z12,0,none⟩) b12 h1 _).trans (Keeps.set_ (p:=⟨z12,1,none⟩) (b12.set_ 0 r) h1 _)).trans (Keeps.set_ (p:=⟨z13,0,none⟩) A0 h2 _)).trans (Keeps.set_ (p:=⟨z13,1,none⟩) A1 h2 _)).trans (Keeps.set_ (p:=⟨z13,2,none⟩) A2 h2 _)
 have l2: ∀j,wr.heap.size≤(⟨z12,j,none⟩:Addr).block:=fun _=>l12;have l3: ∀j,wr.heap.size≤(⟨z13,j,none⟩:Addr).block:=fun _=>l13;have ne': ∀j,z12≠(⟨z13,j,none⟩:Addr).block:=fun _=>Ne.symm ne;exact⟨((((h.hb.setCell (l2 0) _).setCell (l2 1) _).setCell (l3 0) _).setCell (l3 1) _).setCell (l3 2) _,((((b12.set_ 0 r).set_ 1 s).far (ne' 0) _).far (ne' 1) _).far (ne' 2) _,A2.set_ 2 _,
  o1.keeps (k _ (by decide) (by decide)),⟨cs,osl_keeps o2 (k _ (by decide) (by decide)) (k _ (by decide) (by decide))⟩,l12,l13⟩
theorem BoxW.turn{w:World}{q:Nat}{W V:Wo}{r s:Value}{cs:List Value}(h:BoxW B w q W)(o1:OPL w B r V.rows)(o2:OSL w B s V.ses cs):BoxW B ((w.setCell ⟨q,0,none⟩ r).setCell ⟨q,1,none⟩ s) q V:=by
 obtain⟨r0,s0,h1,_⟩:=h.box;have k: ∀t,39≠t→Keeps t w ((w.setCell ⟨q,0,none⟩ r).setCell ⟨q,1,none⟩ s):=fun t ht=>(Keeps.set_ (p:=⟨q,0,none⟩) h1 ht _).trans (Keeps.set_ (p:=⟨q,1,none⟩) (h1.set_ 0 r) ht _);exact⟨r,s,(h1.set_ 0 r).set_ 1 s,o1.keeps (k _ (by decide)),cs,osl_keeps o2 (k _ (by decide)) (k _ (by decide))⟩
end
end Go.Proofs.YtjbnfigpflambacGreatDoor
