/- Reference's did. Reference's house in memory. Reference's did at Begin and Reset. Reference's did at Read. Reference's house. Conditions: those of each lemma. -/
import Derived.Test.YtjbnfigpflambacGreatDoorH06
import Derived.Test.YtjbnfigpflambacGreatDoorH14
namespace Go.Proofs.YtjbnfigpflambacGreatDoor
set_option maxRecDepth 100000
set_option maxHeartbeats 16000000
open _root_.Go.Proofs.Tryz
open Go.ChangeShapes Go.WideShapes Go.ChangeAt Go.RowKit
theorem adr0(g n:Nat):(⟨g,0,none⟩:Addr).add n=⟨g,n,none⟩:=by unfold Addr.add;split<;>simp_all
theorem OSL.row{w:World}{B g n cap:Nat}{ss:List Se}{cs:List Value}(h:OSL w B (.slice (some ⟨g,0,none⟩) n cap) ss cs): ∃cur,Blk w g 133 cur:=by
 rcases h.own.2 with⟨e,_⟩|⟨g',cap',cur,e,hBg,hg,_⟩
 ·cases e
 ·injection e with e1 e2 e3;injection e1 with e1;injection e1 with e1;subst e1;exact⟨cur,hg⟩
theorem OSL.keep{w w':World}{B:Nat}{v:Value}{ss:List Se}{cs:List Value}(h:OSL w B v ss cs)(hb:Below w.heap.size w w'):OSL w' B v ss cs:=⟨(Keeps.of_below hb).own h.own,h.ses.keeps (.of_below hb)⟩
theorem own_far{w:World}{base g m cap size n:Nat}{e:TypeId}{xs:List Value}(h:w.ownsRow base e size (.slice (some ⟨g,0,none⟩) m cap) n xs){p:Addr}(hp:g≠p.block)(u:Value):(w.setCell p u).ownsRow base e size (.slice (some ⟨g,0,none⟩) m cap) n xs:=by
 rcases h.2 with⟨e,_⟩|⟨g',cap',cur,e,hBg,hg,hr⟩
 ·cases e
 ·injection e with e1 e2 e3;injection e1 with e1;injection e1 with e1;subst e1 e2 e3;exact⟨h.1,.inr ⟨g,cap,cur,rfl,hBg,(Below.heap_setCell w p u g hp).trans hg,hr⟩⟩
theorem OSL.lt{w:World}{B g n cap:Nat}{ss:List Se}{cs:List Value}(h:OSL w B (.slice (some ⟨g,0,none⟩) n cap) ss cs):B≤g∧g<w.heap.size:=h.own.lt g rfl
theorem OSL.put_{w:World}{B g n cap i j:Nat}{ss:List Se}{cs:List Value}{s':Se}{u:Value}(h:OSL w B (.slice (some ⟨g,0,none⟩) n cap) ss cs)(hn:ss.length=n)(hi:i<ss.length)(hj:j<5)
  (H: ∀(w':World) a b c d,Keeps 60 w w'→OPL w' B a ss[i].set→OPL w' B b ss[i].pre→OPL w' B c ss[i].sav→OPL w' B d ss[i].wri→∃a' b' c' d',[Value.int .i64 ss[i].st,a,b,c,d].set j u=[.int .i64 s'.st,a',b',c',d']∧OPL w' B a' s'.set∧OPL w' B b' s'.pre∧OPL w' B c' s'.sav∧OPL w' B d' s'.wri∧(-9223372036854775808≤s'.st∧s'.st≤9223372036854775807)):
  OSL (w.setCell ⟨g,i*5+j,none⟩ u) B (.slice (some ⟨g,0,none⟩) n cap) (ss.set i s') (cs.set (i*5+j) u):=by
 subst hn;obtain⟨cur,hg⟩:=h.row;have kp:Keeps 60 w (w.setCell ⟨g,i*5+j,none⟩ u):=Keeps.set_ (p:=⟨g,i*5+j,none⟩) hg (by decide) u
 refine⟨?_,SesC.set_ hj (SesC.keeps kp h.ses) i hi fun a b c d h1 h2 h3 h4=>H _ a b c d kp h1 h2 h3 h4⟩;rw[List.length_set];exact own_setC h.own u
theorem OSL.put5{w:World}{B g n cap i:Nat}{ss:List Se}{cs:List Value}{s':Se}{a b c d:Value}(h:OSL w B (.slice (some ⟨g,0,none⟩) n cap) ss cs)(hn:ss.length=n)(hi:i<ss.length)
  (ha:OPL w B a s'.set) (hb:OPL w B b s'.pre) (hc:OPL w B c s'.sav) (hd:OPL w B d s'.wri) (hs: -9223372036854775808≤s'.st∧s'.st≤9223372036854775807):
  ∃cs',OSL (((((w.setCell ⟨g,i*5,none⟩ (.int .i64 s'.st)).setCell ⟨g,i*5+1,none⟩ a).setCell ⟨g,i*5+2,none⟩ b).setCell ⟨g,i*5+3,none⟩ c).setCell ⟨g,i*5+4,none⟩ d) B (.slice (some ⟨g,0,none⟩) n cap) (ss.set i s') cs':=by
 obtain⟨cur,hg⟩:=h.row;have h0:=h.put_ (j:=0) (u:=.int .i64 s'.st) (s':=⟨s'.st,ss[i].set,ss[i].pre,ss[i].sav,ss[i].wri⟩) hn hi (by decide) fun w' a b c d k h1 h2 h3 h4=>⟨a,b,c,d,rfl,h1,h2,h3,h4,hs⟩
 rw[Nat.add_zero]at h0;have k0:Keeps 60 w (w.setCell ⟨g,i*5,none⟩ (.int .i64 s'.st)):=Keeps.set_ (p:=⟨g,i*5,none⟩) hg (by decide) _
 have step: ∀{w1:World} {t:Se} {cs1:List Value} (j:Nat) (hj:j<5) (u:Value) (t':Se),OSL w1 B (.slice (some ⟨g,0,none⟩) n cap) (ss.set i t) cs1→
   (∀(w':World) a b c d,Keeps 60 w1 w'→OPL w' B a t.set→OPL w' B b t.pre→OPL w' B c t.sav→OPL w' B d t.wri→∃a' b' c' d',[Value.int .i64 t.st,a,b,c,d].set j u=[.int .i64 t'.st,a',b',c',d']∧OPL w' B a' t'.set∧OPL w' B b' t'.pre∧OPL w' B c' t'.sav∧OPL w' B d' t'.wri∧(-9223372036854775808≤t'.st∧t'.st≤9223372036854775807))→
   OSL (w1.setCell ⟨g,i*5+j,none⟩ u) B (.slice (some ⟨g,0,none⟩) n cap) (ss.set i t') (cs1.set (i*5+j) u)∧Keeps 60 w1 (w1.setCell ⟨g,i*5+j,none⟩ u):=by
  intro w1 t cs1 j hj u t' h1 H;obtain⟨cur1,hg1⟩:=h1.row;have:=h1.put_ (i:=i) (j:=j) (u:=u) (s':=t') (by rw[List.length_set];exact hn) (by rw[List.length_set];exact hi) hj (by simpa using H)
  rw[List.set_set]at this;exact⟨this,Keeps.set_ (p:=⟨g,i*5+j,none⟩) hg1 (by decide) _⟩
 obtain⟨h1,k1⟩:=step 1 (by decide) a ⟨s'.st,s'.set,ss[i].pre,ss[i].sav,ss[i].wri⟩ h0 fun w' _ b' c' d' k _ h2 h3 h4=>⟨a,b',c',d',rfl,(ha.keeps k0).keeps k,h2,h3,h4,hs⟩
 obtain⟨h2,k2⟩:=step 2 (by decide) b ⟨s'.st,s'.set,s'.pre,ss[i].sav,ss[i].wri⟩ h1 fun w' a' _ c' d' k h1 _ h3 h4=>⟨a',b,c',d',rfl,h1,((hb.keeps k0).keeps k1).keeps k,h3,h4,hs⟩
 obtain⟨h3,k3⟩:=step 3 (by decide) c ⟨s'.st,s'.set,s'.pre,s'.sav,ss[i].wri⟩ h2 fun w' a' b' _ d' k h1 h2 _ h4=>⟨a',b',c,d',rfl,h1,h2,(((hc.keeps k0).keeps k1).keeps k2).keeps k,h4,hs⟩
 obtain⟨h4,k4⟩:=step 4 (by decide) d s' h3 fun w' a' b' c' _ k h1 h2 h3 _=>⟨a',b',c',d,rfl,h1,h2,h3,((((hd.keeps k0).keeps k1).keeps k2).keeps k3).keeps k,hs⟩
 exact⟨_,h4⟩
structure DidM(w wx:World)(q B g cap n:Nat)(r:Value)(rows:List Pr)(ss:List Se)(cs:List Value)(x:St)(a0 a1 a2 a3 a4:Value):Prop where
 bel:Below w.heap.size w wx
 hB:B≤w.heap.size
 lg:g<q
 wo:Blk wx q 39 #[r,.slice (some ⟨g,0,none⟩) n cap]
 st:Blk wx (q+1) 41 #[.int .i64 x.k,.string x.key,.string x.val]
 rw_:Blk wx (q+2) 39 #[.slice none 0 0,.slice none 0 0]
 ra:Blk wx (q+3) 46 #[.int .i64 0,.string ⟨#[]⟩,.int .i64 0]
 se:Blk wx (q+4) 133 #[a0,a1,a2,a3,a4]
 ok:Blk wx (q+5) 46 #[.int .i64 1,.string ⟨#[]⟩,.int .i64 0]
 rows:OPL wx B r rows
 ses:OSL wx B (.slice (some ⟨g,0,none⟩) n cap) ss cs
section
variable {w wx wy:World}{q B g cap n:Nat}{r:Value}{rows:List Pr}{ss:List Se}{cs:List Value}{x:St}{a0 a1 a2 a3 a4:Value}
theorem DidM.keep(h:DidM w wx q B g cap n r rows ss cs x a0 a1 a2 a3 a4)(hb:Below wx.heap.size wx wy):DidM w wy q B g cap n r rows ss cs x a0 a1 a2 a3 a4:=
 ⟨below_step h.bel leR hb,h.hB,h.lg,h.wo.keep hb,h.st.keep hb,h.rw_.keep hb,h.ra.keep hb,h.se.keep hb,h.ok.keep hb,h.rows.keeps (.of_below hb),h.ses.keep hb⟩
theorem DidM.setS(h:DidM w wx q B g cap n r rows ss cs x a0 a1 a2 a3 a4)(hq:w.heap.size=q)(j:Nat)(u:Value){b0 b1 b2 b3 b4:Value}(e:(#[a0,a1,a2,a3,a4]:Array Value).setIfInBounds j u=#[b0,b1,b2,b3,b4]):
  DidM w (wx.setCell ⟨q+4,j,none⟩ u) q B g cap n r rows ss cs x b0 b1 b2 b3 b4:=by
 have hse:=h.se.set_ j u;rw[e]at hse;have hs:=h.se;have f: ∀k,k≠q+4→k≠(⟨q+4,j,none⟩:Addr).block:=fun k hk=>hk;have kp: ∀t,133≠t→Keeps t wx (wx.setCell ⟨q+4,j,none⟩ u):=fun t ht=>Keeps.set_ (p:=⟨q+4,j,none⟩) hs ht u;have lg:=h.lg;exact⟨h.bel.setCell (by show w.heap.size≤q+4;omega) u,h.hB,h.lg,h.wo.far (f _ (by omega)) u,h.st.far (f _ (by omega)) u,h.rw_.far (f _ (by omega)) u,h.ra.far (f _ (by omega)) u,hse,h.ok.far (f _ (by omega)) u,h.rows.keeps (kp _ (by decide)),
  own_far h.ses.own (f _ (by omega)) u,h.ses.ses.keeps (kp _ (by decide))⟩
theorem DidM.setR(h:DidM w wx q B g cap n r rows ss cs x a0 a1 a2 a3 a4)(hq:w.heap.size=q){u:Value}{l:List Pr}(hu:OPL wx B u l):DidM w (wx.setCell ⟨q,0,none⟩ u) q B g cap n u l ss cs x a0 a1 a2 a3 a4:=by
 have hs:=h.wo;have f: ∀k,k≠q→k≠(⟨q,0,none⟩:Addr).block:=fun k hk=>hk;have kp: ∀t,39≠t→Keeps t wx (wx.setCell ⟨q,0,none⟩ u):=fun t ht=>Keeps.set_ (p:=⟨q,0,none⟩) hs ht u;have lg:=h.lg;exact⟨h.bel.setCell (by show w.heap.size≤q;omega) u,h.hB,h.lg,h.wo.set_ 0 u,h.st.far (f _ (by omega)) u,h.rw_.far (f _ (by omega)) u,h.ra.far (f _ (by omega)) u,h.se.far (f _ (by omega)) u,h.ok.far (f _ (by omega)) u,hu.keeps (kp _ (by decide)),
  (kp _ (by decide)).own h.ses.own,h.ses.ses.keeps (kp _ (by decide))⟩
end
structure DidN(w wx:World)(q B g cap n:Nat)(r:Value)(rows:List Pr)(ss:List Se)(cs:List Value):Prop where
 only:Only2 g g w wx
 lg:g<q
 wo:Blk wx q 39 #[r,.slice (some ⟨g,0,none⟩) n cap]
 rw_:Blk wx (q+2) 39 #[.slice none 0 0,.slice none 0 0]
 ra:Blk wx (q+3) 46 #[.int .i64 0,.string ⟨#[]⟩,.int .i64 0]
 ok:Blk wx (q+5) 46 #[.int .i64 1,.string ⟨#[]⟩,.int .i64 0]
 rows:OPL wx B r rows
 ses:OSL wx B (.slice (some ⟨g,0,none⟩) n cap) ss cs
structure DidQ(w wx:World)(q B g cap n:Nat)(r:Value)(rows:List Pr)(ss:List Se)(cs:List Value):Prop where
 only:Only2 g g w wx
 rw_:Blk wx (q+2) 39 #[.slice none 0 0,.slice none 0 0]
 ra:Blk wx (q+3) 46 #[.int .i64 0,.string ⟨#[]⟩,.int .i64 0]
 rows:OPL wx B r rows
 ses:OSL wx B (.slice (some ⟨g,0,none⟩) n cap) ss cs
def DidR(w:World)(B g cap n:Nat)(R:Wo × An)(e:Ending)(w':World):Prop:=
 ∃r' cs',e= .returned (.tuple #[.agg #[r',.slice (some ⟨g,0,none⟩) n cap],anV R.2])∧OPL w' B r' R.1.rows∧OSL w' B (.slice (some ⟨g,0,none⟩) n cap) R.1.ses cs'∧Only2 g g w w'
section
variable {w wx wy:World}{q B g cap n:Nat}{r:Value}{rows:List Pr}{ss:List Se}{cs:List Value}{x:St}{a0 a1 a2 a3 a4:Value}
theorem DidM.put5(h:DidM w wx q B g cap n r rows ss cs x a0 a1 a2 a3 a4)(_hq:w.heap.size=q)(hn:ss.length=n){i:Nat}(hi:i<ss.length){s':Se}{a b c d:Value}
  (ha:OPL wx B a s'.set) (hb:OPL wx B b s'.pre) (hc:OPL wx B c s'.sav) (hd:OPL wx B d s'.wri) (hs: -9223372036854775808≤s'.st∧s'.st≤9223372036854775807):
  ∃cs',DidN w (((((wx.setCell ⟨g,i*5,none⟩ (.int .i64 s'.st)).setCell ⟨g,i*5+1,none⟩ a).setCell ⟨g,i*5+2,none⟩ b).setCell ⟨g,i*5+3,none⟩ c).setCell ⟨g,i*5+4,none⟩ d) q B g cap n r rows (ss.set i s') cs':=by
 obtain⟨cs',ho⟩:=h.ses.put5 hn hi ha hb hc hd hs;obtain⟨cur,hg⟩:=h.ses.row;have lg:=h.lg;refine⟨cs',?_⟩;have far5: ∀{k:Nat} {t:TypeId} {c0:Array Value},k≠g→Blk wx k t c0→Blk (((((wx.setCell ⟨g,i*5,none⟩ (.int .i64 s'.st)).setCell ⟨g,i*5+1,none⟩ a).setCell ⟨g,i*5+2,none⟩ b).setCell ⟨g,i*5+3,none⟩ c).setCell ⟨g,i*5+4,none⟩ d) k t c0:=
  fun hk hb=>((((hb.far (p:=⟨g,i*5,none⟩) hk _).far (p:=⟨g,i*5+1,none⟩) hk _).far (p:=⟨g,i*5+2,none⟩) hk _).far (p:=⟨g,i*5+3,none⟩) hk _).far (p:=⟨g,i*5+4,none⟩) hk _
 have k5:Keeps 60 wx (((((wx.setCell ⟨g,i*5,none⟩ (.int .i64 s'.st)).setCell ⟨g,i*5+1,none⟩ a).setCell ⟨g,i*5+2,none⟩ b).setCell ⟨g,i*5+3,none⟩ c).setCell ⟨g,i*5+4,none⟩ d):=
  (Keeps.set_ (p:=⟨g,i*5,none⟩) hg (by decide) _).trans (four_sets (hg.set_ _ _) (by decide) _ _ _ _ _ _ _ _)
 refine⟨?_,h.lg,far5 (by omega) h.wo,far5 (by omega) h.rw_,far5 (by omega) h.ra,far5 (by omega) h.ok,h.rows.keeps k5,ho⟩
 have o0:Only2 g g w wx:=.of_below h.bel;exact((((o0.set_ (p:=⟨g,i*5,none⟩) (.inl rfl) _).set_ (p:=⟨g,i*5+1,none⟩) (.inl rfl) _).set_ (p:=⟨g,i*5+2,none⟩) (.inl rfl) _).set_ (p:=⟨g,i*5+3,none⟩) (.inl rfl) _).set_ (p:=⟨g,i*5+4,none⟩) (.inl rfl) _
theorem DidN.keep(h:DidN w wx q B g cap n r rows ss cs)(hb:Below wx.heap.size wx wy):DidN w wy q B g cap n r rows ss cs:=
 ⟨h.only.below hb,h.lg,h.wo.keep hb,h.rw_.keep hb,h.ra.keep hb,h.ok.keep hb,h.rows.keeps (.of_below hb),h.ses.keep hb⟩
theorem DidM.toN(h:DidM w wx q B g cap n r rows ss cs x a0 a1 a2 a3 a4):DidN w wx q B g cap n r rows ss cs:=⟨.of_below h.bel,h.lg,h.wo,h.rw_,h.ra,h.ok,h.rows,h.ses⟩
theorem DidQ.ends(h:DidQ w wx q B g cap n r rows ss cs)(hq:w.heap.size=q)(u0 u1 u2 u3 u4:Value):
  (Only2 g g w (((((wx.setCell ⟨q+2,0,none⟩ u0).setCell ⟨q+2,1,none⟩ u1).setCell ⟨q+3,0,none⟩ u2).setCell ⟨q+3,1,none⟩ u3).setCell ⟨q+3,2,none⟩ u4))∧
  OPL (((((wx.setCell ⟨q+2,0,none⟩ u0).setCell ⟨q+2,1,none⟩ u1).setCell ⟨q+3,0,none⟩ u2).setCell ⟨q+3,1,none⟩ u3).setCell ⟨q+3,2,none⟩ u4) B r rows∧
  OSL (((((wx.setCell ⟨q+2,0,none⟩ u0).setCell ⟨q+2,1,none⟩ u1).setCell ⟨q+3,0,none⟩ u2).setCell ⟨q+3,1,none⟩ u3).setCell ⟨q+3,2,none⟩ u4) B (.slice (some ⟨g,0,none⟩) n cap) ss cs∧
  Blk (((((wx.setCell ⟨q+2,0,none⟩ u0).setCell ⟨q+2,1,none⟩ u1).setCell ⟨q+3,0,none⟩ u2).setCell ⟨q+3,1,none⟩ u3).setCell ⟨q+3,2,none⟩ u4) (q+2) 39 #[u0,u1]∧
  Blk (((((wx.setCell ⟨q+2,0,none⟩ u0).setCell ⟨q+2,1,none⟩ u1).setCell ⟨q+3,0,none⟩ u2).setCell ⟨q+3,1,none⟩ u3).setCell ⟨q+3,2,none⟩ u4) (q+3) 46 #[u2,u3,u4]:=by
 have l2:w.heap.size≤(⟨q+2,0,none⟩:Addr).block:=by show w.heap.size≤q+2;omega
 have l3:w.heap.size≤(⟨q+3,0,none⟩:Addr).block:=by show w.heap.size≤q+3;omega
 have n23:q+3≠q+2:=by omega
 have n32:q+2≠q+3:=by omega
 have r2:=(h.rw_.set_ 0 u0).set_ 1 u1;have r3:=(h.ra.far (p:=⟨q+2,0,none⟩) n23 u0).far (p:=⟨q+2,1,none⟩) n23 u1;have kp: ∀t,39≠t→46≠t→Keeps t wx (((((wx.setCell ⟨q+2,0,none⟩ u0).setCell ⟨q+2,1,none⟩ u1).setCell ⟨q+3,0,none⟩ u2).setCell ⟨q+3,1,none⟩ u3).setCell ⟨q+3,2,none⟩ u4):=fun t h1 h2=>
  ((((Keeps.set_ (p:=⟨q+2,0,none⟩) h.rw_ h1 _).trans (Keeps.set_ (p:=⟨q+2,1,none⟩) (h.rw_.set_ 0 u0) h1 _)).trans (Keeps.set_ (p:=⟨q+3,0,none⟩) r3 h2 _)).trans (Keeps.set_ (p:=⟨q+3,1,none⟩) (r3.set_ 0 u2) h2 _)).trans (Keeps.set_ (p:=⟨q+3,2,none⟩) ((r3.set_ 0 u2).set_ 1 u3) h2 _)
 exact⟨((((h.only.set_new (p:=⟨q+2,0,none⟩) l2 _).set_new (p:=⟨q+2,1,none⟩) l2 _).set_new (p:=⟨q+3,0,none⟩) l3 _).set_new (p:=⟨q+3,1,none⟩) l3 _).set_new (p:=⟨q+3,2,none⟩) l3 _,
  h.rows.keeps (kp _ (by decide) (by decide)),⟨(kp _ (by decide) (by decide)).own h.ses.own,h.ses.ses.keeps (kp _ (by decide) (by decide))⟩,
  ((r2.far (p:=⟨q+3,0,none⟩) n32 _).far (p:=⟨q+3,1,none⟩) n32 _).far (p:=⟨q+3,2,none⟩) n32 _,((r3.set_ 0 u2).set_ 1 u3).set_ 2 u4⟩
theorem DidN.toQ(h:DidN w wx q B g cap n r rows ss cs):DidQ w wx q B g cap n r rows ss cs:=⟨h.only,h.rw_,h.ra,h.rows,h.ses⟩
end
structure DidP(w w4:World)(B g cap n i:Nat)(r:Value)(W:Wo)(cs:List Value)(x:St)(t:Se)(a1 a2 a3 a4:Value):Prop where
 z4:w4.heap.size=w.heap.size+4
 f1:w4.cell? ⟨w.heap.size,1,none⟩=some (.slice (some ⟨g,0,none⟩) n cap)
 y0:w4.cell? ⟨g,i*5,none⟩=some (.int .i64 t.st)
 y1:w4.cell? ⟨g,i*5+1,none⟩=some a1
 y2:w4.cell? ⟨g,i*5+2,none⟩=some a2
 y3:w4.cell? ⟨g,i*5+3,none⟩=some a3
 y4:w4.cell? ⟨g,i*5+4,none⟩=some a4
 m:DidM w ((w4.alloc (.cells #[.int .i64 t.st,a1,a2,a3,a4] 133)).alloc (.cells #[.int .i64 1,.string ⟨#[]⟩,.int .i64 0] 46)) w.heap.size B g cap n r W.rows W.ses cs x (.int .i64 t.st) a1 a2 a3 a4
structure SeR(w:World)(B:Nat)(a1 a2 a3 a4:Value)(t:Se):Prop where
 p1:OPL w B a1 t.set
 p2:OPL w B a2 t.pre
 p3:OPL w B a3 t.sav
 p4:OPL w B a4 t.wri
 i64: -9223372036854775808≤t.st∧t.st≤9223372036854775807
theorem did_pre{w:World}{B g cap n i:Nat}{r:Value}{W:Wo}{cs:List Value}(hB:B≤w.heap.size)(hn:W.ses.length=n)(hr:OPL w B r W.rows)(hs:OSL w B (.slice (some ⟨g,0,none⟩) n cap) W.ses cs)(hi:i<n):
  ∃Ar cr A1 z1 A2 z2 A3 z3 A4 z4,r= .slice Ar W.rows.length cr∧SeR w B (.slice A1 (W.se i).set.length z1) (.slice A2 (W.se i).pre.length z2) (.slice A3 (W.se i).sav.length z3) (.slice A4 (W.se i).wri.length z4) (W.se i)∧
   ∀(x:St) w4,((((w.alloc (.cells #[r,.slice (some ⟨g,0,none⟩) n cap] 39)).alloc (.cells #[.int .i64 x.k,.string x.key,.string x.val] 41)).alloc (.cells #[.slice none 0 0,.slice none 0 0] 39)).alloc (.cells #[.int .i64 0,.string ⟨#[]⟩,.int .i64 0] 46))=w4→
    DidP w w4 B g cap n i r W cs x (W.se i) (.slice A1 (W.se i).set.length z1) (.slice A2 (W.se i).pre.length z2) (.slice A3 (W.se i).sav.length z3) (.slice A4 (W.se i).wri.length z4):=by
 have hil:i<W.ses.length:=by omega
 have hse:W.se i=W.ses[i]:=getD_at hil _;obtain⟨Ar,cr,rfl⟩:=hr.form;obtain⟨v1,v2,v3,v4,k0,k1,k2,k3,k4,o1,o2,o3,o4,o5⟩:=SesC.at_ hs.ses i hil;rw[←hse]at k0 o1 o2 o3 o4 o5;have hc:=hs.own.cells (g:=g) rfl;obtain⟨A1,z1,rfl⟩:=o1.form;obtain⟨A2,z2,rfl⟩:=o2.form;obtain⟨A3,z3,rfl⟩:=o3.form;obtain⟨A4,z4,rfl⟩:=o4.form;refine⟨Ar,cr,A1,z1,A2,z2,A3,z3,A4,z4,rfl,⟨o1,o2,o3,o4,o5⟩,fun x w4 hw4=>?_⟩;obtain⟨d1,e4,d3,d4,d5,d6⟩:=did_boxes w _ _ x w4 hw4.symm;have lg:=hs.lt.2;have hx: ∀(j:Nat) (u:Value),cs[j]? =some u→w4.cell? ⟨g,j,none⟩=some u:=fun j u hu=>by
  have:=hc j u hu;rw[adr0]at this;exact(d1.cell (by exact lg)).trans this
 have bb:=boxed2 w4 (.cells #[.int .i64 (W.se i).st,.slice A1 (W.se i).set.length z1,.slice A2 (W.se i).pre.length z2,.slice A3 (W.se i).sav.length z3,.slice A4 (W.se i).wri.length z4] 133) (.cells #[.int .i64 1,.string ⟨#[]⟩,.int .i64 0] 46);have b6:=below_step d1 leR bb;have n4:=(Blk.new w4 133 #[.int .i64 (W.se i).st,.slice A1 (W.se i).set.length z1,.slice A2 (W.se i).pre.length z2,.slice A3 (W.se i).sav.length z3,.slice A4 (W.se i).wri.length z4]).alloc (.cells #[.int .i64 1,.string ⟨#[]⟩,.int .i64 0] 46);have n5:=Blk.new1 w4 (.cells #[.int .i64 (W.se i).st,.slice A1 (W.se i).set.length z1,.slice A2 (W.se i).pre.length z2,.slice A3 (W.se i).sav.length z3,.slice A4 (W.se i).wri.length z4] 133) 46 #[.int .i64 1,.string ⟨#[]⟩,.int .i64 0];rw[e4]at n4 n5;exact⟨e4,d3.cell_ 1 _ rfl,hx _ _ k0,hx _ _ k1,hx _ _ k2,hx _ _ k3,hx _ _ k4,⟨b6,hB,lg,d3.keep bb,d4.keep bb,d5.keep bb,d6.keep bb,n4,n5,hr.keeps (.of_below b6),hs.keep b6⟩⟩
theorem DidM.cells5{w wx:World}{q B g cap n:Nat}{r:Value}{rows:List Pr}{ss:List Se}{cs:List Value}{x:St}{a0 a1 a2 a3 a4:Value}(h:DidM w wx q B g cap n r rows ss cs x a0 a1 a2 a3 a4)(hn:ss.length=n){i:Nat}(hi:i<n):
  ∃c0 c1 c2 c3 c4,wx.cell? ⟨g,i*5,none⟩=some c0∧wx.cell? ⟨g,i*5+1,none⟩=some c1∧wx.cell? ⟨g,i*5+2,none⟩=some c2∧wx.cell? ⟨g,i*5+3,none⟩=some c3∧wx.cell? ⟨g,i*5+4,none⟩=some c4∧∀j,wx.frozen? ⟨g,j,none⟩=false:=by
 obtain⟨v1,v2,v3,v4,k0,k1,k2,k3,k4,_⟩:=SesC.at_ h.ses.ses i (by omega)
 have hc:=h.ses.own.cells (g:=g) rfl;have hx: ∀(j:Nat) (u:Value),cs[j]? =some u→wx.cell? ⟨g,j,none⟩=some u:=fun j u hu=>by
  have:=hc j u hu;rwa[adr0]at this
 obtain⟨cur,hg⟩:=h.ses.row;exact⟨_,_,_,_,_,hx _ _ k0,hx _ _ k1,hx _ _ k2,hx _ _ k3,hx _ _ k4,fun j=>hg.frozen j⟩
theorem SeR.at_{w u:World}{B:Nat}{a1 a2 a3 a4:Value}{t:Se}(h:SeR w B a1 a2 a3 a4 t)(hb:Below w.heap.size w u):SeR u B a1 a2 a3 a4 t:=
 ⟨h.p1.keeps (.of_below hb),h.p2.keeps (.of_below hb),h.p3.keeps (.of_below hb),h.p4.keeps (.of_below hb),h.i64⟩
theorem DidM.wl{w wx:World}{q B g cap n:Nat}{r:Value}{rows:List Pr}{ss:List Se}{cs:List Value}{x:St}{a0 a1 a2 a3 a4:Value}(h:DidM w wx q B g cap n r rows ss cs x a0 a1 a2 a3 a4)(hz:ss.length≤1000):WL wx wx.heap.size r (.slice (some ⟨g,0,none⟩) n cap) ⟨rows,ss⟩:=⟨h.rows.pl,h.ses.sl (by omega)⟩
theorem put_back(W:Wo){i:Nat}(hi:i<W.ses.length):W.put i (W.se i)=W:=by
 unfold Wo.put Wo.se;rw[getD_at hi,List.set_getElem_self]
theorem Good.wri100{W:Wo}(g:Good W): ∀s∈W.ses,s.wri.length≤100:=fun s hs=>by
 obtain⟨i,hi,rfl⟩:=List.getElem_of_mem hs;have:=g.ses i hi;rw[getD_at hi]at this;exact((pairs_iff _ _ _).1 this.wri).2.2
theorem Good.rows100{W:Wo}(g:Good W):W.rows.length≤100:=((pairs_iff _ _ _).1 g.rows).2.2
theorem at_here{l m:List Pr}{k a:ByteArray}(hb:hasK l k=true)(ha:(atP l k).getD ⟨#[]⟩=a):foundA (match atP l k with|some v=>some v|none=>atP m k)=⟨2,a,0⟩:=by
 have h:=hasK_atP l k;rw[hb]at h;obtain⟨v,hv⟩:=Option.isSome_iff_exists.1 h;rw[hv]at ha⊢;rw[←ha];rfl
theorem at_there{l m:List Pr}{k a:ByteArray}(hn:hasK l k=false)(hb:hasK m k=true)(ha:(atP m k).getD ⟨#[]⟩=a):foundA (match atP l k with|some v=>some v|none=>atP m k)=⟨2,a,0⟩:=by
 rw[at_none hn];have h:=hasK_atP m k;rw[hb]at h;obtain⟨v,hv⟩:=Option.isSome_iff_exists.1 h;simp only;rw[hv]at ha⊢;rw[←ha];rfl
theorem at_nowhere{l m:List Pr}{k:ByteArray}(hn:hasK l k=false)(hb:hasK m k=false):foundA (match atP l k with|some v=>some v|none=>atP m k)=⟨3,⟨#[]⟩,0⟩:=by
 rw[at_none hn];simp only;rw[at_none hb];rfl
def askV(l:List (St × Bool)):List Value:=l.flatMap fun p=>[.int .i64 p.1.k,.string p.1.key,.string p.1.val,.bool (!p.2)]
def guV(f:Fr)(wt:Nat→Value)(c:Nat):Nat→Value
 |0=>.string (f.c c).bytes
 |1=>wt c
 |2=>.int .i64 (f.c c).srv
 |_=>.string (f.c c).sent
structure AllR(w:World)(ga:Nat)(f:Fr)(wt:Nat→Value):Prop where
 blk: ∃cs,Blk w ga 113 cs∧cs.size=24∧∀c k,c<6→k<4→cs[c*4+k]? =some (guV f wt c k)
section
variable {w w':World}{ga:Nat}{f f':Fr}{wt wt':Nat→Value}
theorem AllR.cell(h:AllR w ga f wt){c k:Nat}(hc:c<6)(hk:k<4):w.cell? ⟨ga,c*4+k,none⟩=some (guV f wt c k):=by
 obtain⟨cs,hb,_,hx⟩:=h.blk;exact hb.cell_ _ _ (hx c k hc hk)
theorem AllR.frozen(h:AllR w ga f wt)(j:Nat):w.frozen? ⟨ga,j,none⟩=false:=by
 obtain⟨cs,hb,_⟩:=h.blk;exact hb.frozen j
theorem AllR.keeps(h:AllR w ga f wt)(kp:Keeps 113 w w'):AllR w' ga f wt:=by
 obtain⟨cs,hb,r⟩:=h.blk;exact⟨cs,kp ga cs (0,0) hb,r⟩
theorem AllR.store(h:AllR w ga f wt){c k:Nat}(hc:c<6)(hk:k<4){v:Value}(h1:guV f' wt' c k=v)(h2: ∀c' k',c'<6→k'<4→¬ (c'=c∧k'=k)→guV f' wt' c' k'=guV f wt c' k'):AllR (w.setCell ⟨ga,c*4+k,none⟩ v) ga f' wt':=by
 obtain⟨cs,hb,hz,hx⟩:=h.blk;refine⟨cs.setIfInBounds (c*4+k) v,hb.set_ _ _,by rw[Array.size_setIfInBounds];exact hz,fun c' k' hc' hk'=>?_⟩
 rw[Array.getElem?_setIfInBounds];by_cases e:c*4+k=c'*4+k'
 ·obtain⟨rfl,rfl⟩:c=c'∧k=k':=by omega
  rw[if_pos rfl,if_pos (by omega),h1]
 ·rw[if_neg e,hx c' k' hc' hk',h2 c' k' hc' hk' (by rintro⟨rfl,rfl⟩;exact e rfl)]
end
structure HoV where
 rows:Value
 owner:Value
 line:Value
 deeds:Value
 wait:Nat→Value
structure HouR(w:World)(B p ga gs cap:Nat)(V:HoV)(cs:List Value)(f:Fr)(h:Wo):Prop where
 blk:Blk w p 110 #[.int .i64 f.mode,.int .i64 (f.owner.length:Nat),V.rows,.slice (some ⟨gs,0,none⟩) 6 cap,.slice (some ⟨ga,0,none⟩) 6 6,V.owner,V.line,V.deeds]
 all:AllR w ga f V.wait
 lb:B≤p∧B≤ga
 rows:OPL w B V.rows h.rows
 ses:OSL w B (.slice (some ⟨gs,0,none⟩) 6 cap) h.ses cs
 six:h.ses.length=6
 owner:OwnO w B 3 1 V.owner f.owner.length (intV f.owner)
 line:OwnO w B 3 1 V.line f.wait.length (natV f.wait)
 deeds:OwnO w B 71 7 V.deeds f.deeds.length (deV f.deeds)
 wait: ∀c,c<6→OwnO w B 117 4 (V.wait c) (f.c c).pend.length (askV (f.c c).pend)
 ol: ∀k,V.owner.ownBlock=some k→V.line.ownBlock≠some k
 ww: ∀c c' k,c<6→c'<6→(V.wait c).ownBlock=some k→(V.wait c').ownBlock=some k→c=c'
structure HouF(B:Nat)(w w':World):Prop where
 bel:Below B w w'
 size:w.heap.size≤w'.heap.size
 keep: ∀t,110≠t→113≠t→3≠t→133≠t→71≠t→Keeps t w w'
theorem HouF.refl(B:Nat)(w:World):HouF B w w:=⟨bR,Nat.le_refl _,fun _ _ _ _ _ _=>.refl _ _⟩
theorem HouF.trans{B:Nat}{w w' u:World}(h:HouF B w w')(k:HouF B w' u):HouF B w u:=⟨h.bel.trans k.bel,Nat.le_trans h.size k.size,fun t h1 h2 h3 h4 h5=>(h.keep t h1 h2 h3 h4 h5).trans (k.keep t h1 h2 h3 h4 h5)⟩
theorem HouF.of_below{B:Nat}{w w':World}(h:Below w.heap.size w w')(hB:B≤w.heap.size):HouF B w w':=⟨h.mono hB,h.size,fun _ _ _ _ _ _=>.of_below h⟩
section
variable {w w':World}{B p ga gs cap:Nat}{V:HoV}{cs:List Value}{f:Fr}{h:Wo}
theorem HouR.below(H:HouR w B p ga gs cap V cs f h)(hb:Below w.heap.size w w'):HouR w' B p ga gs cap V cs f h:=
 ⟨H.blk.keep hb,H.all.keeps (.of_below hb),H.lb,H.rows.keeps (.of_below hb),H.ses.keep hb,H.six,H.owner.below hb,H.line.below hb,H.deeds.below hb,fun c hc=>(H.wait c hc).below hb,H.ol,H.ww⟩
theorem HouR.guest(H:HouR w B p ga gs cap V cs f h){c k:Nat}(hc:c<6)(hk:k<4){v:Value}{f':Fr}(h1:guV f' V.wait c k=v)(h2: ∀c' k',c'<6→k'<4→¬ (c'=c∧k'=k)→guV f' V.wait c' k'=guV f V.wait c' k')
  (hm:f'.mode=f.mode) (ho:f'.owner=f.owner) (hw:f'.wait=f.wait) (hd:f'.deeds=f.deeds) (hp: ∀c,c<6→(f'.c c).pend=(f.c c).pend):HouR (w.setCell ⟨ga,c*4+k,none⟩ v) B p ga gs cap V cs f' h∧HouF B w (w.setCell ⟨ga,c*4+k,none⟩ v):=by
 obtain⟨ag,hb,_⟩:=H.all.blk;have kp: ∀t,113≠t→Keeps t w (w.setCell ⟨ga,c*4+k,none⟩ v):=fun t ht=>Keeps.set_ (p:=⟨ga,c*4+k,none⟩) hb ht v;have ko: ∀{e:TypeId} {size n:Nat} {u:Value} {xs:List Value},113≠e→OwnO w B e size u n xs→OwnO (w.setCell ⟨ga,c*4+k,none⟩ v) B e size u n xs:=fun he ho=>ho.keep fun q hq=>by
  obtain⟨c1,hr⟩:=ho.row q hq;have:q≠ga:=fun e=>by subst e;exact hr.ne_ hb he.symm rfl
  exact Below.heap_setCell w ⟨ga,c*4+k,none⟩ v q this
 refine⟨⟨?_,H.all.store hc hk h1 h2,H.lb,H.rows.keeps (kp _ (by decide)),⟨(kp _ (by decide)).own H.ses.own,H.ses.ses.keeps (kp _ (by decide))⟩,H.six,?_,?_,?_,fun c' hc'=>?_,H.ol,H.ww⟩,⟨bR.setCell (p:=⟨ga,c*4+k,none⟩) H.lb.2 v,by simp[World.setCell],fun t _ h2 _ _ _=>kp t h2⟩⟩
 ·rw[hm,ho];exact H.blk.far (p:=⟨ga,c*4+k,none⟩) (H.blk.ne_ hb (by decide)) v
 ·rw[ho];exact ko (by decide) H.owner
 ·rw[hw];exact ko (by decide) H.line
 ·rw[hd];exact ko (by decide) H.deeds
 ·rw[hp c' hc'];exact ko (by decide) (H.wait c' hc')
end
theorem refdid_begin(w:World)(B:Nat)(r:Value)(g cap n:Nat)(W:Wo)(cs:List Value)(i:Nat)(key val:ByteArray)(hB:B≤w.heap.size)(hn:W.ses.length=n)(hr:OPL w B r W.rows)(hs:OSL w B (.slice (some ⟨g,0,none⟩) n cap) W.ses cs)(hi:i<n)(hs0:(W.se i).st=0):
  Calls Tryz.prog 133 #[.agg #[r,.slice (some ⟨g,0,none⟩) n cap],.int .i64 (i:Nat),.agg #[.int .i64 1,.string key,.string val]] w (DidR w B g cap n ((W.put i ⟨1,(W.se i).set,(W.se i).pre,(W.se i).set,(W.se i).wri⟩,okA))):=by
 obtain⟨Ar,cr,A1,z1,A2,z2,A3,z3,A4,z4,rfl,hse,hpre⟩:=did_pre hB hn hr hs hi;have HP:=Hd (hpre ⟨1,key,val⟩);have g1:(i:Int)<(n:Int):=by omega
 have g2:(0:Int)≤(i:Int):=by omega
 have HN:=Hd hn;have HI:=Hd hi;obtain⟨R,hR⟩: ∃R,(W.put i ⟨1,(W.se i).set,(W.se i).pre,(W.se i).set,(W.se i).wri⟩,okA)=R:=⟨_,rfl⟩;rw[hR];obtain⟨t,ht⟩: ∃t,W.se i=t:=⟨_,rfl⟩;rw[ht]at hse HP hR hs0;have HS:=Hd hse;have HR:=Hd hR;clear hpre hse ht hR hn hi hr hs hB;go_enter func133,ntmps133
 go_upto_region 1 with fail
 generalize hw4:(((World.alloc _ _).alloc _).alloc _).alloc _=w4;obtain⟨hz4,f1,y0,y1,y2,y3,y4,hm⟩:=HP.out w4 hw4;rw[hs0]at y0 hm;have HM:=Hd hm;clear hw4 hm HP;go_upto_region 3 with fail
 clear f1 y0 y1 y2 y3 y4;generalize (World.alloc _ _).alloc _=w6 at HM⊢;have s0:=HM.out.se.cell_ 0 _ rfl;have s1:=HM.out.se.cell_ 1 _ rfl;have r0:=HM.out.wo.cell_ 0 _ rfl;have r1:=HM.out.wo.cell_ 1 _ rfl;have t0:=HM.out.st.cell_ 0 _ rfl;have fs:=HM.out.se.frozen;go_upto_region 11 with fail
 have HM1:=Hd (HM.out.setS rfl 0 (.int .i64 1) rfl);clear s0 s1 r0 r1 t0 fs HM;generalize World.setCell _ _ _=w7 at HM1⊢;have s1:=HM1.out.se.cell_ 1 _ rfl;go_wp2_with fail
 refine(refpairs_any _ _ t.set ((HS.out.at_ HM1.out.bel).p1.pl)).mono ?_;rintro e w8 ⟨a,rfl,oa,b⟩;have HM2:=Hd (HM1.out.keep b);have OA:=Hd (oa.base (B':=B) (Nat.le_trans HM1.out.hB HM1.out.bel.size));clear oa b s1 HM1;obtain⟨F,k,rfl⟩:=OA.out.form;have s3:=HM2.out.se.cell_ 3 _ rfl;have fs:=HM2.out.se.frozen;go_upto_region 65 with fail
 have kp:Keeps 60 w8 (w8.setCell ⟨w.heap.size+4,3,none⟩ (.slice F t.set.length k)):=Keeps.set_ (p:=⟨w.heap.size+4,3,none⟩) HM2.out.se (by decide) _
 have OB:=Hd (OA.out.keeps kp);have HM3:=Hd (HM2.out.setS rfl 3 (.slice F t.set.length k) rfl);clear s3 fs HM2 OA kp;generalize World.setCell _ _ _=w9 at HM3 OB⊢;have r0:=HM3.out.wo.cell_ 0 _ rfl;have r1:=HM3.out.wo.cell_ 1 _ rfl;have s0:=HM3.out.se.cell_ 0 _ rfl;have s1:=HM3.out.se.cell_ 1 _ rfl;have s2:=HM3.out.se.cell_ 2 _ rfl;have s3:=HM3.out.se.cell_ 3 _ rfl;have s4:=HM3.out.se.cell_ 4 _ rfl;obtain⟨_,_,_,_,_,c0,c1,c2,c3,c4,fr⟩:=HM3.out.cells5 HN.out HI.out;have fr0:=fr (i*5);have ST:=Hd (HS.out.at_ HM3.out.bel);go_upto_region 66 with fail
 obtain⟨cs',dn⟩:=HM3.out.put5 rfl HN.out (i:=i) (by rw[HN.out];exact HI.out) (s':=⟨1,t.set,t.pre,t.set,t.wri⟩) ST.out.p1 ST.out.p2 OB.out ST.out.p4 ⟨by simp,by simp⟩
 clear r0 r1 s0 s1 s2 s3 s4 c0 c1 c2 c3 c4 fr fr0 ST;have DN:=Hd dn;clear dn;generalize World.setCell _ _ _=w9 at DN⊢;refine region_sg [2,3] ?_;have DN:=Hd (DN.out.keep bR.drew);generalize w9.drew=w9 at DN⊢;have r0:=DN.out.wo.cell_ 0 _ rfl;have r1:=DN.out.wo.cell_ 1 _ rfl;have k0:=DN.out.ok.cell_ 0 _ rfl;have k1:=DN.out.ok.cell_ 1 _ rfl;have k2:=DN.out.ok.cell_ 2 _ rfl;have u0:=DN.out.rw_.cell_ 0 _ rfl;have u1:=DN.out.rw_.cell_ 1 _ rfl;have v0:=DN.out.ra.cell_ 0 _ rfl;have v1:=DN.out.ra.cell_ 1 _ rfl;have v2:=DN.out.ra.cell_ 2 _ rfl;have ff:=DN.out.rw_.frozen;have fg:=DN.out.ra.frozen;refine anyB_sg [0] 3 ?_;go_wp2_with fail
 refine sg_o ?_;obtain⟨E1,E2,E3,E4,E5⟩:=DN.out.toQ.ends rfl (.slice Ar W.rows.length cr) (.slice (some ⟨g,0,none⟩) n cap) (.int .i64 1) (.string ⟨#[]⟩) (.int .i64 0);have q0:=E4.cell_ 0 _ rfl;have q1:=E4.cell_ 1 _ rfl;have p0:=E5.cell_ 0 _ rfl;have p1:=E5.cell_ 1 _ rfl;have p2:=E5.cell_ 2 _ rfl;have FIN:=Hd (And.intro E1 (And.intro E2 E3));clear E1 E2 E3 E4 E5;refine anyB_tw 1 2 (fun K hK=>?_) fun K hK=>?_
 ·go_simp;refine thK hK bR ?_;clear hK K;refine anyB_on 2 fun K hK=>?_;go_simp;refine lateK hK ?_;clear hK K;refine anyB_on 3 fun K hK=>?_;go_simp;refine lateK hK ?_;clear hK K;refine anyB_dn ?_;clear u0 u1 v0 v1 v2 ff fg r0 r1 k0 k1 k2;generalize World.setCell _ _ _=w10 at FIN q0 q1 p0 p1 p2⊢;go_wp2_with fail
  refine bodyPost_ret (v:=.tuple #[.agg #[.slice Ar W.rows.length cr,.slice (some ⟨g,0,none⟩) n cap],.agg #[.int .i64 1,.string ⟨#[]⟩,.int .i64 0]]) ?_ rfl ⟨_,cs',by rw[←HR.out];rfl,by rw[←HR.out];exact FIN.out.2.1,by rw[←HR.out];exact FIN.out.2.2,FIN.out.1⟩
  simp[results,results133,go_sem,q0,q1,p0,p1,p2]
 ·go_simp;refine lateK hK ?_;clear hK K;refine anyB_sg [1] 1 ?_;go_wp2_with fail
  refine sg_o ?_;refine anyB_on 3 fun K hK=>?_;go_simp;refine lateK hK ?_;clear hK K;refine anyB_dn ?_;clear u0 u1 v0 v1 v2 ff fg r0 r1 k0 k1 k2;generalize World.setCell _ _ _=w10 at FIN q0 q1 p0 p1 p2⊢;go_wp2_with fail
  refine bodyPost_ret (v:=.tuple #[.agg #[.slice Ar W.rows.length cr,.slice (some ⟨g,0,none⟩) n cap],.agg #[.int .i64 1,.string ⟨#[]⟩,.int .i64 0]]) ?_ rfl ⟨_,cs',by rw[←HR.out];rfl,by rw[←HR.out];exact FIN.out.2.1,by rw[←HR.out];exact FIN.out.2.2,FIN.out.1⟩
  simp[results,results133,go_sem,q0,q1,p0,p1,p2]
theorem refdid_reset(w:World)(B:Nat)(r:Value)(g cap n:Nat)(W:Wo)(cs:List Value)(i:Nat)(key val:ByteArray)(hB:B≤w.heap.size)(hn:W.ses.length=n)(hr:OPL w B r W.rows)(hs:OSL w B (.slice (some ⟨g,0,none⟩) n cap) W.ses cs)(hi:i<n)(hs0:(W.se i).st=0):
  Calls Tryz.prog 133 #[.agg #[r,.slice (some ⟨g,0,none⟩) n cap],.int .i64 (i:Nat),.agg #[.int .i64 4,.string key,.string val]] w (DidR w B g cap n ((W.put i ⟨0,[],[],(W.se i).sav,(W.se i).wri⟩,okA))):=by
 obtain⟨Ar,cr,A1,z1,A2,z2,A3,z3,A4,z4,rfl,hse,hpre⟩:=did_pre hB hn hr hs hi;have HP:=Hd (hpre ⟨4,key,val⟩);have g1:(i:Int)<(n:Int):=by omega
 have g2:(0:Int)≤(i:Int):=by omega
 have HN:=Hd hn;have HI:=Hd hi;obtain⟨R,hR⟩: ∃R,(W.put i ⟨0,[],[],(W.se i).sav,(W.se i).wri⟩,okA)=R:=⟨_,rfl⟩;rw[hR];obtain⟨t,ht⟩: ∃t,W.se i=t:=⟨_,rfl⟩;rw[ht]at hse HP hR hs0;have HS:=Hd hse;have HR:=Hd hR;clear hpre hse ht hR hn hi hr hs hB;go_enter func133,ntmps133
 go_upto_region 1 with fail
 generalize hw4:(((World.alloc _ _).alloc _).alloc _).alloc _=w4;obtain⟨hz4,f1,y0,y1,y2,y3,y4,hm⟩:=HP.out w4 hw4;rw[hs0]at y0 hm;have HM:=Hd hm;clear hw4 hm HP;go_upto_region 3 with fail
 clear f1 y0 y1 y2 y3 y4;generalize (World.alloc _ _).alloc _=w6 at HM⊢;have s0:=HM.out.se.cell_ 0 _ rfl;have s1:=HM.out.se.cell_ 1 _ rfl;have s2:=HM.out.se.cell_ 2 _ rfl;have r0:=HM.out.wo.cell_ 0 _ rfl;have r1:=HM.out.wo.cell_ 1 _ rfl;have t0:=HM.out.st.cell_ 0 _ rfl;have fs:=HM.out.se.frozen;go_upto_region 65 with fail
 have HM1:=Hd ((HM.out.setS rfl 1 (.slice none 0 0) rfl).setS rfl 2 (.slice none 0 0) rfl);clear s0 s1 s2 r0 r1 t0 fs HM;generalize World.setCell _ _ _=w7 at HM1⊢;have r0:=HM1.out.wo.cell_ 0 _ rfl;have r1:=HM1.out.wo.cell_ 1 _ rfl;have s0:=HM1.out.se.cell_ 0 _ rfl;have s1:=HM1.out.se.cell_ 1 _ rfl;have s2:=HM1.out.se.cell_ 2 _ rfl;have s3:=HM1.out.se.cell_ 3 _ rfl;have s4:=HM1.out.se.cell_ 4 _ rfl;obtain⟨_,_,_,_,_,c0,c1,c2,c3,c4,fr⟩:=HM1.out.cells5 HN.out HI.out;have fr0:=fr (i*5);have ST:=Hd (HS.out.at_ HM1.out.bel);go_upto_region 66 with fail
 obtain⟨cs',dn⟩:=HM1.out.put5 rfl HN.out (i:=i) (by rw[HN.out];exact HI.out) (s':=⟨0,[],[],t.sav,t.wri⟩) (OPL.nil_ _ _) (OPL.nil_ _ _) ST.out.p3 ST.out.p4 ⟨by simp,by simp⟩
 clear r0 r1 s0 s1 s2 s3 s4 c0 c1 c2 c3 c4 fr fr0 ST;have DN:=Hd dn;clear dn;generalize World.setCell _ _ _=w9 at DN⊢;refine region_sg [2,3] ?_;have DN:=Hd (DN.out.keep bR.drew);generalize w9.drew=w9 at DN⊢;have r0:=DN.out.wo.cell_ 0 _ rfl;have r1:=DN.out.wo.cell_ 1 _ rfl;have k0:=DN.out.ok.cell_ 0 _ rfl;have k1:=DN.out.ok.cell_ 1 _ rfl;have k2:=DN.out.ok.cell_ 2 _ rfl;have u0:=DN.out.rw_.cell_ 0 _ rfl;have u1:=DN.out.rw_.cell_ 1 _ rfl;have v0:=DN.out.ra.cell_ 0 _ rfl;have v1:=DN.out.ra.cell_ 1 _ rfl;have v2:=DN.out.ra.cell_ 2 _ rfl;have ff:=DN.out.rw_.frozen;have fg:=DN.out.ra.frozen;refine anyB_sg [0] 3 ?_;go_wp2_with fail
 refine sg_o ?_;obtain⟨E1,E2,E3,E4,E5⟩:=DN.out.toQ.ends rfl (.slice Ar W.rows.length cr) (.slice (some ⟨g,0,none⟩) n cap) (.int .i64 1) (.string ⟨#[]⟩) (.int .i64 0);have q0:=E4.cell_ 0 _ rfl;have q1:=E4.cell_ 1 _ rfl;have p0:=E5.cell_ 0 _ rfl;have p1:=E5.cell_ 1 _ rfl;have p2:=E5.cell_ 2 _ rfl;have FIN:=Hd (And.intro E1 (And.intro E2 E3));clear E1 E2 E3 E4 E5;refine anyB_tw 1 2 (fun K hK=>?_) fun K hK=>?_
 ·go_simp;refine thK hK bR ?_;clear hK K;refine anyB_on 2 fun K hK=>?_;go_simp;refine lateK hK ?_;clear hK K;refine anyB_on 3 fun K hK=>?_;go_simp;refine lateK hK ?_;clear hK K;refine anyB_dn ?_;clear u0 u1 v0 v1 v2 ff fg r0 r1 k0 k1 k2;generalize World.setCell _ _ _=w10 at FIN q0 q1 p0 p1 p2⊢;go_wp2_with fail
  refine bodyPost_ret (v:=.tuple #[.agg #[.slice Ar W.rows.length cr,.slice (some ⟨g,0,none⟩) n cap],.agg #[.int .i64 1,.string ⟨#[]⟩,.int .i64 0]]) ?_ rfl ⟨_,cs',by rw[←HR.out];rfl,by rw[←HR.out];exact FIN.out.2.1,by rw[←HR.out];exact FIN.out.2.2,FIN.out.1⟩
  simp[results,results133,go_sem,q0,q1,p0,p1,p2]
 ·go_simp;refine lateK hK ?_;clear hK K;refine anyB_sg [1] 1 ?_;go_wp2_with fail
  refine sg_o ?_;refine anyB_on 3 fun K hK=>?_;go_simp;refine lateK hK ?_;clear hK K;refine anyB_dn ?_;clear u0 u1 v0 v1 v2 ff fg r0 r1 k0 k1 k2;generalize World.setCell _ _ _=w10 at FIN q0 q1 p0 p1 p2⊢;go_wp2_with fail
  refine bodyPost_ret (v:=.tuple #[.agg #[.slice Ar W.rows.length cr,.slice (some ⟨g,0,none⟩) n cap],.agg #[.int .i64 1,.string ⟨#[]⟩,.int .i64 0]]) ?_ rfl ⟨_,cs',by rw[←HR.out];rfl,by rw[←HR.out];exact FIN.out.2.1,by rw[←HR.out];exact FIN.out.2.2,FIN.out.1⟩
  simp[results,results133,go_sem,q0,q1,p0,p1,p2]
theorem refdid_read(w:World)(B:Nat)(r:Value)(g cap n:Nat)(W:Wo)(cs:List Value)(i:Nat)(key val:ByteArray)(hB:B≤w.heap.size)(hn:W.ses.length=n)(hr:OPL w B r W.rows)(hs:OSL w B (.slice (some ⟨g,0,none⟩) n cap) W.ses cs)(hi:i<n)(hs0:(W.se i).st≠2):
  Calls Tryz.prog 133 #[.agg #[r,.slice (some ⟨g,0,none⟩) n cap],.int .i64 (i:Nat),.agg #[.int .i64 7,.string key,.string val]] w (DidR w B g cap n (readW W i key)):=by
 obtain⟨Ar,cr,A1,z1,A2,z2,A3,z3,A4,z4,rfl,hse,hpre⟩:=did_pre hB hn hr hs hi;have HP:=Hd (hpre ⟨7,key,val⟩);have g1:(i:Int)<(n:Int):=by omega
 have g2:(0:Int)≤(i:Int):=by omega
 have HN:=Hd hn;have HI:=Hd hi;obtain⟨R,hR⟩: ∃R,readW W i key=R:=⟨_,rfl⟩;rw[hR];obtain⟨t,ht⟩: ∃t,W.se i=t:=⟨_,rfl⟩;have hR:(W,foundA (match atP (W.se i).wri key with|some v=>some v|none=>atP W.rows key))=R:=hR
 rw[ht]at hse HP hR hs0;have HS:=Hd hse;have HR:=Hd hR;clear hpre hse ht hR hn hi hr hs hB;go_enter func133,ntmps133
 go_upto_region 1 with fail
 generalize hw4:(((World.alloc _ _).alloc _).alloc _).alloc _=w4;obtain⟨hz4,f1,y0,y1,y2,y3,y4,hm⟩:=HP.out w4 hw4;have HM:=Hd hm;clear hw4 hm HP;go_upto_region 3 with fail
 clear f1 y0 y1 y2 y3 y4;generalize (World.alloc _ _).alloc _=w6 at HM⊢;have e2:(t.st==2)=false:=by simpa using hs0
 have e2':¬ t.st=2:=hs0;have s0:=HM.out.se.cell_ 0 _ rfl;have s4:=HM.out.se.cell_ 4 _ rfl;have r0:=HM.out.wo.cell_ 0 _ rfl;have r1:=HM.out.wo.cell_ 1 _ rfl;have t0:=HM.out.st.cell_ 0 _ rfl;have t1:=HM.out.st.cell_ 1 _ rfl;go_wp2_with fail
 refine(refat_val w6 _ t.wri key (HS.out.at_ HM.out.bel).p4.pl).mono ?_;rintro e w7 ⟨rfl,b⟩;have HM1:=Hd (HM.out.keep b);clear s0 s4 r0 r1 t0 t1 b HM;obtain⟨a1,ha1⟩: ∃a,(atP t.wri key).getD ⟨#[]⟩=a:=⟨_,rfl⟩;obtain⟨b1,hb1⟩: ∃b,hasK t.wri key=b:=⟨_,rfl⟩;rw[ha1,hb1];have HA1:=Hd ha1;have HB1:=Hd hb1;clear ha1 hb1;have r0:=HM1.out.wo.cell_ 0 _ rfl;have r1:=HM1.out.wo.cell_ 1 _ rfl;have t1:=HM1.out.st.cell_ 1 _ rfl;cases b1 with
 |true=>
  have HX:=Hd (show R=(W,⟨2,a1,0⟩)by rw[←HR.out];exact congrArg (Prod.mk W) (at_here HB1.out HA1.out))
  clear t1 e2 e2';go_upto_region 39 with fail
  clear r0 r1;refine region_sg [4,5] ?_;have DN:=Hd (HM1.out.keep bR.drew);generalize w7.drew=w8 at DN⊢;have r0:=DN.out.wo.cell_ 0 _ rfl;have r1:=DN.out.wo.cell_ 1 _ rfl;refine anyB_sg [0,1,2] 3 ?_;go_wp2_with fail
  refine sg_o ?_;clear r0 r1;have hf:=reffound_any w8 a1 true;simp only[if_true]at hf;refine anyB_on 3 fun K hK=>?_;go_simp;refine hf.mono ?_;rintro e w9 ⟨rfl,b⟩;refine thK hK b ?_;clear hK K;have DN:=Hd (DN.out.keep b).toN;clear b hf;have u0:=DN.out.rw_.cell_ 0 _ rfl;have u1:=DN.out.rw_.cell_ 1 _ rfl;have v0:=DN.out.ra.cell_ 0 _ rfl;have v1:=DN.out.ra.cell_ 1 _ rfl;have v2:=DN.out.ra.cell_ 2 _ rfl;have ff:=DN.out.rw_.frozen;have fg:=DN.out.ra.frozen;obtain⟨E1,E2,E3,E4,E5⟩:=DN.out.toQ.ends rfl (.slice Ar W.rows.length cr) (.slice (some ⟨g,0,none⟩) n cap) (.int .i64 2) (.string a1) (.int .i64 0);have q0:=E4.cell_ 0 _ rfl;have q1:=E4.cell_ 1 _ rfl;have p0:=E5.cell_ 0 _ rfl;have p1:=E5.cell_ 1 _ rfl;have p2:=E5.cell_ 2 _ rfl;have FIN:=Hd (And.intro E1 (And.intro E2 E3));clear E1 E2 E3 E4 E5;refine anyB_on 4 fun K hK=>?_;go_simp;refine lateK hK ?_;clear hK K;refine anyB_on 5 fun K hK=>?_;go_simp;refine lateK hK ?_;clear hK K;refine anyB_dn ?_;clear u0 u1 v0 v1 v2 ff fg;generalize World.setCell _ _ _=w10 at FIN q0 q1 p0 p1 p2⊢;go_wp2_with fail
  refine bodyPost_ret (v:=.tuple #[.agg #[.slice Ar W.rows.length cr,.slice (some ⟨g,0,none⟩) n cap],.agg #[.int .i64 2,.string a1,.int .i64 0]]) ?_ rfl ⟨_,cs,by rw[HX.out];rfl,by rw[HX.out];exact FIN.out.2.1,by rw[HX.out];exact FIN.out.2.2,FIN.out.1⟩
  simp[results,results133,go_sem,q0,q1,p0,p1,p2]
 |false=>
  go_wp2_with fail
  refine(refat_val w7 _ W.rows key HM1.out.rows.pl).mono ?_;rintro e w8 ⟨rfl,b⟩;have HM2:=Hd (HM1.out.keep b);clear r0 r1 t1 b HM1 HA1;obtain⟨a2,ha2⟩: ∃a,(atP W.rows key).getD ⟨#[]⟩=a:=⟨_,rfl⟩;obtain⟨b2,hb2⟩: ∃b,hasK W.rows key=b:=⟨_,rfl⟩;rw[ha2,hb2];have HA2:=Hd ha2;have HB2:=Hd hb2;clear ha2 hb2;cases b2 with
  |true=>
   have HX:=Hd (show R=(W,⟨2,a2,0⟩)by rw[←HR.out];exact congrArg (Prod.mk W) (at_there HB1.out HB2.out HA2.out))
   go_upto_region 39 with fail
   refine region_sg [4,5] ?_;have DN:=Hd (HM2.out.keep bR.drew);generalize w8.drew=w8 at DN⊢;have r0:=DN.out.wo.cell_ 0 _ rfl;have r1:=DN.out.wo.cell_ 1 _ rfl;refine anyB_sg [0,1,2] 3 ?_;go_wp2_with fail
   refine sg_o ?_;clear r0 r1;have hf:=reffound_any w8 a2 true;simp only[if_true]at hf;refine anyB_on 3 fun K hK=>?_;go_simp;refine hf.mono ?_;rintro e w9 ⟨rfl,b⟩;refine thK hK b ?_;clear hK K;have DN:=Hd (DN.out.keep b).toN;clear b hf;have u0:=DN.out.rw_.cell_ 0 _ rfl;have u1:=DN.out.rw_.cell_ 1 _ rfl;have v0:=DN.out.ra.cell_ 0 _ rfl;have v1:=DN.out.ra.cell_ 1 _ rfl;have v2:=DN.out.ra.cell_ 2 _ rfl;have ff:=DN.out.rw_.frozen;have fg:=DN.out.ra.frozen;obtain⟨E1,E2,E3,E4,E5⟩:=DN.out.toQ.ends rfl (.slice Ar W.rows.length cr) (.slice (some ⟨g,0,none⟩) n cap) (.int .i64 2) (.string a2) (.int .i64 0);have q0:=E4.cell_ 0 _ rfl;have q1:=E4.cell_ 1 _ rfl;have p0:=E5.cell_ 0 _ rfl;have p1:=E5.cell_ 1 _ rfl;have p2:=E5.cell_ 2 _ rfl;have FIN:=Hd (And.intro E1 (And.intro E2 E3));clear E1 E2 E3 E4 E5;refine anyB_on 4 fun K hK=>?_;go_simp;refine lateK hK ?_;clear hK K;refine anyB_on 5 fun K hK=>?_;go_simp;refine lateK hK ?_;clear hK K;refine anyB_dn ?_;clear u0 u1 v0 v1 v2 ff fg;generalize World.setCell _ _ _=w10 at FIN q0 q1 p0 p1 p2⊢;go_wp2_with fail
   refine bodyPost_ret (v:=.tuple #[.agg #[.slice Ar W.rows.length cr,.slice (some ⟨g,0,none⟩) n cap],.agg #[.int .i64 2,.string a2,.int .i64 0]]) ?_ rfl ⟨_,cs,by rw[HX.out];rfl,by rw[HX.out];exact FIN.out.2.1,by rw[HX.out];exact FIN.out.2.2,FIN.out.1⟩
   simp[results,results133,go_sem,q0,q1,p0,p1,p2]
  |false=>
   have HX:=Hd (show R=(W,⟨3,⟨#[]⟩,0⟩)by rw[←HR.out];exact congrArg (Prod.mk W) (at_nowhere HB1.out HB2.out))
   go_upto_region 39 with fail
   refine region_sg [4,5] ?_;have DN:=Hd (HM2.out.keep bR.drew);generalize w8.drew=w8 at DN⊢;have r0:=DN.out.wo.cell_ 0 _ rfl;have r1:=DN.out.wo.cell_ 1 _ rfl;refine anyB_sg [0,1,2] 3 ?_;go_wp2_with fail
   refine sg_o ?_;clear r0 r1;have hf:=reffound_any w8 a2 false;simp only[Bool.false_eq_true,if_false]at hf;refine anyB_on 3 fun K hK=>?_;go_simp;refine hf.mono ?_;rintro e w9 ⟨rfl,b⟩;refine thK hK b ?_;clear hK K;have DN:=Hd (DN.out.keep b).toN;clear b hf;have u0:=DN.out.rw_.cell_ 0 _ rfl;have u1:=DN.out.rw_.cell_ 1 _ rfl;have v0:=DN.out.ra.cell_ 0 _ rfl;have v1:=DN.out.ra.cell_ 1 _ rfl;have v2:=DN.out.ra.cell_ 2 _ rfl;have ff:=DN.out.rw_.frozen;have fg:=DN.out.ra.frozen;obtain⟨E1,E2,E3,E4,E5⟩:=DN.out.toQ.ends rfl (.slice Ar W.rows.length cr) (.slice (some ⟨g,0,none⟩) n cap) (.int .i64 3) (.string ⟨#[]⟩) (.int .i64 0);have q0:=E4.cell_ 0 _ rfl;have q1:=E4.cell_ 1 _ rfl;have p0:=E5.cell_ 0 _ rfl;have p1:=E5.cell_ 1 _ rfl;have p2:=E5.cell_ 2 _ rfl;have FIN:=Hd (And.intro E1 (And.intro E2 E3));clear E1 E2 E3 E4 E5;refine anyB_on 4 fun K hK=>?_;go_simp;refine lateK hK ?_;clear hK K;refine anyB_on 5 fun K hK=>?_;go_simp;refine lateK hK ?_;clear hK K;refine anyB_dn ?_;clear u0 u1 v0 v1 v2 ff fg;generalize World.setCell _ _ _=w10 at FIN q0 q1 p0 p1 p2⊢;go_wp2_with fail
   refine bodyPost_ret (v:=.tuple #[.agg #[.slice Ar W.rows.length cr,.slice (some ⟨g,0,none⟩) n cap],.agg #[.int .i64 3,.string ⟨#[]⟩,.int .i64 0]]) ?_ rfl ⟨_,cs,by rw[HX.out];rfl,by rw[HX.out];exact FIN.out.2.1,by rw[HX.out];exact FIN.out.2.2,FIN.out.1⟩
   simp[results,results133,go_sem,q0,q1,p0,p1,p2]
theorem refdid_notprep(w:World)(B:Nat)(r:Value)(g cap n:Nat)(W:Wo)(cs:List Value)(i:Nat)(key val:ByteArray)(hB:B≤w.heap.size)(hn:W.ses.length=n)(hr:OPL w B r W.rows)(hs:OSL w B (.slice (some ⟨g,0,none⟩) n cap) W.ses cs)(hi:i<n)(hs0:(W.se i).st≠2)(hc:hasK (W.se i).pre key=false):
  Calls Tryz.prog 133 #[.agg #[r,.slice (some ⟨g,0,none⟩) n cap],.int .i64 (i:Nat),.agg #[.int .i64 8,.string key,.string val]] w (DidR w B g cap n ((W,noA tNotPrep))):=by
 obtain⟨Ar,cr,A1,z1,A2,z2,A3,z3,A4,z4,rfl,hse,hpre⟩:=did_pre hB hn hr hs hi;have HP:=Hd (hpre ⟨8,key,val⟩);have g1:(i:Int)<(n:Int):=by omega
 have g2:(0:Int)≤(i:Int):=by omega
 have HN:=Hd hn;have HI:=Hd hi;obtain⟨R,hR⟩: ∃R,(W,noA tNotPrep)=R:=⟨_,rfl⟩;rw[hR];obtain⟨t,ht⟩: ∃t,W.se i=t:=⟨_,rfl⟩;rw[ht]at hse HP hs0 hc;have HS:=Hd hse;have HR:=Hd hR;clear hpre hse ht hR hn hi hr hs hB;go_enter func133,ntmps133
 go_upto_region 1 with fail
 generalize hw4:(((World.alloc _ _).alloc _).alloc _).alloc _=w4;obtain⟨hz4,f1,y0,y1,y2,y3,y4,hm⟩:=HP.out w4 hw4;have HM:=Hd hm;clear hw4 hm HP;go_upto_region 3 with fail
 clear f1 y0 y1 y2 y3 y4;generalize (World.alloc _ _).alloc _=w6 at HM⊢;have e2:(t.st==2)=false:=by simpa using hs0
 have e2':¬ t.st=2:=hs0;have s0:=HM.out.se.cell_ 0 _ rfl;have s2:=HM.out.se.cell_ 2 _ rfl;have r0:=HM.out.wo.cell_ 0 _ rfl;have r1:=HM.out.wo.cell_ 1 _ rfl;have t0:=HM.out.st.cell_ 0 _ rfl;have t1:=HM.out.st.cell_ 1 _ rfl;go_wp2_with fail
 refine(refat_any _ _ t.pre key ((HS.out.at_ HM.out.bel).p2.pl)).mono ?_;rintro e w7 ⟨xv,rfl,b⟩;have HM1:=Hd (HM.out.keep b);clear s0 s2 r0 r1 t0 t1 b HM;rw[hc];have r0:=HM1.out.wo.cell_ 0 _ rfl;have r1:=HM1.out.wo.cell_ 1 _ rfl;go_upto_region 43 with fail
 clear r0 r1;refine region_sg [2,3] ?_;have DN:=Hd (HM1.out.keep bR.drew);generalize w7.drew=w8 at DN⊢;have r0:=DN.out.wo.cell_ 0 _ rfl;have r1:=DN.out.wo.cell_ 1 _ rfl;refine anyB_sg [0] 3 ?_;go_wp2_with fail
 refine sg_o ?_;clear r0 r1;refine anyB_on 1 fun K hK=>?_;go_simp;refine(refno_any _ tNotPrep).mono ?_;rintro e w9 ⟨rfl,b⟩;refine thK hK b ?_;clear hK K;have DN:=Hd (DN.out.keep b).toN;clear b;have u0:=DN.out.rw_.cell_ 0 _ rfl;have u1:=DN.out.rw_.cell_ 1 _ rfl;have v0:=DN.out.ra.cell_ 0 _ rfl;have v1:=DN.out.ra.cell_ 1 _ rfl;have v2:=DN.out.ra.cell_ 2 _ rfl;have ff:=DN.out.rw_.frozen;have fg:=DN.out.ra.frozen;obtain⟨E1,E2,E3,E4,E5⟩:=DN.out.toQ.ends rfl (.slice Ar W.rows.length cr) (.slice (some ⟨g,0,none⟩) n cap) (.int .i64 4) (.string tNotPrep) (.int .i64 0);have q0:=E4.cell_ 0 _ rfl;have q1:=E4.cell_ 1 _ rfl;have p0:=E5.cell_ 0 _ rfl;have p1:=E5.cell_ 1 _ rfl;have p2:=E5.cell_ 2 _ rfl;have FIN:=Hd (And.intro E1 (And.intro E2 E3));clear E1 E2 E3 E4 E5;refine anyB_on 2 fun K hK=>?_;go_simp;refine lateK hK ?_;clear hK K;refine anyB_on 3 fun K hK=>?_;go_simp;refine lateK hK ?_;clear hK K;refine anyB_dn ?_;clear u0 u1 v0 v1 v2 ff fg;generalize World.setCell _ _ _=w10 at FIN q0 q1 p0 p1 p2⊢;go_wp2_with fail
 refine bodyPost_ret (v:=.tuple #[.agg #[.slice Ar W.rows.length cr,.slice (some ⟨g,0,none⟩) n cap],.agg #[.int .i64 4,.string tNotPrep,.int .i64 0]]) ?_ rfl ⟨_,cs,by rw[←HR.out];rfl,by rw[←HR.out];exact FIN.out.2.1,by rw[←HR.out];exact FIN.out.2.2,FIN.out.1⟩
 simp[results,results133,go_sem,q0,q1,p0,p1,p2]
theorem ask0{w:World}{B:Nat}{v:Value}{x:St}{bad:Bool}{l:List (St × Bool)}(h:OwnO w B 117 4 v ((x,bad)::l).length (askV ((x,bad)::l))):
  ∃g off k,v= .slice (some ⟨g,off,none⟩) (l.length+1) k∧l.length+1≤k∧w.cell? ⟨g,off,none⟩=some (.int .i64 x.k)∧w.cell? ⟨g,off+1,none⟩=some (.string x.key)∧w.cell? ⟨g,off+2,none⟩=some (.string x.val)∧w.cell? ⟨g,off+3,none⟩=some (.bool (!bad)):=by
 obtain⟨A,c,e,hc,r⟩:=h.reads;rcases h.2 with⟨_,h0⟩|⟨g,off,cap,cur,e2,_⟩
 ·simp at h0
 ·rw[e2]at e;injection e with e3 e4 e5;obtain⟨ad,hA,_,hcell⟩:=r.2 (by simp)
  rw[←e3]at hA;injection hA with hA;subst hA;have hx: ∀(j:Nat) (u:Value),(askV ((x,bad)::l))[j]? =some u→w.cell? ⟨g,off+j,none⟩=some u:=fun j u hu=>by
   have:=hcell j u hu;rwa[Addr.add_lit]at this
  refine⟨g,off,cap,by rw[e2];rfl,by rw[e5];exact hc,hx 0 _ rfl,hx 1 _ rfl,hx 2 _ rfl,hx 3 _ rfl⟩
theorem halone_any(w:World)(B p ga gs cap:Nat)(V:HoV)(cs:List Value)(f:Fr)(h:Wo)(H:HouR w B p ga gs cap V cs f h)(c:Nat)(hc:c<6)(x:St)(bad:Bool)(l:List (St × Bool))(hp:(f.c c).pend=(x,bad)::l):
  Calls Tryz.prog 80 #[.pointer (some ⟨p,0,none⟩),.int .i64 (c:Nat)] w fun e w'=>e= .returned (.bool (!needs f c))∧Below w.heap.size w w':=by
 have hn:needs f c=(!bad&&(decide (f.mode≠3)||decide (x.k≠1))):=by unfold needs;rw[hp]
 have hw:=H.wait c hc;rw[hp]at hw;obtain⟨g,off,k,hv,hk,y0,y1,y2,y3⟩:=ask0 hw;have a4:w.cell? ⟨p,4,none⟩=some (.slice (some ⟨ga,0,none⟩) 6 6):=H.blk.cell_ 4 _ rfl;have a0:w.cell? ⟨p,0,none⟩=some (.int .i64 f.mode):=H.blk.cell_ 0 _ rfl;have w1:w.cell? ⟨ga,c*4+1,none⟩=some (V.wait c):=H.all.cell hc (by decide)
 rw[hv]at w1;have g1:(c:Int)<6:=by omega
 have g2:(0:Int)≤(c:Int):=by omega
 rw[hn];obtain⟨md,hmd⟩: ∃m,f.mode=m:=⟨_,rfl⟩;rw[hmd]at a0⊢;obtain⟨xk,key,val⟩:=x;simp only at y0 y1 y2⊢;have n1:l.length+1≠0:=by omega
 have g3:(0:Int)<((l.length+1:Nat):Int):=by omega
 have b0: ∀o:Obj,(w.alloc o).cell? ⟨p,0,none⟩=some (.int .i64 md):=fun o=>(World.cell?_alloc_lt w o _ (World.block_lt_of_cell? w _ a0)).trans a0;clear hn hw hv hp H hmd;cases bad with
 |true=>
  go_enter func80,ntmps80
  go_wp2_with fail
  go_ret;exact⟨rfl,boxed _ _⟩
 |false=>
  by_cases hm:md=3
  ·subst hm;by_cases hx:xk=1
   ·subst hx;go_enter func80,ntmps80
    go_wp2_with fail
    go_ret;exact⟨rfl,boxed _ _⟩
   ·have e1:(xk==1)=false:=by simpa using hx
    go_enter func80,ntmps80
    go_wp2_with fail
    go_ret;exact⟨by simp[hx],boxed _ _⟩
  ·have e1:(md==3)=false:=by simpa using hm
   go_enter func80,ntmps80
   go_wp2_with fail
   go_ret;exact⟨by simp[hm],boxed _ _⟩
end Go.Proofs.YtjbnfigpflambacGreatDoor
