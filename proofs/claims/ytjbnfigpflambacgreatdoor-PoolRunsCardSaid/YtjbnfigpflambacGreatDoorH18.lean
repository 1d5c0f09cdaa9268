/- The pool and a house with a session for each client have the same front. How much there is at most. What is so between the turns of the reference's house. Conditions: those of each lemma. -/
import Derived.Test.YtjbnfigpflambacGreatDoorH02
namespace Go.Proofs.YtjbnfigpflambacGreatDoor
set_option maxRecDepth 100000
set_option maxHeartbeats 16000000
def upd(sv:Nat→Int)(i:Nat)(x:Int):Nat→Int:=fun j=>if j=i then x else sv j
structure FO(o:List Int)(sv:Nat→Int):Prop where
 cl: ∀i,i<6→sv i= -1∨∃s:Nat,s<o.length∧sv i=(s:Int)∧o.getD s 0=(i:Int)
 ow: ∀s,s<o.length→o.getD s 0= -1∨∃i:Nat,i<6∧o.getD s 0=(i:Int)∧sv i=(s:Int)
theorem FO.at_{o:List Int}{sv:Nat→Int}(h:FO o sv){i s:Nat}(hi:i<6)(hs:sv i=(s:Int)):s<o.length∧o.getD s 0=(i:Int):=by
 rcases h.cl i hi with e|⟨t,ht,e1,e2⟩
 ·omega
 ·obtain rfl:t=s:=by omega
  exact⟨ht,e2⟩
theorem FO.bind{o:List Int}{sv:Nat→Int}(h:FO o sv){i s:Nat}(hi:i<6)(hs:s<o.length)(h1:o.getD s 0= -1)(h2:sv i= -1):FO (o.set s (i:Int)) (upd sv i (s:Int)):=by
 refine⟨fun j hj=>?_,fun t ht=>?_⟩
 ·unfold upd;by_cases e:j=i
  ·subst e;rw[if_pos rfl];exact .inr ⟨s,by rw[List.length_set];exact hs,rfl,by rw[getD_set _ _ _ _ _ hs,if_pos rfl]⟩
  ·rw[if_neg e];rcases h.cl j hj with e1|⟨t,ht,e1,e2⟩
   ·exact .inl e1
   ·refine .inr ⟨t,by rw[List.length_set];exact ht,e1,?_⟩
    rw[getD_set _ _ _ _ _ hs,if_neg (by rintro rfl;omega)]
    exact e2
 ·rw[List.length_set]at ht;rw[getD_set _ _ _ _ _ hs];unfold upd;by_cases e:t=s
  ·subst e;rw[if_pos rfl];exact .inr ⟨i,hi,rfl,by rw[if_pos rfl]⟩
  ·rw[if_neg e];rcases h.ow t ht with e1|⟨j,hj,e1,e2⟩
   ·exact .inl e1
   ·exact .inr ⟨j,hj,e1,by rw[if_neg (by rintro rfl;omega)];exact e2⟩
theorem FO.free{o:List Int}{sv:Nat→Int}(h:FO o sv){i s:Nat}(hi:i<6)(hs:sv i=(s:Int)):FO (o.set s (-1)) (upd sv i (-1)):=by
 obtain⟨h1,h2⟩:=h.at_ hi hs;refine⟨fun j hj=>?_,fun t ht=>?_⟩
 ·unfold upd;by_cases e:j=i
  ·exact .inl (by rw[if_pos e])
  ·rw[if_neg e];rcases h.cl j hj with e1|⟨t,ht,e1,e2⟩
   ·exact .inl e1
   ·refine .inr ⟨t,by rw[List.length_set];exact ht,e1,?_⟩
    rw[getD_set _ _ _ _ _ h1,if_neg (by rintro rfl;omega)]
    exact e2
 ·rw[List.length_set]at ht;rw[getD_set _ _ _ _ _ h1];unfold upd;by_cases e:t=s
  ·exact .inl (by rw[if_pos e])
  ·rw[if_neg e];rcases h.ow t ht with e1|⟨j,hj,e1,e2⟩
   ·exact .inl e1
   ·exact .inr ⟨j,hj,e1,by rw[if_neg (by rintro rfl;omega)];exact e2⟩
structure RB(o:List Int)(sv:Nat→Int)(b:PB)(h:Wo):Prop where
 own6:b.own.length=6
 ses6:h.ses.length=6
 kn:b.known.length=o.length
 ses:b.w.ses.length=o.length
 good:Good b.w
 rows:b.w.rows=h.rows
 bound: ∀i s:Nat,i<6→sv i=(s:Int)→b.w.se s=h.se i∧b.ow i=owOf (h.se i)
 loose: ∀i,i<6→sv i= -1→h.se i=⟨0,(b.ow i).set,(b.ow i).pre,[],[]⟩∧b.ow i=⟨(b.ow i).set,(b.ow i).pre,[],0⟩∧pairsB 9 6 (b.ow i).set=true∧pairsB 11 6 (b.ow i).pre=true
 idle: ∀s,s<o.length→o.getD s 0= -1→b.w.se s=⟨0,(b.kn s).set,(b.kn s).pre,[],[]⟩
section
variable {o:List Int}{sv:Nat→Int}{b:PB}{h:Wo}
theorem RB.held(r:RB o sv b h)(c:FO o sv){i s:Nat}(hi:i<6)(hs:sv i=(s:Int))(k:ByteArray):heldB b.w.ses s k=heldB h.ses i k:=by
 obtain⟨_,h2⟩:=c.at_ hi hs;rw[Bool.eq_iff_iff,held_iff,held_iff];constructor
 ·rintro⟨t,ht,hne,hk⟩;rw[r.ses]at ht;rcases c.ow t ht with e|⟨j,hj,e1,e2⟩
  ·have:=r.idle t ht e;have hk':hasK (b.w.se t).wri k=true:=hk;rw[this,hasK_nil]at hk';cases hk'
  ·refine⟨j,by rw[r.ses6];exact hj,by rintro rfl;omega,?_⟩
   have:=(r.bound j t hj e2).1;show hasK (h.se j).wri k=true;rw[←this];exact hk
 ·rintro⟨j,hj,hne,hk⟩;rw[r.ses6]at hj;rcases c.cl j hj with e|⟨t,ht,e1,e2⟩
  ·have:=(r.loose j hj e).1;have hk':hasK (h.se j).wri k=true:=hk;rw[this,hasK_nil]at hk';cases hk'
  ·refine⟨t,by rw[r.ses];exact ht,by rintro rfl;omega,?_⟩
   have:=(r.bound j t hj e1).1;show hasK (b.w.se t).wri k=true;rw[this];exact hk
theorem RB.keys(r:RB o sv b h)(c:FO o sv):card (keysW b.w)=card (keysW h):=by
 refine card_congr fun x=>?_;rw[mem_keys,mem_keys,r.rows];constructor
 ·rintro(e|⟨t,ht,hk⟩)
  ·exact .inl e
  ·rw[r.ses]at ht;rcases c.ow t ht with e|⟨j,hj,e1,e2⟩
   ·rw[r.idle t ht e,hasK_nil]at hk;cases hk
   ·exact .inr ⟨j,by rw[r.ses6];exact hj,by rw[←(r.bound j t hj e2).1];exact hk⟩
 ·rintro(e|⟨j,hj,hk⟩)
  ·exact .inl e
  ·rw[r.ses6]at hj;rcases c.cl j hj with e|⟨t,ht,e1,e2⟩
   ·rw[(r.loose j hj e).1,hasK_nil]at hk;cases hk
   ·exact .inr ⟨t,by rw[r.ses];exact ht,by rw[(r.bound j t hj e1).1];exact hk⟩
theorem ow_set{b:PB}{i:Nat}(hi:i<b.own.length)(x:Ow)(w:Wo)(kn:List Ow)(j:Nat):(⟨w,kn,b.own.set i x⟩:PB).ow j=if j=i then x else b.ow j:=getD_set _ _ _ _ _ hi
theorem RB.act(r:RB o sv b h)(c:FO o sv){i s:Nat}(hi:i<6)(hs:sv i=(s:Int)){x:St}(hx:checkE x=0):
  (actP b i s x).2=(doW h i x).2∧RB o sv (actP b i s x).1 (doW h i x).1:=by
 obtain⟨h1,h2⟩:=c.at_ hi hs;have hsl:s<b.w.ses.length:=by rw[r.ses];exact h1
 have hil:i<h.ses.length:=by rw[r.ses6];exact hi
 obtain⟨q1,q2⟩:=r.bound i s hi hs;obtain⟨a1,a2,a3⟩:=doW_sim hsl hil q1 r.rows (r.held c hi hs) (r.keys c) x;have m1:=doW_mine b.w s x;have m2:=doW_mine h i x;have hl:=doW_learn r.good hsl x;unfold actP;rw[poDo_good r.good hsl hx];refine⟨a1,?_⟩;refine⟨by rw[List.length_set];exact r.own6,by rw[m2.1];exact r.ses6,r.kn,by rw[m1.1];exact r.ses,doW_good r.good hsl hx,a2,fun j t hj ht=>?_,fun j hj hn=>?_,fun t ht hn=>?_⟩
 ·rw[ow_set (by rw[r.own6];exact hi)]
  by_cases e:j=i
  ·subst e;obtain rfl:t=s:=by omega
   rw[if_pos rfl];refine⟨a3,?_⟩;rw[q2,←q1,←hl,a3]
  ·have hts:t≠s:=by
    rintro rfl;have:=(c.at_ hj ht).2;omega
   rw[if_neg e];have:=r.bound j t hj ht;show(doW b.w s x).1.se t=_∧_;rw[m1.2 t hts,m2.2 j e];exact this
 ·rw[ow_set (by rw[r.own6];exact hi)]
  have e:j≠i:=by rintro rfl;omega
  rw[if_neg e];have:=r.loose j hj hn;rw[m2.2 j e];exact this
 ·have hts:t≠s:=by rintro rfl;omega
  show(doW b.w s x).1.se t=_;rw[m1.2 t hts];exact r.idle t ht hn
theorem RB.st(r:RB o sv b h)(c:FO o sv){i:Nat}(hi:i<6):(b.ow i).st=(h.se i).st:=by
 rcases c.cl i hi with e|⟨s,hs,e1,e2⟩
 ·obtain⟨h1,h2,_⟩:=r.loose i hi e;rw[h1,h2]
 ·rw[(r.bound i s hi e1).2];rfl
theorem RB.goodSe(r:RB o sv b h)(c:FO o sv){i s:Nat}(hi:i<6)(hs:sv i=(s:Int)):GoodSe (h.se i):=by
 rw[←(r.bound i s hi hs).1];exact r.good.se (by rw[r.ses];exact(c.at_ hi hs).1)
theorem calm_se{s:Se}(g:GoodSe s)(h0:s.st=0):s=⟨0,s.set,s.pre,[],[]⟩:=by
 have h1:=g.idle h0;have h2:=g.calm (by omega)
 cases s;simp_all
theorem RB.bind(r:RB o sv b h)(c:FO o sv){i s:Nat}(hi:i<6)(hs:s<o.length)(h1:o.getD s 0= -1)(h2:sv i= -1):RB (o.set s (i:Int)) (upd sv i (s:Int)) ⟨bindW b s i,b.known,b.own⟩ h:=by
 obtain⟨l1,l2,l3,l4⟩:=r.loose i hi h2;obtain⟨n1,n2⟩:=bind_near r.good (by rw[r.ses];exact hs) (r.idle s hs h1) l3 l4
 refine⟨r.own6,r.ses6,by rw[List.length_set];exact r.kn,by rw[List.length_set];show(bindW b s i).ses.length=_;rw[n1.mine.1];exact r.ses,n1.good,n1.rows.trans r.rows,fun j t hj ht=>?_,fun j hj hn=>?_,fun t ht hn=>?_⟩
 ·unfold upd at ht;by_cases e:j=i
  ·subst e;rw[if_pos rfl]at ht;obtain rfl:s=t:=by omega
   refine⟨n2.trans l1.symm,?_⟩;show b.ow j=_;rw[l1];exact l2
  ·rw[if_neg e]at ht;have hts:t≠s:=by
    rintro rfl;have:=(c.at_ hj ht).2;omega
   show(bindW b s i).se t=_∧_;rw[n1.mine.2 t hts];exact r.bound j t hj ht
 ·unfold upd at hn;split at hn
  ·omega
  ·exact r.loose j hj hn
 ·rw[List.length_set]at ht;rw[getD_set _ _ _ _ _ hs]at hn;split at hn
  ·omega
  ·rename_i e;show(bindW b s i).se t=_;rw[n1.mine.2 t e];exact r.idle t ht hn
theorem kn_set{b:PB}{s:Nat}(hs:s<b.known.length)(x:Ow)(w:Wo)(ow:List Ow)(t:Nat):(⟨w,b.known.set s x,ow⟩:PB).kn t=if t=s then x else b.kn t:=getD_set _ _ _ _ _ hs
theorem RB.free(r:RB o sv b h)(c:FO o sv){i s:Nat}(hi:i<6)(hs:sv i=(s:Int))(h0:(h.se i).st=0):RB (o.set s (-1)) (upd sv i (-1)) (freeP b i s) h:=by
 obtain⟨h1,h2⟩:=c.at_ hi hs;obtain⟨q1,q2⟩:=r.bound i s hi hs;have g:=r.goodSe c hi hs;have hc:=calm_se g h0;refine⟨r.own6,r.ses6,by rw[List.length_set];show(b.known.set s (b.ow i)).length=_;rw[List.length_set];exact r.kn,by rw[List.length_set];exact r.ses,r.good,r.rows,fun j t hj ht=>?_,fun j hj hn=>?_,fun t ht hn=>?_⟩
 ·unfold upd at ht;split at ht
  ·omega
  ·exact r.bound j t hj ht
 ·unfold upd at hn;by_cases e:j=i
  ·subst e;have eo:(freeP b j s).ow j=owOf (h.se j):=q2;rw[eo];refine⟨hc,?_,g.set,g.pre⟩;rw[hc];rfl
  ·rw[if_neg e]at hn;exact r.loose j hj hn
 ·rw[List.length_set]at ht;rw[getD_set _ _ _ _ _ h1]at hn;unfold freeP;rw[kn_set (by rw[r.kn];exact h1)]
  by_cases e:t=s
  ·subst e;rw[if_pos rfl];show b.w.se t=_;rw[q1,q2];exact hc
  ·rw[if_neg e]at hn⊢;exact r.idle t ht hn
theorem RB.leave(r:RB o sv b h){i:Nat}(hi:i<6)(h2:sv i= -1):RB o sv (leaveP b i) (h.put i Se.new):=by
 have hil:i<h.ses.length:=by rw[r.ses6];exact hi
 unfold leaveP;refine⟨by rw[List.length_set];exact r.own6,by rw[put_length];exact r.ses6,r.kn,r.ses,r.good,r.rows,fun j t hj ht=>?_,fun j hj hn=>?_,r.idle⟩
 ·have e:j≠i:=by rintro rfl;omega
  rw[ow_set (by rw[r.own6];exact hi),se_put h hil,if_neg e,if_neg e]
  exact r.bound j t hj ht
 ·rw[ow_set (by rw[r.own6];exact hi),se_put h hil]
  by_cases e:j=i
  ·rw[if_pos e,if_pos e];exact⟨rfl,rfl,pairs_nil _ _,pairs_nil _ _⟩
  ·rw[if_neg e,if_neg e];exact r.loose j hj hn
theorem did_back{w:Wo}{i:Nat}(hi:i<w.ses.length)(h0:(w.se i).st≠0):((doW w i backS).1.se i)=⟨0,(w.se i).sav,(w.se i).pre,[],[]⟩:=by
 have e:did w i backS=(w.put i ⟨0,(w.se i).sav,(w.se i).pre,[],[]⟩,okA):=by
  unfold did did1 transW endW backS;simp[h0]
 unfold doW;rw[e,se_put _ (by rw[put_length];exact hi),if_pos rfl,failSe_ok _ okA_kind,se_put w hi,if_pos rfl]
theorem RB.gone(r:RB o sv b h)(c:FO o sv){i:Nat}(hi:i<6):
  RB (if 0≤sv i then o.set (sv i).toNat (-1)else o) (upd sv i (-1)) (goneP b i (sv i)) (h.put i Se.new)∧FO (if 0≤sv i then o.set (sv i).toNat (-1)else o) (upd sv i (-1)):=by
 rcases c.cl i hi with e|⟨s,hs,e1,e2⟩
 ·unfold goneP;rw[e,if_neg (by decide),if_neg (by decide)]
  have eu:upd sv i (-1)=sv:=by
   funext j;unfold upd;split
   ·rename_i hj;rw[hj,e]
   ·rfl
  rw[eu];exact⟨r.leave hi e,c⟩
 ·unfold goneP;rw[e1,if_pos (by omega),if_pos (by omega),Int.toNat_natCast]
  refine⟨?_,c.free hi e1⟩;have hil:i<h.ses.length:=by rw[r.ses6];exact hi
  have hu: ∃h',RB o sv (undoP b i s) h'∧(h'.se i).st=0∧h'.put i Se.new=h.put i Se.new∧(undoP b i s).w.ses.length=b.w.ses.length:=by
   unfold undoP;split
   ·rename_i h0;exact⟨h,r,by rw[←r.st c hi];exact h0,rfl,rfl⟩
   ·rename_i h0;have hb:=(r.act c hi e1 (x:=backS) (by decide+kernel)).2
    have hst:(h.se i).st≠0:=by rw[←r.st c hi];exact h0
    have hd:=did_back hil hst;have e:did h i backS=(h.put i ⟨0,(h.se i).sav,(h.se i).pre,[],[]⟩,okA):=by
     unfold did did1 transW endW backS;simp[hst]
    refine⟨_,hb,by rw[hd],?_,by rw[hb.ses,r.ses]⟩
    unfold doW Wo.put;rw[e];unfold Wo.put;simp only;rw[List.set_set,List.set_set]
  obtain⟨h',r',h0,ep,_⟩:=hu;have hf:=r'.free c hi e1 h0;have:=hf.leave hi (by unfold upd;rw[if_pos rfl])
  rw[ep]at this;exact this
end
/-! the front's own order -/
def svs(f:Fr):Nat→Int:=fun i=>(f.c i).srv
structure FI(f:Fr):Prop where
 six:f.cl.length=6
 fo:FO f.owner (svs f)
 wait: ∀i∈f.wait,i<6∧(f.c i).srv= -1∧busy f i=true∧needs f i=true
 pend: ∀i,i<6→∀p∈(f.c i).pend,p.2=false→checkE p.1=0
 once:f.wait.Nodup
theorem svs_set{f:Fr}{i:Nat}(hi:i<f.cl.length)(x:Cl):svs (f.set i x)=upd (svs f) i x.srv:=by
 funext j;unfold svs upd;rw[c_set f hi];split<;>rfl
theorem upd_same{sv:Nat→Int}{i:Nat}{x:Int}(h:sv i=x):upd sv i x=sv:=by
 funext j;unfold upd;split
 ·rename_i e;rw[e,h]
 ·rfl
theorem busy_set{f:Fr}{i:Nat}(hi:i<f.cl.length)(x:Cl)(j:Nat):busy (f.set i x) j=if j=i then !x.pend.isEmpty else busy f j:=by
 unfold busy;rw[c_set f hi];split<;>rfl
theorem needs_set{f:Fr}{i:Nat}(hi:i<f.cl.length)(x:Cl){j:Nat}(h:j≠i):needs (f.set i x) j=needs f j:=by
 unfold needs;rw[c_set f hi,if_neg h];rfl
theorem needs_head{f:Fr}{i:Nat}(hi:i<f.cl.length)(x:Cl)(p:St × Bool)(l m:List (St × Bool))(h1:(f.c i).pend=p::l)(h2:x.pend=p::m):needs (f.set i x) i=needs f i:=by
 unfold needs;rw[c_set f hi,if_pos rfl,h1,h2];rfl
theorem FI.set_{f:Fr}(h:FI f){i:Nat}(hi:i<6){x:Cl}(hs:x.srv=(f.c i).srv)(hp: ∀p∈x.pend,p.2=false→checkE p.1=0)(hw:i∈f.wait→∃p l m,(f.c i).pend=p::l∧x.pend=p::m):FI (f.set i x):=by
 have hl:i<f.cl.length:=by rw[h.six];exact hi
 refine⟨by rw[len_set];exact h.six,?_,fun j hj=>?_,fun j hj p hq=>?_,h.once⟩
 ·rw[svs_set hl,upd_same (by rw[hs];rfl)]
  exact h.fo
 ·obtain⟨h1,h2,h3,h4⟩:=h.wait j hj;refine⟨h1,?_,?_,?_⟩
  ·rw[c_set f hl];split
   ·rename_i e;subst e;rw[hs];exact h2
   ·exact h2
  ·rw[busy_set hl];split
   ·rename_i e;subst e;obtain⟨p,l,m,_,e2⟩:=hw hj;rw[e2];rfl
   ·exact h3
  ·by_cases e:j=i
   ·subst e;obtain⟨p,l,m,e1,e2⟩:=hw hj;rw[needs_head hl x p l m e1 e2];exact h4
   ·rw[needs_set hl x e];exact h4
 ·rw[c_set f hl]at hq;split at hq
  ·exact hp p hq
  ·exact h.pend j hj p hq
theorem FI.not_wait{f:Fr}(h:FI f){i:Nat}(hr:ready f i=true):i∉f.wait:=by
 intro hw;obtain⟨_,h2,_,h4⟩:=h.wait i hw;unfold ready at hr;rw[h2,h4]at hr;simp at hr
structure Sim(z:Fr × PB)(y:Fr × Wo):Prop where
 front:z.1=y.1
 fi:FI z.1
 rb:RB z.1.owner (svs z.1) z.2 y.2
theorem pend_drop{f:Fr}{i:Nat}(h:FI f)(hi:i<6): ∀p∈(f.c i).pend.tail,p.2=false→checkE p.1=0:=fun p hp=>h.pend i hi p (List.mem_of_mem_tail hp)
theorem FI.drop_{f:Fr}(h:FI f){i:Nat}(hi:i<6)(hn:i∉f.wait):FI (f.drop i):=h.set_ hi rfl (pend_drop h hi) (fun hw=>absurd hw hn)
theorem svs_drop{f:Fr}{i:Nat}(hi:i<f.cl.length):svs (f.drop i)=svs f:=by
 unfold Fr.drop;rw[svs_set hi];exact upd_same rfl
theorem svs_tell{f:Fr}{i:Nat}(hi:i<f.cl.length)(a:An):svs (f.tell i a)=svs f:=by
 unfold Fr.tell;rw[svs_set hi];exact upd_same rfl
theorem FI.tell_{f:Fr}(h:FI f){i:Nat}(hi:i<6)(hn:i∉f.wait)(a:An):FI (f.tell i a):=h.set_ hi rfl (fun p hp=>h.pend i hi p hp) (fun hw=>absurd hw hn)
theorem FI.deed_{f:Fr}(h:FI f)(d:De):FI (f.deed d):=⟨h.six,h.fo,h.wait,h.pend,h.once⟩
theorem svs_free{f:Fr}{i:Nat}(hi:i<f.cl.length):svs (f.freeS i)=upd (svs f) i (-1):=svs_set hi _
theorem FI.free_{f:Fr}(h:FI f){i s:Nat}(hi:i<6)(hn:i∉f.wait)(hs:(f.c i).srv=(s:Int)):FI (f.freeS i):=by
 have hl:i<f.cl.length:=by rw[h.six];exact hi
 have hc: ∀j,(f.freeS i).c j=if j=i then⟨(f.c i).bytes,(f.c i).pend,-1,(f.c i).sent⟩else f.c j:=fun j=>c_set f hl _ j
 refine⟨by show(f.cl.set i _).length=6;rw[List.length_set];exact h.six,?_,fun j hj=>?_,fun j hj p hq=>?_,h.once⟩
 ·rw[svs_free hl];have:=h.fo.free hi (s:=s) hs;show FO (f.owner.set (f.c i).srv.toNat (-1)) _;rw[hs,Int.toNat_natCast];exact this
 ·have hj':j∈f.wait:=hj;have e:j≠i:=by rintro rfl;exact hn hj'
  obtain⟨h1,h2,h3,h4⟩:=h.wait j hj';refine⟨h1,by rw[hc,if_neg e];exact h2,?_,?_⟩
  ·unfold busy;rw[hc,if_neg e];exact h3
  ·unfold needs;rw[hc,if_neg e];exact h4
 ·rw[hc]at hq;split at hq
  ·rename_i e;subst e;exact h.pend j hj p hq
  ·exact h.pend j hj p hq
theorem FI.done{f:Fr}(h:FI f){i:Nat}(hi:i<6)(hn:i∉f.wait)(x:St)(a:An):FI (doneF f i x a):=FI.tell_ (f:=(f.drop i).deed ⟨i,x,a⟩) ((h.drop_ hi hn).deed_ _) hi hn _
theorem svs_done{f:Fr}{i:Nat}(hi:i<f.cl.length)(x:St)(a:An):svs (doneF f i x a)=svs f:=by
 unfold doneF;rw[svs_tell (f:=(f.drop i).deed ⟨i,x,a⟩) (by show i<(f.drop i).cl.length;rw[len_drop];exact hi)]
 exact svs_drop hi
theorem len_done(f:Fr)(i:Nat)(x:St)(a:An):(doneF f i x a).cl.length=f.cl.length:=by
 unfold doneF;rw[len_tell];exact len_drop f i
theorem next_sim{f:Fr}{b:PB}{w:Wo}(hf:FI f)(hb:RB f.owner (svs f) b w){i:Nat}(hi:i<6)(hr:ready f i=true):Sim (nextM poolB (f,b) i) (nextM houseB (f,w) i):=by
 have hl:i<f.cl.length:=by rw[hf.six];exact hi
 have hn:=hf.not_wait hr;have hst:poolB.st b i=houseB.st w i:=hb.st hf.fo hi;rcases ep:(f.c i).pend with _|⟨⟨x,bad⟩,l⟩
 ·rw[next_nil _ _ _ ep,next_nil _ _ _ ep];exact⟨rfl,hf,hb⟩
 cases bad with
 |true=>
  rw[next_bad _ _ _ ep,next_bad _ _ _ ep];refine⟨by simp only[hst],(hf.drop_ hi hn).tell_ hi hn _,?_⟩
  show RB f.owner (svs ((f.drop i).tell i _)) b w;rw[svs_tell (by rw[len_drop];exact hl),svs_drop hl]
  exact hb
 |false=>
  by_cases hm:f.mode=3∧x.k=1
  ·rw[next_mode _ _ _ ep hm,next_mode _ _ _ ep hm];refine⟨by simp only[hst],(hf.drop_ hi hn).tell_ hi hn _,?_⟩
   show RB f.owner (svs ((f.drop i).tell i _)) b w;rw[svs_tell (by rw[len_drop];exact hl),svs_drop hl]
   exact hb
  ·rw[next_act _ _ _ ep hm,next_act _ _ _ ep hm];have hx:checkE x=0:=hf.pend i hi (x,false) (by rw[ep];exact List.mem_cons_self) rfl
   have hsrv: ∃s:Nat,s<f.owner.length∧(f.c i).srv=(s:Int):=by
    rcases hf.fo.cl i hi with e|⟨s,h1,h2,_⟩
    ·exfalso;have e:(f.c i).srv= -1:=e;unfold ready needs at hr;rw[ep,e]at hr;simp at hr;exact hm hr.2
    ·exact⟨s,h1,h2⟩
   obtain⟨s,h1,h2⟩:=hsrv;simp only;rw[h2,Int.toNat_natCast];obtain⟨a1,a2⟩:=hb.act hf.fo hi h2 hx;have a1':(poolB.act b i s x).2=(houseB.act w i s x).2:=a1;have a2':RB f.owner (svs f) (poolB.act b i s x).1 (houseB.act w i s x).1:=a2;rw[a1'];have hst0:(houseB.act w i s x).2.st=0→((houseB.act w i s x).1.se i).st=0:=by
    intro h3;have:=doW_state (W:=w) (i:=i) (by rw[hb.ses6];exact hi) x
    exact this.symm.trans h3
   generalize (houseB.act w i s x).2=a at*;generalize (houseB.act w i s x).1=w1 at*;generalize (poolB.act b i s x).1=b1 at*;have hfi:=hf.done hi hn x a;have hsv:=svs_done hl x a;have hsrv':((doneF f i x a).c i).srv=(s:Int):=(congrFun hsv i).trans h2;split
   ·rename_i hz;refine⟨rfl,hfi.free_ hi hn hsrv',?_⟩;have:=a2'.free hf.fo hi h2 (hst0 hz.2);show RB (f.owner.set ((doneF f i x a).c i).srv.toNat (-1)) (svs ((doneF f i x a).freeS i)) _ _;rw[svs_free (by rw[len_done];exact hl),hsv,hsrv',Int.toNat_natCast]
    exact this
   ·refine⟨rfl,hfi,?_⟩;show RB f.owner (svs (doneF f i x a)) _ _;rw[hsv];exact a2'
theorem FI.queue{f:Fr}(h:FI f)(hp:pickF f=none):FI (queueF f):=by
 refine⟨h.six,h.fo,fun i hi=>?_,h.pend,?_⟩
 ·have hi:i∈f.wait++(List.range 6).filter (fun i=>busy f i&&!f.wait.contains i):=hi;rcases List.mem_append.1 hi with hi|hi
  ·exact h.wait i hi
  ·obtain⟨h1,h2⟩:=List.mem_filter.1 hi;rw[List.mem_range]at h1;rw[Bool.and_eq_true]at h2;have hr:ready f i=false:=by
    have:=List.find?_eq_none.1 hp i (List.mem_range.2 h1);simpa using this
   unfold ready at hr;rw[h2.1]at hr;simp only[Bool.true_and,Bool.or_eq_false_iff,decide_eq_false_iff_not,Bool.not_eq_false']at hr;refine⟨h1,?_,h2.1,hr.2⟩;rcases h.fo.cl i h1 with e|⟨s,_,e,_⟩
   ·exact e
   ·exfalso;have:(f.c i).srv=(s:Int):=e;have hr1:¬ 0≤(f.c i).srv:=hr.1;omega
 ·show(f.wait++(List.range 6).filter (fun i=>busy f i&&!f.wait.contains i)).Nodup;refine List.nodup_append.2 ⟨h.once,List.nodup_range.sublist List.filter_sublist,fun a ha b hb e=>?_⟩;subst e;have:=(List.mem_filter.1 hb).2;rw[Bool.and_eq_true]at this;have h2:=this.2;simp only[Bool.not_eq_true',List.contains_eq_mem,decide_eq_false_iff_not]at h2;exact h2 ha
theorem FI.bind_{f:Fr}(h:FI f){i s:Nat}{l:List Nat}(hw:f.wait=i::l)(hs:idleF f.owner=some s):FI (f.unwait.bindS s i):=by
 obtain⟨s1,s2⟩:=idle_at hs;obtain⟨w1,w2,w3,w4⟩:=h.wait i (by rw[hw];exact List.mem_cons_self)
 have hl:i<f.cl.length:=by rw[h.six];exact w1
 have hc: ∀j,(f.unwait.bindS s i).c j=if j=i then⟨(f.c i).bytes,(f.c i).pend,(s:Int),(f.c i).sent⟩else f.c j:=fun j=>c_set f hl _ j
 have ho:=h.once;rw[hw]at ho;obtain⟨hnd,ho⟩:=List.nodup_cons.1 ho;have et:f.wait.tail=l:=by rw[hw];rfl
 refine⟨by show(f.cl.set i _).length=6;rw[List.length_set];exact h.six,?_,fun j hj=>?_,fun j hj p hq'=>?_,by show f.wait.tail.Nodup;rw[et];exact ho⟩
 ·have:svs (f.unwait.bindS s i)=upd (svs f) i (s:Int):=svs_set hl _;rw[this];exact h.fo.bind w1 s1 s2 w2
 ·have hj':j∈l:=by rw[←et];exact hj
  have e:j≠i:=by rintro rfl;exact hnd hj'
  obtain⟨v1,v2,v3,v4⟩:=h.wait j (by rw[hw];exact List.mem_cons_of_mem _ hj')
  refine⟨v1,by rw[hc,if_neg e];exact v2,?_,?_⟩
  ·unfold busy;rw[hc,if_neg e];exact v3
  ·unfold needs;rw[hc,if_neg e];exact v4
 ·rw[hc]at hq';split at hq'
  ·rename_i e;subst e;exact h.pend j hj p hq'
  ·exact h.pend j hj p hq'
theorem step_sim{z:Fr × PB}{y:Fr × Wo}(h:Sim z y):Sim (stepM poolB z).1 (stepM houseB y).1∧(stepM poolB z).2=(stepM houseB y).2:=by
 obtain⟨f,b⟩:=z;obtain⟨f',w⟩:=y;obtain⟨e,hf,hb⟩:=h;have e:f=f':=e;subst e;simp only at hf hb;rcases hp:pickF f with _|i
 ·have hq:=hf.queue hp;rcases hw:(queueF f).wait with _|⟨i,l⟩
  ·rw[step_stop _ _ hp (.inl hw),step_stop _ _ hp (.inl hw)];exact⟨⟨rfl,hq,hb⟩,rfl⟩
  ·rcases hs:idleF f.owner with _|s
   ·rw[step_stop _ _ hp (.inr hs),step_stop _ _ hp (.inr hs)];exact⟨⟨rfl,hq,hb⟩,rfl⟩
   ·rw[step_bind _ _ hp hw hs,step_bind _ _ hp hw hs];obtain⟨s1,s2⟩:=idle_at hs;obtain⟨w1,w2,_,_⟩:=hq.wait i (by rw[hw];exact List.mem_cons_self)
    refine⟨⟨rfl,hq.bind_ hw hs,?_⟩,rfl⟩;have:svs ((queueF f).unwait.bindS s i)=upd (svs f) i (s:Int):=svs_set (show i<f.cl.length by rw[hf.six];exact w1) _
    show RB (f.owner.set s (i:Int)) (svs ((queueF f).unwait.bindS s i)) _ _;rw[this];exact hb.bind hf.fo w1 s1 s2 w2
 ·rw[step_next _ _ hp,step_next _ _ hp];exact⟨next_sim hf hb (pick_ready hp).2 (pick_ready hp).1,rfl⟩
theorem pump_sim(n:Nat): ∀{z:Fr × PB} {y:Fr × Wo},mu z.1≤n→Sim z y→Sim (pumpM poolB z) (pumpM houseB y):=by
 induction n with
 |zero=>
  intro z y hn h;obtain⟨h1,h2⟩:=step_sim h;cases hz:(stepM poolB z).2 with
  |false=>
   rw[pump_end _ _ hz,pump_end _ _ (h2.symm.trans hz)];exact h1
  |true=>
   have hm:=step_mu poolB z hz;omega
 |succ n ih=>
  intro z y hn h;obtain⟨h1,h2⟩:=step_sim h;cases hz:(stepM poolB z).2 with
  |false=>
   rw[pump_end _ _ hz,pump_end _ _ (h2.symm.trans hz)];exact h1
  |true=>
   rw[pump_go _ _ hz,pump_go _ _ (h2.symm.trans hz)];have hm:=step_mu poolB z hz;exact ih (by omega) h1
theorem Sim.pump{z:Fr × PB}{y:Fr × Wo}(h:Sim z y):Sim (pumpM poolB z) (pumpM houseB y):=pump_sim _ (Nat.le_refl _) h
theorem Sim.close{z:Fr × PB}{y:Fr × Wo}(h:Sim z y){i:Nat}(hi:i<6):Sim (closeM poolB z i) (closeM houseB y i):=by
 obtain⟨f,b⟩:=z;obtain⟨f',w⟩:=y;obtain⟨e,hf,hb⟩:=h;have e:f=f':=e;subst e;simp only at hf hb;have hl:i<f.cl.length:=by rw[hf.six];exact hi
 obtain⟨g1,g2⟩:=hb.gone hf.fo hi;have hc: ∀j,(closeM poolB (f,b) i).1.c j=if j=i then⟨⟨#[]⟩,[],-1,(f.c i).sent⟩else f.c j:=fun j=>c_set f hl _ j
 have hsv:svs (closeM poolB (f,b) i).1=upd (svs f) i (-1):=svs_set hl ⟨⟨#[]⟩,[],-1,(f.c i).sent⟩;refine⟨rfl,⟨by show(f.cl.set i _).length=6;rw[List.length_set];exact hf.six,?_,fun j hj=>?_,fun j hj p hq=>?_,hf.once.sublist List.filter_sublist⟩,?_⟩
 ·rw[hsv];exact g2
 ·obtain⟨h1,h2⟩:=List.mem_filter.1 hj;have e:j≠i:=by simpa using h2
  obtain⟨v1,v2,v3,v4⟩:=hf.wait j h1;refine⟨v1,by rw[hc,if_neg e];exact v2,?_,?_⟩
  ·unfold busy;rw[hc,if_neg e];exact v3
  ·unfold needs;rw[hc,if_neg e];exact v4
 ·rw[hc]at hq;split at hq
  ·simp at hq
  ·exact hf.pend j hj p hq
 ·rw[hsv];exact g1
theorem asked_ok(s:ByteArray)(h:(askedOf s).2=false):checkE (askedOf s).1=0:=by
 unfold askedOf at h⊢;simp only[Bool.or_eq_false_iff,Bool.not_eq_false',decide_eq_true_eq]at h;have h0:=h.2;unfold readS;rw[if_pos h0];unfold readE at h0;split at h0
 ·simp at h0
 split at h0
 ·simp at h0
 split at h0
 ·simp at h0
 exact h0
theorem feed_spec(x:Cl):(feedC x).1.srv=x.srv∧(feedC x).1.sent=x.sent∧∃l:List (St × Bool),(feedC x).1.pend=x.pend++l∧∀p∈l,p.2=false→checkE p.1=0:=by
 induction hn:x.bytes.size using Nat.strongRecOn generalizing x with
 |ind n ih=>
  rw[feedC];split
  ·rename_i hw;split
   ·exact⟨rfl,rfl,[],by simp,by simp⟩
   ·obtain⟨h1,h2,l,h3,h4⟩:=ih _ (by rw[←hn];exact rest_lt hw) ⟨restAt x.bytes,x.pend++[askedOf x.bytes],x.srv,x.sent⟩ rfl
    refine⟨h1,h2,askedOf x.bytes::l,by rw[h3];simp,fun p hp hb=>?_⟩
    rcases List.mem_cons.1 hp with rfl|hp
    ·exact asked_ok _ hb
    ·exact h4 p hp hb
  ·exact⟨rfl,rfl,[],by simp,by simp⟩
theorem Sim.pour{z:Fr × PB}{y:Fr × Wo}(h:Sim z y){i:Nat}(hi:i<6)(data:ByteArray):Sim (z.1.set i (pourC (z.1.c i) data).1,z.2) (y.1.set i (pourC (y.1.c i) data).1,y.2):=by
 obtain⟨f,b⟩:=z;obtain⟨f',w⟩:=y;obtain⟨e,hf,hb⟩:=h;have e:f=f':=e;subst e;simp only at hf hb⊢;obtain⟨h1,h2,l,h3,h4⟩:=feed_spec ⟨(f.c i).bytes++data,(f.c i).pend,(f.c i).srv,(f.c i).sent⟩;have hl:i<f.cl.length:=by rw[hf.six];exact hi
 refine⟨rfl,hf.set_ hi h1 (fun p hp hq=>?_) (fun hw=>?_),?_⟩
 ·have hp:p∈(f.c i).pend++l:=by rw[←h3];exact hp
  rcases List.mem_append.1 hp with hp|hp
  ·exact hf.pend i hi p hp hq
  ·exact h4 p hp hq
 ·obtain⟨_,_,hbz,_⟩:=hf.wait i hw;rcases ep:(f.c i).pend with _|⟨p,m⟩
  ·unfold busy at hbz;rw[ep]at hbz;simp at hbz
  ·exact⟨p,m,m++l,rfl,by show(feedC _).1.pend=_;rw[h3];simp[ep]⟩
 ·show RB f.owner (svs (f.set i (pourC (f.c i) data).1)) b w;rw[svs_set hl,upd_same (show svs f i=(pourC (f.c i) data).1.srv from h1.symm)];exact hb
theorem Sim.deliver{z:Fr × PB}{y:Fr × Wo}(h:Sim z y){i:Nat}(hi:i<6)(data:ByteArray):Sim (deliverM poolB z i data) (deliverM houseB y i data):=by
 have e:y.1=z.1:=h.front.symm;unfold deliverM;rw[e];have hp:=h.pour hi data;rw[e]at hp;simp only;split
 ·exact(hp.pump.close hi).pump
 ·exact hp.pump
theorem Sim.actM{z:Fr × PB}{y:Fr × Wo}(h:Sim z y){a:Ac}(ha:a.c.toNat<6):Sim (actM poolB z a) (actM houseB y a):=by
 unfold Go.Proofs.YtjbnfigpflambacGreatDoor.actM;split
 ·exact(h.close ha).pump
 ·exact h.deliver ha _
theorem Sim.run: ∀(l:List Ac) {z:Fr × PB} {y:Fr × Wo},(∀a∈l,a.c.toNat<6)→Sim z y→Sim (runM poolB z l) (runM houseB y l)
 |[],_,_,_,h=>h
 |a::l,_,_,hl,h=>Sim.run l (fun x hx=>hl x (List.mem_cons_of_mem _ hx)) (h.actM (hl a List.mem_cons_self))
def startP(servers:Nat):PB:=⟨⟨[],List.replicate servers Se.new⟩,List.replicate servers Ow.new,List.replicate 6 Ow.new⟩
def startH:Wo:=⟨[],List.replicate 6 Se.new⟩
theorem rep_getD{α:Type}(n i:Nat)(x:α):(List.replicate n x).getD i x=x:=by
 rw[List.getD_eq_getElem?_getD];by_cases h:i<n
 ·simp[h]
 ·rw[List.getElem?_eq_none (by simpa using h)];rfl
theorem start_c(mode:Int)(n i:Nat):(startF mode n).c i=Cl.new:=rep_getD 6 i Cl.new
theorem start_o(n s:Nat)(h:s<n):(List.replicate n (-1:Int)).getD s 0= -1:=by
 rw[List.getD_eq_getElem?_getD];simp[h]
theorem good_new(n:Nat)(hn:n≤8):Good ⟨[],List.replicate n Se.new⟩:=by
 have e: ∀i,(List.replicate n Se.new).getD i Se.new=Se.new:=fun i=>rep_getD n i _;refine⟨pairs_nil _ _,by simpa using hn,fun i _=>?_,fun i j _ _ _ k hk=>?_,?_⟩
 ·simp only[e];exact⟨by simp[Se.new],by simp[Se.new],pairs_nil _ _,pairs_nil _ _,pairs_nil _ _,pairs_nil _ _,fun _=>rfl,fun _=>rfl⟩
 ·simp only[e]at hk;cases hk
 ·have:keysW ⟨[],List.replicate n Se.new⟩=[]:=by
   refine List.eq_nil_iff_forall_not_mem.2 fun x hx=>?_;rcases(mem_keys _ x).1 hx with h|⟨j,_,h⟩
   ·cases h
   ·unfold Wo.se at h;simp only[e]at h;cases h
  rw[this];decide
theorem start_sim(mode:Int)(n:Nat)(hn:n≤8):Sim (startF mode n,startP n) (startF mode n,startH):=by
 have es: ∀i,svs (startF mode n) i= -1:=fun i=>by unfold svs;rw[start_c];rfl
 have eh: ∀i,startH.se i=Se.new:=fun i=>rep_getD 6 i _;have ep: ∀i,(startP n).w.se i=Se.new:=fun i=>rep_getD n i _;have eo: ∀i,(startP n).ow i=Ow.new:=fun i=>rep_getD 6 i _;have ek: ∀i,(startP n).kn i=Ow.new:=fun i=>rep_getD n i _;refine⟨rfl,⟨by simp[startF],⟨fun i _=>.inl (es i),fun s hs=>.inl (start_o n s (by simpa[startF]using hs))⟩,fun i hi=>by simp[startF]at hi,fun i _ p hp=>?_,by simp[startF]⟩,?_⟩
 ·simp only[start_c]at hp;simp[Cl.new]at hp
 ·refine⟨by simp[startP],by simp[startH],by simp[startP,startF],by simp[startP,startF],good_new n hn,rfl,fun i s _ h=>?_,fun i _ _=>?_,fun s _ _=>?_⟩
  ·rw[es]at h;omega
  ·rw[eh,eo];exact⟨rfl,rfl,pairs_nil _ _,pairs_nil _ _⟩
  ·rw[ep,ek];rfl
theorem run_sim(mode:Int)(n:Nat)(hn:n≤8)(l:List Ac)(hl: ∀a∈l,a.c.toNat<6):Sim (runM poolB (startF mode n,startP n) l) (runM houseB (startF mode n,startH) l):=Sim.run l hl (start_sim mode n hn)
theorem find_first{n:Nat}{p:Nat→Bool}{s:Nat}(h:(List.range n).find? p=some s):s<n∧p s=true∧∀j,j<s→p j=false:=by
 refine⟨List.mem_range.1 (List.mem_of_find?_eq_some h),List.find?_some h,fun j hj=>?_⟩;rw[List.find?_eq_some_iff_append]at h;obtain⟨_,l1,l2,e,hn⟩:=h;have hl:l1.length=s:=by
  have h1:(List.range n)[l1.length]? =some s:=by rw[e];simp
  have h2:l1.length<n:=by
   have:=congrArg List.length e;simp at this;omega
  rw[List.getElem?_range h2]at h1;exact Option.some.inj h1
 have hm:j∈l1:=by
  have h1:(List.range n)[j]? =some j:=List.getElem?_range (by have:=List.mem_range.1 (show s∈List.range n by rw[e];simp);omega)
  rw[e,List.getElem?_append_left (by omega)]at h1
  exact List.mem_of_getElem? h1
 simpa using hn j hm
theorem find_here{n:Nat}{p:Nat→Bool}{s:Nat}(hs:s<n)(h:p s=true)(hn: ∀j,j<s→p j=false):(List.range n).find? p=some s:=by
 cases e:(List.range n).find? p with
 |none=>
  have:=List.find?_eq_none.1 e s (List.mem_range.2 hs);rw[h]at this;simp at this
 |some t=>
  obtain⟨h1,h2,h3⟩:=find_first e;rcases Nat.lt_trichotomy s t with hl|rfl|hl
  ·have:=h3 s hl;rw[h]at this;cases this
  ·rfl
  ·have:=hn t hl;rw[h2]at this;cases this
theorem find_no{n:Nat}{p:Nat→Bool}(hn: ∀j,j<n→p j=false):(List.range n).find? p=none:=
 List.find?_eq_none.2 fun j hj=>by rw[hn j (List.mem_range.1 hj)];simp
theorem nodup_le{l:List Nat}(h:l.Nodup){n:Nat}(hl: ∀i∈l,i<n):l.length≤n:=by
 have:=List.Nodup.length_le_of_subset h (l₂:=List.range n) (fun i hi=>List.mem_range.2 (hl i hi));simpa using this
theorem FI.few{f:Fr}(h:FI f):f.wait.length≤6:=nodup_le h.once fun i hi=>(h.wait i hi).1
theorem tellZ(k:Int)(t:ByteArray)(st:Int):(tellS k t st).size≤100:=by
 unfold tellS;split
 ·rename_i h;unfold fitA at h;simp only[Bool.and_eq_true,decide_eq_true_eq]at h;have h6:=h.2;have h1:(stB st).size≤1:=by unfold stB;split<;>(try split)<;>decide
  have h2:(bodyB k t).size≤61:=by
   unfold bodyB;split
   ·decide
   split
   ·rw[ByteArray.size_append];have:(⟨#[61]⟩:ByteArray).size=1:=rfl;omega
   split
   ·decide
   ·rw[ByteArray.size_append];have:(⟨#[33]⟩:ByteArray).size=1:=rfl;omega
  rw[ByteArray.size_append];omega
 ·decide
theorem tellMZ(a:An):(tellM a).size≤102:=by
 have h:=tellZ a.kind a.text a.st;unfold tellM packS;rw[if_neg (by omega),msg_size]
 omega
theorem readZ(t:ByteArray):(readS t).key.size≤t.size∧(readS t).val.size≤t.size:=by
 unfold readS;split
 ·exact⟨part_size t 1,part_size t 2⟩
 ·exact⟨Nat.zero_le _,Nat.zero_le _⟩
theorem textAt_size(s:ByteArray):(textAt s).size≤255:=by
 unfold textAt;rw[ByteArray.size_extract];have:headN s≤257:=by
  unfold headN;have:=(s.data.toList.getD 1 0).toNat_lt;omega
 omega
def sumC(g:Cl→Nat)(f:Fr):Nat:=(f.cl.map g).sum
theorem sumC_set(g:Cl→Nat)(f f':Fr){i:Nat}(hi:i<f.cl.length)(x:Cl)(e:f'.cl=f.cl.set i x):sumC g f'+g (f.c i)=sumC g f+g x:=by
 unfold sumC;rw[e,List.map_set];have:=sum_set (f.cl.map g) i (by simpa using hi) (g x)
 rw[List.getElem_map]at this;rw[c_at hi];exact this
theorem c_setcl{f f':Fr}{i:Nat}(hi:i<f.cl.length){x:Cl}(e:f'.cl=f.cl.set i x)(j:Nat):f'.c j=if j=i then x else f.c j:=by
 have:f'.c j=(f.set i x).c j:=by unfold Fr.c Fr.set;rw[e]
 rw[this,c_set f hi]
def pN(x:Cl):Nat:=x.pend.length+x.bytes.size
def sN(x:Cl):Nat:=x.sent.size
def Small(x:Cl):Prop:=∀p∈x.pend,p.1.key.size≤255∧p.1.val.size≤255
structure Fit(f:Fr)(N:Nat):Prop where
 n:f.deeds.length+sumC pN f≤N
 s:sumC sN f+300*sumC pN f≤300*N
 z: ∀c,Small (f.c c)
theorem sum_ge(l:List Nat){i:Nat}(h:i<l.length):l[i]≤l.sum:=by
 have:=sum_set l i h 0;omega
theorem sumC_ge(g:Cl→Nat)(f:Fr){i:Nat}(hi:i<f.cl.length):g (f.c i)≤sumC g f:=by
 have:=sum_ge (f.cl.map g) (i:=i) (by simpa using hi)
 rw[List.getElem_map]at this;rw[c_at hi];exact this
theorem Fit.sent{f:Fr}{N:Nat}(h:Fit f N){i:Nat}(hi:i<f.cl.length):(f.c i).sent.size≤300*N:=by
 have h1:=sumC_ge sN f hi;have h2:=h.s;have h3:sN (f.c i)=(f.c i).sent.size:=rfl;omega
theorem Fit.bytes{f:Fr}{N:Nat}(h:Fit f N){i:Nat}(hi:i<f.cl.length):(f.c i).pend.length+(f.c i).bytes.size≤N:=by
 have h1:=sumC_ge pN f hi;have h2:=h.n;have h3:pN (f.c i)=(f.c i).pend.length+(f.c i).bytes.size:=rfl;omega
theorem Fit.deeds{f:Fr}{N:Nat}(h:Fit f N):f.deeds.length≤N:=by
 have h2:=h.n;omega
theorem Fit.turn{f f':Fr}{N:Nat}(h:Fit f N){i:Nat}(hi:i<f.cl.length)(x:Cl)(e:f'.cl=f.cl.set i x)(d:Nat)(ed:f'.deeds.length=f.deeds.length+d)(k:Nat)
  (h1:d+pN x≤pN (f.c i)+k) (h2:sN x+300*pN x≤sN (f.c i)+300*(pN (f.c i)+k)) (hz:Small x):Fit f' (N+k):=by
 have e1:=sumC_set pN f f' hi x e;have e2:=sumC_set sN f f' hi x e;have h3:=h.n;have h4:=h.s;refine⟨by omega,by omega,fun c=>?_⟩
 rw[c_setcl hi e];split
 ·exact hz
 ·exact h.z c
theorem Fit.same{f f':Fr}{N:Nat}(h:Fit f N)(e:f'.cl=f.cl)(ed:f'.deeds=f.deeds):Fit f' N:=by
 have e1: ∀g,sumC g f'=sumC g f:=fun g=>by unfold sumC;rw[e]
 refine⟨by rw[e1,ed];exact h.n,by rw[e1,e1];exact h.s,fun c=>?_⟩
 have:f'.c c=f.c c:=by unfold Fr.c;rw[e]
 rw[this];exact h.z c
theorem small_tail{x:Cl}(h:Small x){y:Cl}(e:y.pend=x.pend.tail):Small y:=fun p hp=>h p (by rw[e]at hp;exact List.mem_of_mem_tail hp)
theorem small_same{x:Cl}(h:Small x){y:Cl}(e:y.pend=x.pend):Small y:=fun p hp=>h p (by rw[e]at hp;exact hp)
theorem Fit.more{f:Fr}{N M:Nat}(h:Fit f N)(hm:N≤M):Fit f M:=by
 have h1:=h.n;have h2:=h.s;exact⟨by omega,by omega,h.z⟩
theorem Fit.told{f:Fr}{N:Nat}(h:Fit f N){i:Nat}(hb:busy f i=true)(D:List De)(hD:D.length≤1)(a:An)(f':Fr)(e:f'.cl=f.cl.set i ⟨(f.c i).bytes,(f.c i).pend.tail,(f.c i).srv,(f.c i).sent++tellM a⟩)(ed:f'.deeds=f.deeds++D):Fit f' N:=by
 have hi:=busy_lt hb;have hl:(f.c i).pend.length≠0:=by
  unfold busy at hb;intro h0;rw[List.length_eq_zero_iff]at h0;rw[h0]at hb;simp at hb
 have hz:=tellMZ a;refine h.turn hi _ e D.length (by rw[ed,List.length_append]) 0 ?_ ?_ (small_tail (h.z i) rfl)
 ·unfold pN;simp only[List.length_tail];omega
 ·unfold pN sN;simp only[List.length_tail,ByteArray.size_append];omega
theorem set_set_cl(f:Fr)(i:Nat)(x y:Cl):((f.set i x).set i y).cl=f.cl.set i y:=by
 unfold Fr.set;simp
theorem c_same(f:Fr){i:Nat}(hi:i<f.cl.length)(x:Cl):(f.set i x).c i=x:=by rw[c_set f hi,if_pos rfl]
theorem told_cl{f:Fr}{i:Nat}(hi:i<f.cl.length)(a:An):((f.drop i).tell i a).cl=f.cl.set i ⟨(f.c i).bytes,(f.c i).pend.tail,(f.c i).srv,(f.c i).sent++tellM a⟩:=by
 unfold Fr.tell Fr.drop;rw[set_set_cl,c_same f hi];rfl
theorem done_cl{f:Fr}{i:Nat}(hi:i<f.cl.length)(x:St)(a:An):(doneF f i x a).cl=f.cl.set i ⟨(f.c i).bytes,(f.c i).pend.tail,(f.c i).srv,(f.c i).sent++tellM a⟩:=told_cl hi a
theorem Fit.free{f:Fr}{N:Nat}(h:Fit f N){i:Nat}(hi:i<f.cl.length):Fit (f.freeS i) N:=
 h.turn (f':=f.freeS i) hi ⟨(f.c i).bytes,(f.c i).pend,-1,(f.c i).sent⟩ rfl 0 rfl 0 (by unfold pN;simp) (by unfold pN sN;simp) (small_same (h.z i) rfl)
theorem Fit.bind{f:Fr}{N:Nat}(h:Fit f N)(s:Nat){i:Nat}(hi:i<f.cl.length):Fit (f.bindS s i) N:=
 h.turn (f':=f.bindS s i) hi ⟨(f.c i).bytes,(f.c i).pend,(s:Int),(f.c i).sent⟩ rfl 0 rfl 0 (by unfold pN;simp) (by unfold pN sN;simp) (small_same (h.z i) rfl)
section
variable {β:Type}(B:Bh β)
theorem Fit.next{z:Fr × β}{N:Nat}(h:Fit z.1 N){i:Nat}(hb:busy z.1 i=true):Fit (nextM B z i).1 N:=by
 have hi:=busy_lt hb;unfold nextM;split
 ·exact h
 ·rename_i x bad l e;split
  ·exact h.told hb [] (by simp) _ _ (told_cl hi _) (by simp[Fr.tell,Fr.drop,Fr.set])
  split
  ·exact h.told hb [] (by simp) _ _ (told_cl hi _) (by simp[Fr.tell,Fr.drop,Fr.set])
  ·have h1: ∀a:An,Fit (((z.1.drop i).deed ⟨i,x,a⟩).tell i a) N:=fun a=>h.told hb [⟨i,x,a⟩] (by simp) a _ (told_cl hi _) (by simp[Fr.tell,Fr.drop,Fr.set,Fr.deed])
   simp only;split
   ·refine(h1 _).free ?_;rw[len_tell];show i<(z.1.drop i).cl.length;rw[len_drop];exact hi
   ·exact h1 _
theorem Fit.step{z:Fr × β}{N:Nat}(h:Fit z.1 N):Fit (stepM B z).1.1 N:=by
 unfold stepM;split
 ·rename_i i hp;exact Fit.next B h (ready_busy (pick_ready hp).1)
 ·have hq:Fit (queueF z.1) N:=h.same rfl rfl;split
  ·rename_i i l s hw hs;by_cases hi:i<z.1.cl.length
   ·exact(hq.same (f':=(queueF z.1).unwait) rfl rfl).bind s hi
   ·refine hq.same ?_ rfl;show((queueF z.1).unwait.bindS s i).cl=_;unfold Fr.bindS Fr.unwait queueF;simp only;rw[List.set_eq_of_length_le (by omega)]
  ·exact hq
theorem Fit.pump{z:Fr × β}{N:Nat}(h:Fit z.1 N):Fit (pumpM B z).1 N:=
 pump_keeps B (fun z=>Fit z.1 N) (fun _ hz=>Fit.step B hz) _ z (Nat.le_refl _) h
theorem Fit.close{z:Fr × β}{N:Nat}(h:Fit z.1 N){i:Nat}(hi:i<z.1.cl.length):Fit (closeM B z i).1 N:=
 h.turn (f':=(closeM B z i).1) hi ⟨⟨#[]⟩,[],-1,(z.1.c i).sent⟩ rfl 0 rfl 0 (by unfold pN;simp;exact Nat.zero_le _) (by unfold pN sN;simp;have:(⟨#[]⟩:ByteArray).size=0:=rfl;omega) (fun p hp=>by cases hp)
end
theorem feed_fit(x:Cl):pN (feedC x).1≤pN x∧(feedC x).1.sent=x.sent∧(Small x→Small (feedC x).1):=by
 induction hn:x.bytes.size using Nat.strongRecOn generalizing x with
 |ind n ih=>
  rw[feedC];split
  ·rename_i hw;have hr:=rest_le _ hw;split
   ·refine⟨?_,rfl,fun hs=>small_same hs rfl⟩;unfold pN;simp only;omega
   ·obtain⟨h1,h2,h3⟩:=ih _ (by rw[←hn];exact rest_lt hw) ⟨restAt x.bytes,x.pend++[askedOf x.bytes],x.srv,x.sent⟩ rfl
    refine⟨Nat.le_trans h1 ?_,h2,fun hs=>h3 fun p hp=>?_⟩
    ·unfold pN;simp only[List.length_append,List.length_singleton];omega
    ·rcases List.mem_append.1 hp with hp|hp
     ·exact hs p hp
     ·rw[List.mem_singleton]at hp;subst hp;have h4:=readZ (textAt x.bytes);have h5:=textAt_size x.bytes;exact⟨Nat.le_trans h4.1 h5,Nat.le_trans h4.2 h5⟩
  ·exact⟨Nat.le_refl _,rfl,id⟩
theorem Fit.feed{f:Fr}{N:Nat}(h:Fit f N){i:Nat}(hi:i<f.cl.length)(data:ByteArray):Fit (f.set i (pourC (f.c i) data).1) (N+data.size):=by
 obtain⟨h1,h2,h3⟩:=feed_fit ⟨(f.c i).bytes++data,(f.c i).pend,(f.c i).srv,(f.c i).sent⟩;have e:pN ⟨(f.c i).bytes++data,(f.c i).pend,(f.c i).srv,(f.c i).sent⟩=pN (f.c i)+data.size:=by
  unfold pN;simp only[ByteArray.size_append];omega
 rw[e]at h1;have e2:sN (pourC (f.c i) data).1=sN (f.c i):=by unfold sN pourC;rw[h2]
 have h1:pN (pourC (f.c i) data).1≤pN (f.c i)+data.size:=h1;exact h.turn (f':=f.set i (pourC (f.c i) data).1) hi (pourC (f.c i) data).1 rfl 0 rfl data.size (by omega) (by omega) (h3 (small_same (h.z i) rfl))
theorem Fit.start(mode:Int)(n:Nat):Fit (startF mode n) 0:=by
 have e: ∀g:Cl→Nat,sumC g (startF mode n)=((List.replicate 6 Cl.new).map g).sum:=fun _=>rfl;refine⟨by rw[e];show 0+_≤_;decide,by rw[e,e];decide,fun c=>?_⟩
 have:(startF mode n).c c=Cl.new:=by
  show(List.replicate 6 Cl.new).getD c Cl.new=_;rw[List.getD_eq_getElem?_getD,List.getElem?_replicate];split<;>rfl
 rw[this];exact fun p hp=>by cases hp
structure Ok(z:Fr × PB)(N:Nat):Prop where
 sim: ∃y,Sim z y
 fit:Fit z.1 N
section
variable {z:Fr × PB}{N:Nat}
theorem Ok.fi(h:Ok z N):FI z.1:=by obtain⟨⟨y,s⟩,_⟩:=h;exact s.fi
theorem Ok.rb(h:Ok z N): ∃w,RB z.1.owner (svs z.1) z.2 w:=by obtain⟨⟨y,s⟩,_⟩:=h;exact⟨_,s.rb⟩
theorem Ok.len(h:Ok z N){i:Nat}(hi:i<6):i<z.1.cl.length:=by rw[h.fi.six];exact hi
theorem Ok.next(h:Ok z N){i:Nat}(hi:i<6)(hr:ready z.1 i=true):Ok (nextM poolB z i) N:=by
 obtain⟨⟨y,s⟩,ft⟩:=h;refine⟨⟨nextM houseB (z.1,y.2) i,?_⟩,Fit.next poolB ft (ready_busy hr)⟩;exact next_sim s.fi s.rb hi hr
theorem Ok.step(h:Ok z N):Ok (stepM poolB z).1 N:=by
 obtain⟨⟨y,s⟩,ft⟩:=h;exact⟨⟨_,(step_sim s).1⟩,Fit.step poolB ft⟩
theorem Ok.pump(h:Ok z N):Ok (pumpM poolB z) N:=by
 obtain⟨⟨y,s⟩,ft⟩:=h;exact⟨⟨_,s.pump⟩,Fit.pump poolB ft⟩
theorem Ok.close(h:Ok z N){i:Nat}(hi:i<6):Ok (closeM poolB z i) N:=by
 have hl:=h.len hi;obtain⟨⟨y,s⟩,ft⟩:=h;exact⟨⟨_,s.close hi⟩,Fit.close poolB ft hl⟩
theorem Ok.pour(h:Ok z N){i:Nat}(hi:i<6)(data:ByteArray):Ok (z.1.set i (pourC (z.1.c i) data).1,z.2) (N+data.size):=by
 have hl:=h.len hi;obtain⟨⟨y,s⟩,ft⟩:=h;exact⟨⟨_,s.pour hi data⟩,ft.feed hl data⟩
theorem Ok.deliver(h:Ok z N){i:Nat}(hi:i<6)(data:ByteArray):Ok (deliverM poolB z i data) (N+data.size):=by
 unfold deliverM;simp only;split
 ·exact((h.pour hi data).pump.close hi).pump
 ·exact(h.pour hi data).pump
theorem Ok.act(h:Ok z N){a:Ac}(ha:a.c.toNat<6):Ok (actM poolB z a) (N+a.data.size):=by
 unfold actM;split
 ·have:=(h.close ha).pump;exact⟨this.sim,this.fit.more (by omega)⟩
 ·exact h.deliver ha _
theorem Ok.start(mode:Int)(n:Nat)(hn:n≤8):Ok (startF mode n,startP n) 0:=⟨⟨_,start_sim mode n hn⟩,Fit.start mode n⟩
end
structure OkH(z:Fr × Wo)(N:Nat):Prop where
 sim: ∃b,Sim (z.1,b) z
 fit:Fit z.1 N
 good:Good z.2
section
variable {z:Fr × Wo}{N:Nat}
theorem OkH.fi(h:OkH z N):FI z.1:=by obtain⟨⟨b,s⟩,_⟩:=h;exact s.fi
theorem OkH.six(h:OkH z N):z.2.ses.length=6:=by obtain⟨⟨b,s⟩,_⟩:=h;exact s.rb.ses6
theorem OkH.len(h:OkH z N){i:Nat}(hi:i<6):i<z.1.cl.length:=by rw[h.fi.six];exact hi
theorem good_next{f:Fr}{w:Wo}(hf:FI f)(g:Good w)(h6:w.ses.length=6){i:Nat}(hi:i<6):Good (nextM houseB (f,w) i).2:=by
 cases hp:(f.c i).pend with
 |nil=>rw[next_nil houseB (f,w) i hp];exact g
 |cons p l=>
  obtain⟨x,bad⟩:=p;cases bad with
  |true=>rw[next_bad houseB (f,w) i hp];exact g
  |false=>
   by_cases hm:f.mode=3∧x.k=1
   ·rw[next_mode houseB (f,w) i hp hm];exact g
   ·rw[next_act houseB (f,w) i hp hm];have hx:checkE x=0:=hf.pend i hi (x,false) (by rw[hp];exact List.mem_cons_self) rfl
    have hg:Good (doW w i x).1:=doW_good g (by omega) hx
    split
    ·exact hg
    ·exact hg
theorem OkH.next(h:OkH z N){i:Nat}(hi:i<6)(hr:ready z.1 i=true):OkH (nextM houseB z i) N:=by
 have h6:=h.six;obtain⟨⟨b,s⟩,ft,g⟩:=h;have hs:=next_sim s.fi s.rb hi hr;refine⟨⟨(nextM poolB (z.1,b) i).2,?_⟩,Fit.next houseB ft (ready_busy hr),good_next s.fi g h6 hi⟩;have e:((nextM houseB z i).1,(nextM poolB (z.1,b) i).2)=nextM poolB (z.1,b) i:=Prod.ext hs.front.symm rfl;rw[e];exact hs
theorem OkH.step(h:OkH z N):OkH (stepM houseB z).1 N:=by
 have h6:=h.six;obtain⟨⟨b,s⟩,ft,g⟩:=h;have hs:=(step_sim s).1;refine⟨⟨(stepM poolB (z.1,b)).1.2,?_⟩,Fit.step houseB ft,?_⟩
 ·have e:((stepM houseB z).1.1,(stepM poolB (z.1,b)).1.2)=(stepM poolB (z.1,b)).1:=Prod.ext hs.front.symm rfl;rw[e];exact hs
 ·unfold stepM;split
  ·rename_i i hp;exact good_next s.fi g h6 (pick_ready hp).2
  ·split
   ·exact g
   ·exact g
theorem OkH.pump(h:OkH z N):OkH (pumpM houseB z) N:=
 pump_keeps houseB (fun z=>OkH z N) (fun _ hz=>hz.step) _ z (Nat.le_refl _) h
theorem OkH.close(h:OkH z N){i:Nat}(hi:i<6):OkH (closeM houseB z i) N:=by
 have hl:=h.len hi;have h6:=h.six;obtain⟨⟨b,s⟩,ft,g⟩:=h;have hs:=s.close hi;refine⟨⟨(closeM poolB (z.1,b) i).2,?_⟩,Fit.close houseB ft hl,?_⟩
 ·have e:((closeM houseB z i).1,(closeM poolB (z.1,b) i).2)=closeM poolB (z.1,b) i:=Prod.ext hs.front.symm rfl;rw[e];exact hs
 ·refine g.put_sub (by omega) ⟨by decide,by decide,rfl,rfl,rfl,rfl,fun _=>rfl,fun _=>rfl⟩ fun k hk=>?_
  cases hk
theorem OkH.pour(h:OkH z N){i:Nat}(hi:i<6)(data:ByteArray):OkH (z.1.set i (pourC (z.1.c i) data).1,z.2) (N+data.size):=by
 have hl:=h.len hi;obtain⟨⟨b,s⟩,ft,g⟩:=h;exact⟨⟨b,s.pour hi data⟩,ft.feed hl data,g⟩
theorem OkH.deliver(h:OkH z N){i:Nat}(hi:i<6)(data:ByteArray):OkH (deliverM houseB z i data) (N+data.size):=by
 unfold deliverM;simp only;split
 ·exact((h.pour hi data).pump.close hi).pump
 ·exact(h.pour hi data).pump
theorem OkH.act(h:OkH z N){a:Ac}(ha:a.c.toNat<6):OkH (actM houseB z a) (N+a.data.size):=by
 unfold actM;split
 ·have:=(h.close ha).pump;exact⟨this.sim,this.fit.more (by omega),this.good⟩
 ·exact h.deliver ha _
theorem OkH.start(mode:Int)(n:Nat)(hn:n≤8):OkH (startF mode n,startH) 0:=⟨⟨_,start_sim mode n hn⟩,Fit.start mode n,good_new 6 (by decide)⟩
end
end Go.Proofs.YtjbnfigpflambacGreatDoor
