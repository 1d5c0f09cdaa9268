/- Reference's isIn: is a guest in the line. Reference's house: what its stores do to it. Reference's house: a guest is stored whole. Reference's house. Reference's house: another world of it is stored. Conditions: those of each lemma. -/
import Derived.Test.YtjbnfigpflambacGreatDoorH17
import Derived.Test.YtjbnfigpflambacGreatDoorH19
namespace Go.Proofs.YtjbnfigpflambacGreatDoor
set_option maxRecDepth 100000
set_option maxHeartbeats 16000000
open _root_.Go.Proofs.Tryz
open Go.ChangeShapes Go.WideShapes Go.ChangeAt Go.RowKit
theorem getD_lt{l:List Nat}{j:Nat}(h:j<l.length):l.getD j 0=l[j]:=by
 rw[List.getD_eq_getElem?_getD,List.getElem?_eq_getElem h];rfl
theorem isIn_any(w:World)(A:Option Addr)(n k:Nat)(l:List Nat)(c:Nat)(h:Reads w w.heap.size 1 A n (natV l))(hn:l.length=n)(hl:n≤1000):
  Calls Tryz.prog 82 #[.slice A n k,.int .i64 (c:Nat)] w fun e w'=>e= .returned (.bool (decide (c∈l)))∧w'=w:=by
 have HR:=Hd h;have HN:=Hd hn;have HL:=Hd hl;obtain⟨z,hz⟩: ∃z,decide (c∈l)=z:=⟨_,rfl⟩;rw[hz];have HZ:=Hd hz;clear h hn hz;go_enter func82,ntmps82
 go_wp2_with fail
 go_loopw [5] (fun i wx=>∃m:Nat,m≤n∧i= .int .i64 m∧wx=w∧Hid (∀j,j<m→l.getD j 0≠c)) (fun i _=>n-(intOf i).toNat)
 case atStart=>exact⟨0,Nat.zero_le _,rfl,rfl,Hd (fun j hj=>absurd hj (Nat.not_lt_zero _))⟩
 case round=>
  obtain⟨m,hm,rfl,rfl,HJ⟩:=hrel;by_cases hlt:m<n
  ·have g1:(m:Int)<(n:Int):=by omega
   have g2:(0:Int)≤(m:Int):=by omega
   have hml:m<l.length:=by rw[HN.out];exact hlt
   obtain⟨ad,hA,_,hcell⟩:=HR.out.2 (by omega)
   have hc:=hcell m _ (natV_at hml);subst hA;obtain⟨a,ha⟩: ∃a,l.getD m 0=a:=⟨_,rfl⟩;rw[ha]at hc;have HA:=Hd ha;have HM:=Hd hml;have ie:=nat_eqI a c;clear hcell ha hml;by_cases hac:a=c
   ·have HF:=Hd (show z=true by
     rw[←HZ.out,decide_eq_true_eq,←hac,←HA.out,getD_lt HM.out];exact List.getElem_mem _)
    have e1:decide (a=c)=true:=by simpa using hac
    rw[e1]at ie;go_wp2_with fail
    go_ret;rw[HF.out];exact⟨rfl,rfl⟩
   ·have e1:decide (a=c)=false:=by simpa using hac
    have HF:=Hd (show∀j,j<m+1→l.getD j 0≠c by
     intro j hj;rcases Nat.lt_succ_iff_lt_or_eq.1 hj with h|h
     ·exact HJ.out j h
     ·rw[h,HA.out];exact hac)
    rw[e1]at ie;go_wp2_with fail
    go_roundw
    case rel=>exact⟨m+1,by omega,by go_num,by first|rfl|trivial,Hd HF.out⟩
    case measure=>simp[intOf];omega
  ·have g1:(n:Int)≤(m:Int):=by omega
   have HF:=Hd (show z=false by
    rw[←HZ.out,decide_eq_false_iff_not];intro hc;obtain⟨j,hj,e⟩:=List.mem_iff_getElem.1 hc;have:=HN.out;exact HJ.out j (by omega) (by rw[getD_lt hj];exact e))
   go_wp2_with fail
   go_ret;rw[HF.out];exact⟨rfl,rfl⟩
section
variable {w:World}{B p ga gs cap:Nat}{V:HoV}{cs:List Value}{f:Fr}{h:Wo}
theorem AllR.same{w:World}{ga:Nat}{f f':Fr}{wt:Nat→Value}(h:AllR w ga f wt)(hc: ∀c,c<6→f'.c c=f.c c):AllR w ga f' wt:=by
 obtain⟨cs,hb,hz,hx⟩:=h.blk;refine⟨cs,hb,hz,fun c k h1 h2=>(hx c k h1 h2).trans ?_⟩;have:=hc c h1;unfold guV;rw[this]
theorem HouR.putOwner(H:HouR w B p ga gs cap V cs f h){g off n k:Nat}(e:V.owner= .slice (some ⟨g,off,none⟩) n k)(i:Nat)(x:Int):
  HouR (w.setCell ⟨g,off+i,none⟩ (.int .i64 x)) B p ga gs cap V cs {f with owner:=f.owner.set i x} h∧HouF B w (w.setCell ⟨g,off+i,none⟩ (.int .i64 x)):=by
 obtain⟨ci,hb⟩:=H.owner.row g (by rw[e];rfl)
 have kp: ∀t,3≠t→Keeps t w (w.setCell ⟨g,off+i,none⟩ (.int .i64 x)):=fun t ht=>Keeps.set_ (p:=⟨g,off+i,none⟩) hb ht _;have lb:B≤g:=(H.owner.lt g (by rw[e];rfl)).1
 have ko: ∀{t:TypeId} {size m:Nat} {u:Value} {xs:List Value},u.ownBlock≠some g→OwnO w B t size u m xs→OwnO (w.setCell ⟨g,off+i,none⟩ (.int .i64 x)) B t size u m xs:=fun hne ho=>ho.keep fun q hq=>by
  have:q≠g:=fun e=>hne (by rw[hq,e])
  exact Below.heap_setCell w ⟨g,off+i,none⟩ _ q this
 have kt: ∀{t:TypeId} {size m:Nat} {u:Value} {xs:List Value},3≠t→OwnO w B t size u m xs→u.ownBlock≠some g:=fun ht ho hq=>by
  obtain⟨c1,hr⟩:=ho.row g hq;exact hr.ne_ hb ht.symm rfl
 have hn:f.owner.length=n:=by
  obtain⟨A,c,e1,_⟩:=H.owner.form;rw[e]at e1;injection e1 with _ e2 _;exact e2.symm
 refine⟨⟨?_,(H.all.keeps (kp _ (by decide))).same (fun _ _=>rfl),H.lb,H.rows.keeps (kp _ (by decide)),⟨(kp _ (by decide)).own H.ses.own,H.ses.ses.keeps (kp _ (by decide))⟩,H.six,?_,ko (H.ol g (by rw[e];rfl)) H.line,ko (kt (by decide) H.deeds) H.deeds,fun c hc=>ko (kt (by decide) (H.wait c hc)) (H.wait c hc),H.ol,H.ww⟩,⟨bR.setCell (p:=⟨g,off+i,none⟩) lb _,by simp[World.setCell],fun t _ _ h3 _ _=>kp t h3⟩⟩
 ·show Blk _ _ _ #[.int .i64 f.mode,.int .i64 ((f.owner.set i x).length:Nat),V.rows,.slice (some ⟨gs,0,none⟩) 6 cap,.slice (some ⟨ga,0,none⟩) 6 6,V.owner,V.line,V.deeds];rw[List.length_set];exact H.blk.far (p:=⟨g,off+i,none⟩) (H.blk.ne_ hb (by decide)) _
 ·have ho:=H.owner;rw[hn,e]at ho;show OwnO _ B _ 1 V.owner (f.owner.set i x).length (intV (f.owner.set i x));rw[List.length_set,hn,e];have:=ho.put i (.int .i64 x);unfold intV at this⊢;rw[List.map_set];exact this
theorem OwnO.ofK{w w':World}{B:Nat}{e:TypeId}{size n:Nat}{v:Value}{xs:List Value}(h:OwnO w B e size v n xs)(k:Keeps e w w'):OwnO w' B e size v n xs:=h.keep fun q hq=>by
 obtain⟨c,hc⟩:=h.row q hq;exact(k q c (0,0) hc).trans hc.symm
theorem HouR.reses{w':World}(H:HouR w B p ga gs cap V cs f h)(kp: ∀t,133≠t→Keeps t w w'){ss:List Se}{cs':List Value}(hs:OSL w' B (.slice (some ⟨gs,0,none⟩) 6 cap) ss cs')(hz:ss.length=6):
  HouR w' B p ga gs cap V cs' f ⟨h.rows,ss⟩:=
 ⟨kp _ (by decide) p _ (0,0) H.blk,H.all.keeps (kp _ (by decide)),H.lb,H.rows.keeps (kp _ (by decide)),hs,hz,H.owner.ofK (kp _ (by decide)),H.line.ofK (kp _ (by decide)),H.deeds.ofK (kp _ (by decide)),fun c hc=>(H.wait c hc).ofK (kp _ (by decide)),H.ol,H.ww⟩
theorem HouR.putSes(H:HouR w B p ga gs cap V cs f h){i:Nat}(hi:i<6){s':Se}{a b c d:Value}(ha:OPL w B a s'.set)(hb:OPL w B b s'.pre)(hc:OPL w B c s'.sav)(hd:OPL w B d s'.wri)(hs: -9223372036854775808≤s'.st∧s'.st≤9223372036854775807):
  (∃cs',HouR (((((w.setCell ⟨gs,i*5,none⟩ (.int .i64 s'.st)).setCell ⟨gs,i*5+1,none⟩ a).setCell ⟨gs,i*5+2,none⟩ b).setCell ⟨gs,i*5+3,none⟩ c).setCell ⟨gs,i*5+4,none⟩ d) B p ga gs cap V cs' f ⟨h.rows,h.ses.set i s'⟩)∧
   HouF B w (((((w.setCell ⟨gs,i*5,none⟩ (.int .i64 s'.st)).setCell ⟨gs,i*5+1,none⟩ a).setCell ⟨gs,i*5+2,none⟩ b).setCell ⟨gs,i*5+3,none⟩ c).setCell ⟨gs,i*5+4,none⟩ d):=by
 obtain⟨cs',h5⟩:=H.ses.put5 H.six (by rw[H.six];exact hi) ha hb hc hd hs
 obtain⟨r0,hg⟩:=H.ses.row;have lb: ∀j,B≤(⟨gs,j,none⟩:Addr).block:=fun _=>H.ses.lt.1;have kp: ∀t,133≠t→Keeps t w (((((w.setCell ⟨gs,i*5,none⟩ (.int .i64 s'.st)).setCell ⟨gs,i*5+1,none⟩ a).setCell ⟨gs,i*5+2,none⟩ b).setCell ⟨gs,i*5+3,none⟩ c).setCell ⟨gs,i*5+4,none⟩ d):=fun t ht=>
  ((((Keeps.set_ (p:=⟨gs,i*5,none⟩) hg ht _).trans (Keeps.set_ (p:=⟨gs,i*5+1,none⟩) (hg.set_ (i*5) _) ht _)).trans (Keeps.set_ (p:=⟨gs,i*5+2,none⟩) ((hg.set_ (i*5) _).set_ (i*5+1) _) ht _)).trans (Keeps.set_ (p:=⟨gs,i*5+3,none⟩) (((hg.set_ (i*5) _).set_ (i*5+1) _).set_ (i*5+2) _) ht _)).trans (Keeps.set_ (p:=⟨gs,i*5+4,none⟩) ((((hg.set_ (i*5) _).set_ (i*5+1) _).set_ (i*5+2) _).set_ (i*5+3) _) ht _)
 refine⟨⟨cs',H.reses kp h5 (by rw[List.length_set];exact H.six)⟩,⟨(((((bR.setCell (lb _) _).setCell (lb _) _).setCell (lb _) _).setCell (lb _) _).setCell (lb _) _),by simp[World.setCell],fun t _ _ _ h4 _=>kp t h4⟩⟩
end
section
variable {w:World}{B p ga gs cap:Nat}{V:HoV}{cs:List Value}{f:Fr}{h:Wo}
theorem AllR.four{wt wt':Nat→Value}{f':Fr}(H:AllR w ga f wt){c:Nat}(hc:c<6){a0 a1 a2 a3:Value}(h0:guV f' wt' c 0=a0)(h1:guV f' wt' c 1=a1)(h2:guV f' wt' c 2=a2)(h3:guV f' wt' c 3=a3)
  (hn: ∀c' k',c'<6→k'<4→c'≠c→guV f' wt' c' k'=guV f wt c' k'):
  AllR ((((w.setCell ⟨ga,c*4,none⟩ a0).setCell ⟨ga,c*4+1,none⟩ a1).setCell ⟨ga,c*4+2,none⟩ a2).setCell ⟨ga,c*4+3,none⟩ a3) ga f' wt':=by
 obtain⟨cs,hb,hz,hx⟩:=H.blk;refine⟨(((cs.setIfInBounds (c*4) a0).setIfInBounds (c*4+1) a1).setIfInBounds (c*4+2) a2).setIfInBounds (c*4+3) a3,(((hb.set_ _ _).set_ _ _).set_ _ _).set_ _ _,by simp only[Array.size_setIfInBounds];exact hz,fun c' k' hc' hk'=>?_⟩
 simp only[Array.getElem?_setIfInBounds,Array.size_setIfInBounds,hz];by_cases e:c'=c
 ·subst e;have l0:c'*4<24:=by omega
  have l1:c'*4+1<24:=by omega
  have l2:c'*4+2<24:=by omega
  have l3:c'*4+3<24:=by omega
  match k',hk' with
  |0,_=>rw[if_neg (by omega),if_neg (by omega),if_neg (by omega),if_pos (by omega),if_pos l0,h0]
  |1,_=>rw[if_neg (by omega),if_neg (by omega),if_pos rfl,if_pos l1,h1]
  |2,_=>rw[if_neg (by omega),if_pos rfl,if_pos l2,h2]
  |3,_=>rw[if_pos rfl,if_pos l3,h3]
 ·rw[if_neg (by omega),if_neg (by omega),if_neg (by omega),if_neg (by omega),hx c' k' hc' hk',hn c' k' hc' hk' e]
theorem HouR.putGuest(H:HouR w B p ga gs cap V cs f h)(hl:f.cl.length=6){c:Nat}(hc:c<6)(x:Cl)(v:Value)(hv:OwnO w B 117 4 v x.pend.length (askV x.pend))
  (ha: ∀c' k,c'<6→c'≠c→(V.wait c').ownBlock=some k→v.ownBlock≠some k):
  HouR ((((w.setCell ⟨ga,c*4,none⟩ (.string x.bytes)).setCell ⟨ga,c*4+1,none⟩ v).setCell ⟨ga,c*4+2,none⟩ (.int .i64 x.srv)).setCell ⟨ga,c*4+3,none⟩ (.string x.sent)) B p ga gs cap {V with wait:=up V.wait c v} cs (f.set c x) h∧
   HouF B w ((((w.setCell ⟨ga,c*4,none⟩ (.string x.bytes)).setCell ⟨ga,c*4+1,none⟩ v).setCell ⟨ga,c*4+2,none⟩ (.int .i64 x.srv)).setCell ⟨ga,c*4+3,none⟩ (.string x.sent)):=by
 have hC:=fun j=>c_set f (i:=c) (by omega) x j
 obtain⟨ag,hb,_⟩:=H.all.blk;have kp: ∀t,113≠t→Keeps t w ((((w.setCell ⟨ga,c*4,none⟩ (.string x.bytes)).setCell ⟨ga,c*4+1,none⟩ v).setCell ⟨ga,c*4+2,none⟩ (.int .i64 x.srv)).setCell ⟨ga,c*4+3,none⟩ (.string x.sent)):=fun t ht=>
  (((Keeps.set_ (p:=⟨ga,c*4,none⟩) hb ht _).trans (Keeps.set_ (p:=⟨ga,c*4+1,none⟩) (hb.set_ (c*4) _) ht _)).trans (Keeps.set_ (p:=⟨ga,c*4+2,none⟩) ((hb.set_ (c*4) _).set_ (c*4+1) _) ht _)).trans (Keeps.set_ (p:=⟨ga,c*4+3,none⟩) (((hb.set_ (c*4) _).set_ (c*4+1) _).set_ (c*4+2) _) ht _)
 have lb: ∀j,B≤(⟨ga,j,none⟩:Addr).block:=fun _=>H.lb.2;refine⟨⟨kp _ (by decide) p _ (0,0) H.blk,H.all.four hc ?_ ?_ ?_ ?_ ?_,H.lb,H.rows.keeps (kp _ (by decide)),⟨(kp _ (by decide)).own H.ses.own,H.ses.ses.keeps (kp _ (by decide))⟩,H.six,H.owner.ofK (kp _ (by decide)),H.line.ofK (kp _ (by decide)),H.deeds.ofK (kp _ (by decide)),fun j hj=>?_,H.ol,fun j j' k hj hj'=>?_⟩,
  ⟨(((bR.setCell (lb _) _).setCell (lb _) _).setCell (lb _) _).setCell (lb _) _,by simp[World.setCell],fun t _ h2 _ _ _=>kp t h2⟩⟩
 ·show Value.string ((f.set c x).c c).bytes=_;rw[hC c,if_pos rfl]
 ·show up V.wait c v c=_;unfold up;rw[if_pos rfl]
 ·show Value.int .i64 ((f.set c x).c c).srv=_;rw[hC c,if_pos rfl]
 ·show Value.string ((f.set c x).c c).sent=_;rw[hC c,if_pos rfl]
 ·intro c' k' _ _ hn;unfold guV up;rw[hC c',if_neg hn];simp only[if_neg hn]
 ·show OwnO _ B _ 4 (up V.wait c v j) ((f.set c x).c j).pend.length (askV ((f.set c x).c j).pend);unfold up;rw[hC j];by_cases e:j=c
  ·simp only[if_pos e];exact hv.ofK (kp _ (by decide))
  ·simp only[if_neg e];exact(H.wait j hj).ofK (kp _ (by decide))
 ·show(up V.wait c v j).ownBlock=some k→(up V.wait c v j').ownBlock=some k→j=j';unfold up;intro h1 h2;by_cases e:j=c<;>by_cases e':j'=c
  ·omega
  ·rw[if_pos e]at h1;rw[if_neg e']at h2;exact absurd h1 (ha j' k hj' e' h2)
  ·rw[if_neg e]at h1;rw[if_pos e']at h2;exact absurd h2 (ha j k hj e h1)
  ·rw[if_neg e]at h1;rw[if_neg e']at h2;exact H.ww j j' k hj hj' h1 h2
end
section
variable {w:World}{B p ga gs cap:Nat}{V:HoV}{cs:List Value}{f:Fr}{h:Wo}
theorem HouR.putLine(H:HouR w B p ga gs cap V cs f h){v:Value}{l:List Nat}(hv:OwnO w B 3 1 v l.length (natV l))(hn: ∀k,V.owner.ownBlock=some k→v.ownBlock≠some k):
  HouR (w.setCell ⟨p,6,none⟩ v) B p ga gs cap {V with line:=v} cs {f with wait:=l} h∧HouF B w (w.setCell ⟨p,6,none⟩ v):=by
 have kp: ∀t,110≠t→Keeps t w (w.setCell ⟨p,6,none⟩ v):=fun t ht=>Keeps.set_ (p:=⟨p,6,none⟩) H.blk ht _;exact⟨⟨H.blk.set_ 6 v,(H.all.keeps (kp _ (by decide))).same (fun _ _=>rfl),H.lb,H.rows.keeps (kp _ (by decide)),⟨(kp _ (by decide)).own H.ses.own,H.ses.ses.keeps (kp _ (by decide))⟩,H.six,H.owner.ofK (kp _ (by decide)),hv.ofK (kp _ (by decide)),H.deeds.ofK (kp _ (by decide)),fun c hc=>(H.wait c hc).ofK (kp _ (by decide)),hn,H.ww⟩,
  ⟨bR.setCell (p:=⟨p,6,none⟩) H.lb.1 v,by simp[World.setCell],fun t h1 _ _ _ _=>kp t h1⟩⟩
theorem HouR.putWait(H:HouR w B p ga gs cap V cs f h)(hl:f.cl.length=6){c:Nat}(hc:c<6)(l:List (St × Bool))(v:Value)(hv:OwnO w B 117 4 v l.length (askV l))
  (ha: ∀c' k,c'<6→c'≠c→(V.wait c').ownBlock=some k→v.ownBlock≠some k):
  HouR (w.setCell ⟨ga,c*4+1,none⟩ v) B p ga gs cap {V with wait:=up V.wait c v} cs (f.set c ⟨(f.c c).bytes,l,(f.c c).srv,(f.c c).sent⟩) h∧HouF B w (w.setCell ⟨ga,c*4+1,none⟩ v):=by
 have hC:=fun j=>c_set f (i:=c) (by omega) ⟨(f.c c).bytes,l,(f.c c).srv,(f.c c).sent⟩ j
 obtain⟨ag,hb,_⟩:=H.all.blk;have kp: ∀t,113≠t→Keeps t w (w.setCell ⟨ga,c*4+1,none⟩ v):=fun t ht=>Keeps.set_ (p:=⟨ga,c*4+1,none⟩) hb ht _;refine⟨⟨kp _ (by decide) p _ (0,0) H.blk,H.all.store hc (by decide) ?_ ?_,H.lb,H.rows.keeps (kp _ (by decide)),⟨(kp _ (by decide)).own H.ses.own,H.ses.ses.keeps (kp _ (by decide))⟩,H.six,H.owner.ofK (kp _ (by decide)),H.line.ofK (kp _ (by decide)),H.deeds.ofK (kp _ (by decide)),fun j hj=>?_,H.ol,fun j j' k hj hj'=>?_⟩,
  ⟨bR.setCell (p:=⟨ga,c*4+1,none⟩) H.lb.2 v,by simp[World.setCell],fun t _ h2 _ _ _=>kp t h2⟩⟩
 ·show up V.wait c v c=_;unfold up;rw[if_pos rfl]
 ·intro c' k' _ hk' hn;by_cases e:c'=c
  ·subst e;match k',hk' with
   |0,_=>show Value.string _=Value.string _;rw[hC c',if_pos rfl]
   |1,_=>exact absurd ⟨rfl,rfl⟩ hn
   |2,_=>show Value.int _ _=Value.int _ _;rw[hC c',if_pos rfl]
   |3,_=>show Value.string _=Value.string _;rw[hC c',if_pos rfl]
  ·unfold guV up;rw[hC c',if_neg e];simp only[if_neg e]
 ·show OwnO _ B _ 4 (up V.wait c v j) ((f.set c ⟨(f.c c).bytes,l,(f.c c).srv,(f.c c).sent⟩).c j).pend.length (askV ((f.set c ⟨(f.c c).bytes,l,(f.c c).srv,(f.c c).sent⟩).c j).pend);unfold up;rw[hC j];by_cases e:j=c
  ·simp only[if_pos e];exact hv.ofK (kp _ (by decide))
  ·simp only[if_neg e];exact(H.wait j hj).ofK (kp _ (by decide))
 ·show(up V.wait c v j).ownBlock=some k→(up V.wait c v j').ownBlock=some k→j=j';unfold up;intro h1 h2;by_cases e:j=c<;>by_cases e':j'=c
  ·omega
  ·rw[if_pos e]at h1;rw[if_neg e']at h2;exact absurd h1 (ha j' k hj' e' h2)
  ·rw[if_neg e]at h1;rw[if_pos e']at h2;exact absurd h2 (ha j k hj e h1)
  ·rw[if_neg e]at h1;rw[if_neg e']at h2;exact H.ww j j' k hj hj' h1 h2
end
section
variable {w:World}{B p ga gs cap:Nat}{V:HoV}{cs:List Value}{f:Fr}{h:Wo}
theorem HouR.putW(H:HouR w B p ga gs cap V cs f h){r:Value}{g' cap':Nat}{W:Wo}{cs':List Value}(hr:OPL w B r W.rows)(hs:OSL w B (.slice (some ⟨g',0,none⟩) 6 cap') W.ses cs')(hz:W.ses.length=6):
  HouR ((w.setCell ⟨p,2,none⟩ r).setCell ⟨p,3,none⟩ (.slice (some ⟨g',0,none⟩) 6 cap')) B p ga g' cap' {V with rows:=r} cs' f W∧HouF B w ((w.setCell ⟨p,2,none⟩ r).setCell ⟨p,3,none⟩ (.slice (some ⟨g',0,none⟩) 6 cap')):=by
 have kp: ∀t,110≠t→Keeps t w ((w.setCell ⟨p,2,none⟩ r).setCell ⟨p,3,none⟩ (.slice (some ⟨g',0,none⟩) 6 cap')):=fun t ht=>(Keeps.set_ (p:=⟨p,2,none⟩) H.blk ht _).trans (Keeps.set_ (p:=⟨p,3,none⟩) (H.blk.set_ 2 r) ht _);exact⟨⟨(H.blk.set_ 2 r).set_ 3 _,H.all.keeps (kp _ (by decide)),H.lb,hr.keeps (kp _ (by decide)),⟨(kp _ (by decide)).own hs.own,hs.ses.keeps (kp _ (by decide))⟩,hz,H.owner.ofK (kp _ (by decide)),H.line.ofK (kp _ (by decide)),H.deeds.ofK (kp _ (by decide)),fun c hc=>(H.wait c hc).ofK (kp _ (by decide)),H.ol,H.ww⟩,
  ⟨(bR.setCell (p:=⟨p,2,none⟩) H.lb.1 _).setCell (p:=⟨p,3,none⟩) H.lb.1 _,by simp[World.setCell],fun t h1 _ _ _ _=>kp t h1⟩⟩
end
end Go.Proofs.YtjbnfigpflambacGreatDoor
