/- Reference's house: appends to its slices. Conditions: those of each lemma. -/
import Derived.Test.YtjbnfigpflambacGreatDoorH20
import Derived.Test.YtjbnfigpflambacGreatDoorH23
import Derived.Test.YtjbnfigpflambacGreatDoorH25
namespace Go.Proofs.YtjbnfigpflambacGreatDoor
set_option maxRecDepth 100000
set_option maxHeartbeats 16000000
open Go.ChangeShapes Go.WideShapes Go.ChangeAt Go.RowKit
theorem Only2.keeps{a:Nat}{w w':World}{t t':TypeId}{cur:Array Value}(h:Only2 a a w w')(hg:Blk w a t' cur)(ht:t'≠t):Keeps t w w':=fun g cs fr hk=>by
 have hne:g≠a:=by
  rintro rfl;have e:some (Obj.cells cs t fr)=some (Obj.cells cur t' (0,0)):=hk.symm.trans hg;injection e with e;injection e with _ e _;exact ht e.symm
 exact(h.block g (heap_lt hk) hne hne).trans hk
theorem OwnO.grow'{w w':World}{B:Nat}{e:TypeId}{size n:Nat}{v:Value}{xs:List Value}(h:OwnO w B e size v n xs)(g:w.grownBy w' v.ownBlock){t:TypeId}(hne:e≠t):Keeps t w w':=
 Keeps.grown g (fun k hk=>by obtain⟨cs,hb⟩:=h.row k hk;exact⟨cs,(0,0),hb⟩) hne
section
variable {w w' w2:World}{B p ga gs cap:Nat}{V:HoV}{cs:List Value}{f:Fr}{h:Wo}
theorem HouR.leB(H:HouR w B p ga gs cap V cs f h):B≤w.heap.size:=Nat.le_trans H.lb.1 (Nat.le_of_lt H.blk.lt)
theorem HouF.blk(t:HouF B w w'){e:TypeId}{q:Nat}{xs:Array Value}(b:Blk w q e xs)(h1:110≠e)(h2:113≠e)(h3:3≠e)(h4:133≠e)(h5:71≠e):Blk w' q e xs:=t.keep e h1 h2 h3 h4 h5 q _ (0,0) b
theorem HouF.set_new(t:HouF B w w')(hB:B≤w.heap.size){a:Addr}(ha:w.heap.size≤a.block)(u:Value):HouF B w (w'.setCell a u):=
 ⟨t.bel.setCell (Nat.le_trans hB ha) u,Nat.le_trans t.size (by simp[World.setCell]),fun e h1 h2 h3 h4 h5 g xs fr hg=>(Below.heap_setCell w' a u g (Nat.ne_of_lt (Nat.lt_of_lt_of_le (heap_lt hg) ha))).trans (t.keep e h1 h2 h3 h4 h5 g xs fr hg)⟩
theorem HouR.other(H:HouR w B p ga gs cap V cs f h){e:TypeId}(kp: ∀t,e≠t→Keeps t w w')(he:e∉[110,113,3,133,71,60,117]):HouR w' B p ga gs cap V cs f h:=by
 simp only[List.mem_cons,List.not_mem_nil,or_false,not_or]at he;obtain⟨h1,h2,h3,h4,h5,h6,h7⟩:=he;exact⟨kp _ h1 p _ (0,0) H.blk,H.all.keeps (kp _ h2),H.lb,H.rows.keeps (kp _ h6),⟨(kp _ h4).own H.ses.own,H.ses.ses.keeps (kp _ h6)⟩,H.six,H.owner.ofK (kp _ h3),H.line.ofK (kp _ h3),H.deeds.ofK (kp _ h5),fun c hc=>(H.wait c hc).ofK (kp _ h7),H.ol,H.ww⟩
theorem HouR.appDeeds(H:HouR w B p ga gs cap V cs f h){v:Value}{l:List De}(ho:OwnO w2 B 71 7 v l.length (deV l))(g:w.grownBy w2 V.deeds.ownBlock):
  HouR (w2.setCell ⟨p,7,none⟩ v) B p ga gs cap {V with deeds:=v} cs {f with deeds:=l} h∧HouF B w (w2.setCell ⟨p,7,none⟩ v)∧w2.cell? ⟨p,7,none⟩=some V.deeds∧∀j,w2.frozen? ⟨p,j,none⟩=false:=by
 have k1: ∀t,71≠t→Keeps t w w2:=fun t ht=>H.deeds.grow' g ht;have hb:Blk w2 p _ _:=k1 _ (by decide) p _ (0,0) H.blk
 have k2: ∀t,110≠t→Keeps t w2 (w2.setCell ⟨p,7,none⟩ v):=fun t ht=>Keeps.set_ (p:=⟨p,7,none⟩) hb ht _;have kp: ∀t,71≠t→110≠t→Keeps t w (w2.setCell ⟨p,7,none⟩ v):=fun t h1 h2=>(k1 t h1).trans (k2 t h2);refine⟨⟨hb.set_ 7 v,(H.all.keeps (kp _ (by decide) (by decide))).same (fun _ _=>rfl),H.lb,H.rows.keeps (kp _ (by decide) (by decide)),⟨(kp _ (by decide) (by decide)).own H.ses.own,H.ses.ses.keeps (kp _ (by decide) (by decide))⟩,H.six,H.owner.ofK (kp _ (by decide) (by decide)),H.line.ofK (kp _ (by decide) (by decide)),ho.ofK (k2 _ (by decide)),fun c hc=>(H.wait c hc).ofK (kp _ (by decide) (by decide)),H.ol,H.ww⟩,
  ⟨((Below.refl B w).grown g H.leB fun k hk=>(H.deeds.lt k hk).1).setCell (p:=⟨p,7,none⟩) H.lb.1 v,Nat.le_trans g.size (by simp[World.setCell]),fun t h1 _ _ _ h5=>kp t h5 h1⟩,hb.cell_ 7 _ rfl,hb.frozen⟩
theorem HouR.appLine(H:HouR w B p ga gs cap V cs f h){v:Value}{l:List Nat}(ho:OwnO w2 B 3 1 v l.length (natV l))(g:w.grownBy w2 V.line.ownBlock)(hn:v.ownBlock=V.line.ownBlock∨v.ownBlock=some w.heap.size):
  HouR (w2.setCell ⟨p,6,none⟩ v) B p ga gs cap {V with line:=v} cs {f with wait:=l} h∧HouF B w (w2.setCell ⟨p,6,none⟩ v)∧w2.cell? ⟨p,6,none⟩=some V.line∧∀j,w2.frozen? ⟨p,j,none⟩=false:=by
 have k1: ∀t,3≠t→Keeps t w w2:=fun t ht=>H.line.grow' g ht;have hb:Blk w2 p _ _:=k1 _ (by decide) p _ (0,0) H.blk
 have k2: ∀t,110≠t→Keeps t w2 (w2.setCell ⟨p,6,none⟩ v):=fun t ht=>Keeps.set_ (p:=⟨p,6,none⟩) hb ht _;have kp: ∀t,3≠t→110≠t→Keeps t w (w2.setCell ⟨p,6,none⟩ v):=fun t h1 h2=>(k1 t h1).trans (k2 t h2);have hw:OwnO w2 B 3 1 V.owner f.owner.length (intV f.owner):=H.owner.keep fun q hq=>g.block q (H.owner.lt q hq).2 (H.ol q hq).symm;refine⟨⟨hb.set_ 6 v,(H.all.keeps (kp _ (by decide) (by decide))).same (fun _ _=>rfl),H.lb,H.rows.keeps (kp _ (by decide) (by decide)),⟨(kp _ (by decide) (by decide)).own H.ses.own,H.ses.ses.keeps (kp _ (by decide) (by decide))⟩,H.six,hw.ofK (k2 _ (by decide)),ho.ofK (k2 _ (by decide)),H.deeds.ofK (kp _ (by decide) (by decide)),fun c hc=>(H.wait c hc).ofK (kp _ (by decide) (by decide)),fun k hk e=>?_,H.ww⟩,
  ⟨((Below.refl B w).grown g H.leB fun k hk=>(H.line.lt k hk).1).setCell (p:=⟨p,6,none⟩) H.lb.1 v,Nat.le_trans g.size (by simp[World.setCell]),fun t h1 _ h3 _ _=>kp t h3 h1⟩,hb.cell_ 6 _ rfl,hb.frozen⟩
 rcases hn with e1|e1
 ·exact H.ol k hk (e1▸e)
 ·have e:v.ownBlock=some k:=e;rw[e1]at e;injection e with e;have:=(H.owner.lt k hk).2;omega
theorem HouR.appWait(H:HouR w B p ga gs cap V cs f h)(hl:f.cl.length=6){c:Nat}(hc:c<6){l:List (St × Bool)}{v:Value}(ho:OwnO w2 B 117 4 v l.length (askV l))(g:w.grownBy w2 (V.wait c).ownBlock)(hn:v.ownBlock=(V.wait c).ownBlock∨v.ownBlock=some w.heap.size):
  HouR (w2.setCell ⟨ga,c*4+1,none⟩ v) B p ga gs cap {V with wait:=up V.wait c v} cs (f.set c ⟨(f.c c).bytes,l,(f.c c).srv,(f.c c).sent⟩) h∧Below B w (w2.setCell ⟨ga,c*4+1,none⟩ v)∧w2.cell? ⟨ga,c*4+1,none⟩=some (V.wait c)∧(∀j,w2.frozen? ⟨ga,j,none⟩=false)∧
   ∀t,117≠t→113≠t→Keeps t w (w2.setCell ⟨ga,c*4+1,none⟩ v):=by
 have hC:=fun j=>c_set f (i:=c) (by omega) ⟨(f.c c).bytes,l,(f.c c).srv,(f.c c).sent⟩ j
 have k1: ∀t,117≠t→Keeps t w w2:=fun t ht=>(H.wait c hc).grow' g ht;have ha2:=H.all.keeps (k1 _ (by decide))
 obtain⟨ag,hb,_⟩:=ha2.blk;have k2: ∀t,113≠t→Keeps t w2 (w2.setCell ⟨ga,c*4+1,none⟩ v):=fun t ht=>Keeps.set_ (p:=⟨ga,c*4+1,none⟩) hb ht _;have kp: ∀t,117≠t→113≠t→Keeps t w (w2.setCell ⟨ga,c*4+1,none⟩ v):=fun t h1 h2=>(k1 t h1).trans (k2 t h2);refine⟨⟨kp _ (by decide) (by decide) p _ (0,0) H.blk,ha2.store hc (by decide) ?_ ?_,H.lb,H.rows.keeps (kp _ (by decide) (by decide)),⟨(kp _ (by decide) (by decide)).own H.ses.own,H.ses.ses.keeps (kp _ (by decide) (by decide))⟩,H.six,H.owner.ofK (kp _ (by decide) (by decide)),H.line.ofK (kp _ (by decide) (by decide)),H.deeds.ofK (kp _ (by decide) (by decide)),fun j hj=>?_,H.ol,fun j j' k hj hj'=>?_⟩,
  ((Below.refl B w).grown g H.leB fun k hk=>((H.wait c hc).lt k hk).1).setCell (p:=⟨ga,c*4+1,none⟩) H.lb.2 v,ha2.cell hc (by decide),ha2.frozen,kp⟩
 ·show up V.wait c v c=_;unfold up;rw[if_pos rfl]
 ·intro c' k' _ hk' hn;by_cases e:c'=c
  ·subst e;match k',hk' with
   |0,_=>show Value.string _=Value.string _;rw[hC c',if_pos rfl]
   |1,_=>exact absurd ⟨rfl,rfl⟩ hn
   |2,_=>show Value.int _ _=Value.int _ _;rw[hC c',if_pos rfl]
   |3,_=>show Value.string _=Value.string _;rw[hC c',if_pos rfl]
  ·unfold guV up;rw[hC c',if_neg e];simp only[if_neg e]
 ·show OwnO _ B _ 4 (up V.wait c v j) ((f.set c ⟨(f.c c).bytes,l,(f.c c).srv,(f.c c).sent⟩).c j).pend.length (askV ((f.set c ⟨(f.c c).bytes,l,(f.c c).srv,(f.c c).sent⟩).c j).pend);unfold up;rw[hC j];by_cases e:j=c
  ·simp only[if_pos e];exact ho.ofK (k2 _ (by decide))
  ·simp only[if_neg e];have:OwnO w2 B 117 4 (V.wait j) (f.c j).pend.length (askV (f.c j).pend):=(H.wait j hj).keep fun q hq=>g.block q ((H.wait j hj).lt q hq).2 fun h'=>e (H.ww j c q hj hc hq h'.symm);exact this.ofK (k2 _ (by decide))
 ·have fresh: ∀i,i<6→i≠c→(V.wait i).ownBlock=some k→v.ownBlock≠some k:=fun i hi hne h1 h2=>by
   rcases hn with e1|e1
   ·exact hne (H.ww i c k hi hc h1 (e1▸h2))
   ·rw[e1]at h2;injection h2 with h2;have:=((H.wait i hi).lt k h1).2;omega
  show(up V.wait c v j).ownBlock=some k→(up V.wait c v j').ownBlock=some k→j=j';unfold up;intro h1 h2;by_cases e:j=c<;>by_cases e':j'=c
  ·omega
  ·rw[if_pos e]at h1;rw[if_neg e']at h2;exact absurd h1 (fresh j' hj' e' h2)
  ·rw[if_neg e]at h1;rw[if_pos e']at h2;exact absurd h2 (fresh j hj e h1)
  ·rw[if_neg e]at h1;rw[if_neg e']at h2;exact H.ww j j' k hj hj' h1 h2
end
end Go.Proofs.YtjbnfigpflambacGreatDoor
