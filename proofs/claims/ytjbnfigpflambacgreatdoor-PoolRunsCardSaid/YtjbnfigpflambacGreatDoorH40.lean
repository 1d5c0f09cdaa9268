/- Reference's ScriptOf: what it turns down. Reference's ScriptOf: messages are taken off. Conditions: those of each lemma. -/
import Derived.Test.YtjbnfigpflambacGreatDoorH32
import Derived.Test.YtjbnfigpflambacGreatDoorH39
namespace Go.Proofs.YtjbnfigpflambacGreatDoor
set_option maxRecDepth 100000
set_option maxHeartbeats 16000000
open Go.ChangeShapes Go.WideShapes Go.ChangeAt Go.RowKit
def scriptE(m s:Int)(l:List Ac):Int:=if setupE m s≠0 then setupE m s else if 300<l.length then 1 else actsE l
theorem actsE_here: ∀{l:List Ac} {j:Nat},j<l.length→(∀i,i<j→AcOk (l.getD i ac0))→actE (l.getD j ac0).kind (l.getD j ac0).c (l.getD j ac0).data≠0→actsE l=actE (l.getD j ac0).kind (l.getD j ac0).c (l.getD j ac0).data
 |[],_,h,_,_=>absurd h (by simp)
 |b::l,0,_,_,h=>by
  show(if actE b.kind b.c b.data≠0 then _ else _)=_
  rw[if_pos (by simpa using h)]
  rfl
 |b::l,j+1,h,h2,h3=>by
  have h1:=h2 0 (by omega)
  have e:actE b.kind b.c b.data=0:=by
   obtain⟨k,c0,c6,d⟩:=(show AcOk b by simpa using h1)
   unfold actE;rw[if_neg (by omega),if_neg (by omega),if_neg (by omega)]
  show(if actE b.kind b.c b.data≠0 then _ else actsE l)=_
  rw[if_neg (by rw[e];simp)]
  have:=actsE_here (l:=l) (j:=j) (by simpa using h) (fun i hi=>by simpa using h2 (i+1) (by omega)) (by simpa using h3)
  simpa using this
theorem actsE_none: ∀{l:List Ac},(∀i,i<l.length→AcOk (l.getD i ac0))→actsE l=0
 |[],_=>rfl
 |b::l,h=>by
  obtain⟨k,c0,c6,d⟩:=(show AcOk b by simpa using h 0 (by simp))
  show(if actE b.kind b.c b.data≠0 then _ else actsE l)=_
  have e:actE b.kind b.c b.data=0:=by
   unfold actE;rw[if_neg (by omega),if_neg (by omega),if_neg (by omega)]
  rw[if_neg (by rw[e];simp)]
  exact actsE_none fun i hi=>by simpa using h (i+1) (by simpa using hi)
theorem ac_getD{l:List Ac}{i:Nat}(h:i<l.length):l.getD i ac0=l[i]:=by
 rw[List.getD_eq_getElem?_getD,List.getElem?_eq_getElem h];rfl
theorem RU.hf{w wx wy:World}{m s:Int}(u:RU w m s wx)(t:HouF w.heap.size wx wy):RU w m s wy:=
 ⟨u.bel.trans t.bel,t.blk u.set (by decide) (by decide) (by decide) (by decide) (by decide),t.blk u.out (by decide) (by decide) (by decide) (by decide) (by decide)⟩
def fI(md:Int)(n m:Nat):Fr:=⟨md,List.replicate n (-1),(List.range 6).map fun c=>⟨⟨#[]⟩,[],if c<m then-1 else 0,⟨#[]⟩⟩,[],[]⟩
theorem fI_c(md:Int)(n m:Nat){c:Nat}(hc:c<6):(fI md n m).c c=⟨⟨#[]⟩,[],if c<m then-1 else 0,⟨#[]⟩⟩:=by
 unfold fI Fr.c;simp only;rw[List.getD_eq_getElem?_getD,List.getElem?_map,List.getElem?_range hc];rfl
def zcG:Nat→List Value
 |0=>[]
 |n+1=>.string ⟨#[]⟩::.slice none 0 0::.int .i64 0::.string ⟨#[]⟩::zcG n
theorem made_guests: ∀w:World,(Instr.makeSlice 108 (.int .i64 6) (.int .i64 6)).run Tryz.prog w= .ok (.slice (some ⟨w.heap.size,0,none⟩) 6 6) (w.alloc (.cells (zcG 6).toArray 113)):=by
 intro w;kernel_rfl
theorem made_ses6: ∀w:World,(Instr.makeSlice 37 (.int .i64 6) (.int .i64 6)).run Tryz.prog w= .ok (.slice (some ⟨w.heap.size,0,none⟩) 6 6) (w.alloc (.cells (zcS 6).toArray 133)):=by
 intro w;kernel_rfl
theorem allR_new{w:World}{ga:Nat}(h:Blk w ga 113 (zcG 6).toArray)(md:Int)(n:Nat):AllR w ga (fI md n 0) (fun _=>.slice none 0 0):=by
 refine⟨_,h,rfl,fun c k hc hk=>?_⟩;unfold guV;rw[fI_c md n 0 hc,if_neg (by omega)]
 match c,hc,k,hk with
 |0,_,0,_|0,_,1,_|0,_,2,_|0,_,3,_|1,_,0,_|1,_,1,_|1,_,2,_|1,_,3,_|2,_,0,_|2,_,1,_|2,_,2,_|2,_,3,_|3,_,0,_|3,_,1,_|3,_,2,_|3,_,3,_|4,_,0,_|4,_,1,_|4,_,2,_|4,_,3,_|5,_,0,_|5,_,1,_|5,_,2,_|5,_,3,_=>rfl
structure HouI(w:World)(B p ga:Nat)(sv ow:Value)(md:Int)(n k m:Nat):Prop where
 blk:Blk w p 110 #[.int .i64 md,.int .i64 (n:Nat),.slice none 0 0,sv,.slice (some ⟨ga,0,none⟩) 6 6,ow,.slice none 0 0,.slice none 0 0]
 all:AllR w ga (fI md n m) (fun _=>.slice none 0 0)
 own:OwnO w B 3 1 ow k (List.replicate k (.int .i64 (-1)))
 ses:sv= .slice none 0 0∨∃gs,sv= .slice (some ⟨gs,0,none⟩) 6 6∧OSL w B sv (List.replicate 6 Se.new) (zcS 6)
 lb:B≤p∧B≤ga
section
variable {w w' w2:World}{B p ga:Nat}{sv ow:Value}{md:Int}{n k m:Nat}
theorem HouI.leB(H:HouI w B p ga sv ow md n k m):B≤w.heap.size:=Nat.le_trans H.lb.1 (Nat.le_of_lt H.blk.lt)
theorem HouI.below(H:HouI w B p ga sv ow md n k m)(hb:Below w.heap.size w w'):HouI w' B p ga sv ow md n k m:=by
 refine⟨H.blk.keep hb,H.all.keeps (.of_below hb),H.own.below hb,?_,H.lb⟩;rcases H.ses with h|⟨gs,e,h⟩
 ·exact .inl h
 ·exact .inr ⟨gs,e,h.keep hb⟩
theorem HouI.putSes(H:HouI w B p ga sv ow md n k m){gs:Nat}(o:OSL w B (.slice (some ⟨gs,0,none⟩) 6 6) (List.replicate 6 Se.new) (zcS 6)):
  HouI (w.setCell ⟨p,3,none⟩ (.slice (some ⟨gs,0,none⟩) 6 6)) B p ga (.slice (some ⟨gs,0,none⟩) 6 6) ow md n k m∧HouF B w (w.setCell ⟨p,3,none⟩ (.slice (some ⟨gs,0,none⟩) 6 6)):=by
 have kp: ∀t,110≠t→Keeps t w (w.setCell ⟨p,3,none⟩ (.slice (some ⟨gs,0,none⟩) 6 6)):=fun t ht=>Keeps.set_ (p:=⟨p,3,none⟩) H.blk ht _;exact⟨⟨H.blk.set_ 3 _,H.all.keeps (kp _ (by decide)),H.own.ofK (kp _ (by decide)),.inr ⟨gs,rfl,⟨(kp _ (by decide)).own o.own,o.ses.keeps (kp _ (by decide))⟩⟩,H.lb⟩,
  ⟨bR.setCell (p:=⟨p,3,none⟩) H.lb.1 _,by simp[World.setCell],fun t h1 _ _ _ _=>kp t h1⟩⟩
theorem HouI.add(H:HouI w B p ga sv ow md n k m){v:Value}(ho:OwnO w2 B 3 1 v (k+1) (List.replicate (k+1) (.int .i64 (-1))))(g:w.grownBy w2 ow.ownBlock):
  HouI (w2.setCell ⟨p,5,none⟩ v) B p ga sv v md n (k+1) m∧HouF B w (w2.setCell ⟨p,5,none⟩ v)∧w2.cell? ⟨p,5,none⟩=some ow∧∀j,w2.frozen? ⟨p,j,none⟩=false:=by
 have k1: ∀t,3≠t→Keeps t w w2:=fun t ht=>H.own.grow' g ht;have hb:Blk w2 p _ _:=k1 _ (by decide) p _ (0,0) H.blk
 have k2: ∀t,110≠t→Keeps t w2 (w2.setCell ⟨p,5,none⟩ v):=fun t ht=>Keeps.set_ (p:=⟨p,5,none⟩) hb ht _;have kp: ∀t,3≠t→110≠t→Keeps t w (w2.setCell ⟨p,5,none⟩ v):=fun t h1 h2=>(k1 t h1).trans (k2 t h2);refine⟨⟨hb.set_ 5 v,H.all.keeps (kp _ (by decide) (by decide)),ho.ofK (k2 _ (by decide)),?_,H.lb⟩,
  ⟨((Below.refl B w).grown g H.leB fun k hk=>(H.own.lt k hk).1).setCell (p:=⟨p,5,none⟩) H.lb.1 v,Nat.le_trans g.size (by simp[World.setCell]),fun t h1 _ h3 _ _=>kp t h3 h1⟩,hb.cell_ 5 _ rfl,hb.frozen⟩
 rcases H.ses with h|⟨gs,e,h⟩
 ·exact .inl h
 ·exact .inr ⟨gs,e,⟨(kp _ (by decide) (by decide)).own h.own,h.ses.keeps (kp _ (by decide) (by decide))⟩⟩
theorem HouI.srv(H:HouI w B p ga sv ow md n k m)(hm:m<6):
  HouI (w.setCell ⟨ga,m*4+2,none⟩ (.int .i64 (-1))) B p ga sv ow md n k (m+1)∧HouF B w (w.setCell ⟨ga,m*4+2,none⟩ (.int .i64 (-1))):=by
 obtain⟨ag,hb,_⟩:=H.all.blk;have kp: ∀t,113≠t→Keeps t w (w.setCell ⟨ga,m*4+2,none⟩ (.int .i64 (-1))):=fun t ht=>Keeps.set_ (p:=⟨ga,m*4+2,none⟩) hb ht _;refine⟨⟨kp _ (by decide) p _ (0,0) H.blk,H.all.store hm (by decide) ?_ ?_,H.own.ofK (kp _ (by decide)),?_,H.lb⟩,⟨bR.setCell (p:=⟨ga,m*4+2,none⟩) H.lb.2 _,by simp[World.setCell],fun t _ h2 _ _ _=>kp t h2⟩⟩
 ·show Value.int _ ((fI md n (m+1)).c m).srv=_;rw[fI_c md n _ hm];simp
 ·intro c' k' hc' hk' hn;unfold guV;rw[fI_c md n _ hc',fI_c md n _ hc'];match k',hk' with
  |0,_=>rfl
  |1,_=>rfl
  |2,_=>
   have hne:c'≠m:=fun e=>hn ⟨e,rfl⟩;by_cases h:c'<m
   ·simp only[if_pos h,if_pos (show c'<m+1 by omega)]
   ·simp only[if_neg h,if_neg (show ¬ c'<m+1 by omega)]
  |3,_=>rfl
 ·rcases H.ses with h|⟨gs,e,h⟩
  ·exact .inl h
  ·exact .inr ⟨gs,e,⟨(kp _ (by decide)).own h.own,h.ses.keeps (kp _ (by decide))⟩⟩
theorem HouI.toR{gs:Nat}(H:HouI w B p ga (.slice (some ⟨gs,0,none⟩) 6 6) ow md n n 6):HouR w B p ga gs 6 ⟨.slice none 0 0,ow,.slice none 0 0,.slice none 0 0,fun _=>.slice none 0 0⟩ (zcS 6) (startF md n) startH:=by
 have ho:(startF md n).owner=List.replicate n (-1):=rfl;refine⟨?_,H.all.same (fun c hc=>?_),H.lb,OPL.nil_ _ _,?_,rfl,?_,OwnO.nil _ _ _ _,OwnO.nil _ _ _ _,fun c hc=>?_,fun _ _=>by simp[Value.ownBlock],fun _ _ _ _ _ h=>by simp[Value.ownBlock]at h⟩
 ·rw[ho,List.length_replicate];exact H.blk
 ·rw[start_c,fI_c md n 6 hc,if_pos hc];rfl
 ·rcases H.ses with h|⟨gs',e,h⟩
  ·cases h
  ·exact h
 ·rw[ho,List.length_replicate,intV_rep];exact H.own
 ·rw[start_c];exact OwnO.nil _ _ _ _
end
theorem unpacked_any(s:ByteArray)(w:World)(hm:s.size≤maxLen):
  Calls Tryz.prog 50 #[.string s] w fun e w'=>e= .returned (if wholeB s=true then .tuple #[.int .u8 ((kindAt s).toNat:Int),.string (textAt s),.int .i64 (headN s:Int)]else .tuple #[.int .u8 0,.string ⟨#[]⟩,.int .i64 0])∧Below w.heap.size w w':=by
 by_cases h:wholeB s=true
 ·rw[if_pos h];obtain⟨h1,h2⟩:=(whole_iff s).1 h;have hl:s.data.toList.length=s.size:=by simp
  have e0:s[0]'(by omega)=kindAt s:=by
   rw[list_get];unfold kindAt;rw[List.getD_eq_getElem?_getD,List.getElem?_eq_getElem (by omega)]
   rfl
  have e1:2+(s[1]'h1).toNat=headN s:=by
   rw[list_get];unfold headN;rw[List.getD_eq_getElem?_getD,List.getElem?_eq_getElem (by omega)]
   rfl
  refine(unpacked_ok s (kindAt s) (s[1]'h1) w (by omega) h1 e0 rfl h2 hm).mono ?_
  rintro e w' ⟨rfl,n,rfl⟩;refine⟨?_,bR.trans ⟨rfl,rfl,rfl,Nat.le_refl _,fun _ _=>rfl⟩⟩;unfold textAt;rw[←e1];simp
 ·rw[if_neg h];refine(unpacked_no s w (fun hw=>h ((whole_iff s).2 hw)) hm).mono ?_;rintro e w' ⟨rfl,n,rfl⟩;exact⟨rfl,bR.trans ⟨rfl,rfl,rfl,Nat.le_refl _,fun _ _=>rfl⟩⟩
theorem asked_info:(Tryz.prog.info? 117).map (fun i=>(i.zero,i.size,i.bytes))=some (some (.agg #[.int .i64 0,.string ⟨#[]⟩,.string ⟨#[]⟩,.bool false]),4,48):=by kernel_rfl
theorem askV_app(l:List (St × Bool))(x:St × Bool):askV (l++[x])=askV l++askV [x]:=by unfold askV;rw[List.flatMap_append]
structure ScrS(w wx:World)(p ga gs:Nat)(f:Fr)(h:Wo):Prop where
 r: ∃V cs,HouR wx w.heap.size p ga gs 6 V cs f h
 bel:Below w.heap.size w wx
 out:Blk wx (w.heap.size+1) 29 #[.slice none 0 0,.slice none 0 0,.slice none 0 0]
section
variable {w wx wy:World}{p ga gs:Nat}{f f':Fr}{h h':Wo}
theorem ScrS.keep(o:ScrS w wx p ga gs f h)(hb:Below wx.heap.size wx wy):ScrS w wy p ga gs f h:=by
 obtain⟨⟨V,cs,r⟩,b,u⟩:=o;exact⟨⟨V,cs,r.below hb⟩,below_step b leR hb,u.keep hb⟩
theorem ScrS.did(o:ScrS w wx p ga gs f h)(r: ∃V cs,HouR wy w.heap.size p ga gs 6 V cs f' h')(t:HouF w.heap.size wx wy):ScrS w wy p ga gs f' h':=
 ⟨r,o.bel.trans t.bel,t.blk o.out (by decide) (by decide) (by decide) (by decide) (by decide)⟩
theorem ScrS.tab(o:ScrS w wx p ga gs f h)(hT:Tabs w):TabB wx w.heap.size:=(TabB.start hT).bel o.bel
theorem HouR.putBytes{B cap:Nat}{V:HoV}{cs:List Value}(H:HouR wx B p ga gs cap V cs f h)(hl:f.cl.length=6){c:Nat}(hc:c<6)(s:ByteArray):
  HouR (wx.setCell ⟨ga,c*4,none⟩ (.string s)) B p ga gs cap V cs (f.set c ⟨s,(f.c c).pend,(f.c c).srv,(f.c c).sent⟩) h∧HouF B wx (wx.setCell ⟨ga,c*4,none⟩ (.string s)):=by
 have hC:=fun j=>c_set f (i:=c) (by omega) ⟨s,(f.c c).pend,(f.c c).srv,(f.c c).sent⟩ j
 refine H.guest (k:=0) hc (by decide) (by show Value.string ((f.set c _).c c).bytes=_;rw[hC c,if_pos rfl]) (fun c' k' _ hk' hn=>?_) rfl rfl rfl rfl (fun j _=>?_)
 ·unfold guV;rw[hC c'];by_cases e:c'=c
  ·subst e;rw[if_pos rfl];match k',hk' with
   |0,_=>exact absurd ⟨rfl,rfl⟩ hn
   |1,_=>rfl
   |2,_=>rfl
   |3,_=>rfl
  ·rw[if_neg e]
 ·rw[hC j];by_cases e:j=c
  ·subst e;rw[if_pos rfl]
  ·rw[if_neg e]
end
theorem run_stepH(z:Fr × Wo)(l:List Ac){m:Nat}(h:m<l.length):runM houseB z (l.take (m+1))=actM houseB (runM houseB z (l.take m)) l[m]:=by
 unfold runM;rw[List.take_succ_eq_append_getElem h,List.foldl_append];rfl
theorem run_take_okH(mode:Int)(n:Nat)(hn:n≤8){l:List Ac}(hl: ∀a∈l,AcOk a): ∀(m:Nat),m≤l.length→OkH (runM houseB (startF mode n,startH) (l.take m)) (m*1000)
 |0,_=>by
  have:=OkH.start mode n hn;simpa[runM]using this
 |m+1,h=>by
  have ih:=run_take_okH mode n hn hl m (by omega)
  have ha:=hl l[m] (List.getElem_mem _);rw[run_stepH _ _ (by omega)]
  have hc:=ha.c6;have h0:=ha.c0;have:=ih.act (a:=l[m]) (by omega)
  have hd:=ha.d;exact⟨this.sim,this.fit.more (by omega),this.good⟩
def PouL(w wr:World)(p ga gs:Nat)(f:Fr)(h:Wo)(c L:Nat)(x0:Cl)(k:Nat):Prop:=
 ∃x:Cl,x.bytes.size<k∧feedC x=feedC x0∧pN x≤L∧ScrS w wr p ga gs (f.set c x) h
theorem set_c(f:Fr)(c:Nat)(x y:Cl):(f.set c x).set c y=f.set c y:=set_twice f c x y
structure OutL(w0 wx:World)(z k:Nat)(vs vd vr:Value)(F:Fr)(R:List Pr):Prop where
 bel:Below w0.heap.size w0 wx
 lz:w0.heap.size≤z
 blk:Blk wx z 29 #[vs,vd,vr]
 sent:OwnO wx w0.heap.size 9 1 vs k ((List.range k).map fun c=>.string (F.c c).sent)
 rows:OPL wx w0.heap.size vr R
section
variable {w0 wx wy:World}{z k:Nat}{vs vd vr:Value}{F:Fr}{R:List Pr}
theorem RunC.done(o:RunC w0.heap.size w0 wx R (some vr) (some z))(e:wy=((wx.setCell ⟨z,0,none⟩ (.slice none 0 0)).setCell ⟨z,1,none⟩ vd).setCell ⟨z,2,none⟩ vr):OutL w0 wy z 0 (.slice none 0 0) vd vr F R:=by
 subst e;obtain⟨b,l⟩:=o.bz _ rfl;have l': ∀j,w0.heap.size≤(⟨z,j,none⟩:Addr).block:=fun _=>l;have s0:=b.set_ 0 (.slice none 0 0);have s1:=s0.set_ 1 vd;have kp: ∀t,29≠t→Keeps t wx (((wx.setCell ⟨z,0,none⟩ (.slice none 0 0)).setCell ⟨z,1,none⟩ vd).setCell ⟨z,2,none⟩ vr):=fun t ht=>
  ((Keeps.set_ (p:=⟨z,0,none⟩) b ht _).trans (Keeps.set_ (p:=⟨z,1,none⟩) s0 ht _)).trans (Keeps.set_ (p:=⟨z,2,none⟩) s1 ht _)
 exact⟨((o.hb.setCell (l' 0) _).setCell (l' 1) _).setCell (l' 2) _,l,s1.set_ 2 _,OwnO.nil _ _ _ _,(o.vr _ rfl).keeps (kp _ (by decide))⟩
theorem OutL.keep(o:OutL w0 wx z k vs vd vr F R)(hb:Below wx.heap.size wx wy):OutL w0 wy z k vs vd vr F R:=
 ⟨below_step o.bel leR hb,o.lz,o.blk.keep hb,o.sent.below hb,o.rows.keeps (.of_below hb)⟩
theorem OutL.add(o:OutL w0 wx z k vs vd vr F R){v:Value}(ho:OwnO wy w0.heap.size 9 1 v (k+1) (((List.range k).map fun c=>.string (F.c c).sent)++[.string (F.c k).sent]))(g:wx.grownBy wy vs.ownBlock):
  OutL w0 (wy.setCell ⟨z,0,none⟩ v) z (k+1) v vd vr F R∧wy.cell? ⟨z,0,none⟩=some vs∧∀j,wy.frozen? ⟨z,j,none⟩=false:=by
 have k1: ∀t,9≠t→Keeps t wx wy:=fun t ht=>o.sent.grow' g ht;have hb:Blk wy z _ _:=k1 _ (by decide) z _ (0,0) o.blk
 have k2: ∀t,29≠t→Keeps t wy (wy.setCell ⟨z,0,none⟩ v):=fun t ht=>Keeps.set_ (p:=⟨z,0,none⟩) hb ht _;refine⟨⟨(o.bel.grown g o.bel.size fun q hq=>(o.sent.lt q hq).1).setCell (p:=⟨z,0,none⟩) o.lz v,o.lz,hb.set_ 0 v,?_,(o.rows.keeps (k1 _ (by decide))).keeps (k2 _ (by decide))⟩,hb.cell_ 0 _ rfl,hb.frozen⟩
 rw[List.range_succ,List.map_append];exact ho.ofK (k2 _ (by decide))
end
end Go.Proofs.YtjbnfigpflambacGreatDoor
