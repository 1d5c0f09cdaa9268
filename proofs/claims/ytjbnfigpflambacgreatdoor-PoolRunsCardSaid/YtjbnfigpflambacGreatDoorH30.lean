/- The pool in memory. (pool).next. Helpers for. Conditions: those of each lemma. -/
import Derived.Test.YtjbnfigpflambacGreatDoorH16
import Derived.Test.YtjbnfigpflambacGreatDoorH29
namespace Go.Proofs.YtjbnfigpflambacGreatDoor
set_option maxRecDepth 100000
set_option maxHeartbeats 16000000
open _root_.Go.Proofs.Tryz
open Go.ChangeShapes Go.WideShapes Go.ChangeAt Go.RowKit
section
variable {w w2:World}{B p:Nat}{V:PV}{ks:List KV}{M:MV}
theorem PoolR.put_pend(h:PoolR w B p V ks M){c:Nat}(hc:c<6){v:Value}{l:List St}(ho:OwnO w B 41 3 v l.length (stV l))(hn: ∀k,v.ownBlock=some k→(V.pend c).ownBlock=some k∨w.heap.size≤k):
  PoolR (w.setCell ⟨p,6+c*10+1,none⟩ v) B p {V with pend:=up V.pend c v} ks {M with pend:=up M.pend c l}∧Turn p w V (w.setCell ⟨p,6+c*10+1,none⟩ v) {V with pend:=up V.pend c v}:=by
 have s:=Step.store w V p (6+c*10+1) v (.pend c) (V':={V with pend:=up V.pend c v}) (fun r hr=>by cases r<;>first|rfl|(rename_i i;show(up V.pend c v i).ownBlock=_;rw[up_off _ _ (fun e=>hr (by rw[e]))];rfl)) (fun k hk=>by
  have hk:(up V.pend c v c).ownBlock=some k:=hk;rw[up_at]at hk;exact hn k hk)
 have ho':OwnO (w.setCell ⟨p,6+c*10+1,none⟩ v) B 41 3 v l.length (stV l):=ho.keep fun k hk=>Below.heap_setCell w ⟨p,6+c*10+1,none⟩ v k (fun e=>by
  have e:k=p:=e;rcases hn k hk with h1|h1
  ·exact absurd (h.o.apart (.pend c) .pool k hc trivial h1 (by rw[e];rfl)) (by simp)
  ·have:=(ho.lt k hk).2;omega)
 exact⟨⟨h.o.st_pend hc ho' s,(h.b.set_pend hc v).same (fun _ _=>rfl)⟩,s.turn hc⟩
theorem PoolR.app_pend(h:PoolR w B p V ks M){c:Nat}(hc:c<6){v:Value}{l:List St}(ho:OwnO w2 B 41 3 v l.length (stV l))(g:w.grownBy w2 (V.pend c).ownBlock)(hn:v.ownBlock=(V.pend c).ownBlock∨v.ownBlock=some w.heap.size):
  PoolR (w2.setCell ⟨p,6+c*10+1,none⟩ v) B p {V with pend:=up V.pend c v} ks {M with pend:=up M.pend c l}∧Turn p w V (w2.setCell ⟨p,6+c*10+1,none⟩ v) {V with pend:=up V.pend c v}∧w2.cell? ⟨p,6+c*10+1,none⟩=some (V.pend c)∧(∀j,w2.frozen? ⟨p,j,none⟩=false)∧Turn p w V w2 {V with pend:=up V.pend c v}:=by
 have s1:Step p (.pend c) w V w2 {V with pend:=up V.pend c v}:=Step.of_grown (r0:=(.pend c)) (v:=(V.pend c)) (v':=v) h.o hc (by simp) rfl g hn (by show(up V.pend c v c).ownBlock=_;rw[up_at]) (fun r hr=>by cases r<;>first|rfl|(rename_i i;show(up V.pend c v i).ownBlock=_;rw[up_off _ _ (fun e=>hr (by rw[e]))];rfl))
 have O2:=h.o.st_pend hc (v:=v) (l:=l) ho s1;have hbp:w2.heap[p]? =w.heap[p]? :=g.block p h.b.lt fun e=>absurd (h.o.apart .pool (.pend c) p trivial hc rfl e.symm) (by simp)
 have B2:=h.b.keep hbp;have s3:=Step.cell (w:=w2) (V:={V with pend:=up V.pend c v}) (V':={V with pend:=up V.pend c v}) (p:=p) v (6+c*10+1) fun _=>rfl;exact⟨⟨O2.st_same s3,(B2.set_pend hc v).same fun _ _=>rfl⟩,(s1.turn hc).trans (s3.turn trivial),B2.cellC (k:=1) hc (by decide),B2.frozen,s1.turn hc⟩
theorem PoolR.put_bad(h:PoolR w B p V ks M){c:Nat}(hc:c<6){v:Value}{l:List Bool}(ho:OwnO w B 4 1 v l.length (badV l))(hn: ∀k,v.ownBlock=some k→(V.bad c).ownBlock=some k∨w.heap.size≤k):
  PoolR (w.setCell ⟨p,6+c*10+2,none⟩ v) B p {V with bad:=up V.bad c v} ks {M with bad:=up M.bad c l}∧Turn p w V (w.setCell ⟨p,6+c*10+2,none⟩ v) {V with bad:=up V.bad c v}:=by
 have s:=Step.store w V p (6+c*10+2) v (.bad c) (V':={V with bad:=up V.bad c v}) (fun r hr=>by cases r<;>first|rfl|(rename_i i;show(up V.bad c v i).ownBlock=_;rw[up_off _ _ (fun e=>hr (by rw[e]))];rfl)) (fun k hk=>by
  have hk:(up V.bad c v c).ownBlock=some k:=hk;rw[up_at]at hk;exact hn k hk)
 have ho':OwnO (w.setCell ⟨p,6+c*10+2,none⟩ v) B 4 1 v l.length (badV l):=ho.keep fun k hk=>Below.heap_setCell w ⟨p,6+c*10+2,none⟩ v k (fun e=>by
  have e:k=p:=e;rcases hn k hk with h1|h1
  ·exact absurd (h.o.apart (.bad c) .pool k hc trivial h1 (by rw[e];rfl)) (by simp)
  ·have:=(ho.lt k hk).2;omega)
 exact⟨⟨h.o.st_bad hc ho' s,(h.b.set_bad hc v).same (fun _ _=>rfl)⟩,s.turn hc⟩
theorem PoolR.app_bad(h:PoolR w B p V ks M){c:Nat}(hc:c<6){v:Value}{l:List Bool}(ho:OwnO w2 B 4 1 v l.length (badV l))(g:w.grownBy w2 (V.bad c).ownBlock)(hn:v.ownBlock=(V.bad c).ownBlock∨v.ownBlock=some w.heap.size):
  PoolR (w2.setCell ⟨p,6+c*10+2,none⟩ v) B p {V with bad:=up V.bad c v} ks {M with bad:=up M.bad c l}∧Turn p w V (w2.setCell ⟨p,6+c*10+2,none⟩ v) {V with bad:=up V.bad c v}∧w2.cell? ⟨p,6+c*10+2,none⟩=some (V.bad c)∧(∀j,w2.frozen? ⟨p,j,none⟩=false)∧Turn p w V w2 {V with bad:=up V.bad c v}:=by
 have s1:Step p (.bad c) w V w2 {V with bad:=up V.bad c v}:=Step.of_grown (r0:=(.bad c)) (v:=(V.bad c)) (v':=v) h.o hc (by simp) rfl g hn (by show(up V.bad c v c).ownBlock=_;rw[up_at]) (fun r hr=>by cases r<;>first|rfl|(rename_i i;show(up V.bad c v i).ownBlock=_;rw[up_off _ _ (fun e=>hr (by rw[e]))];rfl))
 have O2:=h.o.st_bad hc (v:=v) (l:=l) ho s1;have hbp:w2.heap[p]? =w.heap[p]? :=g.block p h.b.lt fun e=>absurd (h.o.apart .pool (.bad c) p trivial hc rfl e.symm) (by simp)
 have B2:=h.b.keep hbp;have s3:=Step.cell (w:=w2) (V:={V with bad:=up V.bad c v}) (V':={V with bad:=up V.bad c v}) (p:=p) v (6+c*10+2) fun _=>rfl;exact⟨⟨O2.st_same s3,(B2.set_bad hc v).same fun _ _=>rfl⟩,(s1.turn hc).trans (s3.turn trivial),B2.cellC (k:=2) hc (by decide),B2.frozen,s1.turn hc⟩
theorem PoolR.put_wait(h:PoolR w B p V ks M){v:Value}{l:List Nat}(ho:OwnO w B 3 1 v l.length (natV l))(hn: ∀k,v.ownBlock=some k→V.wait.ownBlock=some k∨w.heap.size≤k):
  PoolR (w.setCell ⟨p,66,none⟩ v) B p {V with wait:=v} ks {M with wait:=l}∧Turn p w V (w.setCell ⟨p,66,none⟩ v) {V with wait:=v}:=by
 have s:=Step.store w V p (66) v .wait (V':={V with wait:=v}) (fun r hr=>by cases r<;>first|rfl|exact absurd rfl hr) (fun k hk=>by
  have hk:v.ownBlock=some k:=hk;skip
  exact hn k hk)
 have ho':OwnO (w.setCell ⟨p,66,none⟩ v) B 3 1 v l.length (natV l):=ho.keep fun k hk=>Below.heap_setCell w ⟨p,66,none⟩ v k (fun e=>by
  have e:k=p:=e;rcases hn k hk with h1|h1
  ·exact absurd (h.o.apart .wait .pool k trivial trivial h1 (by rw[e];rfl)) (by simp)
  ·have:=(ho.lt k hk).2;omega)
 exact⟨⟨h.o.st_wait ho' s,(h.b.set_wait v).same (fun _ _=>rfl)⟩,s.turn trivial⟩
theorem PoolR.app_wait(h:PoolR w B p V ks M){v:Value}{l:List Nat}(ho:OwnO w2 B 3 1 v l.length (natV l))(g:w.grownBy w2 V.wait.ownBlock)(hn:v.ownBlock=V.wait.ownBlock∨v.ownBlock=some w.heap.size):
  PoolR (w2.setCell ⟨p,66,none⟩ v) B p {V with wait:=v} ks {M with wait:=l}∧Turn p w V (w2.setCell ⟨p,66,none⟩ v) {V with wait:=v}∧w2.cell? ⟨p,66,none⟩=some V.wait∧(∀j,w2.frozen? ⟨p,j,none⟩=false)∧Turn p w V w2 {V with wait:=v}:=by
 have s1:Step p .wait w V w2 {V with wait:=v}:=Step.of_grown (r0:=.wait) (v:=V.wait) (v':=v) h.o trivial (by simp) rfl g hn (rfl) (fun r hr=>by cases r<;>first|rfl|exact absurd rfl hr)
 have O2:=h.o.st_wait (v:=v) (l:=l) ho s1;have hbp:w2.heap[p]? =w.heap[p]? :=g.block p h.b.lt fun e=>absurd (h.o.apart .pool .wait p trivial trivial rfl e.symm) (by simp)
 have B2:=h.b.keep hbp;have s3:=Step.cell (w:=w2) (V:={V with wait:=v}) (V':={V with wait:=v}) (p:=p) v (66) fun _=>rfl;exact⟨⟨O2.st_same s3,(B2.set_wait v).same fun _ _=>rfl⟩,(s1.turn trivial).trans (s3.turn trivial),B2.cell (j:=66) (by decide),B2.frozen,s1.turn trivial⟩
theorem PoolR.app_deeds(h:PoolR w B p V ks M){v:Value}{l:List De}(ho:OwnO w2 B 71 7 v l.length (deV l))(g:w.grownBy w2 V.deeds.ownBlock)(hn:v.ownBlock=V.deeds.ownBlock∨v.ownBlock=some w.heap.size):
  PoolR (w2.setCell ⟨p,67,none⟩ v) B p {V with deeds:=v} ks {M with deeds:=l}∧Turn p w V (w2.setCell ⟨p,67,none⟩ v) {V with deeds:=v}∧w2.cell? ⟨p,67,none⟩=some V.deeds∧(∀j,w2.frozen? ⟨p,j,none⟩=false)∧Turn p w V w2 {V with deeds:=v}:=by
 have s1:Step p .deeds w V w2 {V with deeds:=v}:=Step.of_grown (r0:=.deeds) (v:=V.deeds) (v':=v) h.o trivial (by simp) rfl g hn (rfl) (fun r hr=>by cases r<;>first|rfl|exact absurd rfl hr)
 have O2:=h.o.st_deeds (v:=v) (l:=l) ho s1;have hbp:w2.heap[p]? =w.heap[p]? :=g.block p h.b.lt fun e=>absurd (h.o.apart .pool .deeds p trivial trivial rfl e.symm) (by simp)
 have B2:=h.b.keep hbp;have s3:=Step.cell (w:=w2) (V:={V with deeds:=v}) (V':={V with deeds:=v}) (p:=p) v (67) fun _=>rfl;exact⟨⟨O2.st_same s3,(B2.set_deeds v).same fun _ _=>rfl⟩,(s1.turn trivial).trans (s3.turn trivial),B2.cell (j:=67) (by decide),B2.frozen,s1.turn trivial⟩
theorem PoolR.drop(h:PoolR w B p V ks M){c:Nat}(hc:c<6){x:St}{xs:List St}{y:Bool}{ys:List Bool}(hX:M.pend c=x::xs)(hY:M.bad c=y::ys){A A':Option Addr}{n k n' k':Nat}(e1:V.pend c= .slice A n k)(e2:V.bad c= .slice A' n' k'):
  ∃V',PoolR ((w.setCell ⟨p,6+c*10+1,none⟩ (.slice (if k=1 then A else A.map (·.add 3)) (n-1) (k-1))).setCell ⟨p,6+c*10+2,none⟩ (.slice (if k'=1 then A' else A'.map (·.add 1)) (n'-1) (k'-1))) B p V' ks (M.drop c xs ys)∧
   Turn p w V ((w.setCell ⟨p,6+c*10+1,none⟩ (.slice (if k=1 then A else A.map (·.add 3)) (n-1) (k-1))).setCell ⟨p,6+c*10+2,none⟩ (.slice (if k'=1 then A' else A'.map (·.add 1)) (n'-1) (k'-1))) V':=by
 have own: ∀{A:Option Addr} {n k m q:Nat} (j:Nat),(Value.slice (if k=1 then A else A.map (·.add j)) m q).ownBlock=(Value.slice A n k).ownBlock:=fun {A n k m q} j=>by
  split
  ·cases A<;>rfl
  ·cases A with
   |none=>rfl
   |some a=>
    show some (a.add j).block=some a.block;rw[block_of_add]
 have o1:=h.o.pend c hc;rw[hX,e1]at o1;obtain⟨_,_,en,_⟩:=o1.form;injection en with _ en _;subst en;have c1:=o1.cut (k:=1) (by simp)
 have r1:=h.put_pend hc (v:=.slice (if k=1 then A else A.map (·.add 3)) ((x::xs).length-1) (k-1)) (l:=xs) (by simpa[stV]using c1) (fun q hq=>.inl (by rw[e1,←hq];exact(own 3).symm))
 have o2:=r1.1.o.bad c hc;rw[show({M with pend:=up M.pend c xs}:MV).bad c=y::ys from hY,show({V with pend:=up V.pend c (.slice (if k=1 then A else A.map (·.add 3)) ((x::xs).length-1) (k-1))}:PV).bad c= .slice A' n' k' from e2]at o2
 obtain⟨_,_,en,_⟩:=o2.form;injection en with _ en _;subst en;have c2:=o2.cut (k:=1) (by simp)
 have r2:=r1.1.put_bad hc (v:=.slice (if k'=1 then A' else A'.map (·.add 1)) ((y::ys).length-1) (k'-1)) (l:=ys) (by simpa[badV]using c2) (fun q hq=>.inl (by rw[show({V with pend:=up V.pend c (.slice (if k=1 then A else A.map (·.add 3)) ((x::xs).length-1) (k-1))}:PV).bad c= .slice A' (y::ys).length k' from e2,←hq];exact(own 1).symm))
 exact⟨_,r2.1,r1.2.trans r2.2⟩
theorem deed_info:(Tryz.prog.info? 71).map (fun i=>(i.zero,i.size,i.bytes))=some (some (.agg #[.int .i64 0,.int .i64 0,.string ⟨#[]⟩,.string ⟨#[]⟩,.int .i64 0,.string ⟨#[]⟩,.int .i64 0]),7,80):=by kernel_rfl
theorem reads_one{g size:Nat}{t:TypeId}{cs:List Value}(h:Blk w g t cs.toArray)(hs:cs.length=size):Reads w w.heap.size size (some ⟨g,0,none⟩) 1 cs:=
 ⟨by omega,fun _=>⟨_,rfl,h.lt,fun j u hj=>by rw[Addr.add_lit,Nat.zero_add];exact h.cell_ j u (by simpa using hj)⟩⟩
end
section
variable {f:Fr}{b:PB}{N:Nat}
theorem Ok.srv(h:Ok (f,b) N){c:Nat}(hc:c<6)(h0:0≤(f.c c).srv): ∃s:Nat,(f.c c).srv=(s:Int)∧s<f.owner.length∧s<b.known.length∧s≤1000:=by
 obtain⟨w,rb⟩:=h.rb;rcases h.fi.fo.cl c hc with h1|⟨s,h1,h2,_⟩
 ·exact absurd h1 (by show ¬ (f.c c).srv= -1;omega)
 ·have h3:=rb.kn;have h4:=rb.ses;have h5:=rb.good.few;simp only at h1 h2 h3 h4 h5;exact⟨s,h2,h1,by omega,by omega⟩
theorem Ok.ses8(h:Ok (f,b) N):b.w.ses.length≤8:=by
 obtain⟨w,rb⟩:=h.rb;exact rb.good.few
theorem Ok.own6(h:Ok (f,b) N):b.own.length=6:=by
 obtain⟨w,rb⟩:=h.rb;exact rb.own6
theorem Ok.ow(h:Ok (f,b) N){c:Nat}(hc:c<6):pairsB 9 6 (b.ow c).set=true∧pairsB 11 6 (b.ow c).pre=true∧0≤(b.ow c).st∧(b.ow c).st≤2:=by
 obtain⟨w,rb⟩:=h.rb;rcases h.fi.fo.cl c hc with h1|⟨s,_,h2,_⟩
 ·obtain⟨_,e,h3,h4⟩:=rb.loose c hc h1;exact⟨h3,h4,by rw[e];exact Int.le_refl 0,by rw[e];show(0:Int)≤2;decide⟩
 ·have hg:=rb.goodSe h.fi.fo hc h2;have e:=(rb.bound c s hc h2).2;rw[e];exact⟨hg.set,hg.pre,hg.st0,hg.st2⟩
theorem Ok.sorted(h:Ok (f,b) N){c:Nat}(hc:c<6):(Sorted (b.ow c).set∧Sorted (b.ow c).pre)∧(b.ow c).set.length<4398046510976∧(b.ow c).pre.length<4398046510976:=by
 obtain⟨h1,h2,_⟩:=h.ow hc;obtain⟨_,s1,l1⟩:=(pairs_iff _ _ _).1 h1;obtain⟨_,s2,l2⟩:=(pairs_iff _ _ _).1 h2;exact⟨⟨s1,s2⟩,by omega,by omega⟩
theorem Ok.text(h:Ok (f,b) N){s:Nat}(x:St):(poDo b.w s x).2.text.size≤maxLen:=by
 obtain⟨w,rb⟩:=h.rb;unfold poDo;split
 ·rename_i h0;have hs:s<b.w.ses.length:=by
   unfold doE at h0;split at h0
   ·split at h0
    ·rename_i h1;have:=h1.2;omega
    ·cases h0
   ·cases h0
  exact Nat.le_trans (ans_size (doW_ok rb.good hs x)) (by decide)
 ·show tLost.size≤maxLen;decide
theorem deV_app(l:List De)(d:De):deV (l++[d])=deV l++deV [d]:=by unfold deV;rw[List.flatMap_append]
theorem ready_srv{c:Nat}(h:ready f c=true)(hn:needs f c=true):0≤(f.c c).srv:=by
 unfold ready at h;rw[hn]at h;rw[Bool.and_eq_true]at h;simpa using h.2
end
structure NextL(w0 wx:World)(B p:Nat)(V0:PV)(M:MV)(z5 z8:Option (Nat × Array Value)):Prop where
 r: ∃V' ks',PoolR wx B p V' ks' M∧Turn p w0 V0 wx V'∧∀y cs,z5=some (y,cs)→¬ V'.mine p y
 b5: ∀y cs,z5=some (y,cs)→Blk wx y 41 cs∧w0.heap.size≤y
 b8: ∀y cs,z8=some (y,cs)→Blk wx y 46 cs∧w0.heap.size≤y
section
variable {w0 wx wy:World}{B p:Nat}{V0 V1:PV}{ks1:List KV}{M M':MV}{z5 z8:Option (Nat × Array Value)}
theorem NextL.sz(h:NextL w0 wx B p V0 M z5 z8):w0.heap.size≤wx.heap.size:=by
 obtain⟨_,_,_,t,_⟩:=h.r;exact t.size
theorem NextL.start{ks0:List KV}(h:PoolR w0 B p V0 ks0 M):NextL w0 w0 B p V0 M none none:=
 ⟨⟨V0,ks0,h,Turn.refl _ _ _,fun _ _ h=>(by cases h)⟩,fun _ _ h=>(by cases h),fun _ _ h=>(by cases h)⟩
theorem NextL.keep(h:NextL w0 wx B p V0 M z5 z8)(hb:Below wx.heap.size wx wy):NextL w0 wy B p V0 M z5 z8:=by
 obtain⟨V',ks',r,t,m⟩:=h.r;exact⟨⟨V',ks',r.below hb,t.below hb,m⟩,fun y cs e=>⟨(h.b5 y cs e).1.keep hb,(h.b5 y cs e).2⟩,fun y cs e=>⟨(h.b8 y cs e).1.keep hb,(h.b8 y cs e).2⟩⟩
theorem NextL.did(h5: ∀y cs,z5=some (y,cs)→¬ V1.mine p y)(r1:PoolR wx B p V1 ks1 M)(t1:Turn p w0 V0 wx V1)(b5: ∀y cs,z5=some (y,cs)→Blk wx y 41 cs∧w0.heap.size≤y)(b8: ∀y cs,z8=some (y,cs)→Blk wx y 46 cs∧w0.heap.size≤y)
  {V2:PV} {ks2:List KV} (r2:PoolR wy B p V2 ks2 M') (t2:Turn p wx V1 wy V2):NextL w0 wy B p V0 M' z5 z8:=
 ⟨⟨V2,ks2,r2,t1.trans t2,fun y cs e=>t2.not (b5 y cs e).1.lt (h5 y cs e)⟩,fun y cs e=>⟨t2.box (b5 y cs e).1 (h5 y cs e),(b5 y cs e).2⟩,fun y cs e=>⟨t2.box (b8 y cs e).1 (r1.o.notBox (b8 y cs e).1 ty_ans),(b8 y cs e).2⟩⟩
theorem NextL.f5(h:NextL w0 wx B p V0 M none z8)(cs:Array Value):NextL w0 (wx.alloc (.cells cs 41)) B p V0 M (some (wx.heap.size,cs)) z8:=by
 have k:=h.keep (boxed wx (.cells cs 41));obtain⟨V',ks',r,t,m⟩:=h.r;exact⟨⟨V',ks',r.below (boxed _ _),t.below (boxed _ _),fun y cs e=>(by injection e with e;injection e with e1 e2;subst e1;exact r.o.fresh leR)⟩,
  fun y cs e=>(by injection e with e;injection e with e1 e2;subst e1 e2;exact⟨Blk.new wx _ _,t.size⟩),k.b8⟩
theorem NextL.f8(h:NextL w0 wx B p V0 M z5 none)(cs:Array Value):NextL w0 (wx.alloc (.cells cs 46)) B p V0 M z5 (some (wx.heap.size,cs)):=by
 have k:=h.keep (boxed wx (.cells cs 46));obtain⟨V',ks',r,t,m⟩:=h.r;exact⟨k.r,k.b5,fun y cs e=>(by injection e with e;injection e with e1 e2;subst e1 e2;exact⟨Blk.new wx _ _,t.size⟩)⟩
theorem NextL.fin5{y:Nat}{cs:Array Value}(h:NextL w0 wx B p V0 M (some (y,cs)) none)(a b c:Value)(e:wy=((wx.setCell ⟨y,0,none⟩ a).setCell ⟨y,1,none⟩ b).setCell ⟨y,2,none⟩ c):NextL w0 wy B p V0 M (some (y,((cs.setIfInBounds 0 a).setIfInBounds 1 b).setIfInBounds 2 c)) none:=by
 subst e;obtain⟨V',ks',r,t,m⟩:=h.r;obtain⟨b5,l5⟩:=h.b5 _ _ rfl;have hm:=m _ _ rfl;refine⟨⟨V',ks',((r.boxN b5 hm (by decide) (by decide) 0 a).boxN (b5.set_ 0 a) hm (by decide) (by decide) 1 b).boxN ((b5.set_ 0 a).set_ 1 b) hm (by decide) (by decide) 2 c,((t.set_new l5 0 a).set_new l5 1 b).set_new l5 2 c,fun y cs e=>?_⟩,fun y cs e=>?_,fun _ _ e=>(by cases e)⟩
 ·injection e with e;injection e with e1 e2;subst e1;exact hm
 ·injection e with e;injection e with e1 e2;subst e1 e2;exact⟨((b5.set_ 0 a).set_ 1 b).set_ 2 c,l5⟩
theorem NextL.fin8{y:Nat}{cs:Array Value}(h:NextL w0 wx B p V0 M z5 (some (y,cs)))(a b c:Value)(e:wy=((wx.setCell ⟨y,0,none⟩ a).setCell ⟨y,1,none⟩ b).setCell ⟨y,2,none⟩ c):NextL w0 wy B p V0 M z5 (some (y,((cs.setIfInBounds 0 a).setIfInBounds 1 b).setIfInBounds 2 c)):=by
 subst e;obtain⟨V',ks',r,t,m⟩:=h.r;obtain⟨b8,l8⟩:=h.b8 _ _ rfl;refine⟨⟨V',ks',((r.box b8 ty_ans (by decide) (by decide) 0 a).box (b8.set_ 0 a) ty_ans (by decide) (by decide) 1 b).box ((b8.set_ 0 a).set_ 1 b) ty_ans (by decide) (by decide) 2 c,((t.set_new l8 0 a).set_new l8 1 b).set_new l8 2 c,m⟩,fun z ds e=>?_,fun z ds e=>?_⟩
 ·obtain⟨b5,l5⟩:=h.b5 z ds e;have ne:z≠y:=b5.ne_ b8 (by decide)
  exact⟨((b5.far (p:=⟨y,0,none⟩) ne a).far (p:=⟨y,1,none⟩) ne b).far (p:=⟨y,2,none⟩) ne c,l5⟩
 ·injection e with e;injection e with e1 e2;subst e1 e2;exact⟨((b8.set_ 0 a).set_ 1 b).set_ 2 c,l8⟩
end
theorem next_any(w:World)(B p:Nat)(V:PV)(ks:List KV)(f:Fr)(b:PB)(N:Nat)(h:PoolR w B p V ks (MV.of f b))(hT:TabB w B)(hO:Ok (f,b) N)(hN:N≤1000000)(c:Nat)(hc:c<6)(hr:ready f c=true):
  Calls Tryz.prog 75 #[.pointer (some ⟨p,0,none⟩),.int .i64 (c:Nat)] w fun e w'=>e= .returned (.tuple #[])∧Done w B p V (MV.of (nextM poolB (f,b) c).1 (nextM poolB (f,b) c).2) w':=by
 have g1:(c:Int)<6:=by omega
 have g2:(0:Int)≤(c:Int):=by omega
 have HC:=Hd hc;have HT:=Hd hT;have HR:=Hd h;have hcl:c<f.cl.length:=hO.len hc;have HCL:=Hd hcl;have hbz:=ready_busy hr;obtain⟨⟨x,y⟩,l,hl⟩: ∃q l,(f.c c).pend=q::l:=by
  cases e:(f.c c).pend with
  |nil=>unfold busy at hbz;rw[e]at hbz;cases hbz
  |cons q l=>exact⟨q,l,rfl⟩
 have HL:=Hd hl;have HSM:=Hd (hO.fit.z c (x,y) (by rw[hl];exact List.mem_cons_self))
 have HSENT:=Hd (hO.fit.sent hcl);have HDEED:=Hd hO.fit.deeds;have HO:=Hd hO;have HRD:=Hd hr;obtain⟨M,hM⟩: ∃M,MV.of f b=M:=⟨_,rfl⟩;rw[hM]at h HR;have HM:=Hd hM;obtain⟨xs,hxs⟩: ∃xs,l.map (·.1)=xs:=⟨_,rfl⟩;obtain⟨ys,hys⟩: ∃ys,l.map (·.2)=ys:=⟨_,rfl⟩;have hX:M.pend c=x::xs:=by rw[←hM,←hxs];show(f.c c).pend.map (·.1)=_;rw[hl];rfl
 have hY:M.bad c=y::ys:=by rw[←hM,←hys];show(f.c c).pend.map (·.2)=_;rw[hl];rfl
 have HX:=Hd hX;have HY:=Hd hY;have HXS:=Hd hxs;have HYS:=Hd hys;obtain⟨gp,op,cp,p1,pn,pe,d0,d1,d2⟩:=h.pend0 hc hX;obtain⟨gb,ob,cb,q1,qn,qe,d3⟩:=h.bad0 hc hY;obtain⟨nb,hnb⟩: ∃nb,needsB M.mode x.k y=nb:=⟨_,rfl⟩;have HNB:=Hd hnb;have hKEY:x.key.size≤maxLen∧x.val.size≤maxLen:=⟨Nat.le_trans HSM.out.1 (by decide),Nat.le_trans HSM.out.2 (by decide)⟩
 have HKEY:=Hd hKEY;have HS0:=Hd (NextL.start h);have l1:(0:Int)<((xs.length+1:Nat):Int):=by omega
 have l2:(0:Int)<((ys.length+1:Nat):Int):=by omega
 obtain⟨np,hnp⟩: ∃n,xs.length+1=n:=⟨_,rfl⟩;obtain⟨nq,hnq⟩: ∃n,ys.length+1=n:=⟨_,rfl⟩;rw[hnp]at p1 pn pe l1;rw[hnq]at q1 qn qe l2;have HNP:=Hd hnp;have HNQ:=Hd hnq;have HPE:=Hd pe;have HQE:=Hd qe;obtain⟨xk,xkey,xval⟩:=x;simp only at d0 d1 d2 HNB;clear h hT hcl hbz hl hM hX hY hxs hys hnb hKEY hnp hnq pe qe hO hr hc;go_enter func75,ntmps75
 go_upto_region 1 with fail
 go_cut [5,6,7] (fun p5 e6 e7 wc=>∃z5,p5= .pointer (some ⟨z5,0,none⟩)∧e6= .bool nb∧e7= .bool y∧NextL w wc B p V M (some (z5,#[.int .i64 xk,.string xkey,.string xval])) none)
 case first=>
  refine region_sgO [] ?_;refine anyO_sg true [0,1,2,3,4,5,6,7,9,10,11,12,13,14] 5 ?_ (fun _=>rfl);go_wp2_with fail
  refine sg_o ?_;have S0:=Hd (HS0.out.keep bR.drew);clear p1 q1 d0 d1 d2 d3;generalize w.drew=x0 at S0⊢;refine anyO_tw 8 15 (fun K hK=>?_) fun K hK=>?_
  ·go_simp;obtain⟨V2,ks2,r2,-,-⟩:=S0.out.r;have R2:=Hd r2;clear r2;refine(needs_any _ B p V2 ks2 M R2.out c HC.out ⟨xk,xkey,xval⟩ xs HX.out y ys HY.out).mono ?_;rintro e x1 ⟨rfl,rfl⟩;refine thK hK bR ?_;clear hK K;clear R2;rw[show needsB M.mode (St.mk xk xkey xval).k y=nb from HNB.out];have S1:=Hd S0.out;clear S0;refine anyO_on 15 fun K hK=>?_;go_simp;refine thK hK ((boxed _ _).mono S1.out.sz) ?_;clear hK K;have S2:=Hd (S1.out.f5 #[.int .i64 0,.string ⟨#[]⟩,.string ⟨#[]⟩]);obtain⟨z5,hz⟩: ∃z,x1.heap.size=z:=⟨_,rfl⟩;rw[hz]at S2⊢;generalize World.alloc _ _=x2 at S2⊢;clear S1 hz;obtain⟨b5,l5⟩:=S2.out.b5 _ _ rfl;have f0:=b5.cell_ 0 _ rfl;have f1:=b5.cell_ 1 _ rfl;have f2:=b5.cell_ 2 _ rfl;have ff:=b5.frozen;clear b5;refine anyO_on 16 fun K hK=>?_;go_simp;refine thK hK (((((bR.setCell (p:=⟨z5,0,none⟩) l5 _)).setCell (p:=⟨z5,1,none⟩) l5 _)).setCell (p:=⟨z5,2,none⟩) l5 _) ?_;clear hK K;refine anyO_sg false [17,18] 0 ?_ nofun;go_wp2_with fail
   refine sg_o ?_;clear l5;refine anyO_dn ?_;have FN:=Hd (S2.out.fin5 (.int .i64 xk) (.string xkey) (.string xval) rfl);clear f0 f1 f2 ff S2;generalize World.setCell _ _ _=x9 at FN⊢;go_wp2_with fail
   go_meet;exact⟨z5,rfl,rfl,rfl,FN.out⟩
  ·go_simp;refine thK hK ((boxed _ _).mono S0.out.sz) ?_;clear hK K;have S1:=Hd (S0.out.f5 #[.int .i64 0,.string ⟨#[]⟩,.string ⟨#[]⟩]);obtain⟨z5,hz⟩: ∃z,x0.heap.size=z:=⟨_,rfl⟩;rw[hz]at S1⊢;generalize World.alloc _ _=x1 at S1⊢;clear S0 hz;refine anyO_on 8 fun K hK=>?_;go_simp;obtain⟨V2,ks2,r2,-,-⟩:=S1.out.r;have R2:=Hd r2;clear r2;refine(needs_any _ B p V2 ks2 M R2.out c HC.out ⟨xk,xkey,xval⟩ xs HX.out y ys HY.out).mono ?_;rintro e x2 ⟨rfl,rfl⟩;refine thK hK bR ?_;clear hK K;clear R2;rw[show needsB M.mode (St.mk xk xkey xval).k y=nb from HNB.out];have S2:=Hd S1.out;clear S1;obtain⟨b5,l5⟩:=S2.out.b5 _ _ rfl;have f0:=b5.cell_ 0 _ rfl;have f1:=b5.cell_ 1 _ rfl;have f2:=b5.cell_ 2 _ rfl;have ff:=b5.frozen;clear b5;refine anyO_on 16 fun K hK=>?_;go_simp;refine thK hK (((((bR.setCell (p:=⟨z5,0,none⟩) l5 _)).setCell (p:=⟨z5,1,none⟩) l5 _)).setCell (p:=⟨z5,2,none⟩) l5 _) ?_;clear hK K;refine anyO_sg false [17,18] 0 ?_ nofun;go_wp2_with fail
   refine sg_o ?_;clear l5;refine anyO_dn ?_;have FN:=Hd (S2.out.fin5 (.int .i64 xk) (.string xkey) (.string xval) rfl);clear f0 f1 f2 ff S2;generalize World.setCell _ _ _=x9 at FN⊢;go_wp2_with fail
   go_meet;exact⟨z5,rfl,rfl,rfl,FN.out⟩
 case rest=>
  obtain⟨z5,rfl,rfl,rfl,s5⟩:=hcut;have S5:=Hd s5;clear s5 p1 q1 d0 d1 d2 d3 HS0 l1 l2 pn qn HPE HQE HNP HNQ;obtain⟨⟨V1,ks1,r1,t1,m1⟩,b5,-⟩:=S5.out;obtain⟨gp,op,cp,p1,pn,pe,-,-,-⟩:=r1.pend0 HC.out HX.out;obtain⟨gb,ob,cb,q1,qn,qe,-⟩:=r1.bad0 HC.out HY.out;obtain⟨np,hnp⟩: ∃n,xs.length+1=n:=⟨_,rfl⟩;obtain⟨nq,hnq⟩: ∃n,ys.length+1=n:=⟨_,rfl⟩;have h1p:1≤np:=by omega
  have h1q:1≤nq:=by omega
  rw[hnp]at p1 pn pe;rw[hnq]at q1 qn qe;have fp:=r1.b.frozen;have R1:=Hd r1;have T1:=Hd t1;have M1:=Hd m1;have B5:=Hd b5;have PE:=Hd pe;have QE:=Hd qe;clear r1 t1 m1 b5 pe qe S5 hnp hnq;go_upto_region 2 with fail
  go_cut [] (fun wd=>NextL w wd B p V (M.drop c xs ys) (some (z5,#[.int .i64 xk,.string xkey,.string xval])) none)
  case first=>
   by_cases k1:cp=1<;>by_cases k2:cb=1;all_goals
    have j1:(1:Int)≤(np:Int):=by omega
    have j2:(1:Int)≤(nq:Int):=by omega
    have j3:(np:Int)≤(cp:Int):=by omega
    have j4:(nq:Int)≤(cb:Int):=by omega
    refine region_sg [14,17] ?_;refine anyB_sg [0,1,2,3,4,5,6,7,8,9,10,11,12,13] 4 ?_;go_wp2_with fail
    refine sg_o ?_;refine anyB_on 14 fun K hK=>?_;go_simp;refine lateK hK ?_;clear hK K;refine anyB_sg [15,16] 1 ?_;go_wp2_with fail
    refine sg_o ?_;refine anyB_on 17 fun K hK=>?_;go_simp;refine lateK hK ?_;clear hK K;refine anyB_dn ?_;go_wp2_with fail
    go_meet;obtain⟨V2,r2,t2⟩:=R1.out.drop HC.out HX.out HY.out PE.out QE.out;simp only[k1,k2,↓reduceIte,Nat.sub_self,Option.map_some,Addr.add_lit]at r2 t2;exact(NextL.did M1.out R1.out T1.out B5.out (fun _ _ h=>by cases h) r2 t2).keep bR.drew
  case rest=>
   have S2:=Hd hcut;clear hcut p1 q1 pn qn h1p h1q fp R1 T1 M1 B5 PE QE;have hmo:M.ow c=b.ow c:=by rw[←HM.out];rfl
   have hmm:M.mode=f.mode:=by rw[←HM.out];rfl
   have hsn:(M.sent c).size≤1000000000:=by rw[←HM.out];exact Nat.le_trans HSENT.out (by omega)
   have HMO:=Hd hmo;have HMM:=Hd hmm;have HSN:=Hd hsn;clear hmo hmm hsn;obtain⟨⟨V3,ks3,r3,t3,m3⟩,b5,-⟩:=S2.out;obtain⟨st,hst⟩: ∃n,(M.ow c).st=n:=⟨_,rfl⟩;have HST:=Hd hst;have R3:=Hd r3;have T3:=Hd t3;cases y with
   |true=>
    have x7:wc.cell? ⟨p,6+c*10+7,none⟩=some (.int .i64 st):=by rw[←hst];exact r3.b.cellC (k:=7) HC.out (by decide)
    clear r3 t3 m3 b5 S2 hst;go_wp2_with fail
    refine(ptell_any _ B p V3 ks3 _ R3.out c HC.out ⟨4,tNotUnd,st⟩ (show tNotUnd.size≤maxLen by decide) HSN.out).mono ?_
    rintro e x3 ⟨rfl,d3⟩;have HF:=Hd (Done.trans ⟨R3.out,T3.out⟩ d3);clear d3 x7;go_wp2_with fail
    refine bodyPost_ret (results_none rfl _ _ _) rfl ⟨rfl,?_⟩;have e:=next_mv_bad (b:=b) HCL.out HL.out;rw[HM.out,HXS.out,HYS.out,←HMO.out,HST.out]at e;rw[e];exact HF.out
   |false=>
    cases nb with
    |false=>
     have x7:wc.cell? ⟨p,6+c*10+7,none⟩=some (.int .i64 st):=by rw[←hst];exact r3.b.cellC (k:=7) HC.out (by decide)
     have hm:f.mode=3∧xk=1:=by
      have h:=HNB.out;rw[HMM.out]at h;unfold needsB at h;by_cases e1:f.mode=3
      ·by_cases e2:xk=1
       ·exact⟨e1,e2⟩
       ·simp[e2]at h
      ·simp[e1]at h
     have HMD:=Hd hm;clear r3 t3 m3 b5 S2 hst hm;go_wp2_with fail
     refine(ptell_any _ B p V3 ks3 _ R3.out c HC.out ⟨4,tNotMode,st⟩ (show tNotMode.size≤maxLen by decide) HSN.out).mono ?_
     rintro e x3 ⟨rfl,d3⟩;have HF:=Hd (Done.trans ⟨R3.out,T3.out⟩ d3);clear d3 x7;go_wp2_with fail
     refine bodyPost_ret (results_none rfl _ _ _) rfl ⟨rfl,?_⟩;have e:=next_mv_mode (b:=b) HCL.out HL.out HMD.out;rw[HM.out,HXS.out,HYS.out,←HMO.out,HST.out]at e;rw[e];exact HF.out
    |true=>
     have hm:¬ (f.mode=3∧xk=1):=by
      rintro⟨e1,e2⟩;have h:=HNB.out;rw[HMM.out]at h;unfold needsB at h;simp[e1,e2]at h
     have hneed:needs f c=true:=by
      unfold needs;rw[HL.out];have h:=HNB.out;rw[HMM.out]at h;exact h
     obtain⟨s,hs,hso,hsk,hs8⟩:=HO.out.srv HC.out (ready_srv HRD.out hneed);have HMD:=Hd hm;have HSS:=Hd (And.intro hs (And.intro hso (And.intro hsk hs8)));have HI:=Hd (i64_wf (a:=(s:Int)) (by omega) (by omega))
     have H8:=Hd (show M.w.ses.length≤1000 by rw[←HM.out];exact Nat.le_trans HO.out.ses8 (by decide))
     have HSO:=Hd (show(Sorted (M.ow c).set∧Sorted (M.ow c).pre)∧(M.ow c).set.length<4398046510976∧(M.ow c).pre.length<4398046510976 by rw[HMO.out];exact HO.out.sorted HC.out)
     have x3:wc.cell? ⟨p,6+c*10+3,none⟩=some (.int .i64 (s:Int)):=by
      have e:M.srv c=(s:Int):=by rw[←HM.out];exact hs
      rw[←e];exact r3.b.cellC (k:=3) HC.out (by decide)
     have B5:=Hd b5;have M3:=Hd m3;obtain⟨bb5,-⟩:=b5 _ _ rfl;have f0:=bb5.cell_ 0 _ rfl;have f1:=bb5.cell_ 1 _ rfl;have f2:=bb5.cell_ 2 _ rfl;obtain⟨⟨W1,aK,aT,aS⟩,hdo⟩: ∃R,poDo M.w s ⟨xk,xkey,xval⟩=R:=⟨_,rfl⟩;have HDO:=Hd hdo;clear r3 t3 m3 b5 bb5 hst hm hneed hs hso hsk hs8 hdo;go_upto_region 7 with fail
     go_cut [8] (fun p8 we=>∃z8,p8= .pointer (some ⟨z8,0,none⟩)∧NextL w we B p V ((M.drop c xs ys).did W1) (some (z5,#[.int .i64 xk,.string xkey,.string xval])) (some (z8,#[.int .i64 aK,.string aT,.int .i64 aS])))
     case first=>
      refine region_sg [6,8] ?_;refine anyB_sg [0,1,2,3,4,5] 3 ?_;go_wp2_with fail
      refine sg_o ?_;have S0:=Hd (S2.out.keep bR.drew);clear x3 f0 f1 f2 S2;generalize wc.drew=x0 at S0⊢;refine anyB_tw 6 7 (fun K hK=>?_) fun K hK=>?_
      ·go_simp;obtain⟨⟨V4,ks4,r4,t4,m4⟩,b54,b84⟩:=S0.out;have R4:=Hd r4;have T4:=Hd t4;have M4:=Hd m4;have B54:=Hd b54;have B84:=Hd b84;clear r4 t4 m4 b54 b84;refine(pdo_any _ B p V4 ks4 _ R4.out (HT.out.turn HR.out.o T4.out) s HI.out ⟨xk,xkey,xval⟩ HKEY.out H8.out).mono ?_;rintro e x1 ⟨rfl,⟨V5,ks5,r5,t5⟩⟩;refine lateK hK ?_;clear hK K;rw[show poR (M.drop c xs ys).w (s:Int) ⟨xk,xkey,xval⟩=(W1,⟨aK,aT,aS⟩)from HDO.out]at r5⊢;have S1:=Hd (show NextL w x1 B p V ((M.drop c xs ys).did W1) _ _ from NextL.did M4.out R4.out T4.out B54.out B84.out r5 t5);clear r5 t5 S0 R4 T4 M4 B54 B84;unfold anV;refine anyB_on 7 fun K hK=>?_;go_simp;refine thK hK (boxed _ _) ?_;clear hK K;have S2:=Hd (S1.out.f8 #[.int .i64 0,.string ⟨#[]⟩,.int .i64 0]);obtain⟨z8,hz⟩: ∃z,x1.heap.size=z:=⟨_,rfl⟩;rw[hz]at S2⊢;generalize World.alloc _ _=x2 at S2⊢;clear S1 hz;obtain⟨b8,l8⟩:=S2.out.b8 _ _ rfl;have f0:=b8.cell_ 0 _ rfl;have f1:=b8.cell_ 1 _ rfl;have f2:=b8.cell_ 2 _ rfl;have ff:=b8.frozen;clear b8 l8;refine anyB_on 8 fun K hK=>?_;go_simp;refine lateK hK ?_;clear hK K;refine anyB_dn ?_;have FN:=Hd (S2.out.fin8 (.int .i64 aK) (.string aT) (.int .i64 aS) rfl);clear f0 f1 f2 ff S2;generalize World.setCell _ _ _=x9 at FN⊢;go_wp2_with fail
       go_meet;exact⟨z8,rfl,FN.out⟩
      ·go_simp;refine thK hK (boxed _ _) ?_;clear hK K;have S1:=Hd (S0.out.f8 #[.int .i64 0,.string ⟨#[]⟩,.int .i64 0]);obtain⟨z8,hz⟩: ∃z,x0.heap.size=z:=⟨_,rfl⟩;rw[hz]at S1⊢;generalize World.alloc _ _=x1 at S1⊢;clear S0 hz;refine anyB_on 6 fun K hK=>?_;go_simp;obtain⟨⟨V4,ks4,r4,t4,m4⟩,b54,b84⟩:=S1.out;have R4:=Hd r4;have T4:=Hd t4;have M4:=Hd m4;have B54:=Hd b54;have B84:=Hd b84;clear r4 t4 m4 b54 b84;refine(pdo_any _ B p V4 ks4 _ R4.out (HT.out.turn HR.out.o T4.out) s HI.out ⟨xk,xkey,xval⟩ HKEY.out H8.out).mono ?_;rintro e x2 ⟨rfl,⟨V5,ks5,r5,t5⟩⟩;refine lateK hK ?_;clear hK K;rw[show poR (M.drop c xs ys).w (s:Int) ⟨xk,xkey,xval⟩=(W1,⟨aK,aT,aS⟩)from HDO.out]at r5⊢;have S2:=Hd (show NextL w x2 B p V ((M.drop c xs ys).did W1) _ _ from NextL.did M4.out R4.out T4.out B54.out B84.out r5 t5);clear r5 t5 S1 R4 T4 M4 B54 B84;unfold anV;obtain⟨b8,l8⟩:=S2.out.b8 _ _ rfl;have f0:=b8.cell_ 0 _ rfl;have f1:=b8.cell_ 1 _ rfl;have f2:=b8.cell_ 2 _ rfl;have ff:=b8.frozen;clear b8 l8;refine anyB_on 8 fun K hK=>?_;go_simp;refine lateK hK ?_;clear hK K;refine anyB_dn ?_;have FN:=Hd (S2.out.fin8 (.int .i64 aK) (.string aT) (.int .i64 aS) rfl);clear f0 f1 f2 ff S2;generalize World.setCell _ _ _=x9 at FN⊢;go_wp2_with fail
       go_meet;exact⟨z8,rfl,FN.out⟩
     case rest=>
      obtain⟨z8,rfl,s8⟩:=hcut;have S8:=Hd s8;clear s8 x3 f0 f1 f2 S2;have HTX:=Hd (show aT.size≤maxLen by
       have h:=HO.out.text (s:=s) ⟨xk,xkey,xval⟩;rw[show b.w=M.w from by rw[←HM.out];rfl,HDO.out]at h
       exact h)
      obtain⟨bb5,-⟩:=S8.out.b5 _ _ rfl;obtain⟨bb8,-⟩:=S8.out.b8 _ _ rfl;have f0:=bb5.cell_ 0 _ rfl;have f1:=bb5.cell_ 1 _ rfl;have f2:=bb5.cell_ 2 _ rfl;have h0:=bb8.cell_ 0 _ rfl;have h1:=bb8.cell_ 1 _ rfl;have h2:=bb8.cell_ 2 _ rfl;clear bb5 bb8;go_upto_region 8 with fail
      refine region_sg [5] ?_;refine anyB_sg [0,1,2,3,4] 1 ?_;go_wp2_with fail
      refine sg_o ?_;have S9:=Hd (S8.out.keep bR.drew);clear f0 f1 f2 h0 h1 h2 S8;generalize wc.drew=x0 at S9⊢;obtain⟨⟨V4,ks4,r4,t4,m4⟩,b54,b84⟩:=S9.out;have R4:=Hd r4;have T4:=Hd t4;have M4:=Hd m4;have B54:=Hd b54;have B84:=Hd b84;clear r4 t4 m4 b54 b84 S9;refine anyB_on 5 fun K hK=>?_;go_simp;refine(learn_any _ B p V4 ks4 _ R4.out c HC.out ⟨xk,xkey,xval⟩ ⟨aK,aT,aS⟩ HKEY.out HSO.out.1 HSO.out.2).mono ?_;rintro e x1 ⟨rfl,⟨V5,ks5,r5,t5⟩⟩;refine lateK hK ?_;clear hK K;refine anyB_dn ?_;have S10:=Hd (NextL.did M4.out R4.out T4.out B54.out B84.out r5 t5);clear r5 t5 R4 T4 M4 B54 B84;obtain⟨M2,hM2⟩: ∃M2,(((M.drop c xs ys).did W1).setOw c (learn (((M.drop c xs ys).did W1).ow c) ⟨xk,xkey,xval⟩ ⟨aK,aT,aS⟩))=M2:=⟨_,rfl⟩;rw[hM2]at S10;have HM2:=Hd hM2;have hdl:M2.deeds.length≤1000000:=by rw[←hM2];show M.deeds.length≤_;rw[←HM.out];exact Nat.le_trans HDEED.out hN
      have HDL:=Hd hdl;clear hM2 hdl;have S11:=Hd (S10.out.keep bR.drew);obtain⟨⟨V5,ks5,r5,t5,m5⟩,b55,b85⟩:=S10.out;obtain⟨A6,k6,e6,_⟩:=r5.o.deeds.form;have y6:x1.cell? ⟨p,67,none⟩=some V5.deeds:=r5.b.cell (j:=67) (by decide)
      obtain⟨nd,hnd⟩: ∃n,M2.deeds.length=n:=⟨_,rfl⟩;rw[hnd]at e6;rw[e6]at y6;have HND:=Hd hnd;have f0:=(b55 _ _ rfl).1.cell_ 0 _ rfl;have f1:=(b55 _ _ rfl).1.cell_ 1 _ rfl;have f2:=(b55 _ _ rfl).1.cell_ 2 _ rfl;have h0:=(b85 _ _ rfl).1.cell_ 0 _ rfl;have h1:=(b85 _ _ rfl).1.cell_ 1 _ rfl;have h2:=(b85 _ _ rfl).1.cell_ 2 _ rfl;have R5:=Hd (r5.below (Below.refl x1.heap.size x1).drew);have T5:=Hd (t5.below (Below.refl x1.heap.size x1).drew);have M5:=Hd m5;have B55:=Hd (S11.out.b5);have B85:=Hd (S11.out.b8);have E6:=Hd e6;clear r5 t5 m5 b55 b85 e6 hnd S10 S11;go_upto_region 9 with fail
      refine region_sg [10,13] ?_;refine anyB_sg [0,1,2,3,4,5,6,7,8] 5 ?_;go_wp2_with fail
      refine sg_o ?_;clear f0 f1 f2 h0 h1 h2 y6;generalize x1.drew=x2 at R5 T5 B55 B85⊢;refine anyB_on 9 fun K hK=>?_;go_simp;refine thK hK (boxed _ _) ?_;clear hK K;have D:=Blk.new x2 71 #[.int .i64 (c:Int),.int .i64 xk,.string xkey,.string xval,.int .i64 aK,.string aT,.int .i64 aS];obtain⟨zd,hzd⟩: ∃z,x2.heap.size=z:=⟨_,rfl⟩;have R6:=Hd (R5.out.below (boxed x2 (.cells #[.int .i64 (c:Int),.int .i64 xk,.string xkey,.string xval,.int .i64 aK,.string aT,.int .i64 aS] 71)));have T6:=Hd (T5.out.below (boxed x2 (.cells #[.int .i64 (c:Int),.int .i64 xk,.string xkey,.string xval,.int .i64 aK,.string aT,.int .i64 aS] 71)));have B56:=Hd (fun y cs e=>And.intro ((B55.out y cs e).1.keep (boxed x2 (.cells #[.int .i64 (c:Int),.int .i64 xk,.string xkey,.string xval,.int .i64 aK,.string aT,.int .i64 aS] 71))) (B55.out y cs e).2);have B86:=Hd (fun y cs e=>And.intro ((B85.out y cs e).1.keep (boxed x2 (.cells #[.int .i64 (c:Int),.int .i64 xk,.string xkey,.string xval,.int .i64 aK,.string aT,.int .i64 aS] 71))) (B85.out y cs e).2);rw[hzd]at D⊢;clear R5 T5 B55 B85 hzd;generalize World.alloc _ _=x3 at D R6 T6 B56 B86⊢;have HD:=Hd D;clear D;obtain⟨i0,hi0,hz0,hz1,hz2⟩:=info_parts deed_info;have ho6:=R6.out.o.deeds;rw[HND.out,E6.out]at ho6;have HO6:=Hd ho6;have HB6:=Hd (Nat.le_of_lt (Nat.lt_of_le_of_lt R6.out.o.lb R6.out.b.lt));have HLE:=Hd (show nd≤1000000 by rw[←HND.out];exact HDL.out)
      clear ho6;refine anyB_on 10 fun K hK=>?_;rw[if_pos (by rfl)]
      refine wp_append_o _ _ _ _ rfl B 71 i0 _ 7 80 underlying26 hi0 hz0 hz1 hz2 rfl (by decide) (.slice A6 nd k6) nd (deV M2.deeds) rfl HO6.out x3.heap.size (some ⟨zd,0,none⟩) 1 1 (deV [⟨c,⟨xk,xkey,xval⟩,⟨aK,aT,aS⟩⟩]) rfl (reads_one HD.out rfl) (by intro u hu;simp only[deV,List.flatMap_cons,List.flatMap_nil,List.append_nil,List.mem_cons,List.not_mem_nil,or_false]at hu;rcases hu with rfl|rfl|rfl|rfl|rfl|rfl|rfl<;>rfl) (le_maxLen (by have:=HLE.out;omega)) (by have:=HLE.out;omega) HB6.out ?_
      intro v' x4 ho hg hn;refine lateK hK ?_;clear hK K;obtain⟨A7,k7,e7,_⟩:=ho.form;have ap:=R6.out.app_deeds (v:=v') (l:=M2.deeds++[⟨c,⟨xk,xkey,xval⟩,⟨aK,aT,aS⟩⟩]) (by rw[List.length_append,deV_app,HND.out];exact ho) (by rw[E6.out];exact hg) (by rw[E6.out];exact hn)
      obtain⟨r7,t7,y6,fp,-⟩:=ap;rw[E6.out]at y6;have S13:=Hd (NextL.did M5.out R6.out T6.out B56.out B86.out r7 t7);subst e7;clear r7 t7 ho hg hn R6 T6 M5 B56 B86 HD HO6 HB6 HLE E6 hi0 hz0 hz1 hz2;refine anyB_sg [11,12] 1 ?_;go_wp2_with fail
      refine sg_o ?_;refine anyB_on 13 fun K hK=>?_;go_simp;refine lateK hK ?_;clear hK K;refine anyB_dn ?_;clear y6 fp;generalize World.setCell _ _ _=x5 at S13⊢;obtain⟨⟨V7,ks7,r7,t7,m7⟩,b57,b87⟩:=S13.out;have h0:=(b87 _ _ rfl).1.cell_ 0 _ rfl;have h1:=(b87 _ _ rfl).1.cell_ 1 _ rfl;have h2:=(b87 _ _ rfl).1.cell_ 2 _ rfl;have R7:=Hd r7;have T7:=Hd t7;have M7:=Hd m7;have B57:=Hd b57;have B87:=Hd b87;clear r7 t7 m7 b57 b87 S13;go_wp2_with fail
      refine(ptell_any _ B p V7 ks7 _ R7.out c HC.out ⟨aK,aT,aS⟩ HTX.out (by rw[←HM2.out];exact HSN.out)).mono ?_
      rintro e x6 ⟨rfl,⟨V8,ks8,r8,t8⟩⟩;have S14:=Hd (NextL.did M7.out R7.out T7.out B57.out B87.out r8 t8);have hact:(M.acted c s ⟨xk,xkey,xval⟩ xs ys)={({M2 with deeds:=M2.deeds++[⟨c,⟨xk,xkey,xval⟩,⟨aK,aT,aS⟩⟩]}:MV)with sent:=up M2.sent c (M2.sent c++tellM ⟨aK,aT,aS⟩)}:=by
       rw[←HM2.out];unfold MV.acted;rw[HDO.out];rfl
      have e:=next_mv_act (b:=b) HCL.out (by rw[HO.out.own6];exact HC.out) HL.out HMD.out HSS.out.1
      rw[HM.out,HXS.out,HYS.out,hact,show b.w=M.w from by rw[←HM.out];rfl,HDO.out]at e
      have HE:=Hd e;clear e hact r8 t8 h0 h1 h2 R7 T7 M7 B57 B87;obtain⟨⟨V8,ks8,r8,t8,-⟩,-,b88⟩:=S14.out;have h2:=(b88 _ _ rfl).1.cell_ 2 _ rfl;have y0:x6.cell? ⟨p,0,none⟩=some (.int .i64 f.mode):=by
       have e:M2.mode=f.mode:=by rw[←HM2.out];exact HMM.out
       rw[←e];exact r8.b.cell (j:=0) (by decide)
      have R8:=Hd r8;have T8:=Hd t8;clear r8 t8 b88 S14;obtain⟨md,hmd⟩: ∃n,f.mode=n:=⟨_,rfl⟩;have HMDE:=Hd hmd;rw[hmd]at y0;clear hmd;by_cases c1:md=1
      ·subst c1;go_wp2_with fail
       refine bodyPost_end (results_none rfl _ _ _) rfl ⟨rfl,?_⟩;rw[HE.out,if_neg (by rw[HMDE.out];exact fun h=>h.1 rfl)]
       exact⟨V8,ks8,R8.out,T8.out⟩
      ·have n1:(md !=1)=true:=by simpa using c1
       have n2:(!(md==1))=true:=n1;by_cases c2:aS=0
       ·subst c2;go_wp2_with fail
        refine(free_any _ B p V8 ks8 _ R8.out c HC.out s ?_ ?_ ?_).mono ?_
        ·rw[←HM2.out];show M.srv c=_;rw[←HM.out];exact HSS.out.1
        ·rw[←HM2.out];show s<M.known.length;rw[←HM.out];exact HSS.out.2.2.1
        ·rw[←HM2.out];show s<M.owner.length;rw[←HM.out];exact HSS.out.2.1
        rintro e x7 ⟨rfl,d⟩;have HF:=Hd (Done.trans ⟨R8.out,T8.out⟩ d);clear d;go_wp2_with fail
        refine bodyPost_end (results_none rfl _ _ _) rfl ⟨rfl,?_⟩;rw[HE.out,if_pos ⟨by rw[HMDE.out];exact c1,by first|rfl|trivial⟩]
        exact HF.out
       ·have n3:(aS==0)=false:=by simpa using c2
        go_wp2_with fail
        refine bodyPost_end (results_none rfl _ _ _) rfl ⟨rfl,?_⟩;rw[HE.out,if_neg (fun h=>c2 h.2)];exact⟨V8,ks8,R8.out,T8.out⟩
theorem wpList_append_o{P:Program}(w:World){ops:Array Oper}{rest:List Oper}{o:Oper}{a:Act}{Q:Exit→Act→World→Prop}(hgd:o.guard=none)(s x:Operand)(t:TypeId)
  (ho:o.op= .call {callee:=.builtin .append,args:=#[s,x],argTypes:=#[t,t]})
  (B:Nat) (e:TypeId) (i:TypeInfo) (z:Value) (size bytes:Nat) (ht:P.underlying t=some (.slice e)) (hi:P.info? e=some i) (hz:i.zero=some z)
  (hsize:i.size=size) (hby:i.bytes=bytes) (hzs:z.cells.size=size) (hsz:0<size)
  (v:Value) (n:Nat) (xs:List Value) (hs:a.eval s=v) (hown:OwnO w B e size v n xs)
  (D:Nat) (A:Option Addr) (m c:Nat) (news:List Value) (hx:a.eval x= .slice A m c) (hr:Reads w D size A m news) (h1: ∀u∈news,u.oneCell'=true)
  (h63:n+m≤maxLen) (hbytes:(n+m)*bytes≤140737488355328) (hbase:B≤w.heap.size)
  (h: ∀v' w',OwnO w' B e size v' (n+m) (xs++news)→w.grownBy w' v.ownBlock→(v'.ownBlock=v.ownBlock∨v'.ownBlock=some w.heap.size)→wpList P ops Q rest (a.put o.dst v') w'):wpList P ops Q (o::rest) a w:=
 wpList_plain hgd fun _ hK=>wp_append_o w s x t ho B e i z size bytes ht hi hz hsize hby hzs hsz v n xs hs hown D A m c news hx hr h1 h63 hbytes hbase fun v' w' a1 a2 a3=>hK _ _ (h v' w' a1 a2 a3)
theorem int_info:(Tryz.prog.info? 3).map (fun i=>(i.zero,i.size,i.bytes))=some (some (.int .i64 0),1,8):=by kernel_rfl
def idleI(o:List Int):Int:=match idleF o with|some s=>(s:Int)|none=>-1
theorem idle_none{o:List Int}(h:idleF o=none): ∀j,j<o.length→o.getD j 0≠ -1:=fun j hj e=>by
 have:=List.find?_eq_none.1 h j (List.mem_range.2 hj);exact this (by simpa using e)
theorem idx_idle(o:List Int):Lib.idxOf o (-1)=idleI o:=by
 unfold idleI;cases e:idleF o with
 |none=>exact Lib.idxFrom_miss (-1) o 0 (idle_none e)
 |some s=>
  obtain⟨h1,h2,h3⟩:=find_first e;have:=Lib.idxFrom_hit (-1) o s 0 h1 (by simpa using h2) (fun j hj=>by simpa using h3 j hj)
  simpa[Lib.idxOf]using this
section
variable {w:World}{B:Nat}{v:Value}
theorem index_any{l:List Int}(h:OwnO w B 3 1 v l.length (intV l))(hl:l.length≤1000):
  Calls Tryz.prog 77 #[v,.int .i64 (-1)] w fun e w'=>e= .returned (.int .i64 (idleI l))∧w'=w:=by
 rcases Nat.eq_zero_or_pos l.length with h0|h0
 ·obtain⟨A,c,rfl,_⟩:=h.form;have hn:l=[]:=List.eq_nil_of_length_eq_zero h0;subst hn;rw[←idx_idle];exact Tryz.slices_Index_int_empty A c (-1) w
 ·obtain⟨g,off,cap,rfl,_,hc,_⟩:=h.pos h0;refine(Tryz.slices_Index_int g off l.length cap l (-1) w leR (by omega) (fun j hj=>?_)).mono ?_
  ·rw[hc j (by omega)]
   unfold intV;rw[List.getElem?_map,List.getElem?_eq_getElem hj,List.getD_eq_getElem?_getD,List.getElem?_eq_getElem hj];rfl
  ·rintro e w' ⟨rfl,rfl⟩;rw[List.take_length,idx_idle];exact⟨rfl,rfl⟩
theorem contains_map(l:List Nat)(i:Nat):(l.map fun(j:Nat)=>(j:Int)).contains (i:Int)=l.contains i:=by
 induction l with
 |nil=>rfl
 |cons a l ih=>
  rw[List.map_cons,List.contains_cons,List.contains_cons,ih];congr 1
  by_cases h:i=a
  ·subst h;simp
  ·have h2:¬ (i:Int)=(a:Int):=by omega
   rw[beq_eq_false_iff_ne.2 h2,beq_eq_false_iff_ne.2 h]
theorem contains_any{l:List Nat}(h:OwnO w B 3 1 v l.length (natV l))(hl:l.length≤1000)(i:Nat):
  Calls Tryz.prog 76 #[v,.int .i64 (i:Int)] w fun e w'=>e= .returned (.bool (l.contains i))∧w'=w:=by
 rcases Nat.eq_zero_or_pos l.length with h0|h0
 ·obtain⟨A,c,rfl,_⟩:=h.form;have hn:l=[]:=List.eq_nil_of_length_eq_zero h0;subst hn;exact Tryz.slices_Contains_int_empty A c i w
 ·obtain⟨g,off,cap,rfl,_,hc,_⟩:=h.pos h0;refine(Tryz.slices_Contains_int g off l.length cap (l.map fun(j:Nat)=>(j:Int)) i w (by simp) (by omega) (fun j hj=>?_)).mono ?_
  ·rw[List.length_map]at hj;rw[hc j (by omega)]
   unfold natV;rw[List.getElem?_map,List.getElem?_eq_getElem hj,List.getD_eq_getElem?_getD,List.getElem?_map,List.getElem?_eq_getElem hj];rfl
  ·rintro e w' ⟨rfl,rfl⟩;rw[List.take_of_length_le (by simp),contains_map]
   exact⟨rfl,rfl⟩
end
def PumpL(w wr:World)(B p:Nat)(V:PV)(N:Nat)(z0:Fr × PB)(k:Nat):Prop:=
 ∃(z:Fr × PB) (V':PV) (ks':List KV),Ok z N∧mu z.1<k∧pumpM poolB z=pumpM poolB z0∧PoolR wr B p V' ks' (MV.of z.1 z.2)∧Turn p w V wr V'
def pickI(f:Fr):Int:=match pickF f with|some i=>(i:Int)|none=>-1
def lineF(f:Fr)(n:Nat):List Nat:=f.wait++(List.range n).filter fun i=>busy f i&&!f.wait.contains i
theorem line_step(f:Fr)(n:Nat):lineF f (n+1)=if(busy f n&&!f.wait.contains n)=true then lineF f n++[n]else lineF f n:=by
 unfold lineF;rw[List.range_succ,List.filter_append];by_cases h:(busy f n&&!f.wait.contains n)=true
 ·rw[if_pos h];simp only[List.filter_cons,h,if_true,List.filter_nil,List.append_assoc]
 ·rw[if_neg h];have h':(busy f n&&!f.wait.contains n)=false:=by simpa using h
  rw[List.filter_cons,if_neg (by rw[h'];simp),List.filter_nil,List.append_nil]
theorem line_has(f:Fr)(n:Nat):(lineF f n).contains n=f.wait.contains n:=by
 unfold lineF;rw[Bool.eq_iff_iff,List.contains_iff_mem,List.contains_iff_mem,List.mem_append,List.mem_filter,List.mem_range];constructor
 ·rintro(h|⟨h,_⟩)
  ·exact h
  ·omega
 ·exact Or.inl
theorem line_len{f:Fr}(h:f.wait.length≤6){n:Nat}(hn:n≤6):(lineF f n).length≤12:=by
 unfold lineF;rw[List.length_append];have:((List.range n).filter fun i=>busy f i&&!f.wait.contains i).length≤(List.range n).length:=List.length_filter_le _ _;rw[List.length_range]at this;omega
theorem PoolR.cut_wait{w:World}{B p:Nat}{V:PV}{ks:List KV}{M:MV}(h:PoolR w B p V ks M){i:Nat}{l:List Nat}(hX:M.wait=i::l){A:Option Addr}{n k:Nat}(e1:V.wait= .slice A n k):
  ∃V',PoolR (w.setCell ⟨p,66,none⟩ (.slice (if k=1 then A else A.map (·.add 1)) (n-1) (k-1))) B p V' ks {M with wait:=l}∧Turn p w V (w.setCell ⟨p,66,none⟩ (.slice (if k=1 then A else A.map (·.add 1)) (n-1) (k-1))) V':=by
 have own:(Value.slice (if k=1 then A else A.map (·.add 1)) (n-1) (k-1)).ownBlock=(Value.slice A n k).ownBlock:=by
  split
  ·cases A<;>rfl
  ·cases A with
   |none=>rfl
   |some a=>
    show some (a.add 1).block=some a.block;rw[block_of_add]
 have o1:=h.o.wait;rw[hX,e1]at o1;obtain⟨_,_,en,_⟩:=o1.form;injection en with _ en _;subst en;have c1:=o1.cut (k:=1) (by simp)
 have r1:=h.put_wait (v:=.slice (if k=1 then A else A.map (·.add 1)) ((i::l).length-1) (k-1)) (l:=l) (by simpa[natV]using c1) (fun q hq=>.inl (by rw[e1,←hq];exact own.symm))
 exact⟨_,r1.1,r1.2⟩
theorem wait0{w:World}{B:Nat}{A:Option Addr}{n k i:Nat}{l:List Nat}(h:OwnO w B 3 1 (.slice A n k) (i::l).length (natV (i::l))): ∃g off,A=some ⟨g,off,none⟩∧n=l.length+1∧n≤k∧w.cell? ⟨g,off,none⟩=some (.int .i64 (i:Int)):=by
 obtain⟨g,off,cap,e,h1,hc,_⟩:=h.pos (by simp)
 injection e with e1 e2 e3;subst e1 e2 e3;exact⟨g,off,rfl,rfl,h1,hc 0 (by simp)⟩
theorem reads_int{w:World}{g:Nat}{i:Int}(h:Blk w g 3 #[.int .i64 i]):Reads w w.heap.size 1 (some ⟨g,0,none⟩) 1 [.int .i64 i]:=reads_one h rfl
theorem natV_app(l:List Nat)(i:Nat):natV (l++[i])=natV l++[.int .i64 (i:Int)]:=by unfold natV;rw[List.map_append];rfl
theorem unpack_any(s:ByteArray)(w:World)(hm:s.size≤maxLen):
  Calls Tryz.prog 30 #[.string s] w fun e w'=>e= .returned (if wholeB s=true then .tuple #[.int .u8 ((kindAt s).toNat:Int),.string (textAt s),.int .i64 (headN s:Int)]else .tuple #[.int .u8 0,.string ⟨#[]⟩,.int .i64 0])∧Below w.heap.size w w':=by
 by_cases h:wholeB s=true
 ·rw[if_pos h];obtain⟨h1,h2⟩:=(whole_iff s).1 h;have hl:s.data.toList.length=s.size:=by simp
  have e0:s[0]'(by omega)=kindAt s:=by
   rw[list_get];unfold kindAt;rw[List.getD_eq_getElem?_getD,List.getElem?_eq_getElem (by omega)]
   rfl
  have e1:2+(s[1]'h1).toNat=headN s:=by
   rw[list_get];unfold headN;rw[List.getD_eq_getElem?_getD,List.getElem?_eq_getElem (by omega)]
   rfl
  refine(unpack_ok s (kindAt s) (s[1]'h1) w (by omega) h1 e0 rfl h2 hm).mono ?_
  rintro e w' ⟨rfl,n,rfl⟩;refine⟨?_,bR.trans ⟨rfl,rfl,rfl,Nat.le_refl _,fun _ _=>rfl⟩⟩;unfold textAt;rw[←e1];simp
 ·rw[if_neg h];refine(unpack_no s w (fun hw=>h ((whole_iff s).2 hw)) hm).mono ?_;rintro e w' ⟨rfl,n,rfl⟩;exact⟨rfl,bR.trans ⟨rfl,rfl,rfl,Nat.le_refl _,fun _ _=>rfl⟩⟩
theorem head_le{s:ByteArray}(h:wholeB s=true):2≤headN s∧headN s≤s.size:=by
 unfold wholeB at h;simp only[Bool.and_eq_true,decide_eq_true_eq]at h;exact⟨by unfold headN;omega,h.2⟩
theorem set_self(f:Fr)(c:Nat):f.set c (f.c c)=f:=by
 unfold Fr.set Fr.c;cases f with
 |mk m o cl wt d=>
  simp only;congr 1
  rcases Nat.lt_or_ge c cl.length with h|h
  ·rw[List.getD_eq_getElem?_getD,List.getElem?_eq_getElem h];simp
  ·rw[List.set_eq_of_length_le h]
section
variable {f:Fr}{b:PB}{c:Nat}
theorem fs_bytes(hc:c<f.cl.length)(x:Cl)(s:ByteArray):({MV.of (f.set c x) b with bytes:=up (MV.of (f.set c x) b).bytes c s}:MV)=MV.of (f.set c ⟨s,x.pend,x.srv,x.sent⟩) b:=by
 rw[mv_set (f':=f.set c ⟨s,x.pend,x.srv,x.sent⟩) b hc rfl,mv_set (f':=f.set c x) b hc rfl];simp only[up_up];rfl
theorem fs_at(hc:c<f.cl.length)(x:Cl):(MV.of (f.set c x) b).bytes c=x.bytes∧(MV.of (f.set c x) b).pend c=x.pend.map (·.1)∧(MV.of (f.set c x) b).bad c=x.pend.map (·.2):=by
 have e:=c_same f hc x;refine⟨?_,?_,?_⟩
 ·show((f.set c x).c c).bytes=_;rw[e]
 ·show((f.set c x).c c).pend.map _=_;rw[e]
 ·show((f.set c x).c c).pend.map _=_;rw[e]
theorem fs_pend(hc:c<f.cl.length)(x:Cl)(st:St)(bd:Bool):({MV.of (f.set c x) b with pend:=up (MV.of (f.set c x) b).pend c (x.pend.map (·.1)++[st]),bad:=up (MV.of (f.set c x) b).bad c (x.pend.map (·.2)++[bd])}:MV)=MV.of (f.set c ⟨x.bytes,x.pend++[(st,bd)],x.srv,x.sent⟩) b:=by
 rw[mv_set (f':=f.set c ⟨x.bytes,x.pend++[(st,bd)],x.srv,x.sent⟩) b hc rfl,mv_set (f':=f.set c x) b hc rfl];simp only[up_up,List.map_append,List.map_cons,List.map_nil];rfl
end
theorem set_twice(f:Fr)(c:Nat)(x y:Cl):(f.set c x).set c y=f.set c y:=by
 unfold Fr.set;simp
structure PoolM(w:World)(B p:Nat)(V:PV)(ks:List KV)(M:MV)(V0:PV)(M0:MV):Prop where
 o:PoolO w B p V ks M
 b:PoolB w p M0 V0
section
variable {w w2:World}{B p:Nat}{V V0:PV}{ks:List KV}{M M0:MV}{c:Nat}
theorem PoolM.below(h:PoolM w B p V ks M V0 M0)(hb:Below w.heap.size w w2):PoolM w2 B p V ks M V0 M0:=⟨h.o.below hb,h.b.keep (hb.block p h.b.lt)⟩
theorem PoolM.app_pend(h:PoolM w B p V ks M V0 M0)(hc:c<6){v:Value}{l:List St}(ho:OwnO w2 B 41 3 v l.length (stV l))(g:w.grownBy w2 (V.pend c).ownBlock)(hn:v.ownBlock=(V.pend c).ownBlock∨v.ownBlock=some w.heap.size):
  PoolM w2 B p {V with pend:=up V.pend c v} ks {M with pend:=up M.pend c l} V0 M0∧Turn p w V w2 {V with pend:=up V.pend c v}:=by
 have s1:Step p (.pend c) w V w2 {V with pend:=up V.pend c v}:=Step.of_grown (r0:=.pend c) (v:=V.pend c) (v':=v) h.o hc (by simp) rfl g hn (by show(up V.pend c v c).ownBlock=_;rw[up_at])
  (fun r hr=>by cases r<;>first|rfl|(rename_i i;show(up V.pend c v i).ownBlock=_;rw[up_off _ _ (fun e=>hr (by rw[e]))];rfl))
 exact⟨⟨h.o.st_pend hc (v:=v) (l:=l) ho s1,h.b.keep (g.block p h.b.lt fun e=>absurd (h.o.apart .pool (.pend c) p trivial hc rfl e.symm) (by simp))⟩,s1.turn hc⟩
theorem PoolM.app_bad(h:PoolM w B p V ks M V0 M0)(hc:c<6){v:Value}{l:List Bool}(ho:OwnO w2 B 4 1 v l.length (badV l))(g:w.grownBy w2 (V.bad c).ownBlock)(hn:v.ownBlock=(V.bad c).ownBlock∨v.ownBlock=some w.heap.size):
  PoolM w2 B p {V with bad:=up V.bad c v} ks {M with bad:=up M.bad c l} V0 M0∧Turn p w V w2 {V with bad:=up V.bad c v}:=by
 have s1:Step p (.bad c) w V w2 {V with bad:=up V.bad c v}:=Step.of_grown (r0:=.bad c) (v:=V.bad c) (v':=v) h.o hc (by simp) rfl g hn (by show(up V.bad c v c).ownBlock=_;rw[up_at])
  (fun r hr=>by cases r<;>first|rfl|(rename_i i;show(up V.bad c v i).ownBlock=_;rw[up_off _ _ (fun e=>hr (by rw[e]))];rfl))
 exact⟨⟨h.o.st_bad hc (v:=v) (l:=l) ho s1,h.b.keep (g.block p h.b.lt fun e=>absurd (h.o.apart .pool (.bad c) p trivial hc rfl e.symm) (by simp))⟩,s1.turn hc⟩
theorem PoolM.stored(hc:c<6){v1 v2:Value}{l1:List St}{l2:List Bool}(h:PoolM w B p {({V with pend:=up V.pend c v1}:PV)with bad:=up V.bad c v2} ks {({M with pend:=up M.pend c l1}:MV)with bad:=up M.bad c l2} V M):
  PoolR ((w.setCell ⟨p,6+c*10+1,none⟩ v1).setCell ⟨p,6+c*10+2,none⟩ v2) B p {({V with pend:=up V.pend c v1}:PV)with bad:=up V.bad c v2} ks {({M with pend:=up M.pend c l1}:MV)with bad:=up M.bad c l2}∧
   Turn p w {({V with pend:=up V.pend c v1}:PV)with bad:=up V.bad c v2} ((w.setCell ⟨p,6+c*10+1,none⟩ v1).setCell ⟨p,6+c*10+2,none⟩ v2) {({V with pend:=up V.pend c v1}:PV)with bad:=up V.bad c v2}:=by
 have s1:=Step.cell (w:=w) (V:={({V with pend:=up V.pend c v1}:PV)with bad:=up V.bad c v2}) (V':={({V with pend:=up V.pend c v1}:PV)with bad:=up V.bad c v2}) (p:=p) v1 (6+c*10+1) fun _=>rfl;have o1:=h.o.st_same s1;have s2:=Step.cell (w:=w.setCell ⟨p,6+c*10+1,none⟩ v1) (V:={({V with pend:=up V.pend c v1}:PV)with bad:=up V.bad c v2}) (V':={({V with pend:=up V.pend c v1}:PV)with bad:=up V.bad c v2}) (p:=p) v2 (6+c*10+2) fun _=>rfl;exact⟨⟨o1.st_same s2,((h.b.set_pend hc v1).set_bad hc v2).same fun _ _=>rfl⟩,(s1.turn trivial).trans (s2.turn trivial)⟩
end
theorem stV_app(l:List St)(x:St):stV (l++[x])=stV l++stV [x]:=by unfold stV;rw[List.flatMap_append]
theorem badV_app(l:List Bool)(x:Bool):badV (l++[x])=badV l++badV [x]:=by unfold badV;rw[List.map_append]
theorem stmt_info:(Tryz.prog.info? 41).map (fun i=>(i.zero,i.size,i.bytes))=some (some (.agg #[.int .i64 0,.string ⟨#[]⟩,.string ⟨#[]⟩]),3,40):=by kernel_rfl
theorem bool_info:(Tryz.prog.info? 4).map (fun i=>(i.zero,i.size,i.bytes))=some (some (.bool false),1,1):=by kernel_rfl
end Go.Proofs.YtjbnfigpflambacGreatDoor
