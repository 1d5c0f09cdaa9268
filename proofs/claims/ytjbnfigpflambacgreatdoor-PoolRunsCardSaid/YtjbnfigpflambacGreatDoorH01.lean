/- Worlds of a server. Slices of pairs in memory. back.Copy. Conditions: those of each lemma. -/
import Derived.Test.YtjbnfigpflambacGreatDoorH00
import Derived.Deep.QuietTactic
import Derived.BigQuiet
import Derived.WalkSpells
import Derived.WalkLawsBesides
import Derived.Deep.DeepCutAuto
namespace Go.Proofs.YtjbnfigpflambacGreatDoor
set_option maxRecDepth 100000
set_option maxHeartbeats 16000000
open _root_.Go.Proofs.Tryz
open Go
def hasN(l:List ByteArray)(k:ByteArray):Bool:=l.any fun x=>decide (x=k)
theorem hasN_iff(l:List ByteArray)(k:ByteArray):hasN l k=true↔k∈l:=by
 unfold hasN;rw[List.any_eq_true];constructor
 ·rintro⟨x,hx,h⟩;have:=of_decide_eq_true h;subst this;exact hx
 ·intro h;exact⟨k,h,by simp⟩
def dd:List ByteArray→List ByteArray
 |[]=>[]
 |k::l=>if hasN (dd l) k=true then dd l else k::dd l
theorem mem_dd(x:ByteArray)(l:List ByteArray):x∈dd l↔x∈l:=by
 induction l with
 |nil=>simp[dd]
 |cons k l ih=>
  unfold dd;split
  ·rename_i h;rw[ih,List.mem_cons];constructor
   ·exact .inr
   ·rintro(rfl|h')
    ·exact ih.1 ((hasN_iff _ _).1 h)
    ·exact h'
  ·rw[List.mem_cons,List.mem_cons,ih]
theorem nodup_dd(l:List ByteArray):(dd l).Nodup:=by
 induction l with
 |nil=>simp[dd]
 |cons k l ih=>
  unfold dd;split
  ·exact ih
  ·rename_i h;exact List.nodup_cons.2 ⟨fun h'=>h ((hasN_iff _ _).2 h'),ih⟩
def card(l:List ByteArray):Nat:=(dd l).length
theorem card_mono{l m:List ByteArray}(h: ∀x,x∈l→x∈m):card l≤card m:=
 (nodup_dd l).length_le_of_subset fun x hx=>(mem_dd x m).2 (h x ((mem_dd x l).1 hx))
theorem card_congr{l m:List ByteArray}(h: ∀x,x∈l↔x∈m):card l=card m:=
 Nat.le_antisymm (card_mono fun x hx=>(h x).1 hx) (card_mono fun x hx=>(h x).2 hx)
theorem dd_nodup{l:List ByteArray}(h:l.Nodup):dd l=l:=by
 induction l with
 |nil=>rfl
 |cons k l ih=>
  obtain⟨h1,h2⟩:=List.nodup_cons.1 h;unfold dd;rw[ih h2,if_neg (fun h'=>h1 ((hasN_iff _ _).1 h'))]
theorem card_nodup{l:List ByteArray}(h:l.Nodup):card l=l.length:=by unfold card;rw[dd_nodup h]
theorem card_cons(k:ByteArray)(l:List ByteArray):card (k::l)=if hasN l k=true then card l else card l+1:=by
 unfold card;rw[dd];have e:hasN (dd l) k=hasN l k:=by rw[Bool.eq_iff_iff,hasN_iff,hasN_iff];exact mem_dd k l
 rw[e];split<;>rfl
structure Se where
 st:Int
 set:List Pr
 pre:List Pr
 sav:List Pr
 wri:List Pr
def Se.new:Se:=⟨0,[],[],[],[]⟩
structure Wo where
 rows:List Pr
 ses:List Se
structure An where
 kind:Int
 text:ByteArray
 st:Int
def Pr.no:Pr:=⟨⟨#[]⟩,⟨#[]⟩⟩
def pairB(kind:Int)(l:List Pr)(i:Nat):Bool:=
 decide (checkE ⟨kind,(l.getD i Pr.no).k,(l.getD i Pr.no).v⟩=0)&&(decide (i=0)||ltS (l.getD (i-1) Pr.no).k (l.getD i Pr.no).k)
def pairsB(kind:Int)(most:Nat)(l:List Pr):Bool:=(List.range l.length).all (pairB kind l)&&decide (l.length≤most)
theorem getD_at{α:Type}{l:List α}{i:Nat}(h:i<l.length)(d:α):l.getD i d=l[i]:=by
 rw[List.getD_eq_getElem?_getD,List.getElem?_eq_getElem h];rfl
theorem sorted_of{l:List Pr}(h: ∀i (hi:i+1<l.length),ltS (l[i]'(by omega)).k l[i+1].k=true):Sorted l:=by
 refine List.pairwise_iff_getElem.2 fun i j hi hj hij=>?_;obtain⟨d,rfl⟩: ∃d,j=i+1+d:=⟨j-i-1,by omega⟩
 clear hij;induction d with
 |zero=>exact h i hj
 |succ d ih=>exact ltS_trans (ih (by omega)) (h (i+1+d) hj)
theorem pairs_iff(kind:Int)(most:Nat)(l:List Pr):pairsB kind most l=true↔(∀p∈l,checkE ⟨kind,p.k,p.v⟩=0)∧Sorted l∧l.length≤most:=by
 unfold pairsB;rw[Bool.and_eq_true,List.all_eq_true,decide_eq_true_eq];constructor
 ·rintro⟨h,hl⟩;have hp: ∀i (hi:i<l.length),checkE ⟨kind,l[i].k,l[i].v⟩=0∧(i=0∨ltS (l.getD (i-1) Pr.no).k l[i].k=true):=by
   intro i hi;have:=h i (List.mem_range.2 hi);unfold pairB at this;rw[getD_at hi]at this;simpa using this
  refine⟨fun p hp'=>?_,sorted_of fun i hi=>?_,hl⟩
  ·obtain⟨i,hi,rfl⟩:=List.getElem_of_mem hp';exact(hp i hi).1
  ·have:=(hp (i+1) hi).2;rw[Nat.add_sub_cancel,getD_at (by omega)]at this
   simpa using this
 ·rintro⟨h1,h2,hl⟩;refine⟨fun i hi=>?_,hl⟩;have hi:=List.mem_range.1 hi;unfold pairB;rw[getD_at hi,h1 _ (List.getElem_mem hi)];rcases Nat.eq_zero_or_pos i with rfl|h0
  ·simp
  ·rw[getD_at (by omega),h2.at_lt (by omega) hi]
   simp
def seOk(s:Se):Bool:=
 decide (0≤s.st)&&decide (s.st≤2)&&pairsB 9 6 s.set&&pairsB 11 6 s.pre&&pairsB 9 6 s.sav&&pairsB 10 100 s.wri&&!(decide (s.st=0)&&!s.sav.isEmpty)&&!(decide (s.st≠1)&&!s.wri.isEmpty)
def heldB(ss:List Se)(i:Nat)(k:ByteArray):Bool:=(List.range ss.length).any fun j=>decide (j≠i)&&hasK (ss.getD j Se.new).wri k
def sesOk(ss:List Se)(i:Nat):Bool:=seOk (ss.getD i Se.new)&&(ss.getD i Se.new).wri.all fun p=>!heldB ss i p.k
def keysW(W:Wo):List ByteArray:=W.rows.map (·.k)++W.ses.flatMap fun s=>s.wri.map (·.k)
def goodW(W:Wo):Bool:=pairsB 10 100 W.rows&&decide (W.ses.length≤8)&&(List.range W.ses.length).all (sesOk W.ses)&&decide (card (keysW W)≤100)
structure GoodSe(s:Se):Prop where
 st0:0≤s.st
 st2:s.st≤2
 set:pairsB 9 6 s.set=true
 pre:pairsB 11 6 s.pre=true
 sav:pairsB 9 6 s.sav=true
 wri:pairsB 10 100 s.wri=true
 idle:s.st=0→s.sav=[]
 calm:s.st≠1→s.wri=[]
theorem seOk_iff(s:Se):seOk s=true↔GoodSe s:=by
 unfold seOk;simp only[Bool.and_eq_true,decide_eq_true_eq,Bool.not_eq_true',Bool.and_eq_false_iff,decide_eq_false_iff_not,Bool.not_eq_false',List.isEmpty_iff];constructor
 ·rintro⟨⟨⟨⟨⟨⟨⟨h1,h2⟩,h3⟩,h4⟩,h5⟩,h6⟩,h7⟩,h8⟩;exact⟨h1,h2,h3,h4,h5,h6,fun h=>h7.resolve_left (fun h'=>h' h),fun h=>h8.resolve_left (fun h'=>h' h)⟩
 ·intro g;refine⟨⟨⟨⟨⟨⟨⟨g.st0,g.st2⟩,g.set⟩,g.pre⟩,g.sav⟩,g.wri⟩,?_⟩,?_⟩
  ·by_cases h:s.st=0
   ·exact .inr (g.idle h)
   ·exact .inl h
  ·by_cases h:s.st=1
   ·exact .inl (fun h'=>h' h)
   ·exact .inr (g.calm h)
theorem held_iff(ss:List Se)(i:Nat)(k:ByteArray):heldB ss i k=true↔ ∃j,j<ss.length∧j≠i∧hasK (ss.getD j Se.new).wri k=true:=by
 unfold heldB;simp
structure Good(W:Wo):Prop where
 rows:pairsB 10 100 W.rows=true
 few:W.ses.length≤8
 ses: ∀i,i<W.ses.length→GoodSe (W.ses.getD i Se.new)
 apart: ∀i j,i<W.ses.length→j<W.ses.length→j≠i→∀k,hasK (W.ses.getD i Se.new).wri k=true→hasK (W.ses.getD j Se.new).wri k=false
 room:card (keysW W)≤100
theorem good_iff(W:Wo):goodW W=true↔Good W:=by
 unfold goodW;simp only[Bool.and_eq_true,decide_eq_true_eq,List.all_eq_true,List.mem_range];constructor
 ·rintro⟨⟨⟨h1,h2⟩,h3⟩,h4⟩;refine⟨h1,h2,fun i hi=>?_,fun i j hi hj hij k hk=>?_,h4⟩
  ·have:=h3 i hi;unfold sesOk at this;rw[Bool.and_eq_true]at this;exact(seOk_iff _).1 this.1
  ·have:=h3 i hi;unfold sesOk at this;rw[Bool.and_eq_true,List.all_eq_true]at this;obtain⟨p,hp,rfl⟩:=List.mem_map.1 ((hasK_iff _ _).1 hk);have h5:=this.2 p hp;cases h6:hasK (W.ses.getD j Se.new).wri p.k with
   |false=>rfl
   |true=>
    have:=(held_iff W.ses i p.k).2 ⟨j,hj,hij,h6⟩;rw[this]at h5;cases h5
 ·intro g;refine⟨⟨⟨g.rows,g.few⟩,fun i hi=>?_⟩,g.room⟩;unfold sesOk;rw[Bool.and_eq_true,List.all_eq_true];refine⟨(seOk_iff _).2 (g.ses i hi),fun p hp=>?_⟩;cases h:heldB W.ses i p.k with
  |false=>rfl
  |true=>
   obtain⟨j,hj,hij,hk⟩:=(held_iff _ _ _).1 h;have h1:=g.apart i j hi hj hij p.k ((hasK_iff _ _).2 (List.mem_map.2 ⟨p,hp,rfl⟩));rw[h1]at hk;cases hk
def tFailed:ByteArray:=⟨#[102,97,105,108,101,100,32,97,108,114,101,97,100,121]⟩
def tBegun:ByteArray:=⟨#[98,101,103,117,110,32,97,108,114,101,97,100,121]⟩
def tNoTx:ByteArray:=⟨#[110,111,32,116,114,97,110,115,97,99,116,105,111,110]⟩
def tNotIn:ByteArray:=⟨#[110,111,116,32,105,110,32,97,32,116,114,97,110,115,97,99,116,105,111,110]⟩
def tFull:ByteArray:=⟨#[102,117,108,108]⟩
def tHeld:ByteArray:=⟨#[104,101,108,100]⟩
def tNotPrep:ByteArray:=⟨#[110,111,116,32,112,114,101,112,97,114,101,100]⟩
def tAsked:ByteArray:=⟨#[97,115,32,97,115,107,101,100]⟩
def okA:An:=⟨1,⟨#[]⟩,0⟩
def noA(t:ByteArray):An:=⟨4,t,0⟩
def foundA:Option ByteArray→An
 |some v=>⟨2,v,0⟩
 |none=>⟨3,⟨#[]⟩,0⟩
def plusAll(l:List Pr)(m:List Pr):List Pr:=m.foldl (fun l p=>plusP l p.k p.v) l
def Wo.se(W:Wo)(i:Nat):Se:=W.ses.getD i Se.new
def Wo.put(W:Wo)(i:Nat)(s:Se):Wo:=⟨W.rows,W.ses.set i s⟩
def keepP(l:List Pr)(k v:ByteArray):Option (List Pr):=if hasK l k=false∧l.length=6 then none else some (plusP l k v)
def endW(W:Wo)(i:Nat)(done:Bool):Wo:=
 if done=true then⟨plusAll W.rows (W.se i).wri,W.ses.set i ⟨0,(W.se i).set,(W.se i).pre,[],[]⟩⟩
 else W.put i ⟨0,(W.se i).sav,(W.se i).pre,[],[]⟩
def transW(W:Wo)(i:Nat)(k:Int):Wo × An:=
 if k=1∧(W.se i).st=0 then(W.put i ⟨1,(W.se i).set,(W.se i).pre,(W.se i).set,(W.se i).wri⟩,okA)
 else if k=1 then(W,noA tBegun)
 else if(W.se i).st=0 then(W,noA tNoTx)
 else(endW W i (decide (k=2)&&decide ((W.se i).st=1)),okA)
def putW(W:Wo)(i:Nat)(k v:ByteArray):Wo × An:=
 if heldB W.ses i k=true then(W,noA tHeld)
 else if hasK W.rows k=false∧hasK (W.se i).wri k=false∧card (keysW W)=100 then(W,noA tFull)
 else if(W.se i).st=1 then(W.put i ⟨(W.se i).st,(W.se i).set,(W.se i).pre,(W.se i).sav,plusP (W.se i).wri k v⟩,okA)
 else(⟨plusP W.rows k v,W.ses⟩,okA)
def setW(W:Wo)(i:Nat)(k v:ByteArray):Wo × An:=
 match keepP (W.se i).set k v with
 |none=>(W,noA tFull)
 |some l=>(W.put i ⟨(W.se i).st,l,(W.se i).pre,(W.se i).sav,(W.se i).wri⟩,okA)
def prepW(W:Wo)(i:Nat)(k v:ByteArray):Wo × An:=
 match keepP (W.se i).pre k v with
 |none=>(W,noA tFull)
 |some l=>(W.put i ⟨(W.se i).st,(W.se i).set,l,(W.se i).sav,(W.se i).wri⟩,okA)
def resetW(W:Wo)(i:Nat):Wo × An:=
 if(W.se i).st=0 then(W.put i ⟨(W.se i).st,[],[],(W.se i).sav,(W.se i).wri⟩,okA)else(W,noA tNotIn)
def getW(W:Wo)(i:Nat)(k:ByteArray):Wo × An:=(W,foundA (atP (W.se i).set k))
def readW(W:Wo)(i:Nat)(k:ByteArray):Wo × An:=(W,foundA (match atP (W.se i).wri k with|some v=>some v|none=>atP W.rows k))
def did1(W:Wo)(i:Nat)(x:St):Wo × An:=
 if(W.se i).st=2∧x.k≠2∧x.k≠3 then(W,noA tFailed)
 else if x.k=1∨x.k=2∨x.k=3 then transW W i x.k
 else if x.k=4 then resetW W i
 else if x.k=6 then getW W i x.key
 else if x.k=7 then readW W i x.key
 else if x.k=9 then setW W i x.key x.val
 else if x.k=10 then putW W i x.key x.val
 else if x.k=11 then prepW W i x.key x.val
 else(W,noA tAsked)
def execW(W:Wo)(i:Nat)(k:ByteArray):Wo × An:=
 if(W.se i).st=2 then(W,noA tFailed)
 else match atP (W.se i).pre k with
  |none=>(W,noA tNotPrep)
  |some t=>did1 W i (readS t)
def did(W:Wo)(i:Nat)(x:St):Wo × An:=if x.k=8 then execW W i x.key else did1 W i x
def failSe(s:Se)(a:An):Se:=if a.kind=4∧s.st=1 then⟨2,s.set,s.pre,s.sav,[]⟩else s
def doW(W:Wo)(i:Nat)(x:St):Wo × An:=
 ((did W i x).1.put i (failSe ((did W i x).1.se i) (did W i x).2),⟨(did W i x).2.kind,(did W i x).2.text,(failSe ((did W i x).1.se i) (did W i x).2).st⟩)
/-! what stays valid -/
theorem se_put(W:Wo){i:Nat}(hi:i<W.ses.length)(s:Se)(j:Nat):(W.put i s).se j=if j=i then s else W.se j:=by
 unfold Wo.put Wo.se;rw[List.getD_eq_getElem?_getD,List.getElem?_set,List.getD_eq_getElem?_getD];by_cases h:i=j
 ·subst h;simp[hi]
 ·rw[if_neg h,if_neg (fun e=>h e.symm)]
theorem put_length(W:Wo)(i:Nat)(s:Se):(W.put i s).ses.length=W.ses.length:=List.length_set
theorem mem_keys(W:Wo)(x:ByteArray):x∈keysW W↔hasK W.rows x=true∨∃j,j<W.ses.length∧hasK (W.se j).wri x=true:=by
 unfold keysW Wo.se;rw[List.mem_append,←hasK_iff,List.mem_flatMap];constructor
 ·rintro(h|⟨s,hs,h⟩)
  ·exact .inl h
  ·obtain⟨j,hj,rfl⟩:=List.getElem_of_mem hs;exact .inr ⟨j,hj,by rw[getD_at hj];exact(hasK_iff _ _).2 h⟩
 ·rintro(h|⟨j,hj,h⟩)
  ·exact .inl h
  ·rw[getD_at hj]at h;exact .inr ⟨_,List.getElem_mem hj,(hasK_iff _ _).1 h⟩
theorem Good.se{W:Wo}(g:Good W){i:Nat}(hi:i<W.ses.length):GoodSe (W.se i):=g.ses i hi
theorem GoodSe.setS{s:Se}(g:GoodSe s):Sorted s.set:=((pairs_iff _ _ _).1 g.set).2.1
theorem GoodSe.preS{s:Se}(g:GoodSe s):Sorted s.pre:=((pairs_iff _ _ _).1 g.pre).2.1
theorem GoodSe.wriS{s:Se}(g:GoodSe s):Sorted s.wri:=((pairs_iff _ _ _).1 g.wri).2.1
theorem Good.rowsS{W:Wo}(g:Good W):Sorted W.rows:=((pairs_iff _ _ _).1 g.rows).2.1
theorem pairs_nil(kind:Int)(most:Nat):pairsB kind most []=true:=by simp[pairsB]
theorem Good.notHeld{W:Wo}(g:Good W){i:Nat}(hi:i<W.ses.length){k:ByteArray}(h:hasK (W.se i).wri k=true):heldB W.ses i k=false:=by
 cases e:heldB W.ses i k with
 |false=>rfl
 |true=>
  obtain⟨j,hj,hij,hk⟩:=(held_iff _ _ _).1 e;have:=g.apart i j hi hj hij k h;rw[this]at hk;cases hk
theorem hasK_nil(k:ByteArray):hasK [] k=false:=rfl
theorem Good.put{W:Wo}(g:Good W){i:Nat}(hi:i<W.ses.length){s:Se}(gs:GoodSe s)(hh: ∀k,hasK s.wri k=true→heldB W.ses i k=false)(hc:card (keysW (W.put i s))≤100):Good (W.put i s):=by
 refine⟨g.rows,by rw[put_length];exact g.few,fun j hj=>?_,fun j j' hj hj' hne k hk=>?_,hc⟩
 ·rw[put_length]at hj;show GoodSe ((W.put i s).se j);rw[se_put W hi];split
  ·exact gs
  ·exact g.ses j hj
 ·rw[put_length]at hj hj';have e1:(W.put i s).ses.getD j Se.new=(W.put i s).se j:=rfl;have e2:(W.put i s).ses.getD j' Se.new=(W.put i s).se j':=rfl;rw[e1,se_put W hi]at hk;rw[e2,se_put W hi];by_cases h1:j=i
  ·rw[if_pos h1]at hk;rw[if_neg (by omega)]
   have h2:=hh k hk;cases h3:hasK (W.se j').wri k with
   |false=>rfl
   |true=>
    have:=(held_iff W.ses i k).2 ⟨j',hj',by omega,h3⟩
    rw[this]at h2;cases h2
  ·rw[if_neg h1]at hk;by_cases h2:j'=i
   ·rw[if_pos h2];cases h3:hasK s.wri k with
    |false=>rfl
    |true=>
     have h4:=hh k h3;have:=(held_iff W.ses i k).2 ⟨j,hj,h1,hk⟩;rw[this]at h4;cases h4
   ·rw[if_neg h2];exact g.apart j j' hj hj' hne k hk
theorem keys_put_sub{W:Wo}{i:Nat}(hi:i<W.ses.length){s:Se}(h: ∀k,hasK s.wri k=true→hasK (W.se i).wri k=true):card (keysW (W.put i s))≤card (keysW W):=by
 refine card_mono fun x hx=>?_;rcases(mem_keys _ x).1 hx with h1|⟨j,hj,h1⟩
 ·exact(mem_keys _ x).2 (.inl h1)
 ·rw[put_length]at hj;rw[se_put W hi]at h1;by_cases e:j=i
  ·rw[if_pos e]at h1;exact(mem_keys _ x).2 (.inr ⟨i,hi,h x h1⟩)
  ·rw[if_neg e]at h1;exact(mem_keys _ x).2 (.inr ⟨j,hj,h1⟩)
theorem Good.put_sub{W:Wo}(g:Good W){i:Nat}(hi:i<W.ses.length){s:Se}(gs:GoodSe s)(h: ∀k,hasK s.wri k=true→hasK (W.se i).wri k=true):Good (W.put i s):=
 g.put hi gs (fun k hk=>g.notHeld hi (h k hk)) (Nat.le_trans (keys_put_sub hi h) g.room)
theorem sorted_card{l:List Pr}(h:Sorted l){m:List ByteArray}(hm: ∀x,hasK l x=true→x∈m):l.length≤card m:=by
 have h1:card (l.map (·.k))=l.length:=by rw[card_nodup h.nodup,List.length_map]
 rw[←h1];exact card_mono fun x hx=>hm x ((hasK_iff _ _).2 hx)
theorem hasK_plus(l:List Pr)(k v x:ByteArray):hasK (plusP l k v) x=(decide (x=k)||hasK l x):=by
 rw[Bool.eq_iff_iff,Bool.or_eq_true,decide_eq_true_eq,hasK_iff,hasK_iff];exact plus_keys l k v x
theorem checks_plus{kind:Int}{l:List Pr}(h: ∀p∈l,checkE ⟨kind,p.k,p.v⟩=0){k v:ByteArray}(hk:checkE ⟨kind,k,v⟩=0): ∀p∈plusP l k v,checkE ⟨kind,p.k,p.v⟩=0:=by
 intro p hp;rcases plus_mem hp with rfl|⟨h1,_⟩
 ·exact hk
 ·exact h p h1
theorem plusAll_spec{kind:Int}: ∀(m l:List Pr),(∀p∈l,checkE ⟨kind,p.k,p.v⟩=0)→(∀p∈m,checkE ⟨kind,p.k,p.v⟩=0)→Sorted l→
  (∀p∈plusAll l m,checkE ⟨kind,p.k,p.v⟩=0)∧Sorted (plusAll l m)∧∀x,hasK (plusAll l m) x=(hasK l x||hasK m x)
 |[],l,h,_,hs=>⟨h,hs,fun x=>by simp[plusAll,hasK]⟩
 |q::m,l,h,hm,hs=>by
  have:=plusAll_spec m (plusP l q.k q.v) (checks_plus h (hm q List.mem_cons_self)) (fun p hp=>hm p (List.mem_cons_of_mem _ hp)) (plus_sorted hs q.k q.v);refine⟨this.1,this.2.1,fun x=>?_⟩;have h2:=this.2.2 x;show hasK (plusAll (plusP l q.k q.v) m) x=_;rw[h2,hasK_plus];have e:hasK (q::m) x=(decide (x=q.k)||hasK m x):=by
   unfold hasK;rw[List.any_cons];congr 1
   simp only[decide_eq_decide];exact⟨Eq.symm,Eq.symm⟩
  rw[e];cases decide (x=q.k)<;>cases hasK l x<;>rfl
theorem did1_good{W:Wo}(g:Good W){i:Nat}(hi:i<W.ses.length){x:St}(hx:checkE x=0):Good (did1 W i x).1:=by
 have gs:=g.se hi;unfold did1;split
 ·exact g
 split
 ·unfold transW;split
  ·rename_i h;have hw:(W.se i).wri=[]:=gs.calm (by rw[h.2];decide)
   exact g.put_sub hi ⟨by simp,by simp,gs.set,gs.pre,gs.set,gs.wri,(fun h=>by simp at h),(fun h=>absurd rfl h)⟩ fun k hk=>hk
  split
  ·exact g
  split
  ·exact g
  ·rename_i h0;unfold endW;split
   ·have hr:=(pairs_iff _ _ _).1 g.rows;have hw:=(pairs_iff _ _ _).1 gs.wri;obtain⟨p1,p2,p3⟩:=plusAll_spec (W.se i).wri W.rows hr.1 hw.1 hr.2.1;have hg:=g.put_sub hi (s:=⟨0,(W.se i).set,(W.se i).pre,[],[]⟩) ⟨by simp,by simp,gs.set,gs.pre,pairs_nil _ _,pairs_nil _ _,fun _=>rfl,fun _=>rfl⟩ (fun k hk=>by rw[hasK_nil]at hk;cases hk)
    have hsub: ∀x,hasK (plusAll W.rows (W.se i).wri) x=true→x∈keysW W:=by
     intro x hx;rw[p3,Bool.or_eq_true]at hx;rcases hx with hx|hx
     ·exact(mem_keys W x).2 (.inl hx)
     ·exact(mem_keys W x).2 (.inr ⟨i,hi,hx⟩)
    refine⟨(pairs_iff _ _ _).2 ⟨p1,p2,Nat.le_trans (sorted_card p2 hsub) g.room⟩,hg.few,hg.ses,hg.apart,?_⟩;refine Nat.le_trans (card_mono fun y hy=>?_) g.room;rcases(mem_keys _ y).1 hy with h1|⟨j,hj,h1⟩
    ·exact hsub y h1
    ·have h1':hasK ((W.put i ⟨0,(W.se i).set,(W.se i).pre,[],[]⟩).se j).wri y=true:=h1;rw[se_put W hi]at h1';have hj':j<W.ses.length:=by rw[←put_length W i ⟨0,(W.se i).set,(W.se i).pre,[],[]⟩];exact hj
     split at h1'
     ·rw[hasK_nil]at h1';cases h1'
     ·exact(mem_keys W y).2 (.inr ⟨j,hj',h1'⟩)
   ·exact g.put_sub hi ⟨by simp,by simp,gs.sav,gs.pre,pairs_nil _ _,pairs_nil _ _,fun _=>rfl,fun _=>rfl⟩ (fun k hk=>by rw[hasK_nil]at hk;cases hk)
 split
 ·unfold resetW;split
  ·exact g.put_sub hi ⟨gs.st0,gs.st2,pairs_nil _ _,pairs_nil _ _,gs.sav,gs.wri,gs.idle,gs.calm⟩ fun k hk=>hk
  ·exact g
 split
 ·exact g
 split
 ·exact g
 split
 ·rename_i hk;unfold setW;split
  ·exact g
  ·rename_i l hl;unfold keepP at hl;split at hl
   ·cases hl
   ·rename_i hn;injection hl with hl;subst hl;have hp:=(pairs_iff _ _ _).1 gs.set;refine g.put_sub hi ⟨gs.st0,gs.st2,(pairs_iff _ _ _).2 ⟨checks_plus hp.1 (by rw[←hk];exact hx),plus_sorted hp.2.1 _ _,?_⟩,gs.pre,gs.sav,gs.wri,gs.idle,gs.calm⟩ fun k hk=>hk
    rw[plus_length _ _ _ hp.2.1];split
    ·exact hp.2.2
    ·rename_i hh;simp only[Bool.not_eq_true]at hh;have:=hp.2.2;simp only[not_and]at hn;have:=hn hh;omega
 split
 ·rename_i hk;unfold putW;split
  ·exact g
  rename_i hheld;simp only[Bool.not_eq_true]at hheld;split
  ·exact g
  rename_i hfull;have hcard:card (x.key::keysW W)≤100:=by
   rw[card_cons];split
   ·exact g.room
   ·rename_i hm;rw[hasN_iff]at hm;have h1:hasK W.rows x.key=false:=by
     cases e:hasK W.rows x.key with
     |false=>rfl
     |true=>exact absurd ((mem_keys W _).2 (.inl e)) hm
    have h2:hasK (W.se i).wri x.key=false:=by
     cases e:hasK (W.se i).wri x.key with
     |false=>rfl
     |true=>exact absurd ((mem_keys W _).2 (.inr ⟨i,hi,e⟩)) hm
    have:=g.room;simp only[h1,h2,true_and]at hfull;omega
  have hxk:checkE ⟨10,x.key,x.val⟩=0:=by rw[←hk];exact hx
  split
  ·rename_i h1;have hp:=(pairs_iff _ _ _).1 gs.wri;have hsub: ∀y,y∈keysW (W.put i ⟨(W.se i).st,(W.se i).set,(W.se i).pre,(W.se i).sav,plusP (W.se i).wri x.key x.val⟩)→y∈x.key::keysW W:=by
    intro y hy;rcases(mem_keys _ y).1 hy with h2|⟨j,hj,h2⟩
    ·exact List.mem_cons_of_mem _ ((mem_keys W y).2 (.inl h2))
    ·rw[put_length]at hj;rw[se_put W hi]at h2;split at h2
     ·rw[hasK_plus,Bool.or_eq_true,decide_eq_true_eq]at h2;rcases h2 with rfl|h2
      ·exact List.mem_cons_self
      ·exact List.mem_cons_of_mem _ ((mem_keys W y).2 (.inr ⟨i,hi,h2⟩))
     ·exact List.mem_cons_of_mem _ ((mem_keys W y).2 (.inr ⟨j,hj,h2⟩))
   have hle:card (keysW (W.put i ⟨(W.se i).st,(W.se i).set,(W.se i).pre,(W.se i).sav,plusP (W.se i).wri x.key x.val⟩))≤100:=Nat.le_trans (card_mono hsub) hcard;refine g.put hi ⟨gs.st0,gs.st2,gs.set,gs.pre,gs.sav,(pairs_iff _ _ _).2 ⟨checks_plus hp.1 hxk,plus_sorted hp.2.1 _ _,?_⟩,gs.idle,fun h=>absurd h1 h⟩ (fun k hk'=>?_) hle
   ·refine Nat.le_trans (sorted_card (plus_sorted hp.2.1 _ _) fun y hy=>?_) hle;refine(mem_keys _ y).2 (.inr ⟨i,by rw[put_length];exact hi,?_⟩)
    rw[se_put W hi,if_pos rfl];exact hy
   ·rw[hasK_plus,Bool.or_eq_true,decide_eq_true_eq]at hk';rcases hk' with rfl|hk'
    ·exact hheld
    ·exact g.notHeld hi hk'
  ·have hp:=(pairs_iff _ _ _).1 g.rows;have hsub: ∀y,y∈keysW ⟨plusP W.rows x.key x.val,W.ses⟩→y∈x.key::keysW W:=by
    intro y hy;rcases(mem_keys _ y).1 hy with h2|⟨j,hj,h2⟩
    ·have h2':hasK (plusP W.rows x.key x.val) y=true:=h2;rw[hasK_plus,Bool.or_eq_true,decide_eq_true_eq]at h2';rcases h2' with rfl|h2'
     ·exact List.mem_cons_self
     ·exact List.mem_cons_of_mem _ ((mem_keys W y).2 (.inl h2'))
    ·exact List.mem_cons_of_mem _ ((mem_keys W y).2 (.inr ⟨j,hj,h2⟩))
   have hle:=Nat.le_trans (card_mono hsub) hcard;refine⟨(pairs_iff _ _ _).2 ⟨checks_plus hp.1 hxk,plus_sorted hp.2.1 _ _,?_⟩,g.few,g.ses,g.apart,hle⟩;exact Nat.le_trans (sorted_card (plus_sorted hp.2.1 _ _) fun y hy=>(mem_keys _ y).2 (.inl hy)) hle
 split
 ·rename_i hk;unfold prepW;split
  ·exact g
  ·rename_i l hl;unfold keepP at hl;split at hl
   ·cases hl
   ·rename_i hn;injection hl with hl;subst hl;have hp:=(pairs_iff _ _ _).1 gs.pre;refine g.put_sub hi ⟨gs.st0,gs.st2,gs.set,(pairs_iff _ _ _).2 ⟨checks_plus hp.1 (by rw[←hk];exact hx),plus_sorted hp.2.1 _ _,?_⟩,gs.sav,gs.wri,gs.idle,gs.calm⟩ fun k hk=>hk
    rw[plus_length _ _ _ hp.2.1];split
    ·exact hp.2.2
    ·rename_i hh;simp only[Bool.not_eq_true]at hh;have:=hp.2.2;simp only[not_and]at hn;have:=hn hh;omega
 ·exact g
theorem prep_ok{t:ByteArray}{k:ByteArray}(h:checkE ⟨11,k,t⟩=0):checkE (readS t)=0∧((readS t).k=6∨(readS t).k=7∨(readS t).k=10):=by
 have hp:prepB t=true:=by
  unfold checkE at h;rw[if_pos rfl]at h;cases hn:nameB k<;>cases hp:prepB t<;>simp[hn,hp]at h;rfl
 rw[prep_read]at hp;simp only[Bool.and_eq_true,Bool.or_eq_true,decide_eq_true_eq]at hp;obtain⟨h0,h1⟩:=hp;refine⟨?_,by omega⟩
 unfold readS;rw[if_pos h0];unfold readE at h0;split at h0
 ·simp at h0
 split at h0
 ·simp at h0
 split at h0
 ·simp at h0
 exact h0
theorem atP_mem'{l:List Pr}{k v:ByteArray}(h:atP l k=some v):⟨k,v⟩∈l:=by
 unfold atP at h;obtain⟨p,hp,rfl⟩:=Option.map_eq_some_iff.1 h;have h1:=List.mem_of_find?_eq_some hp;have h2:p.k=k:=by simpa using List.find?_some hp
 rw[←h2];exact h1
theorem GoodSe.preOk{s:Se}(g:GoodSe s){k t:ByteArray}(h:atP s.pre k=some t):checkE (readS t)=0∧((readS t).k=6∨(readS t).k=7∨(readS t).k=10):=
 prep_ok (((pairs_iff _ _ _).1 g.pre).1 _ (atP_mem' h))
theorem did_good{W:Wo}(g:Good W){i:Nat}(hi:i<W.ses.length){x:St}(hx:checkE x=0):Good (did W i x).1:=by
 unfold did;split
 ·unfold execW;split
  ·exact g
  ·split
   ·exact g
   ·rename_i t ht;exact did1_good g hi ((g.se hi).preOk ht).1
 ·exact did1_good g hi hx
def Mine(W:Wo)(i:Nat)(V:Wo):Prop:=V.ses.length=W.ses.length∧∀j,j≠i→V.se j=W.se j
theorem Mine.refl(W:Wo)(i:Nat):Mine W i W:=⟨rfl,fun _ _=>rfl⟩
theorem Mine.put_{W:Wo}{i:Nat}(r:List Pr)(s:Se):Mine W i ⟨r,W.ses.set i s⟩:=by
 refine⟨List.length_set,fun j hj=>?_⟩;unfold Wo.se;rw[List.getD_eq_getElem?_getD,List.getElem?_set,if_neg (fun e=>hj e.symm),List.getD_eq_getElem?_getD]
theorem did1_mine(W:Wo)(i:Nat)(x:St):Mine W i (did1 W i x).1:=by
 unfold did1;split
 ·exact .refl W i
 split
 ·unfold transW;split
  ·exact .put_ _ _
  split
  ·exact .refl W i
  split
  ·exact .refl W i
  ·unfold endW;split
   ·exact .put_ _ _
   ·exact .put_ _ _
 split
 ·unfold resetW;split
  ·exact .put_ _ _
  ·exact .refl W i
 split
 ·exact .refl W i
 split
 ·exact .refl W i
 split
 ·unfold setW;split
  ·exact .refl W i
  ·exact .put_ _ _
 split
 ·unfold putW;split
  ·exact .refl W i
  split
  ·exact .refl W i
  split
  ·exact .put_ _ _
  ·exact .refl W i
 split
 ·unfold prepW;split
  ·exact .refl W i
  ·exact .put_ _ _
 ·exact .refl W i
theorem did_mine(W:Wo)(i:Nat)(x:St):Mine W i (did W i x).1:=by
 unfold did;split
 ·unfold execW;split
  ·exact .refl W i
  ·split
   ·exact .refl W i
   ·exact did1_mine W i _
 ·exact did1_mine W i x
theorem doW_mine(W:Wo)(i:Nat)(x:St):Mine W i (doW W i x).1:=by
 have h:=did_mine W i x;have h2:Mine (did W i x).1 i ((did W i x).1.put i (failSe ((did W i x).1.se i) (did W i x).2)):=.put_ _ _;exact⟨h2.1.trans h.1,fun j hj=>(h2.2 j hj).trans (h.2 j hj)⟩
theorem failSe_good{s:Se}(g:GoodSe s)(a:An):GoodSe (failSe s a):=by
 unfold failSe;split
 ·exact⟨by simp,by simp,g.set,g.pre,g.sav,pairs_nil _ _,(fun h=>by simp at h),fun _=>rfl⟩
 ·exact g
theorem failSe_wri{s:Se}(a:An)(k:ByteArray)(h:hasK (failSe s a).wri k=true):hasK s.wri k=true:=by
 unfold failSe at h;split at h
 ·rw[hasK_nil]at h;cases h
 ·exact h
theorem doW_good{W:Wo}(g:Good W){i:Nat}(hi:i<W.ses.length){x:St}(hx:checkE x=0):Good (doW W i x).1:=by
 have g1:=did_good g hi hx;have hi1:i<(did W i x).1.ses.length:=by rw[(did_mine W i x).1];exact hi
 exact g1.put_sub hi1 (failSe_good (g1.se hi1) _) fun k hk=>failSe_wri _ k hk
theorem doW_length(W:Wo)(i:Nat)(x:St):(doW W i x).1.ses.length=W.ses.length:=(doW_mine W i x).1
theorem doW_state{W:Wo}{i:Nat}(hi:i<W.ses.length)(x:St):(doW W i x).2.st=((doW W i x).1.se i).st:=by
 have hi1:i<(did W i x).1.ses.length:=by rw[(did_mine W i x).1];exact hi
 show _=(((did W i x).1.put i (failSe ((did W i x).1.se i) (did W i x).2)).se i).st;rw[se_put _ hi1,if_pos rfl];rfl
theorem did1_rows(W:Wo)(i:Nat)(x:St)(h2:x.k≠2)(h10:x.k≠10):(did1 W i x).1.rows=W.rows:=by
 unfold did1;split
 ·rfl
 split
 ·unfold transW;split
  ·rfl
  split
  ·rfl
  split
  ·rfl
  ·unfold endW;rw[if_neg (by simp[h2])]
   rfl
 split
 ·unfold resetW;split<;>rfl
 split
 ·rfl
 split
 ·rfl
 split
 ·unfold setW;split<;>rfl
 split
 ·unfold prepW;split<;>rfl
 ·rfl
theorem doW_rows(W:Wo)(i:Nat)(x:St)(h2:x.k≠2)(h10:x.k≠10)(h8:x.k≠8):(doW W i x).1.rows=W.rows:=by
 show(did W i x).1.rows=W.rows;unfold did;rw[if_neg h8];exact did1_rows W i x h2 h10
def doE(W:Wo)(i:Int)(x:St):Int:=if goodW W=true then(if 0≤i∧i<W.ses.length then checkE x else 6)else 5
def emptyW:Wo:=⟨[],[]⟩
def An.no:An:=⟨0,⟨#[]⟩,0⟩
def doR(W:Wo)(i:Int)(x:St):Wo × An:=if doE W i x=0 then doW W i.toNat x else(emptyW,An.no)
open Go.ChangeShapes Go.WideShapes Go.ChangeAt Go.RowKit
def cellsP(l:List Pr):List Value:=l.flatMap fun p=>[.string p.k,.string p.v]
theorem cellsP_length(l:List Pr):(cellsP l).length=l.length*2:=by
 induction l with
 |nil=>rfl
 |cons p l ih=>simp only[cellsP,List.flatMap_cons,List.length_append,List.length_cons,List.length_nil]at ih⊢;omega
theorem cellsP_at(l:List Pr)(i:Nat)(h:i<l.length):(cellsP l)[i*2]? =some (.string l[i].k)∧(cellsP l)[i*2+1]? =some (.string l[i].v):=by
 induction l generalizing i with
 |nil=>simp at h
 |cons p l ih=>
  have e:cellsP (p::l)= .string p.k::.string p.v::cellsP l:=rfl;rw[e];rcases i with _|i
  ·exact⟨rfl,rfl⟩
  ·have:=ih i (by simpa using h)
   have e1:(i+1)*2=i*2+2:=by omega
   rw[e1];simpa using this
theorem cellsP_one(l:List Pr): ∀u∈cellsP l,u.oneCell'=true:=by
 intro u hu;unfold cellsP at hu;obtain⟨p,_,hp⟩:=List.mem_flatMap.1 hu;simp only[List.mem_cons,List.not_mem_nil,or_false]at hp;rcases hp with rfl|rfl<;>rfl
def Fits(l:List Pr):Prop:=l.length≤4398046510976∧∀p∈l,p.k.size≤maxLen∧p.v.size≤maxLen
def PL(w:World)(B:Nat)(v:Value)(l:List Pr):Prop:=∃A c,v= .slice A l.length c∧l.length≤c∧Reads w B 2 A l.length (cellsP l)∧Fits l
theorem PL.below{w w':World}{B:Nat}{v:Value}{l:List Pr}(h:PL w B v l)(hb:Below B w w'):PL w' B v l:=by
 obtain⟨A,c,h1,h2,h3,h4⟩:=h;exact⟨A,c,h1,h2,h3.below hb,h4⟩
theorem PL.more{w:World}{B B':Nat}{v:Value}{l:List Pr}(h:PL w B v l)(hB:B≤B'):PL w B' v l:=by
 obtain⟨A,c,h1,h2,h3,h4⟩:=h;exact⟨A,c,h1,h2,h3.more hB,h4⟩
theorem PL.keep{w w':World}{v:Value}{l:List Pr}(h:PL w w.heap.size v l)(hb:Below w.heap.size w w'):PL w' w'.heap.size v l:=(h.below hb).more hb.size
theorem PL.alloc{w:World}{B:Nat}{v:Value}{l:List Pr}(h:PL w B v l)(hB:B≤w.heap.size)(o:Obj):PL (w.alloc o) B v l:=h.below (bR.alloc hB o)
theorem PL.drewN{w:World}{B:Nat}{v:Value}{l:List Pr}(h:PL w B v l)(n:Nat):PL (w.drewN n) B v l:=h.below (below_drewN bR n)
theorem PL.fits{w:World}{B:Nat}{v:Value}{l:List Pr}(h:PL w B v l):Fits l:=by
 obtain⟨_,_,_,_,_,h⟩:=h;exact h
theorem PL.form{w:World}{B:Nat}{v:Value}{l:List Pr}(h:PL w B v l): ∃A c,v= .slice A l.length c:=by
 obtain⟨A,c,h,_⟩:=h;exact⟨A,c,h⟩
theorem PL.nil_(w:World)(B:Nat):PL w B (.slice none 0 0) []:=⟨none,0,rfl,Nat.le_refl _,.none_,by simp,by simp⟩
theorem pair_info:(Tryz.prog.info? 60).map (fun i=>(i.zero,i.size,i.bytes))=some (some (.agg #[.string ⟨#[]⟩,.string ⟨#[]⟩]),2,32):=by kernel_rfl
theorem PL.of_own{w:World}{base:Nat}{v:Value}{l:List Pr}(h:w.ownsRow base 60 2 v l.length (cellsP l))(hf:Fits l):PL w w.heap.size v l:=by
 rcases h.2 with⟨rfl,h0⟩|⟨g,cap,cur,hv,_,_,hn,_⟩
 ·have:l=[]:=List.eq_nil_of_length_eq_zero h0;subst this;exact .nil_ _ _
 ·subst hv;exact⟨_,cap,rfl,hn,Reads.of_own h,hf⟩
theorem own_empty(w:World)(t:TypeId)(B:Nat)(hB:B≤w.heap.size):(w.alloc (.cells #[] t)).ownsRow B t 2 (.slice (some ⟨w.heap.size,0,none⟩) 0 0) 0 []:=
 World.ownsRow_made w #[] 0 hB (Nat.zero_le _) rfl
theorem clone_any(w:World)(v:Value)(l:List Pr)(h:PL w w.heap.size v l):
  Calls Tryz.prog 46 #[v] w fun e w'=>∃v',e= .returned v'∧w'.ownsRow w.heap.size 60 2 v' l.length (cellsP l)∧Below w.heap.size w w':=by
 obtain⟨i0,hi0,hz0,hz1,hz2⟩:=info_parts pair_info;have hnil:=fun(w:World) (a:Option Addr) (n c n' c':Nat)=>Lib.run_eql_slice_nil (P:=Tryz.prog) w 27 60 a n c n' c' underlying27;obtain⟨A,c,rfl,hc,hr,hf⟩:=h;rcases A with _|ad
 ·have h0:l.length=0:=by
   rcases Nat.eq_zero_or_pos l.length with h|h
   ·exact h
   ·obtain⟨ad,e,_⟩:=hr.2 h;cases e
  have:l=[]:=List.eq_nil_of_length_eq_zero h0;subst this;clear hr hf;go_enter func46,ntmps46
  go_wp2_with fail
  go_ret;exact⟨_,rfl,World.ownsRow_nil _ _ _ _,bR⟩
 ·have HR:=Hd hr;have HF:=Hd hf;clear hr hf;go_enter func46,ntmps46
  go_wp2_with (at_builtin;refine wpList_append_any _ rfl (.tmp 5) (.tmp 6) 27 rfl w.heap.size 60 i0 _ 2 32 underlying27 hi0 hz0 hz1 hz2 rfl (by decide) (.slice (some ⟨w.heap.size,0,none⟩) 0 0) 0 [] rfl (own_empty w _ _ leR) w.heap.size (some ad) l.length c (cellsP l) rfl (HR.out.alloc leR _) (cellsP_one l) (by have:=HF.out.1;unfold maxLen;omega) (by have:=HF.out.1;omega) (by simp) ?_;intro v' w1 hown hgr hat)
  have hb:Below w.heap.size w w1:=(boxed w _).grown hgr (by simp) (fun k hk=>Nat.le_of_eq (by simpa[Value.ownBlock]using hk))
  have HO:=Hd hown;have HB:=Hd hb;clear hown hgr hat hb;go_wp2_with fail
  go_ret;exact⟨_,rfl,by simpa using HO.out,HB.out⟩
theorem pair_at{w:World}{B:Nat}{A:Option Addr}{l:List Pr}(h:Reads w B 2 A l.length (cellsP l)){k:Nat}(hk:k<l.length):
  ∃ad,A=some ad∧ad.block<B∧w.cell? (ad.add (k*2))=some (.string l[k].k)∧w.cell? ⟨(ad.add (k*2)).block,(ad.add (k*2)).off+1,none⟩=some (.string l[k].v):=by
 obtain⟨ad,hA,hB,hcell⟩:=h.2 (by omega)
 obtain⟨p1,p2⟩:=cellsP_at l k hk;exact⟨ad,hA,hB,hcell _ _ p1,by have h:=hcell _ _ p2;rw[←add_of_add]at h;exact h⟩
theorem same_pairs(w:World)(B B':Nat)(u v:Value)(l:List Pr)(hu:PL w B u l)(hv:PL w B' v l):
  Calls Tryz.prog 55 #[u,v] w fun e w'=>e= .returned (.bool true)∧∃n,w'=w.drewN n:=by
 obtain⟨A,c,rfl,hc,hr,hf⟩:=hu;obtain⟨A',c',rfl,hc',hr',_⟩:=hv;have hl:l.length≤4398046510976:=hf.1;have HR:=Hd hr;have HR':=Hd hr';clear hr hr' hf hc hc';go_enter func55,ntmps55
 go_wp2_with fail
 go_loopw [5] (fun i wx=>∃k n:Nat,k≤l.length∧i= .int .i64 k∧wx=w.drewN n) (fun i _=>l.length-(intOf i).toNat)
 case atStart=>exact⟨0,0,Nat.zero_le _,rfl,rfl⟩
 case round=>
  obtain⟨k,n,hk,rfl,rfl⟩:=hrel;by_cases hlt:k<l.length
  ·obtain⟨ad,hA,-,c1,c2⟩:=pair_at HR.out hlt;obtain⟨ad',hA',-,c3,c4⟩:=pair_at HR'.out hlt;subst hA hA';obtain⟨x,hx⟩: ∃x,l[k].k=x:=⟨_,rfl⟩;obtain⟨y,hy⟩: ∃y,l[k].v=y:=⟨_,rfl⟩;rw[hx]at c1 c3;rw[hy]at c2 c4;clear hx hy;have g1:(k:Int)<(l.length:Int):=by omega
   have g2:(0:Int)≤(k:Int):=by omega
   go_wp2_with fail
   go_quiet (fail)
   go_wp2_with fail
   go_roundw
   case rel=>exact⟨k+1,_,by omega,by go_num,rfl⟩
   case measure=>simp[intOf];omega
  ·obtain rfl:k=l.length:=by omega
   go_wp2_with fail
   go_ret;exact⟨rfl,_,rfl⟩
/-! sessions and worlds -/
structure SeAt(w:World)(B:Nat)(a:Addr)(s:Se):Prop where
 st:w.cell? a=some (.int .i64 s.st)
 set: ∃v,w.cell? ⟨a.block,a.off+1,none⟩=some v∧PL w B v s.set
 pre: ∃v,w.cell? ⟨a.block,a.off+2,none⟩=some v∧PL w B v s.pre
 sav: ∃v,w.cell? ⟨a.block,a.off+3,none⟩=some v∧PL w B v s.sav
 wri: ∃v,w.cell? ⟨a.block,a.off+4,none⟩=some v∧PL w B v s.wri
 i64: -9223372036854775808≤s.st∧s.st≤9223372036854775807
def SL(w:World)(B:Nat)(v:Value)(ss:List Se):Prop:=
 ∃A c,v= .slice A ss.length c∧ss.length≤c∧ss.length≤1353245080300∧(0<ss.length→∃ad,A=some ad∧ad.block<B∧∀i (h:i<ss.length),SeAt w B (ad.add (i*5)) ss[i])
structure WL(w:World)(B:Nat)(r s:Value)(W:Wo):Prop where
 rows:PL w B r W.rows
 ses:SL w B s W.ses
section
variable {w w':World}{B B':Nat}
theorem SeAt.below{a:Addr}{s:Se}(h:SeAt w B a s)(ha:a.block<B)(hb:Below B w w'):SeAt w' B a s:=by
 obtain⟨h0,⟨v1,c1,p1⟩,⟨v2,c2,p2⟩,⟨v3,c3,p3⟩,⟨v4,c4,p4⟩,h5⟩:=h;exact⟨(hb.cell ha).trans h0,⟨v1,(hb.cell (by exact ha)).trans c1,p1.below hb⟩,⟨v2,(hb.cell (by exact ha)).trans c2,p2.below hb⟩,⟨v3,(hb.cell (by exact ha)).trans c3,p3.below hb⟩,⟨v4,(hb.cell (by exact ha)).trans c4,p4.below hb⟩,h5⟩
theorem SeAt.more{a:Addr}{s:Se}(h:SeAt w B a s)(hB:B≤B'):SeAt w B' a s:=by
 obtain⟨h0,⟨v1,c1,p1⟩,⟨v2,c2,p2⟩,⟨v3,c3,p3⟩,⟨v4,c4,p4⟩,h5⟩:=h;exact⟨h0,⟨v1,c1,p1.more hB⟩,⟨v2,c2,p2.more hB⟩,⟨v3,c3,p3.more hB⟩,⟨v4,c4,p4.more hB⟩,h5⟩
theorem SL.below{v:Value}{ss:List Se}(h:SL w B v ss)(hb:Below B w w'):SL w' B v ss:=by
 obtain⟨A,c,h1,h2,h3,h4⟩:=h;refine⟨A,c,h1,h2,h3,fun hn=>?_⟩;obtain⟨ad,e,hB,hs⟩:=h4 hn;exact⟨ad,e,hB,fun i hi=>(hs i hi).below (by rw[block_of_add];exact hB) hb⟩
theorem SL.more{v:Value}{ss:List Se}(h:SL w B v ss)(hB:B≤B'):SL w B' v ss:=by
 obtain⟨A,c,h1,h2,h3,h4⟩:=h;refine⟨A,c,h1,h2,h3,fun hn=>?_⟩;obtain⟨ad,e,hb,hs⟩:=h4 hn;exact⟨ad,e,Nat.lt_of_lt_of_le hb hB,fun i hi=>(hs i hi).more hB⟩
theorem WL.below{r s:Value}{W:Wo}(h:WL w B r s W)(hb:Below B w w'):WL w' B r s W:=⟨h.rows.below hb,h.ses.below hb⟩
theorem WL.more{r s:Value}{W:Wo}(h:WL w B r s W)(hB:B≤B'):WL w B' r s W:=⟨h.rows.more hB,h.ses.more hB⟩
theorem WL.keep{r s:Value}{W:Wo}(h:WL w w.heap.size r s W)(hb:Below w.heap.size w w'):WL w' w'.heap.size r s W:=(h.below hb).more hb.size
end
def Keeps(t:TypeId)(w w':World):Prop:=∀(g:Nat) (cs:Array Value) (fr:Nat × Nat),w.heap[g]? =some (Obj.cells cs t fr)→w'.heap[g]? =some (Obj.cells cs t fr)
section
variable {t t':TypeId}{w w' u:World}{B size n:Nat}{v:Value}{xs:List Value}
theorem heap_lt{g:Nat}{o:Obj}(h:w.heap[g]? =some o):g<w.heap.size:=(Array.getElem?_eq_some_iff.1 h).1
theorem Keeps.refl(t:TypeId)(w:World):Keeps t w w:=fun _ _ _ h=>h
theorem Keeps.trans(a:Keeps t w w')(b:Keeps t w' u):Keeps t w u:=fun g cs fr h=>b g cs fr (a g cs fr h)
theorem Keeps.of_below(h:Below w.heap.size w w'):Keeps t w w':=fun g _ _ hg=>(h.block g (heap_lt hg)).trans hg
theorem Keeps.step(h:Below w.heap.size w w')(k:Keeps t w' u):Keeps t w u:=(Keeps.of_below h).trans k
theorem Keeps.alloc(w:World)(o:Obj):Keeps t w (w.alloc o):=.of_below (boxed w o)
theorem Keeps.drewN(w:World)(n:Nat):Keeps t w (w.drewN n):=fun _ _ _ h=>h
theorem Keeps.set_{p:Addr}{cs:Array Value}{fr:Nat × Nat}(hg:w.heap[p.block]? =some (Obj.cells cs t' fr))(hne:t'≠t)(x:Value):Keeps t w (w.setCell p x):=by
 intro g ds fr' h;have hgp:g≠p.block:=by
  rintro rfl;rw[hg]at h;injection h with h;injection h with _ ht;exact hne ht
 exact(Below.heap_setCell w p x g hgp).trans h
theorem Keeps.grown{row:Option Nat}(hg:w.grownBy w' row)(hr: ∀g,row=some g→∃cs fr,w.heap[g]? =some (Obj.cells cs t' fr))(hne:t'≠t):Keeps t w w':=by
 intro g ds fr h;refine(hg.block g (heap_lt h) fun e=>?_).trans h;obtain⟨cs,fr',h'⟩:=hr g e.symm;rw[h]at h';injection h' with h';injection h' with _ ht;exact hne ht.symm
theorem own_row{base:Nat}(h:w.ownsRow base t size v n xs): ∀g,v.ownBlock=some g→∃cs fr,w.heap[g]? =some (Obj.cells cs t fr):=by
 intro g hg;rcases h.2 with⟨rfl,_⟩|⟨g',cap,cur,rfl,_,hh,_⟩
 ·simp[Value.ownBlock]at hg
 ·have:g'=g:=by simpa[Value.ownBlock]using hg
  subst this;exact⟨cur,(0,0),hh⟩
theorem Keeps.own{base:Nat}(k:Keeps t w w')(h:w.ownsRow base t size v n xs):w'.ownsRow base t size v n xs:=by
 refine⟨h.1,?_⟩;rcases h.2 with h0|⟨g,cap,cur,e,hb,hh,hr⟩
 ·exact .inl h0
 ·exact .inr ⟨g,cap,cur,e,hb,k g cur (0,0) hh,hr⟩
end
theorem own_slice{w:World}{base size n:Nat}{t:TypeId}{v:Value}{xs:List Value}(h:w.ownsRow base t size v n xs): ∃A c,v= .slice A n c:=by
 rcases h.2 with⟨rfl,rfl⟩|⟨g,cap,cur,rfl,_⟩
 ·exact⟨none,0,rfl⟩
 ·exact⟨_,cap,rfl⟩
structure OPL(w:World)(B:Nat)(v:Value)(l:List Pr):Prop where
 own:w.ownsRow B 60 2 v l.length (cellsP l)
 fits:Fits l
theorem OPL.keeps{w w':World}{B:Nat}{v:Value}{l:List Pr}(h:OPL w B v l)(k:Keeps 60 w w'):OPL w' B v l:=⟨k.own h.own,h.fits⟩
theorem OPL.pl{w:World}{B:Nat}{v:Value}{l:List Pr}(h:OPL w B v l):PL w w.heap.size v l:=PL.of_own h.own h.fits
theorem OPL.form{w:World}{B:Nat}{v:Value}{l:List Pr}(h:OPL w B v l): ∃A c,v= .slice A l.length c:=h.pl.form
theorem OPL.base{w:World}{B B':Nat}{v:Value}{l:List Pr}(h:OPL w B v l)(hB:B'≤B):OPL w B' v l:=by
 refine⟨⟨h.own.1,?_⟩,h.fits⟩;rcases h.own.2 with h0|⟨g,cap,cur,e,hb,hh⟩
 ·exact .inl h0
 ·exact .inr ⟨g,cap,cur,e,Nat.le_trans hB hb,hh⟩
theorem OPL.nil_(w:World)(B:Nat):OPL w B (.slice none 0 0) []:=⟨World.ownsRow_nil _ _ _ _,by simp[Fits]⟩
def SesC(w:World)(B:Nat):List Value→List Se→Prop
 |cs,[]=>cs=[]
 |cs,s::ss=>∃a b c d rest,cs= .int .i64 s.st::a::b::c::d::rest∧OPL w B a s.set∧OPL w B b s.pre∧OPL w B c s.sav∧OPL w B d s.wri∧(-9223372036854775808≤s.st∧s.st≤9223372036854775807)∧SesC w B rest ss
structure OSL(w:World)(B:Nat)(v:Value)(ss:List Se)(cs:List Value):Prop where
 own:w.ownsRow B 133 5 v ss.length cs
 ses:SesC w B cs ss
theorem SesC.keeps{w w':World}{B:Nat}(k:Keeps 60 w w'): ∀{ss:List Se} {cs:List Value},SesC w B cs ss→SesC w' B cs ss
 |[],_,h=>h
 |_::_,_,⟨a,b,c,d,rest,e,h1,h2,h3,h4,h5,h6⟩=>⟨a,b,c,d,rest,e,h1.keeps k,h2.keeps k,h3.keeps k,h4.keeps k,h5,SesC.keeps k h6⟩
theorem SesC.snoc{w:World}{B:Nat}{s:Se}{a b c d:Value}(h1:OPL w B a s.set)(h2:OPL w B b s.pre)(h3:OPL w B c s.sav)(h4:OPL w B d s.wri)(h5: -9223372036854775808≤s.st∧s.st≤9223372036854775807):
  ∀{ss:List Se} {cs:List Value},SesC w B cs ss→SesC w B (cs++[.int .i64 s.st,a,b,c,d]) (ss++[s])
 |[],_,h=>by
  have h:_=_:=h;subst h;exact⟨a,b,c,d,[],rfl,h1,h2,h3,h4,h5,rfl⟩
 |_::ss,_,⟨a',b',c',d',rest,e,k1,k2,k3,k4,k5,k6⟩=>by
  subst e;exact⟨a',b',c',d',rest++[.int .i64 s.st,a,b,c,d],rfl,k1,k2,k3,k4,k5,SesC.snoc h1 h2 h3 h4 h5 k6⟩
theorem ses_info:(Tryz.prog.info? 133).map (fun i=>(i.zero,i.size,i.bytes))=some (some (.agg #[.int .i64 0,.slice none 0 0,.slice none 0 0,.slice none 0 0,.slice none 0 0]),5,104):=by kernel_rfl
theorem clone_own(w:World)(B:Nat)(v:Value)(l:List Pr)(h:PL w w.heap.size v l)(hB:B≤w.heap.size):
  Calls Tryz.prog 46 #[v] w fun e w'=>∃v',e= .returned v'∧OPL w' B v' l∧Below w.heap.size w w':=
 (clone_any w v l h).mono fun _ _ ⟨v',e,ho,hb⟩=>⟨v',e,(OPL.mk ho h.fits).base hB,hb⟩
theorem Blk.new1(w:World)(o:Obj)(t:TypeId)(cs:Array Value):Blk ((w.alloc o).alloc (.cells cs t)) (w.heap.size+1) t cs:=by
 have h:=Blk.new (w.alloc o) t cs;have e:(w.alloc o).heap.size=w.heap.size+1:=by simp
 rw[e]at h;exact h
theorem four_sets{w:World}{b:Nat}{t t':TypeId}{cs:Array Value}(h:Blk w b t cs)(hne:t≠t')(i j k l:Nat)(x y z u:Value):
  Keeps t' w ((((w.setCell ⟨b,i,none⟩ x).setCell ⟨b,j,none⟩ y).setCell ⟨b,k,none⟩ z).setCell ⟨b,l,none⟩ u):=
 (((Keeps.set_ (p:=⟨b,i,none⟩) h hne x).trans (Keeps.set_ (p:=⟨b,j,none⟩) (h.set_ i x) hne y)).trans (Keeps.set_ (p:=⟨b,k,none⟩) ((h.set_ i x).set_ j y) hne z)).trans (Keeps.set_ (p:=⟨b,l,none⟩) (((h.set_ i x).set_ j y).set_ k z) hne u)
theorem Reads.new_(w:World)(t:TypeId)(cs:Array Value){n size:Nat}(h:cs.size=n*size):Reads (w.alloc (.cells cs t)) (w.heap.size+1) size (some ⟨w.heap.size,0,none⟩) n cs.toList:=by
 refine⟨by simpa using h,fun _=>⟨_,rfl,Nat.lt_succ_self _,fun j u hu=>?_⟩⟩
 have hadd:(⟨w.heap.size,0,none⟩:Addr).add j=⟨w.heap.size,j,none⟩:=by unfold Addr.add;split<;>simp_all
 rw[hadd];exact((Blk.new w t cs).cell j).trans (by simpa using hu)
structure CopyAt(w wx:World)(O:Nat)(r v:Value)(cs:List Value)(W:Wo)(k:Nat):Prop where
 bel:Below w.heap.size w wx
 res:Blk wx (w.heap.size+1) 39 #[.slice none 0 0,.slice none 0 0]
 out:Blk wx O 39 #[r,v]
 lt:w.heap.size+1<O
 rows:OPL wx w.heap.size r W.rows
 ses:OSL wx w.heap.size v (W.ses.take k) cs
theorem CopyAt.keep{w wx wy:World}{O:Nat}{r v:Value}{cs:List Value}{W:Wo}{k:Nat}(h:CopyAt w wx O r v cs W k)(hb:Below wx.heap.size wx wy):CopyAt w wy O r v cs W k:=
 ⟨below_step h.bel leR hb,h.res.keep hb,h.out.keep hb,h.lt,h.rows.keeps (.of_below hb),⟨(Keeps.of_below hb).own h.ses.own,h.ses.ses.keeps (.of_below hb)⟩⟩
theorem CopyAt.set_{w wx:World}{O b:Nat}{r v:Value}{cs:List Value}{W:Wo}{k:Nat}(h:CopyAt w wx O r v cs W k)(hb:wx.heap.size≤b)(wy:World)(hk:Below wx.heap.size wx wy)(i:Nat)(u:Value):CopyAt w (wy.setCell ⟨b,i,none⟩ u) O r v cs W k:=
 h.keep (hk.setCell hb u)
theorem copy_step{w wc w5:World}{O k cv:Nat}{Av:Option Addr}{r v' a b c d:Value}{cs:List Value}{W:Wo}{t:Se}(M:CopyAt w wc O r (.slice Av k cv) cs W k)(htk:(W.ses.take k).length=k)(ht:W.ses.take (k+1)=W.ses.take k++[t])
  (o:Obj) (ha:OPL wc w.heap.size a t.set) (hb:OPL wc w.heap.size b t.pre) (hc:OPL wc w.heap.size c t.sav) (hd:OPL wc w.heap.size d t.wri) (hi: -9223372036854775808≤t.st∧t.st≤9223372036854775807)
  (hgr:(wc.alloc o).grownBy w5 (Value.slice Av k cv).ownBlock) (hown:w5.ownsRow w.heap.size 133 5 v' (k+1) (cs++[.int .i64 t.st,a,b,c,d])):
  Blk w5 O 39 #[r,.slice Av k cv]∧CopyAt w (w5.setCell ⟨O,1,none⟩ v') O r v' (cs++[.int .i64 t.st,a,b,c,d]) W (k+1):=by
 have own0:=M.ses.own;rw[htk]at own0;have own1:=own0.alloc o;have kp:Keeps 60 wc w5:=(Keeps.alloc wc o).trans (Keeps.grown (t':=133) hgr (own_row own1) (by decide))
 have out5:Blk w5 O 39 #[r,.slice Av k cv]:=(M.out.alloc o).grown hgr fun e=>own_blk_ne own1 (M.out.alloc o) (by decide) e.symm
 have res5:Blk w5 (w.heap.size+1) 39 #[.slice none 0 0,.slice none 0 0]:=(M.res.alloc o).grown hgr fun e=>own_blk_ne own1 (M.res.alloc o) (by decide) e.symm
 have bel5:Below w.heap.size w w5:=(M.bel.alloc M.bel.size o).grown hgr (Nat.le_trans M.bel.size (by simp)) fun g hg=>(own1.lt g hg).1
 have k2:Keeps 60 w5 (w5.setCell ⟨O,1,none⟩ v'):=Keeps.set_ (p:=⟨O,1,none⟩) out5 (by decide) v'
 have k3:Keeps 133 w5 (w5.setCell ⟨O,1,none⟩ v'):=Keeps.set_ (p:=⟨O,1,none⟩) out5 (by decide) v'
 have lt:=M.lt;refine⟨out5,bel5.setCell (by show w.heap.size≤O;omega) _,res5.far (by show w.heap.size+1≠O;omega) _,out5.set_ 1 v',M.lt,(M.rows.keeps kp).keeps k2,?_,?_⟩
 ·have e:(W.ses.take (k+1)).length=k+1:=by rw[ht,List.length_append,htk];rfl
  rw[e];exact k3.own hown
 ·rw[ht];have kk:=kp.trans k2;exact SesC.snoc (ha.keeps kk) (hb.keeps kk) (hc.keeps kk) (hd.keeps kk) hi (M.ses.ses.keeps kk)
theorem copy_any(w:World)(r s:Value)(W:Wo)(h:WL w w.heap.size r s W):
  Calls Tryz.prog 64 #[.agg #[r,s]] w fun e w'=>∃r' s' cs,e= .returned (.agg #[r',s'])∧OPL w' w.heap.size r' W.rows∧OSL w' w.heap.size s' W.ses cs∧Below w.heap.size w w':=by
 obtain⟨i0,hi0,hz0,hz1,hz2⟩:=info_parts ses_info;have HW:=Hd h;obtain⟨A,c,rfl,hc,hn,hs⟩:=h.ses;have HS:=Hd hs;clear h hs hc;obtain⟨n,hN⟩: ∃n,W.ses.length=n:=⟨_,rfl⟩;rw[hN]at hn⊢;have HN:=Hd hN;clear hN;go_enter func64,ntmps64
 go_wp2_with fail
 refine(clone_own _ w.heap.size _ W.rows ((HW.out.rows.below (boxed2 _ _ _)).more (by simp;omega)) (by simp;omega)).mono ?_
 rintro e w1 ⟨r1,rfl,hr1,hb1⟩;obtain⟨c0,d0⟩:=box2_cell hb1 0;obtain⟨c1,d1⟩:=box2_cell hb1 1;obtain⟨Ar,cr,rfl⟩:=hr1.form;have hz1':w.heap.size+2≤w1.heap.size:=by have:=hb1.size;simp at this;omega
 have hb:Below w.heap.size w w1:=(boxed2 w _ _).trans (hb1.mono (by simp;omega))
 have HR:=Hd hr1;have HB:=Hd hb;have HZ:=Hd hz1';have HB1:=Hd hb1;have l1:w.heap.size<w1.heap.size:=by omega
 have l2:w.heap.size+1<w1.heap.size:=by omega
 clear hb1 hr1 hb hz1';have M0:CopyAt w (w1.alloc (.cells #[.slice Ar W.rows.length cr,.slice none 0 0] 39)) w1.heap.size (.slice Ar W.rows.length cr) (.slice none 0 0) [] W 0:=
  ⟨HB.out.alloc HB.out.size _,((Blk.new1 w _ _ _).keep HB1.out).alloc _,Blk.new _ _ _,by omega,HR.out.keeps (.alloc _ _),⟨by rw[List.take_zero];exact World.ownsRow_nil _ _ _ _,by rw[List.take_zero];rfl⟩⟩
 have HM:=Hd M0;clear M0;go_wp2_with fail
 go_loopw [13] (fun i wx=>∃(k:Nat) (v:Value) (cs:List Value),k≤n∧i= .int .i64 k∧CopyAt w wx w1.heap.size (.slice Ar W.rows.length cr) v cs W k) (fun i _=>n-(intOf i).toNat)
 case atStart=>exact⟨0,_,_,Nat.zero_le _,rfl,HM.out⟩
 case round=>
  obtain⟨k,v,cs,hk,rfl,hM⟩:=hrel;by_cases hlt:k<n
  ·have hlt':k<W.ses.length:=by rw[HN.out];exact hlt
   obtain⟨ad,hA,hB,hse⟩:=HS.out (by omega)
   subst hA;have q:=(hse k hlt').below (by rw[block_of_add];exact hB) hM.bel
   obtain⟨t,ht⟩: ∃t,W.ses[k]=t:=⟨_,rfl⟩;rw[ht]at q;obtain⟨x0,⟨v1,x1,p1⟩,⟨v2,x2,p2⟩,⟨v3,x3,p3⟩,⟨v4,x4,p4⟩,i1,i2⟩:=q;obtain⟨A1,z1,rfl⟩:=p1.form;obtain⟨A2,z2,rfl⟩:=p2.form;obtain⟨A3,z3,rfl⟩:=p3.form;obtain⟨A4,z4,rfl⟩:=p4.form;have P1:=Hd p1;have P2:=Hd p2;have P3:=Hd p3;have P4:=Hd p4;have ht2:W.ses.take (k+1)=W.ses.take k++[t]:=by rw[←ht,List.take_succ_eq_append_getElem hlt']
   have HT:=Hd ht2;have HM:=Hd hM;have HI:=Hd (And.intro i1 i2);have g1:(k:Int)<(n:Int):=by omega
   have g2:(0:Int)≤(k:Int):=by omega
   have g3:=hM.bel.size;clear p1 p2 p3 p4 ht ht2 hse hM hB hlt' i1 i2 l1 l2 HR HB HZ HB1 c0 c1 d0 d1;go_upto_region 5 with fail
   go_cut [5] (fun p wc=>p= .pointer (some ⟨wr.heap.size,0,none⟩)∧∃a b c d,Blk wc wr.heap.size 133 #[.int .i64 t.st,a,b,c,d]∧OPL wc w.heap.size a t.set∧OPL wc w.heap.size b t.pre∧OPL wc w.heap.size c t.sav∧OPL wc w.heap.size d t.wri∧Below wr.heap.size wr wc)
   case first=>
    go_wp2_with fail
    obtain⟨b,hb0⟩: ∃b,wr.heap.size=b:=⟨_,rfl⟩;obtain⟨wq,hq⟩: ∃wq,wr.alloc (.cells #[.int .i64 t.st,.slice A1 t.set.length z1,.slice A2 t.pre.length z2,.slice A3 t.sav.length z3,.slice A4 t.wri.length z4] 133)=wq:=⟨_,rfl⟩;have hblk:=Blk.new wr 133 #[.int .i64 t.st,.slice A1 t.set.length z1,.slice A2 t.pre.length z2,.slice A3 t.sav.length z3,.slice A4 t.wri.length z4];have hbel:=boxed wr (.cells #[.int .i64 t.st,.slice A1 t.set.length z1,.slice A2 t.pre.length z2,.slice A3 t.sav.length z3,.slice A4 t.wri.length z4] 133);rw[hq]at hblk hbel⊢;have hwq:Below w.heap.size wr wq:=hbel.mono g3;rw[hb0]at hblk hbel⊢;have y1:wq.cell? ⟨b,1,none⟩=some (.slice A1 t.set.length z1):=hblk.cell 1;have y2:wq.cell? ⟨b,2,none⟩=some (.slice A2 t.pre.length z2):=hblk.cell 2;have y3:wq.cell? ⟨b,3,none⟩=some (.slice A3 t.sav.length z3):=hblk.cell 3;have y4:wq.cell? ⟨b,4,none⟩=some (.slice A4 t.wri.length z4):=hblk.cell 4;clear hq;have D0:Below w.heap.size wr wq.drew:=⟨hwq.os,hwq.tape,hwq.output,hwq.size,hwq.block⟩;have e0:w.heap.size≤wq.drew.heap.size:=Nat.le_trans g3 hwq.size;have hblk0:Blk wq.drew b 133 #[.int .i64 t.st,.slice A1 t.set.length z1,.slice A2 t.pre.length z2,.slice A3 t.sav.length z3,.slice A4 t.wri.length z4]:=hblk;have hbq:Below b wr wq.drew:=⟨hbel.os,hbel.tape,hbel.output,hbel.size,hbel.block⟩;have hb1:b≤wr.heap.size:=Nat.le_of_eq hb0.symm;have HB0:=Hd hb0;clear hblk hbel hwq hb0;refine region_late (fun w'=>w'.cell? ⟨b,1,none⟩=some (.slice A1 t.set.length z1)∧w'.cell? ⟨b,2,none⟩=some (.slice A2 t.pre.length z2)∧w'.cell? ⟨b,3,none⟩=some (.slice A3 t.sav.length z3)∧w'.cell? ⟨b,4,none⟩=some (.slice A4 t.wri.length z4)) [12,13,14,15,16,17,18,19] (by kernel_rfl) ?_
    refine anyL_take (by kernel_rfl) (fun _ _ d _ _ h=>by cases d<;>exact h) [(0,.pointer (some ⟨b,1,none⟩)),(1,.slice A1 t.set.length z1),(3,.pointer (some ⟨b,2,none⟩)),(4,.slice A2 t.pre.length z2),(6,.pointer (some ⟨b,3,none⟩)),(7,.slice A3 t.sav.length z3),(9,.pointer (some ⟨b,4,none⟩)),(10,.slice A4 t.wri.length z4)] 12 rfl (by kernel_rfl) ?_ ⟨y1,y2,y3,y4⟩ ?_
    ·iterate 8 (refine⟨?_,?_⟩;· exact Or.inl ⟨by rfl,fun w' hS=>by(obtain⟨s1,s2,s3,s4⟩:=hS;go_simp)⟩)
     exact trivial
    simp only[putAll,Act.put,List.getElem?_toArray,List.getElem?_cons_zero,List.getElem?_cons_succ,List.setIfInBounds_toArray,List.set_cons_zero,List.set_cons_succ];have HK0:=Hd (And.intro D0 (And.intro e0 (And.intro hblk0 hbq)));clear D0 e0 hblk0 hbq;refine anyL_one (i:=2) (by kernel_rfl) rfl (fun K hK=>?_)
    go_simp;refine(clone_own _ w.heap.size _ t.set ((P1.out.below HK0.out.1).more HK0.out.2.1) HK0.out.2.1).mono ?_;rintro e w1 ⟨u1,rfl,o1,b1⟩;have D1:=below_step HK0.out.1 g3 b1;have e1:w.heap.size≤w1.heap.size:=Nat.le_trans HK0.out.2.1 b1.size;have hblk1:=HK0.out.2.2.1.keep b1;have hbq1:=below_step HK0.out.2.2.2 hb1 b1;replace y1:=keep_cell b1 y1
    replace y2:=keep_cell b1 y2
    replace y3:=keep_cell b1 y3
    replace y4:=keep_cell b1 y4
    refine hK.out _ _ (fun _=>⟨y1,y2,y3,y4⟩) ?_;obtain⟨B1,q1,rfl⟩:=o1.form;have O1:=Hd o1;have BB1:=Hd b1;have HK1:=Hd (And.intro D1 (And.intro e1 (And.intro hblk1 hbq1)));clear hK K D1 e1 hblk1 hbq1 o1 b1;refine anyL_any_ (by kernel_rfl) (fun _ _ d _ _ h=>by cases d<;>exact h) [(12,.pointer (some ⟨b,1,none⟩))] 10 rfl (by kernel_rfl) ?_ ?_
    ·refine⟨?_,trivial⟩;exact Or.inl ⟨by rfl,fun w' _=>by go_simp⟩
    simp only[putAll,Act.put,List.getElem?_toArray,List.getElem?_cons_zero,List.getElem?_cons_succ,List.setIfInBounds_toArray,List.set_cons_zero,List.set_cons_succ];refine anyL_one (i:=5) (by kernel_rfl) rfl (fun K hK=>?_)
    go_simp;refine(clone_own _ w.heap.size _ t.pre ((P2.out.below HK1.out.1).more HK1.out.2.1) HK1.out.2.1).mono ?_;rintro e w2 ⟨u2,rfl,o2,b2⟩;have D2:=below_step HK1.out.1 g3 b2;have e2:w.heap.size≤w2.heap.size:=Nat.le_trans HK1.out.2.1 b2.size;have hblk2:=HK1.out.2.2.1.keep b2;have hbq2:=below_step HK1.out.2.2.2 hb1 b2;replace y1:=keep_cell b2 y1
    replace y2:=keep_cell b2 y2
    replace y3:=keep_cell b2 y3
    replace y4:=keep_cell b2 y4
    refine hK.out _ _ (fun _=>⟨y1,y2,y3,y4⟩) ?_;obtain⟨B2,q2,rfl⟩:=o2.form;have O2:=Hd o2;have BB2:=Hd b2;have HK2:=Hd (And.intro D2 (And.intro e2 (And.intro hblk2 hbq2)));clear hK K D2 e2 hblk2 hbq2 o2 b2;refine anyL_one (i:=8) (by kernel_rfl) rfl (fun K hK=>?_)
    go_simp;refine(clone_own _ w.heap.size _ t.sav ((P3.out.below HK2.out.1).more HK2.out.2.1) HK2.out.2.1).mono ?_;rintro e w3 ⟨u3,rfl,o3,b3⟩;have D3:=below_step HK2.out.1 g3 b3;have e3:w.heap.size≤w3.heap.size:=Nat.le_trans HK2.out.2.1 b3.size;have hblk3:=HK2.out.2.2.1.keep b3;have hbq3:=below_step HK2.out.2.2.2 hb1 b3;replace y1:=keep_cell b3 y1
    replace y2:=keep_cell b3 y2
    replace y3:=keep_cell b3 y3
    replace y4:=keep_cell b3 y4
    refine hK.out _ _ (fun _=>⟨y1,y2,y3,y4⟩) ?_;obtain⟨B3,q3,rfl⟩:=o3.form;have O3:=Hd o3;have BB3:=Hd b3;have HK3:=Hd (And.intro D3 (And.intro e3 (And.intro hblk3 hbq3)));clear hK K D3 e3 hblk3 hbq3 o3 b3;refine anyL_one (i:=11) (by kernel_rfl) rfl (fun K hK=>?_)
    go_simp;refine(clone_own _ w.heap.size _ t.wri ((P4.out.below HK3.out.1).more HK3.out.2.1) HK3.out.2.1).mono ?_;rintro e w4 ⟨u4,rfl,o4,b4⟩;have D4:=below_step HK3.out.1 g3 b4;have e4:w.heap.size≤w4.heap.size:=Nat.le_trans HK3.out.2.1 b4.size;have hblk4:=HK3.out.2.2.1.keep b4;have hbq4:=below_step HK3.out.2.2.2 hb1 b4;replace y1:=keep_cell b4 y1
    replace y2:=keep_cell b4 y2
    replace y3:=keep_cell b4 y3
    replace y4:=keep_cell b4 y4
    refine hK.out _ _ (fun _=>⟨y1,y2,y3,y4⟩) ?_;obtain⟨B4,q4,rfl⟩:=o4.form;have O4:=Hd o4;have BB4:=Hd b4;have HK4:=Hd (And.intro D4 (And.intro e4 (And.intro hblk4 hbq4)));clear hK K D4 e4 hblk4 hbq4 o4 b4;have F: ∀i,w4.frozen? ⟨b,i,none⟩=false:=HK4.out.2.2.1.frozen;refine anyL_one (i:=13) (by kernel_rfl) rfl (fun K hK=>?_)
    go_simp;refine hK.out _ _ (fun h=>absurd (by decide) h) ?_
    clear hK K;refine anyL_one (i:=14) (by kernel_rfl) rfl (fun K hK=>?_)
    go_simp;refine hK.out _ _ (fun h=>absurd (by decide) h) ?_
    clear hK K;refine anyL_one (i:=15) (by kernel_rfl) rfl (fun K hK=>?_)
    go_simp;refine hK.out _ _ (fun h=>absurd (by decide) h) ?_
    clear hK K;refine anyL_one (i:=16) (by kernel_rfl) rfl (fun K hK=>?_)
    go_simp;refine hK.out _ _ (fun h=>absurd (by decide) h) ?_
    clear hK K;refine anyL_one (i:=17) (by kernel_rfl) rfl (fun K hK=>?_)
    go_simp;refine hK.out _ _ (fun h=>absurd (by decide) h) ?_
    clear hK K;refine anyL_one (i:=18) (by kernel_rfl) rfl (fun K hK=>?_)
    go_simp;refine hK.out _ _ (fun h=>absurd (by decide) h) ?_
    clear hK K;refine anyL_one (i:=19) (by kernel_rfl) rfl (fun K hK=>?_)
    go_simp;refine hK.out _ _ (fun h=>absurd (by decide) h) ?_
    clear hK K;refine anyL_done (by kernel_rfl) ?_ _
    clear y1 y2 y3 y4 F;go_wp2_with fail
    go_meet;have k4:=four_sets HK4.out.2.2.1 (t':=60) (by decide) 1 2 3 4 (.slice B1 t.set.length q1) (.slice B2 t.pre.length q2) (.slice B3 t.sav.length q3) (.slice B4 t.wri.length q4)
    rw[HB0.out];refine⟨rfl,.slice B1 t.set.length q1,.slice B2 t.pre.length q2,.slice B3 t.sav.length q3,.slice B4 t.wri.length q4,?_,?_,?_,?_,?_,?_⟩
    ·exact(((HK4.out.2.2.1.set_ 1 _).set_ 2 _).set_ 3 _).set_ 4 _
    ·exact((((O1.out.keeps (.of_below BB2.out)).keeps (.of_below BB3.out)).keeps (.of_below BB4.out))).keeps k4
    ·exact(((O2.out.keeps (.of_below BB3.out)).keeps (.of_below BB4.out))).keeps k4
    ·exact(O3.out.keeps (.of_below BB4.out)).keeps k4
    ·exact O4.out.keeps k4
    ·exact(((HK4.out.2.2.2.setCell leR _).setCell leR _).setCell leR _).setCell leR _
   case rest=>
    obtain⟨rfl,a,b,c',d,hblk,o1,o2,o3,o4,hbel⟩:=hcut;have M:=HM.out.keep hbel;have htk:(W.ses.take k).length=k:=by rw[List.length_take,HN.out];omega
    obtain⟨A1',z1',rfl⟩:=o1.form;obtain⟨A2',z2',rfl⟩:=o2.form;obtain⟨A3',z3',rfl⟩:=o3.form;obtain⟨A4',z4',rfl⟩:=o4.form;have hown:=M.ses.own;rw[htk]at hown;obtain⟨Av,cv,rfl⟩:=own_slice hown;have ys:=hblk.cell 0;have ys1:=hblk.cell 1;have ys2:=hblk.cell 2;have ys3:=hblk.cell 3;have ys4:=hblk.cell 4;have yo:=M.out.cell 1;have fo:=M.out.frozen;have lo:=M.out.lt;have lb:=hblk.lt;have hOwn:=Hd (hown.alloc (.cells #[.int .i64 t.st,.slice A1' t.set.length z1',.slice A2' t.pre.length z2',.slice A3' t.sav.length z3',.slice A4' t.wri.length z4'] 133));have HTK:=Hd htk;have HO:=Hd (And.intro o1 (And.intro o2 (And.intro o3 o4)));have HBL:=Hd hbel;have HM2:=Hd M;clear hown o1 o2 o3 o4 hbel M hblk HM htk;go_wp2_with (at_builtin;refine wpList_append_any _ rfl (.tmp 34) (.tmp 36) 37 rfl w.heap.size 133 i0 _ 5 104 underlying37 hi0 hz0 hz1 hz2 rfl (by decide) (.slice Av k cv) k cs rfl hOwn.out (wc.heap.size+1) (some ⟨wc.heap.size,0,none⟩) 1 1 [.int .i64 t.st,.slice A1' t.set.length z1',.slice A2' t.pre.length z2',.slice A3' t.sav.length z3',.slice A4' t.wri.length z4'] rfl (Reads.new_ wc _ #[_,_,_,_,_] rfl) (by intro u hu;simp only[List.mem_cons,List.not_mem_nil,or_false]at hu;rcases hu with rfl|rfl|rfl|rfl|rfl<;>rfl) (by unfold maxLen;omega) (by omega) (Nat.le_trans HM2.out.bel.size (by simp)) ?_;rotate_right;skip)
    intro v' w5 hown5 hgr hat;have st:=copy_step HM2.out HTK.out HT.out _ HO.out.1 HO.out.2.1 HO.out.2.2.1 HO.out.2.2.2 HI.out hgr hown5;obtain⟨Av',cv',rfl⟩:=own_slice hown5;have yo5:=st.1.cell 1;have fo5:=st.1.frozen;have ST:=Hd st.2;clear st hown5 hgr hat hOwn;go_wp2_with fail
    go_roundw
    case rel=>exact⟨k+1,_,_,by omega,by go_num,ST.out⟩
    case measure=>simp[intOf];omega
  ·obtain rfl:k=n:=by omega
   have htk:W.ses.take k=W.ses:=List.take_of_length_le (by rw[HN.out];exact Nat.le_refl _)
   have hown:=hM.ses.own;have hses:=hM.ses.ses;rw[htk]at hown hses;obtain⟨Av,cv,rfl⟩:=own_slice hown;have y0:=hM.out.cell 0;have y1:=hM.out.cell 1;have x0:=hM.res.cell 0;have x1:=hM.res.cell 1;have fx:=hM.res.frozen;have lo:=hM.lt;have no1:w1.heap.size≠w.heap.size+1:=by omega
   have k2:Keeps 60 wr ((wr.setCell ⟨w.heap.size+1,0,none⟩ (.slice Ar W.rows.length cr)).setCell ⟨w.heap.size+1,1,none⟩ (.slice Av W.ses.length cv)):=
    (Keeps.set_ (p:=⟨w.heap.size+1,0,none⟩) hM.res (by decide) _).trans (Keeps.set_ (p:=⟨w.heap.size+1,1,none⟩) (hM.res.set_ 0 _) (by decide) _)
   have k3:Keeps 133 wr ((wr.setCell ⟨w.heap.size+1,0,none⟩ (.slice Ar W.rows.length cr)).setCell ⟨w.heap.size+1,1,none⟩ (.slice Av W.ses.length cv)):=
    (Keeps.set_ (p:=⟨w.heap.size+1,0,none⟩) hM.res (by decide) _).trans (Keeps.set_ (p:=⟨w.heap.size+1,1,none⟩) (hM.res.set_ 0 _) (by decide) _)
   have FIN:=Hd (And.intro (hM.rows.keeps k2) (And.intro (OSL.mk (k3.own hown) (hses.keeps k2)) ((hM.bel.setCell (show w.heap.size≤(⟨w.heap.size+1,0,none⟩:Addr).block from Nat.le_succ _) (.slice Ar W.rows.length cr)).setCell (show w.heap.size≤(⟨w.heap.size+1,1,none⟩:Addr).block from Nat.le_succ _) (.slice Av W.ses.length cv))));have bl:=Hd hM.res;clear htk hown hses k2 k3 hM HM;go_wp2_with fail
   have hb2:=(bl.out.set_ 0 (.slice Ar W.rows.length cr)).set_ 1 (.slice Av W.ses.length cv);have q0:=hb2.cell 0;have q1:=hb2.cell 1;clear y0 y1 x0 x1 fx;refine bodyPost_ret (v:=.agg #[.slice Ar W.rows.length cr,.slice Av W.ses.length cv]) ?_ rfl ⟨_,_,cs,rfl,FIN.out.1,FIN.out.2.1,FIN.out.2.2⟩;simp[results,results64,go_sem,q0,q1]
theorem SesC.at_{w:World}{B:Nat}: ∀{ss:List Se} {cs:List Value},SesC w B cs ss→∀(i:Nat) (h:i<ss.length),∃a b c d,cs[i*5]? =some (.int .i64 ss[i].st)∧cs[i*5+1]? =some a∧cs[i*5+2]? =some b∧cs[i*5+3]? =some c∧cs[i*5+4]? =some d∧
  OPL w B a ss[i].set∧OPL w B b ss[i].pre∧OPL w B c ss[i].sav∧OPL w B d ss[i].wri∧(-9223372036854775808≤ss[i].st∧ss[i].st≤9223372036854775807)
 |s::ss,_,⟨a,b,c,d,rest,e,h1,h2,h3,h4,h5,h6⟩,i,h=>by
  subst e;rcases i with _|i
  ·exact⟨a,b,c,d,rfl,rfl,rfl,rfl,rfl,h1,h2,h3,h4,h5⟩
  ·obtain⟨a',b',c',d',k0,k1,k2,k3,k4,r⟩:=SesC.at_ h6 i (by simpa using h)
   have e:(i+1)*5=i*5+5:=by omega
   rw[e];exact⟨a',b',c',d',by simpa using k0,by simpa[Nat.add_right_comm]using k1,by simpa[Nat.add_right_comm]using k2,by simpa[Nat.add_right_comm]using k3,by simpa[Nat.add_right_comm]using k4,r⟩
theorem OSL.sl{w:World}{B:Nat}{v:Value}{ss:List Se}{cs:List Value}(h:OSL w B v ss cs)(hz:ss.length≤1353245080300):SL w w.heap.size v ss:=by
 rcases h.own.2 with⟨rfl,h0⟩|⟨g,cap,cur,hv,_,_,hn,_⟩
 ·exact⟨none,0,by rw[h0],by omega,hz,fun hp=>by omega⟩
 ·subst hv;refine⟨_,cap,rfl,hn,hz,fun hp=>⟨⟨g,0,none⟩,rfl,(h.own.lt g rfl).2,fun i hi=>?_⟩⟩;obtain⟨a,b,c,d,k0,k1,k2,k3,k4,o1,o2,o3,o4,o5⟩:=SesC.at_ h.ses i hi;have hc:=h.own.cells (g:=g) rfl;have e1: ∀j,(⟨((⟨g,0,none⟩:Addr).add (i*5)).block,((⟨g,0,none⟩:Addr).add (i*5)).off+(j+1),none⟩:Addr)=(⟨g,0,none⟩:Addr).add (i*5+(j+1)):=by
   intro j;have hadd: ∀n,(⟨g,0,none⟩:Addr).add n=⟨g,n,none⟩:=fun n=>by unfold Addr.add;split<;>simp_all
   rw[hadd,hadd]
  exact⟨hc _ _ k0,⟨a,by rw[e1 0];exact hc _ _ k1,o1.pl⟩,⟨b,by rw[e1 1];exact hc _ _ k2,o2.pl⟩,⟨c,by rw[e1 2];exact hc _ _ k3,o3.pl⟩,⟨d,by rw[e1 3];exact hc _ _ k4,o4.pl⟩,o5⟩
end Go.Proofs.YtjbnfigpflambacGreatDoor
