/- The front of a pool. The pool's sessions. The pool in memory. Reference's at and isHeld. All rows of a world. Reference's no and found. Conditions: those of each lemma. -/
import Derived.Test.YtjbnfigpflambacGreatDoorH01
import Derived.Lib.AppendStr
import Derived.Deep.CutBlock
namespace Go.Proofs.YtjbnfigpflambacGreatDoor
set_option maxRecDepth 100000
set_option maxHeartbeats 16000000
open _root_.Go.Proofs.Tryz
structure Cl where
 bytes:ByteArray
 pend:List (St × Bool)
 srv:Int
 sent:ByteArray
def Cl.new:Cl:=⟨⟨#[]⟩,[],-1,⟨#[]⟩⟩
structure De where
 c:Nat
 x:St
 a:An
structure Fr where
 mode:Int
 owner:List Int
 cl:List Cl
 wait:List Nat
 deeds:List De
structure Bh(β:Type) where
 act:β→Nat→Nat→St→β × An
 bind:β→Nat→Nat→β
 free:β→Nat→Nat→β
 st:β→Nat→Int
 gone:β→Nat→Int→β
def Fr.c(f:Fr)(i:Nat):Cl:=f.cl.getD i Cl.new
def Fr.set(f:Fr)(i:Nat)(x:Cl):Fr:=⟨f.mode,f.owner,f.cl.set i x,f.wait,f.deeds⟩
def needs(f:Fr)(i:Nat):Bool:=
 match (f.c i).pend with
 |[]=>true
 |(x,bad)::_=>!bad&&(decide (f.mode≠3)||decide (x.k≠1))
def busy(f:Fr)(i:Nat):Bool:=!(f.c i).pend.isEmpty
def ready(f:Fr)(i:Nat):Bool:=busy f i&&(decide (0≤(f.c i).srv)||!needs f i)
def pickF(f:Fr):Option Nat:=(List.range 6).find? (ready f)
def tNotUnd:ByteArray:=⟨#[110,111,116,32,117,110,100,101,114,115,116,111,111,100]⟩
def tNotMode:ByteArray:=⟨#[110,111,116,32,105,110,32,116,104,105,115,32,109,111,100,101]⟩
def tellM(a:An):ByteArray:=packS 82 (tellS a.kind a.text a.st)
def Cl.tell(x:Cl)(a:An):Cl:=⟨x.bytes,x.pend,x.srv,x.sent++tellM a⟩
def Fr.tell(f:Fr)(i:Nat)(a:An):Fr:=f.set i ((f.c i).tell a)
def Fr.drop(f:Fr)(i:Nat):Fr:=f.set i ⟨(f.c i).bytes,(f.c i).pend.tail,(f.c i).srv,(f.c i).sent⟩
def Fr.deed(f:Fr)(d:De):Fr:=⟨f.mode,f.owner,f.cl,f.wait,f.deeds++[d]⟩
def Fr.freeS(f:Fr)(i:Nat):Fr:=⟨f.mode,f.owner.set (f.c i).srv.toNat (-1),f.cl.set i ⟨(f.c i).bytes,(f.c i).pend,-1,(f.c i).sent⟩,f.wait,f.deeds⟩
def Fr.bindS(f:Fr)(s i:Nat):Fr:=⟨f.mode,f.owner.set s (i:Int),f.cl.set i ⟨(f.c i).bytes,(f.c i).pend,(s:Int),(f.c i).sent⟩,f.wait,f.deeds⟩
section
variable {β:Type}(B:Bh β)
def nextM(z:Fr × β)(i:Nat):Fr × β:=
 match (z.1.c i).pend with
 |[]=>z
 |(x,bad)::_=>
  if bad=true then((z.1.drop i).tell i ⟨4,tNotUnd,B.st z.2 i⟩,z.2)
  else if z.1.mode=3∧x.k=1 then((z.1.drop i).tell i ⟨4,tNotMode,B.st z.2 i⟩,z.2)
  else
   let r:=B.act z.2 i (z.1.c i).srv.toNat x
   let f:=((z.1.drop i).deed ⟨i,x,r.2⟩).tell i r.2
   if z.1.mode≠1∧r.2.st=0 then(f.freeS i,B.free r.1 i (z.1.c i).srv.toNat)else(f,r.1)
theorem next_nil(z:Fr × β)(i:Nat)(h:(z.1.c i).pend=[]):nextM B z i=z:=by unfold nextM;rw[h]
theorem next_bad(z:Fr × β)(i:Nat){x:St}{l:List (St × Bool)}(h:(z.1.c i).pend=(x,true)::l):nextM B z i=((z.1.drop i).tell i ⟨4,tNotUnd,B.st z.2 i⟩,z.2):=by
 unfold nextM;rw[h];rfl
theorem next_mode(z:Fr × β)(i:Nat){x:St}{l:List (St × Bool)}(h:(z.1.c i).pend=(x,false)::l)(hm:z.1.mode=3∧x.k=1):nextM B z i=((z.1.drop i).tell i ⟨4,tNotMode,B.st z.2 i⟩,z.2):=by
 unfold nextM;rw[h];simp only[Bool.false_eq_true,if_false];rw[if_pos hm]
def doneF(f:Fr)(i:Nat)(x:St)(a:An):Fr:=((f.drop i).deed ⟨i,x,a⟩).tell i a
theorem next_act(z:Fr × β)(i:Nat){x:St}{l:List (St × Bool)}(h:(z.1.c i).pend=(x,false)::l)(hm:¬ (z.1.mode=3∧x.k=1)):
  nextM B z i=if z.1.mode≠1∧(B.act z.2 i (z.1.c i).srv.toNat x).2.st=0
   then((doneF z.1 i x (B.act z.2 i (z.1.c i).srv.toNat x).2).freeS i,B.free (B.act z.2 i (z.1.c i).srv.toNat x).1 i (z.1.c i).srv.toNat)
   else(doneF z.1 i x (B.act z.2 i (z.1.c i).srv.toNat x).2,(B.act z.2 i (z.1.c i).srv.toNat x).1):=by
 unfold nextM;rw[h];simp only[Bool.false_eq_true,if_false];rw[if_neg hm];rfl
def queueF(f:Fr):Fr:=⟨f.mode,f.owner,f.cl,f.wait++(List.range 6).filter (fun i=>busy f i&&!f.wait.contains i),f.deeds⟩
def idleF(o:List Int):Option Nat:=(List.range o.length).find? fun s=>decide (o.getD s 0= -1)
def Fr.unwait(f:Fr):Fr:=⟨f.mode,f.owner,f.cl,f.wait.tail,f.deeds⟩
def stepM(z:Fr × β):(Fr × β) × Bool:=
 match pickF z.1 with
 |some i=>(nextM B z i,true)
 |none=>
  match (queueF z.1).wait,idleF (queueF z.1).owner with
  |i::_,some s=>(((queueF z.1).unwait.bindS s i,B.bind z.2 s i),true)
  |_,_=>((queueF z.1,z.2),false)
end
section
variable {β:Type}(B:Bh β)
theorem step_next(z:Fr × β){i:Nat}(h:pickF z.1=some i):stepM B z=(nextM B z i,true):=by unfold stepM;rw[h]
theorem step_bind(z:Fr × β)(h:pickF z.1=none){i s:Nat}{l:List Nat}(hw:(queueF z.1).wait=i::l)(hs:idleF z.1.owner=some s):stepM B z=(((queueF z.1).unwait.bindS s i,B.bind z.2 s i),true):=by
 unfold stepM;have hs:idleF (queueF z.1).owner=some s:=hs;rw[h];simp only;rw[hw,hs]
theorem step_stop(z:Fr × β)(h:pickF z.1=none)(hw:(queueF z.1).wait=[]∨idleF z.1.owner=none):stepM B z=((queueF z.1,z.2),false):=by
 unfold stepM;rw[h];simp only;have e:(queueF z.1).owner=z.1.owner:=rfl;rw[e];rcases hw with hw|hw
 ·rw[hw]
 ·rw[hw];cases (queueF z.1).wait<;>rfl
end
def pendN(f:Fr):Nat:=(f.cl.map fun x=>x.pend.length).sum
def freeN(f:Fr):Nat:=f.owner.countP fun s=>decide (s= -1)
def mu(f:Fr):Nat:=(f.owner.length+1)*pendN f+freeN f
theorem sum_set(l:List Nat): ∀(i:Nat) (h:i<l.length) (x:Nat),(l.set i x).sum+l[i]=l.sum+x:=by
 induction l with
 |nil=>intro i h;simp at h
 |cons a l ih=>
  intro i h x;rcases i with _|i
  ·simp;omega
  ·have:=ih i (by simpa using h) x
   simp only[List.set_cons_succ,List.sum_cons,List.getElem_cons_succ];omega
theorem c_set(f:Fr){i:Nat}(hi:i<f.cl.length)(x:Cl)(j:Nat):(f.set i x).c j=if j=i then x else f.c j:=by
 unfold Fr.set Fr.c;rw[List.getD_eq_getElem?_getD,List.getElem?_set,List.getD_eq_getElem?_getD];by_cases h:i=j
 ·subst h;simp[hi]
 ·rw[if_neg h,if_neg (fun e=>h e.symm)]
theorem c_at{f:Fr}{i:Nat}(hi:i<f.cl.length):f.c i=f.cl[i]:=getD_at hi _
theorem c_out{f:Fr}{i:Nat}(hi:f.cl.length≤i):f.c i=Cl.new:=by
 unfold Fr.c;rw[List.getD_eq_getElem?_getD,List.getElem?_eq_none hi];rfl
theorem pendN_set(f:Fr){i:Nat}(hi:i<f.cl.length)(x:Cl):pendN (f.set i x)+(f.c i).pend.length=pendN f+x.pend.length:=by
 unfold pendN Fr.set;rw[List.map_set];have:=sum_set (f.cl.map fun x=>x.pend.length) i (by simpa using hi) x.pend.length
 rw[List.getElem_map]at this;rw[c_at hi];exact this
theorem busy_lt{f:Fr}{i:Nat}(h:busy f i=true):i<f.cl.length:=by
 rcases Nat.lt_or_ge i f.cl.length with h'|h'
 ·exact h'
 ·unfold busy at h;rw[c_out h']at h;simp[Cl.new]at h
theorem count_take(o:List Int)(s:Nat)(hs:s<o.length)(h:o.getD s 0= -1)(i:Nat):(o.set s (i:Int)).countP (fun s=>decide (s= -1))+1=o.countP (fun s=>decide (s= -1)):=by
 induction o generalizing s with
 |nil=>simp at hs
 |cons a o ih=>
  rcases s with _|s
  ·have ha:a= -1:=by simpa using h
   subst ha;have hi:¬ ((i:Int)= -1):=by omega
   simp only[List.set_cons_zero,List.countP_cons,hi,decide_false,decide_true,if_true];simp
  ·have:=ih s (by simpa using hs) (by simpa using h)
   simp only[List.set_cons_succ,List.countP_cons];omega
theorem count_le(o:List Int):o.countP (fun s=>decide (s= -1))≤o.length:=List.countP_le_length
section
variable {β:Type}(B:Bh β)
theorem pick_ready{f:Fr}{i:Nat}(h:pickF f=some i):ready f i=true∧i<6:=
 ⟨List.find?_some h,List.mem_range.1 (List.mem_of_find?_eq_some h)⟩
theorem ready_busy{f:Fr}{i:Nat}(h:ready f i=true):busy f i=true:=by
 unfold ready at h;rw[Bool.and_eq_true]at h;exact h.1
theorem pendN_tell(f:Fr)(i:Nat)(hi:i<f.cl.length)(a:An):pendN (f.tell i a)=pendN f:=by
 have:=pendN_set f hi ((f.c i).tell a);unfold Fr.tell;have e:((f.c i).tell a).pend=(f.c i).pend:=rfl;rw[e]at this;omega
theorem len_set(f:Fr)(i:Nat)(x:Cl):(f.set i x).cl.length=f.cl.length:=List.length_set
theorem len_tell(f:Fr)(i:Nat)(a:An):(f.tell i a).cl.length=f.cl.length:=List.length_set
theorem len_drop(f:Fr)(i:Nat):(f.drop i).cl.length=f.cl.length:=List.length_set
theorem pendN_free(f:Fr)(i:Nat)(hi:i<f.cl.length):pendN (f.freeS i)=pendN f:=by
 have:=pendN_set f hi ⟨(f.c i).bytes,(f.c i).pend,-1,(f.c i).sent⟩;have e:pendN (f.freeS i)=pendN (f.set i ⟨(f.c i).bytes,(f.c i).pend,-1,(f.c i).sent⟩):=rfl;rw[e];simp only at this;omega
theorem pendN_bind(f:Fr)(s i:Nat)(hi:i<f.cl.length):pendN (f.bindS s i)=pendN f:=by
 have:=pendN_set f hi ⟨(f.c i).bytes,(f.c i).pend,(s:Int),(f.c i).sent⟩;have e:pendN (f.bindS s i)=pendN (f.set i ⟨(f.c i).bytes,(f.c i).pend,(s:Int),(f.c i).sent⟩):=rfl;rw[e];simp only at this;omega
theorem pendN_drop(f:Fr)(i:Nat)(h:busy f i=true):pendN (f.drop i)+1=pendN f:=by
 have hi:=busy_lt h;have:=pendN_set f hi ⟨(f.c i).bytes,(f.c i).pend.tail,(f.c i).srv,(f.c i).sent⟩;have e:pendN (f.drop i)=pendN (f.set i ⟨(f.c i).bytes,(f.c i).pend.tail,(f.c i).srv,(f.c i).sent⟩):=rfl;rw[e];have hp:(f.c i).pend.length≠0:=by
  unfold busy at h;intro h0;rw[List.length_eq_zero_iff]at h0;rw[h0]at h;simp at h
 simp only[List.length_tail]at this;omega
theorem next_pend(z:Fr × β)(i:Nat)(h:busy z.1 i=true):pendN (nextM B z i).1+1=pendN z.1∧(nextM B z i).1.owner.length=z.1.owner.length:=by
 have hi:=busy_lt h;have hd:=pendN_drop z.1 i h;unfold nextM;split
 ·rename_i e;unfold busy at h;rw[e]at h;simp at h
 ·rename_i x bad rest e;split
  ·exact⟨by rw[pendN_tell _ _ (by rw[len_drop];exact hi)];exact hd,rfl⟩
  split
  ·exact⟨by rw[pendN_tell _ _ (by rw[len_drop];exact hi)];exact hd,rfl⟩
  ·have h1: ∀(d:De) (a:An),pendN (((z.1.drop i).deed d).tell i a)+1=pendN z.1:=fun d a=>by
    rw[pendN_tell ((z.1.drop i).deed d) i (by show i<(z.1.drop i).cl.length;rw[len_drop];exact hi)]
    exact hd
   simp only;split
   ·refine⟨?_,List.length_set⟩;rw[pendN_free _ _ (by rw[len_tell];show i<(z.1.drop i).cl.length;rw[len_drop];exact hi)]
    exact h1 _ _
   ·exact⟨h1 _ _,rfl⟩
theorem idle_at{o:List Int}{s:Nat}(h:idleF o=some s):s<o.length∧o.getD s 0= -1:=
 ⟨List.mem_range.1 (List.mem_of_find?_eq_some h),by simpa using List.find?_some h⟩
theorem step_mu(z:Fr × β)(h:(stepM B z).2=true):mu (stepM B z).1.1<mu z.1:=by
 unfold stepM at h⊢;split at h
 ·rename_i i hp;obtain⟨h1,h2⟩:=next_pend B z i (ready_busy (pick_ready hp).1);simp only;unfold mu;rw[h2,←h1];have:=count_le (nextM B z i).1.owner;rw[h2]at this;unfold freeN;rw[Nat.mul_add];omega
 ·rename_i hp;split at h
  ·rename_i i rest s hw hs;simp only;obtain⟨h1,h2⟩:=idle_at hs;have hc:=count_take _ s h1 h2 i;have e1:((queueF z.1).unwait.bindS s i).owner=(queueF z.1).owner.set s (i:Int):=rfl;have e2:(queueF z.1).owner=z.1.owner:=rfl;unfold mu freeN;rw[e1,List.length_set];have e3:pendN ((queueF z.1).unwait.bindS s i)=pendN z.1:=by
    by_cases hi:i<z.1.cl.length
    ·exact pendN_bind (queueF z.1).unwait s i hi
    ·unfold pendN Fr.bindS Fr.unwait queueF;simp only;rw[List.set_eq_of_length_le (by omega)]
   rw[e3,e2];rw[e2]at hc;omega
  ·cases h
def pumpM(z:Fr × β):Fr × β:=
 if _h:(stepM B z).2=true then pumpM (stepM B z).1 else(stepM B z).1
termination_by mu z.1
decreasing_by exact step_mu B z _h
theorem pump_go(z:Fr × β)(h:(stepM B z).2=true):pumpM B z=pumpM B (stepM B z).1:=by
 rw[pumpM,dif_pos h]
theorem pump_end(z:Fr × β)(h:(stepM B z).2=false):pumpM B z=(stepM B z).1:=by
 rw[pumpM,dif_neg (by rw[h];simp)]
theorem pump_keeps(I:Fr × β→Prop)(hI: ∀z,I z→I (stepM B z).1): ∀(n:Nat) (z:Fr × β),mu z.1≤n→I z→I (pumpM B z):=by
 intro n;induction n with
 |zero=>
  intro z hn hz;cases h:(stepM B z).2 with
  |true=>have:=step_mu B z h;omega
  |false=>rw[pump_end B z h];exact hI z hz
 |succ n ih=>
  intro z hn hz;cases h:(stepM B z).2 with
  |true=>
   rw[pump_go B z h];exact ih _ (by have:=step_mu B z h;omega) (hI z hz)
  |false=>rw[pump_end B z h];exact hI z hz
def closeM(z:Fr × β)(i:Nat):Fr × β:=
 (⟨z.1.mode,if 0≤(z.1.c i).srv then z.1.owner.set (z.1.c i).srv.toNat (-1)else z.1.owner,z.1.cl.set i ⟨⟨#[]⟩,[],-1,(z.1.c i).sent⟩,z.1.wait.filter (fun j=>!decide (j=i)),z.1.deeds⟩,B.gone z.2 i (z.1.c i).srv)
end
def askedOf(s:ByteArray):St × Bool:=(readS (textAt s),!decide (kindAt s=81)||!decide (readE (textAt s)=0))
def feedC(x:Cl):Cl × Bool:=
 if _h:wholeB x.bytes=true then
  if kindAt x.bytes=88 then(⟨restAt x.bytes,x.pend,x.srv,x.sent⟩,true)
  else feedC ⟨restAt x.bytes,x.pend++[askedOf x.bytes],x.srv,x.sent⟩
 else(x,false)
termination_by x.bytes.size
decreasing_by exact rest_lt _h
section
variable {β:Type}(B:Bh β)
def pourC(x:Cl)(data:ByteArray):Cl × Bool:=feedC ⟨x.bytes++data,x.pend,x.srv,x.sent⟩
def deliverM(z:Fr × β)(i:Nat)(data:ByteArray):Fr × β:=
 let r:=pourC (z.1.c i) data
 if r.2=true then pumpM B (closeM B (pumpM B (z.1.set i r.1,z.2)) i)else pumpM B (z.1.set i r.1,z.2)
structure Ac where
 kind:Int
 c:Int
 data:ByteArray
def actM(z:Fr × β)(a:Ac):Fr × β:=if a.kind=2 then pumpM B (closeM B z a.c.toNat)else deliverM B z a.c.toNat a.data
def runM(z:Fr × β)(l:List Ac):Fr × β:=l.foldl (actM B) z
end
def startF(mode:Int)(servers:Nat):Fr:=⟨mode,List.replicate servers (-1),List.replicate 6 Cl.new,[],[]⟩
structure Ow where
 set:List Pr
 pre:List Pr
 sav:List Pr
 st:Int
def Ow.new:Ow:=⟨[],[],[],0⟩
def owOf(s:Se):Ow:=⟨s.set,s.pre,s.sav,s.st⟩
structure PB where
 w:Wo
 known:List Ow
 own:List Ow
def PB.ow(b:PB)(i:Nat):Ow:=b.own.getD i Ow.new
def PB.kn(b:PB)(s:Nat):Ow:=b.known.getD s Ow.new
def learn(o:Ow)(x:St)(a:An):Ow:=
 if a.kind=4 then⟨o.set,o.pre,o.sav,a.st⟩
 else if x.k=1 then⟨o.set,o.pre,o.set,a.st⟩
 else if x.k=2∨x.k=3 then⟨if x.k=3∨o.st=2 then o.sav else o.set,o.pre,[],a.st⟩
 else if x.k=4 then⟨[],[],o.sav,a.st⟩
 else if x.k=9 then⟨plusP o.set x.key x.val,o.pre,o.sav,a.st⟩
 else if x.k=11 then⟨o.set,plusP o.pre x.key x.val,o.sav,a.st⟩
 else⟨o.set,o.pre,o.sav,a.st⟩
def tLost:ByteArray:=⟨#[108,111,115,116]⟩
def poDo(w:Wo)(s:Nat)(x:St):Wo × An:=if doE w (s:Int) x=0 then doW w s x else(w,⟨4,tLost,0⟩)
def resetS:St:=⟨4,⟨#[]⟩,⟨#[]⟩⟩
def backS:St:=⟨3,⟨#[]⟩,⟨#[]⟩⟩
def sayAll(w:Wo)(s:Nat)(k:Int)(l:List Pr):Wo:=l.foldl (fun w p=>(poDo w s ⟨k,p.k,p.v⟩).1) w
open Classical in
noncomputable def bindW(b:PB)(s i:Nat):Wo:=
 if(b.ow i).set=(b.kn s).set∧(b.ow i).pre=(b.kn s).pre then b.w
 else sayAll (sayAll (poDo b.w s resetS).1 s 9 (b.ow i).set) s 11 (b.ow i).pre
def actP(b:PB)(i s:Nat)(x:St):PB × An:=(⟨(poDo b.w s x).1,b.known,b.own.set i (learn (b.ow i) x (poDo b.w s x).2)⟩,(poDo b.w s x).2)
def freeP(b:PB)(i s:Nat):PB:=⟨b.w,b.known.set s (b.ow i),b.own⟩
def leaveP(b:PB)(i:Nat):PB:=⟨b.w,b.known,b.own.set i Ow.new⟩
def undoP(b:PB)(i s:Nat):PB:=if(b.ow i).st=0 then b else(actP b i s backS).1
def goneP(b:PB)(i:Nat)(srv:Int):PB:=if 0≤srv then leaveP (freeP (undoP b i srv.toNat) i srv.toNat) i else leaveP b i
noncomputable def poolB:Bh PB:=⟨actP,fun b s i=>⟨bindW b s i,b.known,b.own⟩,freeP,fun b i=>(b.ow i).st,goneP⟩
def houseB:Bh Wo:=⟨fun w i _ x=>doW w i x,fun w _ _=>w,fun w _ _=>w,fun w i=>(w.se i).st,fun w i _=>w.put i Se.new⟩
theorem getD_set{α:Type}(l:List α)(i j:Nat)(x d:α)(hi:i<l.length):(l.set i x).getD j d=if j=i then x else l.getD j d:=by
 rw[List.getD_eq_getElem?_getD,List.getElem?_set,List.getD_eq_getElem?_getD];by_cases h:i=j
 ·subst h;simp[hi]
 ·rw[if_neg h,if_neg (fun e=>h e.symm)]
/-! a statement over two worlds that look alike -/
theorem did1_sim{W V:Wo}{s i:Nat}(hs:s<W.ses.length)(hi:i<V.ses.length)(e1:W.se s=V.se i)(e2:W.rows=V.rows)(e3: ∀k,heldB W.ses s k=heldB V.ses i k)(e4:card (keysW W)=card (keysW V))(x:St):
  (did1 W s x).2=(did1 V i x).2∧(did1 W s x).1.rows=(did1 V i x).1.rows∧(did1 W s x).1.se s=(did1 V i x).1.se i:=by
 have hp: ∀a:Se,(W.put s a).se s=(V.put i a).se i:=fun a=>by rw[se_put W hs,se_put V hi,if_pos rfl,if_pos rfl]
 have hq: ∀(r r':List Pr) (a:Se),(⟨r,W.ses.set s a⟩:Wo).se s=(⟨r',V.ses.set i a⟩:Wo).se i:=fun r r' a=>hp a;unfold did1;rw[e1];split
 ·exact⟨rfl,e2,e1⟩
 split
 ·unfold transW;rw[e1];split
  ·exact⟨rfl,e2,hp _⟩
  split
  ·exact⟨rfl,e2,e1⟩
  split
  ·exact⟨rfl,e2,e1⟩
  ·unfold endW;rw[e1,e2];split
   ·exact⟨rfl,rfl,hq _ _ _⟩
   ·exact⟨rfl,e2,hp _⟩
 split
 ·unfold resetW;rw[e1];split
  ·exact⟨rfl,e2,hp _⟩
  ·exact⟨rfl,e2,e1⟩
 split
 ·unfold getW;exact⟨by rw[e1],e2,e1⟩
 split
 ·unfold readW;exact⟨by rw[e1,e2],e2,e1⟩
 split
 ·unfold setW;rw[e1];split
  ·exact⟨rfl,e2,e1⟩
  ·exact⟨rfl,e2,hp _⟩
 split
 ·unfold putW;rw[e1,e2,e3,e4];split
  ·exact⟨rfl,e2,e1⟩
  split
  ·exact⟨rfl,e2,e1⟩
  split
  ·exact⟨rfl,e2,hp _⟩
  ·exact⟨rfl,rfl,e1⟩
 split
 ·unfold prepW;rw[e1];split
  ·exact⟨rfl,e2,e1⟩
  ·exact⟨rfl,e2,hp _⟩
 ·exact⟨rfl,e2,e1⟩
theorem did_sim{W V:Wo}{s i:Nat}(hs:s<W.ses.length)(hi:i<V.ses.length)(e1:W.se s=V.se i)(e2:W.rows=V.rows)(e3: ∀k,heldB W.ses s k=heldB V.ses i k)(e4:card (keysW W)=card (keysW V))(x:St):
  (did W s x).2=(did V i x).2∧(did W s x).1.rows=(did V i x).1.rows∧(did W s x).1.se s=(did V i x).1.se i:=by
 unfold did;split
 ·unfold execW;rw[e1];split
  ·exact⟨rfl,e2,e1⟩
  ·split
   ·exact⟨rfl,e2,e1⟩
   ·exact did1_sim hs hi e1 e2 e3 e4 _
 ·exact did1_sim hs hi e1 e2 e3 e4 x
theorem doW_sim{W V:Wo}{s i:Nat}(hs:s<W.ses.length)(hi:i<V.ses.length)(e1:W.se s=V.se i)(e2:W.rows=V.rows)(e3: ∀k,heldB W.ses s k=heldB V.ses i k)(e4:card (keysW W)=card (keysW V))(x:St):
  (doW W s x).2=(doW V i x).2∧(doW W s x).1.rows=(doW V i x).1.rows∧(doW W s x).1.se s=(doW V i x).1.se i:=by
 obtain⟨h1,h2,h3⟩:=did_sim hs hi e1 e2 e3 e4 x;have l1:s<(did W s x).1.ses.length:=by rw[(did_mine W s x).1];exact hs
 have l2:i<(did V i x).1.ses.length:=by rw[(did_mine V i x).1];exact hi
 unfold doW;refine⟨by rw[h1,h3],h2,?_⟩
 rw[se_put _ l1,se_put _ l2,if_pos rfl,if_pos rfl,h1,h3]
theorem okA_kind:okA.kind≠4:=by simp[okA]
theorem foundA_kind(o:Option ByteArray):(foundA o).kind≠4:=by cases o<;>simp[foundA]
def Learned(W:Wo)(i:Nat)(x:St)(V:Wo)(a:An):Prop:=owOf (failSe (V.se i) a)=learn (owOf (W.se i)) x ⟨a.kind,a.text,(failSe (V.se i) a).st⟩
theorem learned_no{W:Wo}{i:Nat}(x:St)(t:ByteArray):Learned W i x W (noA t):=by
 unfold Learned learn;rw[if_pos (show(noA t).kind=4 from rfl)];unfold failSe owOf;split<;>rfl
theorem failSe_ok(s:Se){a:An}(h:a.kind≠4):failSe s a=s:=by
 unfold failSe;rw[if_neg (fun h'=>h h'.1)]
theorem did1_learn{W:Wo}(g:Good W){i:Nat}(hi:i<W.ses.length)(x:St):Learned W i x (did1 W i x).1 (did1 W i x).2:=by
 have gs:=g.se hi;unfold did1;split
 ·exact learned_no _ _
 rename_i hf;split
 ·rename_i hk;unfold transW;split
  ·rename_i h;unfold Learned learn;rw[failSe_ok _ okA_kind,se_put W hi,if_pos rfl,if_neg okA_kind,if_pos h.1];rfl
  split
  ·exact learned_no _ _
  rename_i h1;split
  ·exact learned_no _ _
  rename_i h0;have hk1:¬ x.k=1:=by assumption
  unfold endW;split
  ·rename_i hd;simp only[Bool.and_eq_true,decide_eq_true_eq]at hd;unfold Learned learn;have e:(⟨plusAll W.rows (W.se i).wri,W.ses.set i ⟨0,(W.se i).set,(W.se i).pre,[],[]⟩⟩:Wo).se i=(W.put i ⟨0,(W.se i).set,(W.se i).pre,[],[]⟩).se i:=rfl;rw[failSe_ok _ okA_kind,e,se_put W hi,if_pos rfl,if_neg okA_kind,if_neg hk1,if_pos (by omega),if_neg (by unfold owOf;simp;omega)]
   rfl
  ·rename_i hd;simp only[Bool.and_eq_true,decide_eq_true_eq,not_and]at hd;unfold Learned learn;have h2:x.k=3∨(W.se i).st=2:=by
    have:=gs.st0;have:=gs.st2;by_cases h3:x.k=3
    ·exact .inl h3
    ·right;have:=hd (by omega)
     omega
   rw[failSe_ok _ okA_kind,se_put W hi,if_pos rfl,if_neg okA_kind,if_neg hk1,if_pos (by omega),if_pos (show x.k=3∨(owOf (W.se i)).st=2 from h2)]
   rfl
 rename_i hk;split
 ·rename_i h4;unfold resetW;split
  ·unfold Learned learn;rw[failSe_ok _ okA_kind,se_put W hi,if_pos rfl,if_neg okA_kind,if_neg (by omega),if_neg (by omega),if_pos h4]
   rfl
  ·exact learned_no _ _
 rename_i h4;split
 ·rename_i h6;unfold getW Learned learn;rw[failSe_ok _ (foundA_kind _),if_neg (foundA_kind _),if_neg (by omega),if_neg (by omega),if_neg (by omega),if_neg (by omega),if_neg (by omega)]
  rfl
 split
 ·rename_i h7;unfold readW Learned learn;rw[failSe_ok _ (foundA_kind _),if_neg (foundA_kind _),if_neg (by omega),if_neg (by omega),if_neg (by omega),if_neg (by omega),if_neg (by omega)]
  rfl
 split
 ·rename_i h9;unfold setW;split
  ·exact learned_no _ _
  ·rename_i l hl;unfold keepP at hl;split at hl
   ·cases hl
   ·injection hl with hl;unfold Learned learn;rw[failSe_ok _ okA_kind,se_put W hi,if_pos rfl,if_neg okA_kind,if_neg (by omega),if_neg (by omega),if_neg (by omega),if_pos h9,←hl]
    rfl
 split
 ·rename_i h10;unfold putW;split
  ·exact learned_no _ _
  split
  ·exact learned_no _ _
  split
  ·unfold Learned learn;rw[failSe_ok _ okA_kind,se_put W hi,if_pos rfl,if_neg okA_kind,if_neg (by omega),if_neg (by omega),if_neg (by omega),if_neg (by omega),if_neg (by omega)]
   rfl
  ·unfold Learned learn;rw[failSe_ok _ okA_kind,if_neg okA_kind,if_neg (by omega),if_neg (by omega),if_neg (by omega),if_neg (by omega),if_neg (by omega)]
   rfl
 split
 ·rename_i h11;unfold prepW;split
  ·exact learned_no _ _
  ·rename_i l hl;unfold keepP at hl;split at hl
   ·cases hl
   ·injection hl with hl;unfold Learned learn;rw[failSe_ok _ okA_kind,se_put W hi,if_pos rfl,if_neg okA_kind,if_neg (by omega),if_neg (by omega),if_neg (by omega),if_neg (by omega),if_pos h11,←hl]
    rfl
 ·exact learned_no _ _
theorem learn_exec{o:Ow}{x y:St}(hx:x.k=8)(hy:y.k=6∨y.k=7∨y.k=10)(a:An):learn o x a=learn o y a:=by
 unfold learn;split
 ·rfl
 ·rw[if_neg (by omega),if_neg (by omega),if_neg (by omega),if_neg (by omega),if_neg (by omega),if_neg (by omega),if_neg (by omega),if_neg (by omega),if_neg (by omega),if_neg (by omega)]
theorem doW_learn{W:Wo}(g:Good W){i:Nat}(hi:i<W.ses.length)(x:St):owOf ((doW W i x).1.se i)=learn (owOf (W.se i)) x (doW W i x).2:=by
 have l1:i<(did W i x).1.ses.length:=by rw[(did_mine W i x).1];exact hi
 have h:Learned W i x (did W i x).1 (did W i x).2:=by
  unfold did;split
  ·rename_i h8;unfold execW;split
   ·exact learned_no _ _
   ·split
    ·exact learned_no _ _
    ·rename_i t ht;have:=did1_learn g hi (readS t);unfold Learned at this⊢;rw[this];exact(learn_exec h8 ((g.se hi).preOk ht).2 _).symm
  ·exact did1_learn g hi x
 unfold doW;rw[se_put _ l1,if_pos rfl];exact h
/-! binding a server: its session is made what the client has said -/
theorem poDo_good{w:Wo}(g:Good w){s:Nat}(hs:s<w.ses.length){x:St}(hx:checkE x=0):poDo w s x=doW w s x:=by
 unfold poDo;rw[if_pos];unfold doE;rw[if_pos ((good_iff w).2 g),if_pos (by omega)]
 exact hx
structure Near(w:Wo)(s:Nat)(v:Wo):Prop where
 mine:Mine w s v
 rows:v.rows=w.rows
 good:Good v
theorem Near.trans{w v u:Wo}{s:Nat}(h:Near w s v)(k:Near v s u):Near w s u:=
 ⟨⟨k.mine.1.trans h.mine.1,fun j hj=>(k.mine.2 j hj).trans (h.mine.2 j hj)⟩,k.rows.trans h.rows,k.good⟩
theorem Near.refl{w:Wo}(g:Good w)(s:Nat):Near w s w:=⟨.refl w s,rfl,g⟩
theorem near_do{w:Wo}(g:Good w){s:Nat}(hs:s<w.ses.length){x:St}(hx:checkE x=0)(h2:x.k≠2)(h10:x.k≠10)(h8:x.k≠8):Near w s (doW w s x).1:=
 ⟨doW_mine w s x,doW_rows w s x h2 h10 h8,doW_good g hs hx⟩
theorem do_reset{w:Wo}{s:Nat}(hs:s<w.ses.length)(h0:(w.se s).st=0):(doW w s resetS).1.se s=⟨0,[],[],(w.se s).sav,(w.se s).wri⟩:=by
 have e:did w s resetS=(w.put s ⟨0,[],[],(w.se s).sav,(w.se s).wri⟩,okA):=by
  unfold did did1 resetW;rw[h0];rfl
 unfold doW;rw[e];rw[se_put _ (by rw[put_length];exact hs),if_pos rfl,failSe_ok _ okA_kind,se_put w hs,if_pos rfl]
theorem do_set{w:Wo}{s:Nat}(hs:s<w.ses.length)(h0:(w.se s).st=0)(k v:ByteArray)(hr:¬ (hasK (w.se s).set k=false∧(w.se s).set.length=6)):
  (doW w s ⟨9,k,v⟩).1.se s=⟨0,plusP (w.se s).set k v,(w.se s).pre,(w.se s).sav,(w.se s).wri⟩:=by
 have e:did w s ⟨9,k,v⟩=(w.put s ⟨0,plusP (w.se s).set k v,(w.se s).pre,(w.se s).sav,(w.se s).wri⟩,okA):=by
  unfold did did1 setW keepP;rw[h0,if_neg hr];rfl
 unfold doW;rw[e];rw[se_put _ (by rw[put_length];exact hs),if_pos rfl,failSe_ok _ okA_kind,se_put w hs,if_pos rfl]
theorem do_prep{w:Wo}{s:Nat}(hs:s<w.ses.length)(h0:(w.se s).st=0)(k v:ByteArray)(hr:¬ (hasK (w.se s).pre k=false∧(w.se s).pre.length=6)):
  (doW w s ⟨11,k,v⟩).1.se s=⟨0,(w.se s).set,plusP (w.se s).pre k v,(w.se s).sav,(w.se s).wri⟩:=by
 have e:did w s ⟨11,k,v⟩=(w.put s ⟨0,(w.se s).set,plusP (w.se s).pre k v,(w.se s).sav,(w.se s).wri⟩,okA):=by
  unfold did did1 prepW keepP;rw[h0,if_neg hr];rfl
 unfold doW;rw[e];rw[se_put _ (by rw[put_length];exact hs),if_pos rfl,failSe_ok _ okA_kind,se_put w hs,if_pos rfl]
theorem plus_end{l:List Pr}{p:Pr}{m:List Pr}(h:Sorted (l++p::m)):plusP l p.k p.v=l++[p]∧hasK l p.k=false:=by
 have hlt: ∀q∈l,ltS q.k p.k=true:=fun q hq=>(List.pairwise_append.1 h).2.2 q hq p List.mem_cons_self;constructor
 ·clear h;induction l with
  |nil=>rfl
  |cons a l ih=>
   unfold plusP;rw[if_pos (hlt a List.mem_cons_self),ih fun q hq=>hlt q (List.mem_cons_of_mem _ hq)];rfl
 ·cases e:hasK l p.k with
  |false=>rfl
  |true=>
   obtain⟨q,hq,e2⟩:=List.mem_map.1 ((hasK_iff _ _).1 e);have:=hlt q hq;rw[e2,ltS_irrefl]at this;cases this
theorem say_sets(s:Nat): ∀(l:List Pr) (w:Wo) (acc:List Pr),Good w→s<w.ses.length→(w.se s).st=0→(w.se s).set=acc→pairsB 9 6 (acc++l)=true→
  Near w s (sayAll w s 9 l)∧(sayAll w s 9 l).se s=⟨0,acc++l,(w.se s).pre,(w.se s).sav,(w.se s).wri⟩
 |[],w,acc,g,hs,h0,ha,_=>by
  refine⟨.refl g s,?_⟩;rw[List.append_nil,←ha,←h0];rfl
 |p::l,w,acc,g,hs,h0,ha,hp=>by
  obtain⟨p1,p2,p3⟩:=(pairs_iff _ _ _).1 hp;have hx:checkE ⟨9,p.k,p.v⟩=0:=p1 p (by simp)
  obtain⟨e1,e2⟩:=plus_end p2;have hr:¬ (hasK (w.se s).set p.k=false∧(w.se s).set.length=6):=by
   rw[ha];rw[List.length_append,List.length_cons]at p3;omega
  have hd:=do_set hs h0 p.k p.v hr;rw[ha,e1]at hd;have hn:=near_do g hs hx (by simp) (by simp) (by simp)
  have ih:=say_sets s l (doW w s ⟨9,p.k,p.v⟩).1 (acc++[p]) hn.good (by rw[hn.mine.1];exact hs) (by rw[hd]) (by rw[hd]) (by rw[List.append_assoc];exact hp)
  have e:sayAll w s 9 (p::l)=sayAll (doW w s ⟨9,p.k,p.v⟩).1 s 9 l:=by
   unfold sayAll;rw[List.foldl_cons,poDo_good g hs hx]
  rw[e];refine⟨hn.trans ih.1,?_⟩;rw[ih.2,hd];simp
theorem say_preps(s:Nat): ∀(l:List Pr) (w:Wo) (acc:List Pr),Good w→s<w.ses.length→(w.se s).st=0→(w.se s).pre=acc→pairsB 11 6 (acc++l)=true→
  Near w s (sayAll w s 11 l)∧(sayAll w s 11 l).se s=⟨0,(w.se s).set,acc++l,(w.se s).sav,(w.se s).wri⟩
 |[],w,acc,g,hs,h0,ha,_=>by
  refine⟨.refl g s,?_⟩;rw[List.append_nil,←ha,←h0];rfl
 |p::l,w,acc,g,hs,h0,ha,hp=>by
  obtain⟨p1,p2,p3⟩:=(pairs_iff _ _ _).1 hp;have hx:checkE ⟨11,p.k,p.v⟩=0:=p1 p (by simp)
  obtain⟨e1,e2⟩:=plus_end p2;have hr:¬ (hasK (w.se s).pre p.k=false∧(w.se s).pre.length=6):=by
   rw[ha];rw[List.length_append,List.length_cons]at p3;omega
  have hd:=do_prep hs h0 p.k p.v hr;rw[ha,e1]at hd;have hn:=near_do g hs hx (by simp) (by simp) (by simp)
  have ih:=say_preps s l (doW w s ⟨11,p.k,p.v⟩).1 (acc++[p]) hn.good (by rw[hn.mine.1];exact hs) (by rw[hd]) (by rw[hd]) (by rw[List.append_assoc];exact hp)
  have e:sayAll w s 11 (p::l)=sayAll (doW w s ⟨11,p.k,p.v⟩).1 s 11 l:=by
   unfold sayAll;rw[List.foldl_cons,poDo_good g hs hx]
  rw[e];refine⟨hn.trans ih.1,?_⟩;rw[ih.2,hd];simp
theorem bind_near{b:PB}{s i:Nat}(g:Good b.w)(hs:s<b.w.ses.length)(hi:b.w.se s=⟨0,(b.kn s).set,(b.kn s).pre,[],[]⟩)(h1:pairsB 9 6 (b.ow i).set=true)(h2:pairsB 11 6 (b.ow i).pre=true):
  Near b.w s (bindW b s i)∧(bindW b s i).se s=⟨0,(b.ow i).set,(b.ow i).pre,[],[]⟩:=by
 unfold bindW;split
 ·rename_i h;refine⟨.refl g s,?_⟩;rw[h.1,h.2];exact hi
 ·have hx:checkE resetS=0:=by decide+kernel
  have h0:(b.w.se s).st=0:=by rw[hi]
  rw[poDo_good g hs hx];have hn:=near_do g hs hx (by simp[resetS]) (by simp[resetS]) (by simp[resetS])
  have hd:=do_reset hs h0;rw[hi]at hd;have k1:=say_sets s (b.ow i).set _ [] hn.good (by rw[hn.mine.1];exact hs) (by rw[hd]) (by rw[hd]) h1
  have k2:=say_preps s (b.ow i).pre _ [] k1.1.good (by rw[k1.1.mine.1,hn.mine.1];exact hs) (by rw[k1.2]) (by rw[k1.2,hd]) h2
  refine⟨(hn.trans k1.1).trans k2.1,?_⟩;rw[k2.2,k1.2,hd];rfl
open Go.ChangeShapes Go.WideShapes Go.ChangeAt Go.RowKit
def up{α:Type}(f:Nat→α)(c:Nat)(x:α):Nat→α:=fun i=>if i=c then x else f i
theorem up_at{α:Type}(f:Nat→α)(c:Nat)(x:α):up f c x c=x:=if_pos rfl
theorem up_off{α:Type}(f:Nat→α){c i:Nat}(x:α)(h:i≠c):up f c x i=f i:=if_neg h
structure MV where
 mode:Int
 srvs:Int
 owner:List Int
 bytes:Nat→ByteArray
 pend:Nat→List St
 bad:Nat→List Bool
 srv:Nat→Int
 sent:Nat→ByteArray
 ow:Nat→Ow
 wait:List Nat
 deeds:List De
 w:Wo
 known:List Ow
def MV.of(f:Fr)(b:PB):MV:=⟨f.mode,f.owner.length,f.owner,fun c=>(f.c c).bytes,fun c=>(f.c c).pend.map (·.1),fun c=>(f.c c).pend.map (·.2),fun c=>(f.c c).srv,fun c=>(f.c c).sent,b.ow,f.wait,f.deeds,b.w,b.known⟩
structure PV where
 rows:Value
 ses:Value
 owner:Value
 known:Value
 pend:Nat→Value
 bad:Nat→Value
 set:Nat→Value
 pre:Nat→Value
 sav:Nat→Value
 adr:Nat→Value
 buf:Nat→Value
 wait:Value
 deeds:Value
def headV(M:MV)(V:PV):Nat→Value
 |0=>.int .i64 M.mode
 |1=>.int .i64 M.srvs
 |2=>V.rows
 |3=>V.ses
 |4=>V.owner
 |_=>V.known
def clV(M:MV)(V:PV)(c:Nat):Nat→Value
 |0=>.string (M.bytes c)
 |1=>V.pend c
 |2=>V.bad c
 |3=>.int .i64 (M.srv c)
 |4=>V.set c
 |5=>V.pre c
 |6=>V.sav c
 |7=>.int .i64 (M.ow c).st
 |8=>V.adr c
 |_=>V.buf c
def cellV(M:MV)(V:PV)(j:Nat):Value:=
 if j<6 then headV M V j else if j<66 then clV M V ((j-6) / 10) ((j-6)%10)else if j=66 then V.wait else V.deeds
structure PoolB(w:World)(p:Nat)(M:MV)(V:PV):Prop where
 blk: ∃cs,Blk w p 101 cs∧cs.size=68∧∀j,j<68→cs[j]? =some (cellV M V j)
section
variable {w w':World}{p:Nat}{M M':MV}{V V':PV}
theorem PoolB.cell(h:PoolB w p M V){j:Nat}(hj:j<68):w.cell? ⟨p,j,none⟩=some (cellV M V j):=by
 obtain⟨cs,b,_,hc⟩:=h.blk;exact b.cell_ j _ (hc j hj)
theorem PoolB.lt(h:PoolB w p M V):p<w.heap.size:=by
 obtain⟨cs,b,_⟩:=h.blk;exact b.lt
theorem PoolB.frozen(h:PoolB w p M V)(j:Nat):w.frozen? ⟨p,j,none⟩=false:=by
 obtain⟨cs,b,_⟩:=h.blk;exact b.frozen j
theorem PoolB.keep(h:PoolB w p M V)(hk:w'.heap[p]? =w.heap[p]?):PoolB w' p M V:=by
 obtain⟨cs,b,r⟩:=h.blk;exact⟨cs,hk.trans b,r⟩
theorem PoolB.same(h:PoolB w p M V)(hk: ∀j,j<68→cellV M' V' j=cellV M V j):PoolB w p M' V':=by
 obtain⟨cs,b,hs,hc⟩:=h.blk;exact⟨cs,b,hs,fun j hj=>by rw[hc j hj,hk j hj]⟩
theorem PoolB.store(h:PoolB w p M V){j:Nat}{v:Value}(hj:j<68)(h1:cellV M' V' j=v)(h2: ∀i,i<68→i≠j→cellV M' V' i=cellV M V i):PoolB (w.setCell ⟨p,j,none⟩ v) p M' V':=by
 obtain⟨cs,b,hs,hc⟩:=h.blk;refine⟨cs.setIfInBounds j v,b.set_ j v,by rw[Array.size_setIfInBounds];exact hs,fun i hi=>?_⟩
 rw[Array.getElem?_setIfInBounds];by_cases e:j=i
 ·subst e;rw[if_pos rfl,if_pos (by omega),h1]
 ·rw[if_neg e,hc i hi,h2 i hi (fun e'=>e e'.symm)]
theorem cell_c(M:MV)(V:PV){c k:Nat}(hc:c<6)(hk:k<10):cellV M V (6+c*10+k)=clV M V c k:=by
 unfold cellV;rw[if_neg (by omega),if_pos (by omega)]
 have e1:(6+c*10+k-6) / 10=c:=by omega
 have e2:(6+c*10+k-6)%10=k:=by omega
 rw[e1,e2]
theorem PoolB.cellC(h:PoolB w p M V){c k:Nat}(hc:c<6)(hk:k<10):w.cell? ⟨p,6+c*10+k,none⟩=some (clV M V c k):=by
 rw[h.cell (by omega),cell_c M V hc hk]
theorem PoolB.storeC(h:PoolB w p M V){c k:Nat}(hc:c<6)(hk:k<10){v:Value}(h1:clV M' V' c k=v)(h2: ∀i,¬ (i=c)→clV M' V' i=clV M V i)(h3: ∀i,i<10→i≠k→clV M' V' c i=clV M V c i)
  (h4:headV M' V'=headV M V) (h5:V'.wait=V.wait) (h6:V'.deeds=V.deeds):PoolB (w.setCell ⟨p,6+c*10+k,none⟩ v) p M' V':=
 h.store (by omega) (by rw[cell_c _ _ hc hk];exact h1) fun i hi hne=>by
  unfold cellV;rw[h4,h5,h6];split
  ·rfl
  split
  ·by_cases e:(i-6) / 10=c
   ·rw[e];exact h3 _ (Nat.mod_lt _ (by decide)) (by omega)
   ·rw[h2 _ e]
  ·rfl
theorem clV_ext{c:Nat}(h: ∀k,k<10→clV M' V' c k=clV M V c k):clV M' V' c=clV M V c:=by
 funext k;rcases Nat.lt_or_ge k 10 with hk|hk
 ·exact h k hk
 ·have e: ∀(M:MV) (V:PV),clV M V c k=clV M V c 9:=by
   intro M V;unfold clV;match k,hk with
   |k+10,_=>rfl
  rw[e M' V',e M V];exact h 9 (by decide)
theorem PoolB.set_bytes(h:PoolB w p M V){c:Nat}(hc:c<6)(x:ByteArray):PoolB (w.setCell ⟨p,6+c*10+0,none⟩ (.string x)) p ({M with bytes:=up M.bytes c x}) (V):=
 h.storeC hc (by decide) (by simp[clV,up_at]) (fun i hi=>clV_ext fun k hk=>by match k,hk with|0,_|1,_|2,_|3,_|4,_|5,_|6,_|7,_|8,_|9,_=>simp[clV,up_off _ _ hi])
  (fun i hi hk=>by match i,hi with|0,_|1,_|2,_|3,_|4,_|5,_|6,_|7,_|8,_|9,_=>first|exact absurd rfl hk|rfl) rfl rfl rfl
theorem PoolB.set_pend(h:PoolB w p M V){c:Nat}(hc:c<6)(x:Value):PoolB (w.setCell ⟨p,6+c*10+1,none⟩ (x)) p (M) ({V with pend:=up V.pend c x}):=
 h.storeC hc (by decide) (by simp[clV,up_at]) (fun i hi=>clV_ext fun k hk=>by match k,hk with|0,_|1,_|2,_|3,_|4,_|5,_|6,_|7,_|8,_|9,_=>simp[clV,up_off _ _ hi])
  (fun i hi hk=>by match i,hi with|0,_|1,_|2,_|3,_|4,_|5,_|6,_|7,_|8,_|9,_=>first|exact absurd rfl hk|rfl) rfl rfl rfl
theorem PoolB.set_bad(h:PoolB w p M V){c:Nat}(hc:c<6)(x:Value):PoolB (w.setCell ⟨p,6+c*10+2,none⟩ (x)) p (M) ({V with bad:=up V.bad c x}):=
 h.storeC hc (by decide) (by simp[clV,up_at]) (fun i hi=>clV_ext fun k hk=>by match k,hk with|0,_|1,_|2,_|3,_|4,_|5,_|6,_|7,_|8,_|9,_=>simp[clV,up_off _ _ hi])
  (fun i hi hk=>by match i,hi with|0,_|1,_|2,_|3,_|4,_|5,_|6,_|7,_|8,_|9,_=>first|exact absurd rfl hk|rfl) rfl rfl rfl
theorem PoolB.set_srv(h:PoolB w p M V){c:Nat}(hc:c<6)(x:Int):PoolB (w.setCell ⟨p,6+c*10+3,none⟩ (.int .i64 x)) p ({M with srv:=up M.srv c x}) (V):=
 h.storeC hc (by decide) (by simp[clV,up_at]) (fun i hi=>clV_ext fun k hk=>by match k,hk with|0,_|1,_|2,_|3,_|4,_|5,_|6,_|7,_|8,_|9,_=>simp[clV,up_off _ _ hi])
  (fun i hi hk=>by match i,hi with|0,_|1,_|2,_|3,_|4,_|5,_|6,_|7,_|8,_|9,_=>first|exact absurd rfl hk|rfl) rfl rfl rfl
theorem PoolB.set_set(h:PoolB w p M V){c:Nat}(hc:c<6)(x:Value):PoolB (w.setCell ⟨p,6+c*10+4,none⟩ (x)) p (M) ({V with set:=up V.set c x}):=
 h.storeC hc (by decide) (by simp[clV,up_at]) (fun i hi=>clV_ext fun k hk=>by match k,hk with|0,_|1,_|2,_|3,_|4,_|5,_|6,_|7,_|8,_|9,_=>simp[clV,up_off _ _ hi])
  (fun i hi hk=>by match i,hi with|0,_|1,_|2,_|3,_|4,_|5,_|6,_|7,_|8,_|9,_=>first|exact absurd rfl hk|rfl) rfl rfl rfl
theorem PoolB.set_pre(h:PoolB w p M V){c:Nat}(hc:c<6)(x:Value):PoolB (w.setCell ⟨p,6+c*10+5,none⟩ (x)) p (M) ({V with pre:=up V.pre c x}):=
 h.storeC hc (by decide) (by simp[clV,up_at]) (fun i hi=>clV_ext fun k hk=>by match k,hk with|0,_|1,_|2,_|3,_|4,_|5,_|6,_|7,_|8,_|9,_=>simp[clV,up_off _ _ hi])
  (fun i hi hk=>by match i,hi with|0,_|1,_|2,_|3,_|4,_|5,_|6,_|7,_|8,_|9,_=>first|exact absurd rfl hk|rfl) rfl rfl rfl
theorem PoolB.set_sav(h:PoolB w p M V){c:Nat}(hc:c<6)(x:Value):PoolB (w.setCell ⟨p,6+c*10+6,none⟩ (x)) p (M) ({V with sav:=up V.sav c x}):=
 h.storeC hc (by decide) (by simp[clV,up_at]) (fun i hi=>clV_ext fun k hk=>by match k,hk with|0,_|1,_|2,_|3,_|4,_|5,_|6,_|7,_|8,_|9,_=>simp[clV,up_off _ _ hi])
  (fun i hi hk=>by match i,hi with|0,_|1,_|2,_|3,_|4,_|5,_|6,_|7,_|8,_|9,_=>first|exact absurd rfl hk|rfl) rfl rfl rfl
theorem PoolB.set_st(h:PoolB w p M V){c:Nat}(hc:c<6)(x:Int):PoolB (w.setCell ⟨p,6+c*10+7,none⟩ (.int .i64 x)) p ({M with ow:=up M.ow c ⟨(M.ow c).set,(M.ow c).pre,(M.ow c).sav,x⟩}) (V):=
 h.storeC hc (by decide) (by simp[clV,up_at]) (fun i hi=>clV_ext fun k hk=>by match k,hk with|0,_|1,_|2,_|3,_|4,_|5,_|6,_|7,_|8,_|9,_=>simp[clV,up_off _ _ hi])
  (fun i hi hk=>by match i,hi with|0,_|1,_|2,_|3,_|4,_|5,_|6,_|7,_|8,_|9,_=>first|exact absurd rfl hk|rfl) rfl rfl rfl
theorem PoolB.set_adr(h:PoolB w p M V){c:Nat}(hc:c<6)(x:Value):PoolB (w.setCell ⟨p,6+c*10+8,none⟩ (x)) p (M) ({V with adr:=up V.adr c x}):=
 h.storeC hc (by decide) (by simp[clV,up_at]) (fun i hi=>clV_ext fun k hk=>by match k,hk with|0,_|1,_|2,_|3,_|4,_|5,_|6,_|7,_|8,_|9,_=>simp[clV,up_off _ _ hi])
  (fun i hi hk=>by match i,hi with|0,_|1,_|2,_|3,_|4,_|5,_|6,_|7,_|8,_|9,_=>first|exact absurd rfl hk|rfl) rfl rfl rfl
theorem PoolB.set_buf(h:PoolB w p M V){c:Nat}(hc:c<6)(x:Value):PoolB (w.setCell ⟨p,6+c*10+9,none⟩ (x)) p (M) ({V with buf:=up V.buf c x}):=
 h.storeC hc (by decide) (by simp[clV,up_at]) (fun i hi=>clV_ext fun k hk=>by match k,hk with|0,_|1,_|2,_|3,_|4,_|5,_|6,_|7,_|8,_|9,_=>simp[clV,up_off _ _ hi])
  (fun i hi hk=>by match i,hi with|0,_|1,_|2,_|3,_|4,_|5,_|6,_|7,_|8,_|9,_=>first|exact absurd rfl hk|rfl) rfl rfl rfl
theorem PoolB.set_rows(h:PoolB w p M V)(x:Value):PoolB (w.setCell ⟨p,2,none⟩ x) p M {V with rows:=x}:=
 h.store (by decide) rfl fun i hi hne=>by
  unfold cellV;split
  ·match i with|0|1|2|3|4|5=>first|exact absurd rfl hne|rfl
  split
  ·rfl
  ·rfl
theorem PoolB.set_ses(h:PoolB w p M V)(x:Value):PoolB (w.setCell ⟨p,3,none⟩ x) p M {V with ses:=x}:=
 h.store (by decide) rfl fun i hi hne=>by
  unfold cellV;split
  ·match i with|0|1|2|3|4|5=>first|exact absurd rfl hne|rfl
  split
  ·rfl
  ·rfl
theorem PoolB.set_wait(h:PoolB w p M V)(x:Value):PoolB (w.setCell ⟨p,66,none⟩ x) p M {V with wait:=x}:=
 h.store (by decide) rfl fun i hi hne=>by
  unfold cellV;split
  ·rfl
  split
  ·rfl
  ·first|rfl|(split<;>first|rfl|(exact absurd (by assumption) hne)|(exact absurd (by omega) hne))
theorem PoolB.set_deeds(h:PoolB w p M V)(x:Value):PoolB (w.setCell ⟨p,67,none⟩ x) p M {V with deeds:=x}:=
 h.store (by decide) rfl fun i hi hne=>by
  unfold cellV;split
  ·rfl
  split
  ·rfl
  ·first|rfl|(split<;>first|rfl|(exact absurd (by assumption) hne)|(exact absurd (by omega) hne))
end
/-! how it reads -/
def stV(l:List St):List Value:=l.flatMap fun x=>[.int .i64 x.k,.string x.key,.string x.val]
def badV(l:List Bool):List Value:=l.map .bool
def intV(l:List Int):List Value:=l.map (.int .i64)
def natV(l:List Nat):List Value:=l.map fun(i:Nat)=>Value.int .i64 (i:Int)
def deV(l:List De):List Value:=l.flatMap fun d=>[.int .i64 (d.c:Int),.int .i64 d.x.k,.string d.x.key,.string d.x.val,.int .i64 d.a.kind,.string d.a.text,.int .i64 d.a.st]
structure KV where
 set:Value
 pre:Value
 sav:Value
 st:Int
def KV.cells(x:KV):List Value:=[x.set,x.pre,x.sav,.int .i64 x.st]
structure OwR(w:World)(B:Nat)(a b c:Value)(o:Ow):Prop where
 set:OPL w B a o.set
 pre:OPL w B b o.pre
 sav:OPL w B c o.sav
theorem OwR.keeps{w w':World}{B:Nat}{a b c:Value}{o:Ow}(h:OwR w B a b c o)(kp:Keeps 60 w w'):OwR w' B a b c o:=⟨h.set.keeps kp,h.pre.keeps kp,h.sav.keeps kp⟩
inductive Role where
 |pool|owner|known|wait|deeds
 |pend (c:Nat)|bad (c:Nat)|buf (c:Nat)
def Role.ok:Role→Prop
 | .pend c| .bad c| .buf c=>c<6
 |_=>True
def PV.at(V:PV)(p:Nat):Role→Option Nat
 | .pool=>some p
 | .owner=>V.owner.ownBlock
 | .known=>V.known.ownBlock
 | .wait=>V.wait.ownBlock
 | .deeds=>V.deeds.ownBlock
 | .pend c=>(V.pend c).ownBlock
 | .bad c=>(V.bad c).ownBlock
 | .buf c=>(V.buf c).ownBlock
def Role.ty:Role→TypeId
 | .pool=>101
 | .owner| .wait=>3
 | .known=>92
 | .deeds=>71
 | .pend _=>41
 | .bad _=>4
 | .buf _=>5
structure PoolO(w:World)(B p:Nat)(V:PV)(ks:List KV)(M:MV):Prop where
 blk: ∃cs,Blk w p 101 cs
 lb:B≤p
 rows:OPL w B V.rows M.w.rows
 ses: ∃cs,OSL w B V.ses M.w.ses cs
 owner:OwnO w B 3 1 V.owner M.owner.length (intV M.owner)
 known:OwnO w B 92 4 V.known ks.length (ks.flatMap KV.cells)
 klen:ks.length=M.known.length
 kn: ∀s (hs:s<ks.length),OwR w B ks[s].set ks[s].pre ks[s].sav (M.known.getD s Ow.new)∧ks[s].st=(M.known.getD s Ow.new).st
 pend: ∀c,c<6→OwnO w B 41 3 (V.pend c) (M.pend c).length (stV (M.pend c))
 bad: ∀c,c<6→OwnO w B 4 1 (V.bad c) (M.bad c).length (badV (M.bad c))
 ow: ∀c,c<6→OwR w B (V.set c) (V.pre c) (V.sav c) (M.ow c)
 adr: ∀c,c<6→V.adr c= .pointer none∨V.adr c= .pointer (some ⟨p,6+c*10+8,none⟩)
 buf: ∀c,c<6→OwnO w B 5 1 (V.buf c) (M.sent c).size (Lib.strCells (M.sent c))
 wait:OwnO w B 3 1 V.wait M.wait.length (natV M.wait)
 deeds:OwnO w B 71 7 V.deeds M.deeds.length (deV M.deeds)
 apart: ∀(r r':Role) (k:Nat),r.ok→r'.ok→V.at p r=some k→V.at p r'=some k→r=r'
def PV.mine(V:PV)(p k:Nat):Prop:=∃r:Role,r.ok∧V.at p r=some k
structure Turn(p:Nat)(w:World)(V:PV)(w':World)(V':PV):Prop where
 os:w'.os=w.os
 tape:w'.tape=w.tape
 output:w'.output=w.output
 size:w.heap.size≤w'.heap.size
 block: ∀k,k<w.heap.size→¬ V.mine p k→w'.heap[k]? =w.heap[k]?
 mine: ∀k,V'.mine p k→V.mine p k∨w.heap.size≤k
section
variable {p:Nat}{w w' u:World}{V V' V'':PV}
theorem Turn.refl(p:Nat)(w:World)(V:PV):Turn p w V w V:=⟨rfl,rfl,rfl,Nat.le_refl _,fun _ _ _=>rfl,fun _ h=>.inl h⟩
theorem Turn.trans(h:Turn p w V w' V')(k:Turn p w' V' u V''):Turn p w V u V'':=
 ⟨k.os.trans h.os,k.tape.trans h.tape,k.output.trans h.output,Nat.le_trans h.size k.size,
  fun i hi hm=>(k.block i (Nat.lt_of_lt_of_le hi h.size) fun hm'=>by
   rcases h.mine i hm' with h1|h1
   ·exact hm h1
   ·omega).trans (h.block i hi hm),
  fun i hm=>by
   rcases k.mine i hm with h1|h1
   ·exact h.mine i h1
   ·exact .inr (Nat.le_trans h.size h1)⟩
theorem Turn.of_below(h:Below w.heap.size w w'):Turn p w V w' V:=⟨h.os,h.tape,h.output,h.size,fun k hk _=>h.block k hk,fun _ h=>.inl h⟩
theorem Turn.below(h:Turn p w V w' V')(k:Below w'.heap.size w' u):Turn p w V u V':=h.trans (.of_below k)
theorem Turn.bel{B:Nat}(h:Turn p w V w' V')(hB:B≤w.heap.size)(hm: ∀k,V.mine p k→B≤k):Below B w w':=
 ⟨h.os,h.tape,h.output,h.size,fun k hk=>h.block k (by omega) fun hm'=>by have:=hm k hm';omega⟩
theorem Turn.box{q:Nat}{t:TypeId}{cs:Array Value}(h:Turn p w V w' V')(hb:Blk w q t cs)(hn:¬ V.mine p q):Blk w' q t cs:=(h.block q hb.lt hn).trans hb
theorem Turn.not{q:Nat}(h:Turn p w V w' V')(hq:q<w.heap.size)(hn:¬ V.mine p q):¬ V'.mine p q:=fun hm=>by
 rcases h.mine q hm with h1|h1
 ·exact hn h1
 ·omega
end
section
variable {w w' u:World}{B p:Nat}{V V':PV}{ks:List KV}{M M':MV}
theorem PoolO.at_(h:PoolO w B p V ks M){r:Role}(hr:r.ok){k:Nat}(hm:V.at p r=some k):B≤k∧k<w.heap.size∧∃cs,Blk w k r.ty cs:=by
 have o: ∀{e:TypeId} {size n:Nat} {v:Value} {xs:List Value},OwnO w B e size v n xs→v.ownBlock=some k→B≤k∧k<w.heap.size∧∃cs,Blk w k e cs:=
  fun ho hk=>⟨(ho.lt k hk).1,(ho.lt k hk).2,ho.row k hk⟩
 cases r with
 |pool=>
  obtain⟨cs,hb⟩:=h.blk;injection hm with hm;subst hm;exact⟨h.lb,hb.lt,cs,hb⟩
 |owner=>exact o h.owner hm
 |known=>exact o h.known hm
 |wait=>exact o h.wait hm
 |deeds=>exact o h.deeds hm
 |pend c=>exact o (h.pend c hr) hm
 |bad c=>exact o (h.bad c hr) hm
 |buf c=>exact o (h.buf c hr) hm
theorem PoolO.lt(h:PoolO w B p V ks M){k:Nat}(hm:V.mine p k):B≤k∧k<w.heap.size:=by
 obtain⟨r,hr,e⟩:=hm;exact⟨(h.at_ hr e).1,(h.at_ hr e).2.1⟩
theorem PoolO.fresh(h:PoolO w B p V ks M){k:Nat}(hk:w.heap.size≤k):¬ V.mine p k:=fun hm=>by have:=(h.lt hm).2;omega
theorem PoolO.notBox(h:PoolO w B p V ks M){q:Nat}{t:TypeId}{cs:Array Value}(hb:Blk w q t cs)(ht: ∀r:Role,r.ty≠t):¬ V.mine p q:=by
 rintro⟨r,hr,e⟩;obtain⟨_,_,cs',hb'⟩:=h.at_ hr e;exact hb'.ne_ hb (ht r) rfl
theorem ty_pair(r:Role):r.ty≠60:=by cases r<;>simp[Role.ty]
theorem ty_ses(r:Role):r.ty≠133:=by cases r<;>simp[Role.ty]
theorem ty_ans(r:Role):r.ty≠46:=by cases r<;>simp[Role.ty]
theorem PoolO.keep(h:PoolO w B p V ks M)(kp:Keeps 60 w w')(ks':Keeps 133 w w')(hk: ∀q,V.mine p q→w'.heap[q]? =w.heap[q]?):PoolO w' B p V ks M:=by
 obtain⟨cs,hs⟩:=h.ses;obtain⟨cb,hb⟩:=h.blk;exact⟨⟨cb,(hk p ⟨.pool,trivial,rfl⟩).trans hb⟩,h.lb,h.rows.keeps kp,⟨cs,ks'.own hs.own,hs.ses.keeps kp⟩,h.owner.keep fun q hq=>hk q ⟨.owner,trivial,hq⟩,h.known.keep fun q hq=>hk q ⟨.known,trivial,hq⟩,h.klen,fun s hs=>⟨(h.kn s hs).1.keeps kp,(h.kn s hs).2⟩,
  fun c hc=>(h.pend c hc).keep fun q hq=>hk q ⟨.pend c,hc,hq⟩,fun c hc=>(h.bad c hc).keep fun q hq=>hk q ⟨.bad c,hc,hq⟩,fun c hc=>(h.ow c hc).keeps kp,h.adr,fun c hc=>(h.buf c hc).keep fun q hq=>hk q ⟨.buf c,hc,hq⟩,
  h.wait.keep fun q hq=>hk q ⟨.wait,trivial,hq⟩,h.deeds.keep fun q hq=>hk q ⟨.deeds,trivial,hq⟩,h.apart⟩
theorem PoolO.below(h:PoolO w B p V ks M)(hb:Below w.heap.size w w'):PoolO w' B p V ks M:=
 h.keep (.of_below hb) (.of_below hb) fun q hq=>hb.block q (h.lt hq).2
structure Step(p:Nat)(r0:Role)(w:World)(V:PV)(w':World)(V':PV):Prop where
 os:w'.os=w.os
 tape:w'.tape=w.tape
 output:w'.output=w.output
 size:w.heap.size≤w'.heap.size
 block: ∀k,k<w.heap.size→k≠p→V.at p r0≠some k→w'.heap[k]? =w.heap[k]?
 same: ∀r:Role,r≠r0→V'.at p r=V.at p r
 new: ∀k,V'.at p r0=some k→V.at p r0=some k∨w.heap.size≤k
 pool: ∀cs,Blk w p 101 cs→∃cs',Blk w' p 101 cs'
variable {r0:Role}
theorem Step.turn(s:Step p r0 w V w' V')(hr0:r0.ok):Turn p w V w' V':=
 ⟨s.os,s.tape,s.output,s.size,fun k hk hm=>s.block k hk (fun e=>hm ⟨.pool,trivial,by rw[e];rfl⟩) (fun e=>hm ⟨r0,hr0,e⟩),by
  rintro k ⟨r,hr,e⟩;by_cases h:r=r0
  ·subst h;rcases s.new k e with h1|h1
   ·exact .inl ⟨r,hr,h1⟩
   ·exact .inr h1
  ·exact .inl ⟨r,hr,by rw[←s.same r h];exact e⟩⟩
theorem Step.apart(s:Step p r0 w V w' V')(h:PoolO w B p V ks M)(hr0:r0.ok): ∀(r r':Role) (k:Nat),r.ok→r'.ok→V'.at p r=some k→V'.at p r'=some k→r=r':=by
 intro r r' k hr hr' e e';have one: ∀r1,r1.ok→r1≠r0→V'.at p r0=some k→V'.at p r1=some k→r1=r0:=by
  intro r1 hr1 hne e0 e1;rw[s.same r1 hne]at e1;rcases s.new k e0 with h1|h1
  ·exact h.apart r1 r0 k hr1 hr0 e1 h1
  ·have:=(h.at_ hr1 e1).2.1;omega
 by_cases h1:r=r0
 ·by_cases h2:r'=r0
  ·rw[h1,h2]
  ·subst h1;exact(one r' hr' h2 e e').symm
 ·by_cases h2:r'=r0
  ·subst h2;exact one r hr h1 e' e
  ·rw[s.same r h1]at e;rw[s.same r' h2]at e';exact h.apart r r' k hr hr' e e'
theorem Step.own(s:Step p r0 w V w' V')(h:PoolO w B p V ks M)(hr0:r0.ok){r:Role}(hr:r.ok)(hne:r≠r0)(hp:r≠.pool){e:TypeId}{size n:Nat}{v:Value}{xs:List Value}(hv:v.ownBlock=V.at p r)(ho:OwnO w B e size v n xs):OwnO w' B e size v n xs:=
 ho.keep fun k hk=>s.block k (ho.lt k hk).2 (fun e=>hp (h.apart r .pool k hr trivial (by rw[←hv];exact hk) (by rw[e];rfl))) (fun e=>hne (h.apart r r0 k hr hr0 (by rw[←hv];exact hk) e))
theorem Step.pairs(s:Step p r0 w V w' V')(h:PoolO w B p V ks M)(hr0:r0.ok){t:TypeId}(ht: ∀r:Role,r.ty≠t):Keeps t w w':=by
 intro g cs fr hg;refine(s.block g (heap_lt hg) ?_ ?_).trans hg
 ·rintro rfl;obtain⟨_,_,cs',hb⟩:=h.at_ (r:=.pool) trivial rfl;unfold Blk at hb;rw[hg]at hb;injection hb with hb;injection hb with _ h2;exact ht _ h2.symm
 ·intro e;obtain⟨_,_,cs',hb⟩:=h.at_ hr0 e;unfold Blk at hb;rw[hg]at hb;injection hb with hb;injection hb with _ h2;exact ht _ h2.symm
theorem Step.store(w:World)(V:PV)(p j:Nat)(x:Value)(r0:Role){V':PV}(same: ∀r:Role,r≠r0→V'.at p r=V.at p r)(new: ∀k,V'.at p r0=some k→V.at p r0=some k∨w.heap.size≤k):Step p r0 w V (w.setCell ⟨p,j,none⟩ x) V':=
 ⟨rfl,rfl,rfl,by simp[World.setCell],fun k _ hp _=>Below.heap_setCell w ⟨p,j,none⟩ x k hp,same,new,fun _ h=>⟨_,h.set_ j x⟩⟩
theorem Step.below(s:Step p r0 w V w' V')(hb:Below w'.heap.size w' u):Step p r0 w V u V':=
 ⟨hb.os.trans s.os,hb.tape.trans s.tape,hb.output.trans s.output,Nat.le_trans s.size hb.size,fun k hk h1 h2=>(hb.block k (Nat.lt_of_lt_of_le hk s.size)).trans (s.block k hk h1 h2),s.same,s.new,fun cs h=>by
  obtain⟨cs',h'⟩:=s.pool cs h;exact⟨cs',h'.keep hb⟩⟩
theorem Step.pre(hb:Below w.heap.size w w')(s:Step p r0 w' V u V'):Step p r0 w V u V':=
 ⟨s.os.trans hb.os,s.tape.trans hb.tape,s.output.trans hb.output,Nat.le_trans hb.size s.size,fun k hk h1 h2=>(s.block k (Nat.lt_of_lt_of_le hk hb.size) h1 h2).trans (hb.block k hk),s.same,fun k hk=>(s.new k hk).imp id fun h=>Nat.le_trans hb.size h,fun cs h=>s.pool cs (h.keep hb)⟩
theorem Step.grown(h:PoolO w B p V ks M)(hr0:r0.ok)(hp:r0≠.pool)(g:w.grownBy w' (V.at p r0)){V':PV}(same: ∀r:Role,r≠r0→V'.at p r=V.at p r)(new: ∀k,V'.at p r0=some k→V.at p r0=some k∨w.heap.size≤k):Step p r0 w V w' V':=
 ⟨g.os,g.tape,g.output,g.size,fun k hk _ hn=>g.block k hk fun e=>hn e.symm,same,new,fun cs h'=>⟨cs,(g.block p h'.lt fun e=>hp (h.apart r0 .pool p hr0 trivial e.symm rfl)).trans h'⟩⟩
structure PoolR(w:World)(B p:Nat)(V:PV)(ks:List KV)(M:MV):Prop where
 o:PoolO w B p V ks M
 b:PoolB w p M V
theorem PoolR.below(h:PoolR w B p V ks M)(hb:Below w.heap.size w w'):PoolR w' B p V ks M:=⟨h.o.below hb,h.b.keep (hb.block p h.b.lt)⟩
theorem PoolR.keep(h:PoolR w B p V ks M)(kp:Keeps 60 w w')(ks':Keeps 133 w w')(hk: ∀q,V.mine p q→w'.heap[q]? =w.heap[q]?):PoolR w' B p V ks M:=
 ⟨h.o.keep kp ks' hk,h.b.keep (hk p ⟨.pool,trivial,rfl⟩)⟩
end
theorem ref_str_no{a b:ByteArray}(h:¬ a=b):(a.toList==b.toList)=false:=by
 cases hh:(a.toList==b.toList)with
 |false=>rfl
 |true=>exact absurd (str_inj (by simpa using hh)) h
theorem hasK_at{l:List Pr}{key:ByteArray}{k:Nat}(hk:k<l.length)(h:l[k].k=key):hasK l key=true:=by
 unfold hasK;exact List.any_eq_true.2 ⟨l[k],List.getElem_mem _,by simpa using h⟩
theorem hasK_no{l:List Pr}{key:ByteArray}(h: ∀j (hj:j<l.length),¬ l[j].k=key):hasK l key=false:=by
 unfold hasK;refine List.any_eq_false.2 fun p hp=>?_;obtain⟨j,hj,rfl⟩:=List.getElem_of_mem hp;simpa using h j hj
theorem refat_any(w:World)(v:Value)(l:List Pr)(key:ByteArray)(h:PL w w.heap.size v l):
  Calls Tryz.prog 151 #[v,.string key] w fun e w'=>∃x,e= .returned (.tuple #[.string x,.bool (hasK l key)])∧Below w.heap.size w w':=by
 obtain⟨A,c,rfl,hc,hr,hf⟩:=h;have hl:l.length≤4398046510976:=hf.1;have HR:=Hd hr;obtain⟨n,hN⟩: ∃n,l.length=n:=⟨_,rfl⟩;rw[hN]at hl⊢;have HN:=Hd hN;clear hr hf hc hN;go_enter func151,ntmps151
 go_wp2_with fail
 go_loopw [6] (fun i wx=>∃k:Nat,k≤n∧i= .int .i64 k∧Below w.heap.size w wx∧Hid (∀j (hj:j<l.length),j<k→¬ l[j].k=key)) (fun i _=>n-(intOf i).toNat)
 case atStart=>exact⟨0,Nat.zero_le _,rfl,bR,Hd (fun j _ hj=>absurd hj (Nat.not_lt_zero _))⟩
 case round=>
  obtain⟨k,hk,rfl,hb,HJ⟩:=hrel;by_cases hlt:k<n
  ·have g1:(k:Int)<(n:Int):=by omega
   have g2:(0:Int)≤(k:Int):=by omega
   have hkl:k<l.length:=by rw[HN.out];exact hlt
   have hr:=HR.out;obtain⟨ad,hA,_,x0,x1⟩:=pair_at (hr.below hb) hkl;subst hA;obtain⟨p,hp⟩: ∃p,l[k]=p:=⟨_,rfl⟩;rw[hp]at x0 x1;have HP:=Hd hp;have HB:=Hd hb;have HK:=Hd hkl;obtain⟨pk,pv⟩:=p;simp only at x0 x1;clear hp hr hb;by_cases he:pk=key
   ·subst he;have HF:=Hd (show hasK l pk=true from hasK_at HK.out (by rw[HP.out]))
    go_wp2_with fail
    go_ret2
    exact⟨pv,by rw[HF.out];rfl,HB.out⟩
   ·have n1:=ref_str_no he;have HF:=Hd (show∀j (hj:j<l.length),j<k+1→¬ l[j].k=key by
     intro j hj hjm;rcases Nat.lt_succ_iff_lt_or_eq.1 hjm with h|h
     ·exact HJ.out j hj h
     ·subst h;rw[HP.out];exact he)
    go_wp2_with fail
    go_roundw
    case rel=>exact⟨k+1,by omega,by go_num,HB.out,HF⟩
    case measure=>simp[intOf];omega
  ·have g1:(n:Int)≤(k:Int):=by omega
   have HF:=Hd (show hasK l key=false from hasK_no fun j hj=>HJ.out j hj (by rw[HN.out]at hj;omega))
   have HB:=Hd hb;clear hb;go_wp2_with fail
   go_ret2
   exact⟨⟨#[]⟩,by rw[HF.out];rfl,HB.out⟩
theorem heldB_no{ss:List Se}{me:Nat}{key:ByteArray}(h: ∀j,j<ss.length→j≠me→hasK (ss.getD j Se.new).wri key=false):heldB ss me key=false:=by
 cases e:heldB ss me key with
 |false=>rfl
 |true=>
  obtain⟨j,hj,hne,hk⟩:=(held_iff _ _ _).1 e;rw[h j hj hne]at hk;cases hk
theorem heldB_yes{ss:List Se}{me k:Nat}{key:ByteArray}(hk:k<ss.length)(hne:k≠me)(h:hasK ss[k].wri key=true):heldB ss me key=true:=
 (held_iff _ _ _).2 ⟨k,hk,hne,by rw[getD_at hk];exact h⟩
theorem refheld_any(w:World)(Ar:Option Addr)(nr cr:Nat)(s:Value)(ss:List Se)(me:Nat)(key:ByteArray)(h:SL w w.heap.size s ss)(_hme:me≤1000):
  Calls Tryz.prog 153 #[.agg #[.slice Ar nr cr,s],.int .i64 (me:Nat),.string key] w fun e w'=>e= .returned (.bool (heldB ss me key))∧Below w.heap.size w w':=by
 obtain⟨A,c,rfl,hc,hn,hs⟩:=h;have HS:=Hd hs;clear hs hc;obtain⟨n,hN⟩: ∃n,ss.length=n:=⟨_,rfl⟩;rw[hN]at hn⊢;have HN:=Hd hN;have B0:=Hd (boxed w (.cells #[.slice Ar nr cr,.slice A n c] 39));have X0:=Hd (Blk.new w 39 #[.slice Ar nr cr,.slice A n c]);clear hN;obtain⟨q,hq⟩: ∃q,w.heap.size=q:=⟨_,rfl⟩;rw[hq]at X0;go_enter func153,ntmps153
 go_wp2_with fail
 go_loopw [7] (fun y wx=>∃k:Nat,k≤n∧y= .int .i64 k∧Hid (∀j,j<k→j≠me→hasK (ss.getD j Se.new).wri key=false)∧Below w.heap.size w wx∧Blk wx q 39 #[.slice Ar nr cr,.slice A n c]) (fun y _=>n-(intOf y).toNat)
 case atStart=>exact⟨0,Nat.zero_le _,rfl,Hd (fun j hj=>absurd hj (Nat.not_lt_zero _)),B0.out,X0.out⟩
 case round=>
  obtain⟨k,hk,rfl,HG,hb,hx⟩:=hrel;have f1:=hx.cell_ 1 _ rfl;have HX:=Hd hx;by_cases hlt:k<n
  ·have hkl:k<ss.length:=by rw[HN.out];exact hlt
   obtain⟨ad,hA,hB,hse⟩:=HS.out (by rw[HN.out];omega)
   subst hA;have y:=(hse k hkl).below (by rw[block_of_add];exact hB) hb
   obtain⟨t,ht⟩: ∃t,ss[k]=t:=⟨_,rfl⟩;rw[ht]at y;obtain⟨x0,-,-,-,⟨v4,x4,p4⟩,-,-⟩:=y;obtain⟨A4,z4,rfl⟩:=p4.form;have P4:=Hd (p4.more hb.size);have HT:=Hd ht;have HB:=Hd hb;have HK:=Hd hkl;have g1:(k:Int)<(n:Int):=by omega
   have g2:(0:Int)≤(k:Int):=by omega
   clear p4 ht hse hb hB hx;go_wp2_with fail
   refine(refat_any _ _ t.wri key P4.out).mono ?_;rintro e w1 ⟨xv,rfl,b1⟩;have HB1:=Hd (below_step HB.out leR b1);have HX1:=Hd (HX.out.keep b1);obtain⟨b,hbk⟩: ∃b,hasK t.wri key=b:=⟨_,rfl⟩;rw[hbk];have HF:=Hd hbk;clear b1 x0 x4 f1 hbk;cases b with
   |true=>
    by_cases hki:k=me
    ·have e1:((k:Int)!=(me:Int))=false:=by simp[hki]
     have e2:(k !=me)=false:=by simp[hki]
     have HG2:=Hd (show∀j,j<k+1→j≠me→hasK (ss.getD j Se.new).wri key=false from fun j hj hne=>HG.out j (by omega) hne)
     clear hki;go_wp2_with fail
     go_roundw
     case rel=>exact⟨k+1,by omega,by go_num,HG2,HB1.out,HX1.out⟩
     case measure=>simp[intOf];omega
    ·have e1:((k:Int)!=(me:Int))=true:=by simp;omega
     have e2:(k !=me)=true:=by simp[hki]
     have HR:=Hd (heldB_yes (key:=key) HK.out hki (by rw[HT.out];exact HF.out))
     clear hki;go_wp2_with fail
     go_ret;exact⟨by rw[HR.out];rfl,HB1.out⟩
   |false=>
    have HG2:=Hd (show∀j,j<k+1→j≠me→hasK (ss.getD j Se.new).wri key=false from fun j hj hne=>by
     rcases Nat.lt_succ_iff_lt_or_eq.1 hj with hj|rfl
     ·exact HG.out j hj hne
     ·rw[getD_at HK.out,HT.out];exact HF.out)
    go_wp2_with fail
    go_roundw
    case rel=>exact⟨k+1,by omega,by go_num,HG2,HB1.out,HX1.out⟩
    case measure=>simp[intOf];omega
  ·have g1:(n:Int)≤(k:Int):=by omega
   have HR:=Hd (heldB_no (ss:=ss) (me:=me) (key:=key) (fun j hj hne=>HG.out j (by rw[HN.out]at hj;omega) hne))
   have HB:=Hd hb;clear hb hx;go_wp2_with fail
   go_ret;exact⟨by rw[HR.out];rfl,HB.out⟩
def addR(l m:List Pr):List Pr:=m.foldl (fun o p=>plusP o p.k ⟨#[]⟩) l
def allR(W:Wo):List Pr:=W.ses.foldl (fun o s=>addR o s.wri) W.rows
theorem addR_sorted: ∀(m:List Pr) {l:List Pr},Sorted l→Sorted (addR l m)
 |[],_,h=>h
 |p::m,_,h=>addR_sorted m (plus_sorted h p.k ⟨#[]⟩)
theorem addR_keys: ∀(m l:List Pr) (x:ByteArray),x∈(addR l m).map (·.k)↔x∈l.map (·.k)∨x∈m.map (·.k)
 |[],l,x=>by simp[addR]
 |p::m,l,x=>by
  have h:=addR_keys m (plusP l p.k ⟨#[]⟩) x;have e:addR l (p::m)=addR (plusP l p.k ⟨#[]⟩) m:=rfl;rw[e,h,plus_keys,List.map_cons,List.mem_cons];constructor
  ·rintro((h|h)|h)
   ·exact .inr (.inl h)
   ·exact .inl h
   ·exact .inr (.inr h)
  ·rintro(h|h|h)
   ·exact .inl (.inr h)
   ·exact .inl (.inl h)
   ·exact .inr h
def allS(l:List Pr)(ss:List Se):List Pr:=ss.foldl (fun o s=>addR o s.wri) l
theorem allS_sorted: ∀(ss:List Se) {l:List Pr},Sorted l→Sorted (allS l ss)
 |[],_,h=>h
 |s::ss,_,h=>allS_sorted ss (addR_sorted s.wri h)
theorem allS_keys: ∀(ss:List Se) (l:List Pr) (x:ByteArray),x∈(allS l ss).map (·.k)↔x∈l.map (·.k)∨x∈ss.flatMap fun s=>s.wri.map (·.k)
 |[],l,x=>by simp[allS]
 |s::ss,l,x=>by
  have e:allS l (s::ss)=allS (addR l s.wri) ss:=rfl;rw[e,allS_keys ss,addR_keys,List.flatMap_cons,List.mem_append,or_assoc]
theorem allS_take(l:List Pr)(ss:List Se){k:Nat}(hk:k<ss.length):allS l (ss.take (k+1))=addR (allS l (ss.take k)) ss[k].wri:=by
 unfold allS;rw[List.take_succ_eq_append_getElem hk,List.foldl_append];rfl
theorem addR_take(l m:List Pr){k:Nat}(hk:k<m.length):addR l (m.take (k+1))=plusP (addR l (m.take k)) m[k].k ⟨#[]⟩:=by
 unfold addR;rw[List.take_succ_eq_append_getElem hk,List.foldl_append];rfl
theorem allR_sorted{W:Wo}(h:Sorted W.rows):Sorted (allR W):=allS_sorted W.ses h
theorem allR_keys(W:Wo)(x:ByteArray):x∈(allR W).map (·.k)↔x∈keysW W:=by
 unfold keysW;rw[List.mem_append];exact allS_keys W.ses W.rows x
theorem allR_card{W:Wo}(h:Sorted W.rows):(allR W).length=card (keysW W):=by
 rw[←card_congr (allR_keys W),card_nodup (allR_sorted h).nodup,List.length_map]
theorem allR_has(W:Wo)(x:ByteArray):hasK (allR W) x=true↔hasK W.rows x=true∨∃j,j<W.ses.length∧hasK (W.se j).wri x=true:=by
 rw[hasK_iff,allR_keys,mem_keys]
theorem allR_mine{W:Wo}{i:Nat}(hi:i<W.ses.length){k:ByteArray}(h:heldB W.ses i k=false):hasK (allR W) k=(hasK W.rows k||hasK (W.se i).wri k):=by
 rw[Bool.eq_iff_iff,allR_has,Bool.or_eq_true];constructor
 ·rintro(h1|⟨j,hj,h1⟩)
  ·exact .inl h1
  ·by_cases e:j=i
   ·subst e;exact .inr h1
   ·exfalso;have:heldB W.ses i k=true:=(held_iff _ _ _).2 ⟨j,hj,e,h1⟩;rw[h]at this;cases this
 ·rintro(h1|h1)
  ·exact .inl h1
  ·exact .inr ⟨i,hi,h1⟩
theorem full_iff{W:Wo}(g:Good W){i:Nat}(hi:i<W.ses.length){k:ByteArray}(h:heldB W.ses i k=false):(hasK W.rows k=false∧hasK (W.se i).wri k=false∧card (keysW W)=100)↔(hasK (allR W) k=false∧100≤(allR W).length):=by
 rw[allR_mine hi h,allR_card g.rowsS];have:=g.room;constructor
 ·rintro⟨a,b,c⟩;exact⟨by rw[a,b];rfl,by omega⟩
 ·rintro⟨a,b⟩;rw[Bool.or_eq_false_iff]at a;exact⟨a.1,a.2,by omega⟩
theorem refno_any(w:World)(t:ByteArray):Calls Tryz.prog 149 #[.string t] w fun e w'=>e= .returned (.agg #[.int .i64 4,.string t,.int .i64 0])∧Below w.heap.size w w':=by
 go_enter func149,ntmps149
 go_wp2_with fail
 have hb:=Blk.new w 46 #[.int .i64 4,.string t,.int .i64 0];have q0:=hb.cell_ 0 _ rfl;have q1:=hb.cell_ 1 _ rfl;have q2:=hb.cell_ 2 _ rfl;refine bodyPost_ret (v:=.agg #[.int .i64 4,.string t,.int .i64 0]) ?_ rfl ⟨rfl,boxed _ _⟩;simp[results,results149,go_sem,q0,q1,q2]
theorem reffound_any(w:World)(t:ByteArray)(b:Bool):Calls Tryz.prog 152 #[.string t,.bool b] w fun e w'=>e= .returned (if b=true then .agg #[.int .i64 2,.string t,.int .i64 0]else .agg #[.int .i64 3,.string ⟨#[]⟩,.int .i64 0])∧Below w.heap.size w w':=by
 cases b with
 |true=>
  go_enter func152,ntmps152
  go_wp2_with fail
  have hb:=Blk.new w 46 #[.int .i64 2,.string t,.int .i64 0];have q0:=hb.cell_ 0 _ rfl;have q1:=hb.cell_ 1 _ rfl;have q2:=hb.cell_ 2 _ rfl;refine bodyPost_ret (v:=.agg #[.int .i64 2,.string t,.int .i64 0]) ?_ rfl ⟨rfl,boxed _ _⟩;simp[results,results152,go_sem,q0,q1,q2]
 |false=>
  go_enter func152,ntmps152
  go_wp2_with fail
  have hb:=Blk.new w 46 #[.int .i64 3,.string ⟨#[]⟩,.int .i64 0];have q0:=hb.cell_ 0 _ rfl;have q1:=hb.cell_ 1 _ rfl;have q2:=hb.cell_ 2 _ rfl;refine bodyPost_ret (v:=.agg #[.int .i64 3,.string ⟨#[]⟩,.int .i64 0]) ?_ rfl ⟨rfl,boxed _ _⟩;simp[results,results152,go_sem,q0,q1,q2]
end Go.Proofs.YtjbnfigpflambacGreatDoor
