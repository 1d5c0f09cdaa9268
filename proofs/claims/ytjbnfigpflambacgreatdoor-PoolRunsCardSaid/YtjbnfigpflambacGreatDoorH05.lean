/- A region that draws its order, in segments. Conditions: those of each lemma. -/
import Derived.Test.YtjbnfigpflambacGreatDoorH04
namespace Go.Proofs.YtjbnfigpflambacGreatDoor
set_option maxRecDepth 100000
set_option maxHeartbeats 16000000
open Go.RowKit
section
def notMethod:Value→Bool
 | .pointer _=>true
 | .func (.func _) _ _=>true
 |_=>false
def sizedField(P:Program)(t:TypeId)(f:Nat):Bool:=
 match P.underlying t with
 |some (.struct fs)=>match fs[f]? with
  |some fd=>match P.info? fd.type with
   |some i=>i.size !=0
   |none=>false
  |none=>false
 |_=>false
def isLen:Callee→Bool
 | .builtin .len=>true
 |_=>false
def readerB(P:Program)(o:Oper):Bool:=
 match o.op with
 | .move _| .assign _| .pick _ _ _| .load _ _| .nilCheck _| .field _ _ _| .index _ _ _| .indexAddr _ _ _| .extract _ _| .slice _ _ _ _ _| .build _ _| .makeFunc _ _ _| .unOp _ _ _=>true
 | .fieldAddr t _ f=>sizedField P t f
 | .binOp op t _ _ _=>mathOp op||(eqOp op&&eqTy P t)
 | .call c=>isLen c.callee
 |_=>false
def plainOps(ρ:Operand→Value)(o:Oper):Bool:=
 match o.op with
 | .binOp _ _ x y _=>plainV (ρ x)&&plainV (ρ y)
 | .unOp _ _ x=>plainV (ρ x)
 | .nilCheck x=>notMethod (ρ x)
 |_=>true
section
variable {P:Program}
theorem Calm.run_sized{t:TypeId}{i:TypeInfo}(h:P.info? t=some i)(w:World):(Go.sizeOf t).run P w= .ok i.size w:=by
 unfold Go.sizeOf Go.typeInfo;show Sem.run P (do let z←(match P.info? t with|some i=>(Pure.pure i:Sem TypeInfo)|none=>Go.stuck "no such type");Pure.pure z.size) w=_
 rw[h];rfl
theorem Calm.fieldAt{t:TypeId}{f:Nat}(h:sizedField P t f=true)(x:Value):Calm P (Instr.fieldAt t x f):=by
 unfold Instr.fieldAt;refine Calm.underlying_bind fun d hd=>?_;unfold sizedField at h;rw[hd]at h;cases d<;>first|(cases h;done)|skip
 rename_i fs;dsimp only at h⊢;cases hf:fs[f]? with
 |none=>rw[hf]at h;cases h
 |some fd=>
  rw[hf]at h;dsimp only at h⊢;refine(Calm.sureAddr x).bind fun a=>Calm.bind ?_ fun _=>.pure _;unfold fieldPlace;cases hi:P.info? fd.type with
  |none=>rw[hi]at h;cases h
  |some i=>
   rw[hi]at h;have h0:i.size≠0:=by simpa using h
   refine Calm.bind_of (fun n=>n≠0) (fun w n u hr=>?_) (.sizeOf _) fun n hn=>?_
   ·rw[Calm.run_sized hi]at hr;injection hr with h1 _;rw[←h1];exact h0
   ·rw[if_neg hn];exact .pure _
theorem Calm.mapM_list{α β:Type}(f:α→Sem β)(h: ∀a,Calm P (f a)): ∀l:List α,Calm P (l.mapM f)
 |[]=>by rw[List.mapM_nil];exact .pure _
 |a::l=>by
  rw[List.mapM_cons];exact(h a).bind fun _=>(Calm.mapM_list f h l).bind fun _=>.pure _
theorem Calm.build(t:TypeId)(ps:Array (Nat × Value)):Calm P (Instr.build t ps):=by
 unfold Instr.build;refine(Calm.zeroValue t).bind fun z=>(Calm.underlying t).bind fun d=>?_;split
 ·refine Calm.bind ?_ fun _=>?_
  ·rw[Array.mapM_eq_mapM_toList];refine Calm.bind (Calm.mapM_list _ (fun a=>(Calm.sizeOf _).bind fun _=>.pure _) _) fun _=>.pure _
  ·split
   ·exact .pure _
   ·exact .stuck _
 ·refine(Calm.sizeOf _).bind fun _=>?_;split
  ·exact .pure _
  ·exact .stuck _
 ·exact .stuck _
theorem Calm.unary(op:UnOp){x:Value}(h:plainV x=true):Calm P (Op.unary op x):=by
 cases op<;>cases x<;>first|(cases h;done)|exact .stuck _|exact .pure _
theorem reader_form{o:Oper}{ρ:Operand→Value}(h:readerB P o=true): ∃m:Sem Value,execOp ρ o=m>>=fun x=>Pure.pure (Next.value x):=by
 by_cases hn: ∃x,o.op= .nilCheck x
 ·obtain⟨dst,op,type,pos,after,guard⟩:=o;obtain⟨x,e⟩:=hn;have e:op= .nilCheck x:=e;subst e;simp only[execOp];generalize ρ x=v;split
  ·exact⟨Go.runtimePanic .nilDeref,rfl⟩
  ·exact⟨Go.runtimePanic .nilDeref,rfl⟩
  ·exact⟨Go.runtimePanic .nilDeref,rfl⟩
  ·split
   ·exact⟨Go.runtimePanic .nilDeref,rfl⟩
   ·rename_i name first captured _ t w _
    exact⟨do
     if(←nilAhead ((←Go.program).types.size+Made.depth) t w name)!=some false then
      Go.unsupported (.noEntry "op/nilCheck.the method's receiver behind this interface value is a nil pointer, or cannot be seen to be none, and the arguments act or may panic (ledger 612)")
     Pure.pure (.func (.method name) first captured),by
      simp only[bind_assoc];refine congrArg _ (funext fun p=>congrArg _ (funext fun b=>?_));split<;>rfl⟩
   ·exact⟨Pure.pure _,rfl⟩
  ·exact⟨Pure.pure _,rfl⟩
 ·have hp: ∃ρ':Operand→Value,True:=⟨ρ,trivial⟩;obtain⟨dst,op,type,pos,after,guard⟩:=o;cases op<;>first|(cases h;done)|exact absurd ⟨_,rfl⟩ hn|exact⟨_,rfl⟩|skip
  case move x=>exact⟨Pure.pure (ρ x),rfl⟩
  case assign x=>exact⟨Pure.pure (ρ x),rfl⟩
  case pick c a b=>exact⟨do Pure.pure (if←Go.asBool (ρ c)then ρ a else ρ b),by simp only[execOp,bind_assoc,pure_bind]⟩
  case call c=>
   obtain⟨callee,args,argTypes⟩:=c;have h3:isLen callee=true:=h;have hc:callee= .builtin .len:=by
    clear h hn;cases callee<;>first|(cases h3;done)|skip
    rename_i b;cases b<;>first|(cases h3;done)|rfl
   subst hc;exact⟨Builtin.len_ argTypes type (args.map ρ),rfl⟩
theorem reader_exec{o:Oper}{ρ:Operand→Value}(h:readerB P o=true)(hp:plainOps ρ o=true): ∃m:Sem Value,execOp ρ o=(m>>=fun x=>Pure.pure (Next.value x))∧Calm P m:=by
 obtain⟨dst,op,type,pos,after,guard⟩:=o;cases op<;>first|(cases h;done)|skip
 case move x=>exact⟨Pure.pure (ρ x),rfl,.pure _⟩
 case assign x=>exact⟨Pure.pure (ρ x),rfl,.pure _⟩
 case pick c a b=>exact⟨do Pure.pure (if←Go.asBool (ρ c)then ρ a else ρ b),by simp only[execOp,bind_assoc,pure_bind],(Calm.asBool _).bind fun _=>.pure _⟩
 case build t ps=>exact⟨_,rfl,.build _ _⟩
 case load t a=>exact⟨_,rfl,.loadAt _ _⟩
 case nilCheck x=>
  have hp:notMethod (ρ x)=true:=hp;simp only[execOp];generalize ρ x=v at hp⊢;cases v<;>first|(cases hp;done)|skip
  ·rename_i q;cases q with
   |none=>exact⟨Go.runtimePanic .nilDeref,rfl,.never nilDeref_never⟩
   |some q=>exact⟨Pure.pure (.pointer (some q)),rfl,.pure _⟩
  ·rename_i f a b;cases f<;>first|(cases hp;done)|exact⟨Pure.pure _,rfl,.pure _⟩
 case binOp op t x y ty=>
  have hp:(plainV (ρ x)&&plainV (ρ y))=true:=hp;rw[Bool.and_eq_true]at hp;have h:(mathOp op||(eqOp op&&eqTy P t))=true:=h;refine⟨_,rfl,?_⟩;have h1:(mathOp op||eqOp op)=true:=by revert h;cases mathOp op<;>cases eqOp op<;>simp
  have h2:eqOp op=true→eqTy P t=true:=fun e=>by
   have hm:mathOp op=false:=by cases op<;>first|rfl|(cases e;done)
   rw[hm,e]at h;simpa using h
  exact(Calm.eqGuard h2 x y hp.1 hp.2).bind fun _=>.binOp h1 h2 hp.1 hp.2
 case unOp op t x=>exact⟨_,rfl,.unary op hp⟩
 case makeFunc f a b=>exact⟨_,rfl,.pure _⟩
 case slice t x lo hi mx=>exact⟨_,rfl,.sliceAt _ _ _ _ _⟩
 case fieldAddr t x f=>exact⟨_,rfl,.fieldAt h _⟩
 case field t x f=>exact⟨_,rfl,.field _ _ _⟩
 case indexAddr t x i=>exact⟨_,rfl,.indexAt _ _ _⟩
 case index t x i=>exact⟨_,rfl,.index _ _ _⟩
 case extract t i=>exact⟨_,rfl,.extract _ _⟩
 case call c=>
  obtain⟨callee,args,argTypes⟩:=c;have h3:isLen callee=true:=h;have hc:callee= .builtin .len:=by
   clear h hp;cases callee<;>first|(cases h3;done)|skip
   rename_i b;cases b<;>first|(cases h3;done)|rfl
  subst hc;exact⟨Builtin.len_ argTypes type (args.map ρ),rfl,.len _ _ _⟩
end
/-! one order for all -/
section
variable {P:Program}{ops:Array Oper}{Q:Exit→Act→World→Prop}{md:Region.Mode}{late:List Nat}
def anyB(P:Program)(md:Region.Mode)(ops:Array Oper)(Q:Exit→Act→World→Prop)(late:List Nat):Nat→Array Bool→Act→World→Prop
 |0,done,a,w=>Region.ready md ops done=[]∧Q .normal a w
 |n+1,done,a,w=>(Region.ready md ops done=[]→Q .normal a w)∧
   ∀j,j∈Region.ready md ops done→wpOp P ops Q j (fun b u=>(j∉late→Below w.heap.size w u)∧anyB P md ops Q late n (done.setIfInBounds j true) b u) a w
theorem anyB_any(n:Nat): ∀(done:Array Bool) (a:Act) (w:World),anyB P md ops Q late n done a w→wpAny P md ops Q n done a w:=by
 induction n with
 |zero=>exact fun _ _ _ h=>h
 |succ n ih=>exact fun done a w h=>⟨h.1,fun j hj=>wpOp_mono (fun b u hb=>ih _ b u hb.2) (h.2 j hj)⟩
def waitC(md:Region.Mode)(ops:Array Oper)(done:Array Bool)(i:Nat)(C:List Nat):Bool:=
 C.all fun c=>!done.getD c true&&match ops[c]? with
  |some o=>o.after.any fun e=>Region.binds md e&&(e.on==i||C.contains e.on)
  |none=>false
theorem openD{done:Array Bool}{i:Nat}(h:done.getD i true=false):done.getD i false=false:=by
 rcases Nat.lt_or_ge i done.size with hlt|hge
 ·simp[hlt]at h⊢;exact h
 ·simp[Array.getElem?_eq_none hge]
theorem waitC_spec{done:Array Bool}{i:Nat}{C:List Nat}(h:waitC md ops done i C=true): ∀c∈C,done.getD c true=false∧∃o,ops[c]? =some o∧∃e∈o.after,Region.binds md e=true∧(e.on=i∨e.on∈C):=by
 intro c hc;have h1:=List.all_eq_true.1 h c hc;rw[Bool.and_eq_true,Bool.not_eq_true']at h1;refine⟨h1.1,?_⟩;have h2:=h1.2;split at h2
 ·rename_i o ho;obtain⟨e,he,hb⟩:=Array.any_eq_true'.1 h2;simp only[Bool.and_eq_true,Bool.or_eq_true,beq_iff_eq,List.contains_iff_mem]at hb;exact⟨o,ho,e,he,hb⟩
 ·cases h2
theorem anyB_first{i:Nat}{o:Oper}{v:Value}{S:World→Prop}(hSk: ∀w u,S w→Below w.heap.size w u→S u){C:List Nat}(ho:ops[i]? =some o)(hs: ∀(j:Nat) (q:Oper) cs b,ops[j]? =some q→q.op≠.select cs b)
  (hQ: ∀c a w,Q (.panic c) (a.put o.dst v) w→Q (.panic c) a w) (hC: ∀c∈C,∃q,ops[c]? =some q∧∃e∈q.after,Region.binds md e=true∧(e.on=i∨e.on∈C)) (n:Nat):
  ∀(done:Array Bool) (a:Act) (w:World),
   (∀j q,ops[j]? =some q→j≠i→done.getD j true=false→(∀e∈q.after,Region.binds md e=true→e.on≠i)→o.apart ops q=true)→
   (∀c∈C,done.getD c true=false)→((∀w,S w)∨∀j∈late,done.getD j true=true∨j∈C)→
   i∈Region.ready md ops done→YieldsIf P ops S o v a→S w→
   anyB P md ops Q late n (done.setIfInBounds i true) (a.put o.dst v) w→anyB P md ops Q late (n+1) done a w:=by
 induction n with
 |zero=>
  intro done a w _ _ _ hi hy hS h;refine⟨fun e=>(by rw[e]at hi;cases hi),fun j hj=>?_⟩
  rcases Nat.decEq j i with hne|rfl
  ·have hm:=ready_mono hj hne;rw[h.1]at hm;cases hm
  ·exact hy.wpOp ho hS ⟨fun _=>Below.refl _ _,h⟩
 |succ n ih=>
  intro done a w hf hcd hl hi hy hS h;refine⟨fun e=>(by rw[e]at hi;cases hi),fun j hj=>?_⟩
  rcases Nat.decEq j i with hne|rfl
  ·obtain⟨hun,q,hq,hall⟩:=mem_ready.1 hj;have hiu:=openD (mem_ready.1 hi).1;have hno: ∀e∈q.after,Region.binds md e=true→e.on≠i:=by
    intro e he hb hei;have h1:=hall e he hb;rw[hei,hiu]at h1;cases h1
   have hjC:j∉C:=by
    intro hc;obtain⟨q',hq',e,he,hb,hor⟩:=hC j hc;rw[hq]at hq';injection hq' with hq';subst hq';have h1:=hall e he hb;rcases hor with h2|h2
    ·rw[h2,hiu]at h1;cases h1
    ·rw[openD (hcd _ h2)]at h1;cases h1
   have hjl:(∀w,S w)∨j∉late:=hl.imp id fun hl hm=>by
    rcases hl j hm with h1|h1
    ·rw[hun]at h1;cases h1
    ·exact hjC h1
   have hstep:=wpOp_putIf (S:=S) hq (hf j q hq hne hun hno) (fun cs b=>hs i o cs b ho) (fun cs b=>hs j q cs b hq) hQ hy (h.2 j (ready_mono hj hne));refine wpOp_mono (fun b u ⟨hy',hSu,hrest⟩=>⟨hSu,?_⟩) hstep;refine ih (done.setIfInBounds j true) b u (fun k r hr hki hk=>?_) (fun c hc=>?_) (hl.imp id fun hl k hk=>?_) (ready_mono hi (Ne.symm hne)) hy' (hjl.elim (fun hA=>hA u) fun hn=>hSk w u hS (hSu hn)) ?_
   ·refine hf k r hr hki ?_;rcases Nat.decEq j k with hjk|rfl
    ·rwa[getD_set_ne true hjk]at hk
    ·exact hun
   ·rw[getD_set_ne true (fun e:j=c=>hjC (by rw[e];exact hc))]
    exact hcd c hc
   ·rcases hl k hk with h1|h1
    ·refine .inl ?_;rcases Nat.decEq j k with hjk|rfl
     ·rw[getD_set_ne true hjk];exact h1
     ·rw[hun]at h1;cases h1
    ·exact .inr h1
   ·rw[Array.setIfInBounds_comm _ _ hne];exact hrest
  ·exact hy.wpOp ho hS ⟨fun _=>Below.refl _ _,h⟩
def pickOps(ops:Array Oper):List Nat→List Oper
 |[]=>[]
 |i::T=>match ops[i]? with|some o=>o::pickOps ops T|none=>pickOps ops T
def opTmps(o:Oper):List Tmp:=o.op.operands.toList.filterMap fun| .tmp t=>some t|_=>none
def ssaB:List Oper→Bool
 |[]=>true
 |o::l=>((o::l).all fun q=>match q.dst with|some d=>!(opTmps o).contains d|none=>true)&&ssaB l
def SegQ(w:World)(L:List Oper)(K:Act→Prop):Exit→Act→World→Prop
 | .normal,a,u=>u=w∧(L.all fun o=>plainOps a.eval o)=true∧K a
 |_,_,_=>False
def Path(P:Program)(ops:Array Oper)(F:Act→World→Prop):List Oper→Act→World→Prop
 |[],a,w=>F a w
 |o::l,a,w=>if Region.wanted o (yielded ops a.tmps)=true then∃v u,(execOp a.eval o).run P w= .ok (.value v) u∧Path P ops F l (a.put o.dst v) u else Path P ops F l (a.put o.dst undef) w
theorem path_of{w0:World}{L:List Oper}{K:Act→Prop}: ∀(l:List Oper) (a:Act) (w:World),(∀o∈l,readerB P o=true)→wpList P ops (SegQ w0 L K) l a w→Path P ops (fun b u=>SegQ w0 L K .normal b u) l a w
 |[],_,_,_,h=>h
 |o::l,a,w,hr,h=>by
  unfold wpList at h;unfold Path;split
  ·rename_i hw;rw[if_pos hw]at h;rcases h with h|⟨_,b,u,h⟩
   ·obtain⟨m,hm⟩:=reader_form (ρ:=a.eval) (hr o List.mem_cons_self);unfold Oper.wp at h;rw[hm,Sem.run_bind]at h;cases hq:m.run P w with
    |halt e u=>
     exfalso;rw[hq]at h;cases e<;>exact h
    |ok x u=>
     rw[hq]at h;refine⟨x,u,by rw[hm,Sem.run_bind,hq];rfl,path_of l _ u (fun q hq=>hr q (List.mem_cons_of_mem _ hq)) h⟩
   ·exact h.elim
  ·rename_i hw;rw[if_neg hw]at h;exact path_of l _ w (fun q hq=>hr q (List.mem_cons_of_mem _ hq)) h
theorem eval_putN{a:Act}{d:Option Tmp}{v:Value}{x:Operand}{l:List Tmp}(hx: ∀t,x= .tmp t→t∈l)(h:(match d with|some d=>!l.contains d|none=>true)=true):(a.put d v).eval x=a.eval x:=by
 refine Act.eval_put fun e he hxe=>?_;subst he;have:=hx e hxe;simp[this]at h
theorem path_end{F:Act→World→Prop}(o:Oper): ∀(l:List Oper) (a:Act) (w:World),(l.all fun q=>match q.dst with|some d=>!(opTmps o).contains d|none=>true)=true→Path P ops F l a w→
  ∃b u,F b u∧∀x∈o.op.operands.toList,b.eval x=a.eval x
 |[],a,w,_,h=>⟨a,w,h,fun _ _=>rfl⟩
 |q::l,a,w,hl,h=>by
  rw[List.all_cons,Bool.and_eq_true]at hl;have key: ∀v,∀x∈o.op.operands.toList,(a.put q.dst v).eval x=a.eval x:=fun v x hx=>
   eval_putN (l:=opTmps o) (fun t e=>by subst e;exact List.mem_filterMap.2 ⟨_,hx,rfl⟩) hl.1
  unfold Path at h;split at h
  ·obtain⟨v,u,_,h⟩:=h;obtain⟨b,u',hF,hb⟩:=path_end o l _ u hl.2 h;exact⟨b,u',hF,fun x hx=>(hb x hx).trans (key v x hx)⟩
  ·obtain⟨b,u',hF,hb⟩:=path_end o l _ w hl.2 h;exact⟨b,u',hF,fun x hx=>(hb x hx).trans (key _ x hx)⟩
theorem plainOps_congr{ρ ρ':Operand→Value}(o:Oper)(h: ∀x∈o.op.operands.toList,ρ x=ρ' x):plainOps ρ o=plainOps ρ' o:=by
 obtain⟨dst,op,type,pos,after,guard⟩:=o;cases op<;>try rfl
 case binOp op t x y ty=>
  have h1:=h x (by simp[Op.operands])
  have h2:=h y (by simp[Op.operands])
  show(plainV (ρ x)&&plainV (ρ y))=(plainV (ρ' x)&&plainV (ρ' y));rw[h1,h2]
 case unOp op t x=>
  have h1:=h x (by simp[Op.operands])
  show plainV (ρ x)=plainV (ρ' x);rw[h1]
 case nilCheck x=>
  have h1:=h x (by simp[Op.operands])
  show notMethod (ρ x)=notMethod (ρ' x);rw[h1]
def TakesB(P:Program)(ops:Array Oper)(w:World):List (Nat × Value)→Act→Prop
 |[],_=>True
 |(i,v)::l,a=>∃o,ops[i]? =some o∧plainOps a.eval o=true∧YieldsIf P ops (Below w.heap.size w) o v a∧TakesB P ops w l (a.put o.dst v)
def putB(ops:Array Oper):List (Nat × Value)→Act→Act
 |[],a=>a
 |(i,v)::l,a=>putB ops l (match ops[i]? with|some o=>a.put o.dst v|none=>a)
theorem path_takes{w0:World}{L:List Oper}{K:Act→Prop}: ∀(T:List Nat) (a:Act) (w:World),(∀i∈T,∃o,ops[i]? =some o∧readerB P o=true)→(∀o∈pickOps ops T,o∈L)→ssaB (pickOps ops T)=true→
  Path P ops (fun b u=>SegQ w0 L K .normal b u) (pickOps ops T) a w→
  w.heap.size≤w0.heap.size∧(w=w0→∃vs:List (Nat × Value),vs.map (·.1)=T∧TakesB P ops w0 vs a∧K (putB ops vs a))
 |[],a,w,_,_,_,h=>by
  obtain⟨rfl,_,hK⟩:=h;exact⟨Nat.le_refl _,fun _=>⟨[],rfl,trivial,hK⟩⟩
 |i::T,a,w,hr,hL,hssa,h=>by
  obtain⟨o,ho,hro⟩:=hr i List.mem_cons_self;have e:pickOps ops (i::T)=o::pickOps ops T:=by
   show(match ops[i]? with|some o=>o::pickOps ops T|none=>pickOps ops T)=_
   rw[ho]
  rw[e]at h hL hssa;unfold ssaB at hssa;rw[Bool.and_eq_true]at hssa;obtain⟨b,u,hF,hb⟩:=path_end o _ a w hssa.1 h;have hplain:plainOps a.eval o=true:=by
   rw[←plainOps_congr o hb];exact List.all_eq_true.1 hF.2.1 o (hL o List.mem_cons_self)
  obtain⟨m,hm,hcalm⟩:=reader_exec hro hplain;have ih:=fun a w=>path_takes (w0:=w0) (L:=L) (K:=K) T a w (fun j hj=>hr j (List.mem_cons_of_mem _ hj)) (fun q hq=>hL q (List.mem_cons_of_mem _ hq)) hssa.2;unfold Path at h;split at h
  ·rename_i hw;obtain⟨v,u1,hrun,h⟩:=h;have hmr:m.run P w= .ok v u1:=by
    rw[hm,Sem.run_bind]at hrun;cases hq:m.run P w with
    |halt e u=>rw[hq]at hrun;cases hrun
    |ok x u=>
     rw[hq]at hrun;injection hrun with h1 h2;injection h1 with h1;rw[h1,h2]
   obtain⟨c1,c2⟩:=hcalm w v u1 hmr;obtain⟨d1,d2⟩:=ih _ _ h;refine⟨Nat.le_trans c1 d1,fun ew=>?_⟩;subst ew;obtain⟨rfl,c3⟩:=c2 (by omega)
   obtain⟨vs,k1,k2,k3⟩:=d2 rfl;refine⟨(i,v)::vs,by rw[List.map_cons,k1],⟨o,ho,hplain,Or.inl ⟨hw,fun w' hb=>?_⟩,k2⟩,?_⟩
   ·rw[hm,Sem.run_bind,c3 w' hb];rfl
   ·unfold putB;rw[ho];exact k3
  ·rename_i hw;obtain⟨d1,d2⟩:=ih _ _ h;refine⟨d1,fun ew=>?_⟩;obtain⟨vs,k1,k2,k3⟩:=d2 ew;refine⟨(i,undef)::vs,by rw[List.map_cons,k1],⟨o,ho,hplain,Or.inr ⟨by simpa using hw,rfl⟩,k2⟩,?_⟩
   unfold putB;rw[ho];exact k3
def doneN:List Nat→Array Bool→Array Bool
 |[],d=>d
 |i::T,d=>doneN T (d.setIfInBounds i true)
def waitSet(md:Region.Mode)(ops:Array Oper)(d:Array Bool)(i:Nat):List Nat:=
 (List.range ops.size).foldl (fun C j=>match ops[j]? with
  |some o=>if !d.getD j true&&(o.after.any fun e=>Region.binds md e&&(e.on==i||C.contains e.on))then j::C else C
  |none=>C) []
def isReader(P:Program)(ops:Array Oper)(i:Nat):Bool:=match ops[i]? with|some o=>readerB P o|none=>false
def Blind(P:Program){α:Type}(m:Sem α):Prop:=∀w v u,m.run P w= .ok v u→∀w',m.run P w'= .ok v w'
section
variable {α β:Type}
theorem Blind.pure(x:α):Blind P (Pure.pure x:Sem α):=fun w y u h w'=>by
 injection h with h1 h2;subst h1;rfl
theorem Blind.stuck(s:String):Blind P (Go.stuck s:Sem α):=fun _ _ _ h=>by cases h
theorem Blind.nilDeref:Blind P (Go.runtimePanic .nilDeref:Sem α):=fun _ _ _ h=>by cases h
theorem Blind.bind{m:Sem α}{f:α→Sem β}(hm:Blind P m)(hf: ∀x,Blind P (f x)):Blind P (m>>=f):=fun w y u h w'=>by
 rw[Sem.run_bind]at h⊢;cases hr:m.run P w with
 |halt e v=>rw[hr]at h;cases h
 |ok x v=>
  rw[hr,Result.andThen_ok]at h;rw[hm w x v hr w',Result.andThen_ok];exact hf x v y u h w'
theorem Blind.sureAddr(x:Value):Blind P (Instr.sureAddr x):=by
 unfold Instr.sureAddr;split
 ·exact .pure _
 ·exact .stuck _
theorem Blind.never{m:Sem α}(h: ∀w x u,m.run P w≠.ok x u):Blind P m:=fun w x u e=>absurd e (h w x u)
theorem Blind.unsupported(s:Unsupported):Blind P (Go.unsupported s:Sem α):=fun _ _ _ h=>by cases h
theorem Blind.underlying(t:TypeId):Blind P (Go.underlying t):=by
 intro w v u h w';unfold Go.underlying at h⊢;have h:Sem.run P (match P.underlying t with|some d=>Pure.pure d|none=>Go.stuck "no such type") w= .ok v u:=h
 show Sem.run P (match P.underlying t with|some d=>Pure.pure d|none=>Go.stuck "no such type") w'= .ok v w'
 cases hd:P.underlying t with
 |some d=>
  rw[hd]at h;exact Blind.pure d w v u h w'
 |none=>
  rw[hd]at h;cases h
theorem Blind.program_bind{f:Program→Sem α}(h:Blind P (f P)):Blind P (Go.program>>=f):=h
theorem Blind.underlying_bind{t:TypeId}{f:TypeDesc→Sem α}(h: ∀d,P.underlying t=some d→Blind P (f d)):Blind P (Go.underlying t>>=f):=by
 intro w v u e w';rw[Sem.run_bind]at e⊢;cases hr:(Go.underlying t).run P w with
 |halt e' v=>rw[hr]at e;cases e
 |ok z x=>
  rw[hr,Result.andThen_ok]at e;rw[Blind.underlying t w z x hr w',Result.andThen_ok];have hz:P.underlying t=some z:=by
   unfold Go.underlying at hr;have hr:Sem.run P (match P.underlying t with|some d=>Pure.pure d|none=>Go.stuck "no such type") w= .ok z x:=hr
   cases hd:P.underlying t with
   |some d=>
    rw[hd]at hr;injection hr with h1 h2;rw[h1]
   |none=>
    rw[hd]at hr;cases hr
  exact h z hz x v u e w'
theorem Blind.equal1{d:Nat}{t:TypeId}(ht:eqTy1 P t=true){x y:Value}(hx:plain1 x=true)(hy:plain1 y=true):Blind P (Op.equalIn d t x y):=by
 cases d with
 |zero=>exact .unsupported _
 |succ d=>
  unfold Op.equalIn;refine Blind.underlying_bind fun q hq=>?_;unfold eqTy1 at ht;rw[hq]at ht;cases q<;>first|(cases ht;done)|skip
  ·cases x<;>first|(cases hx;done)|skip
   all_goals cases y<;>first|(cases hy;done)|skip
   all_goals first|exact .stuck _|exact .pure _
  ·cases x<;>first|(cases hx;done)|skip
   all_goals cases y<;>first|(cases hy;done)|skip
   all_goals first|exact .stuck _|skip
   dsimp only;split
   ·exact .pure _
   ·exact .stuck _
  ·cases x<;>first|(cases hx;done)|skip
   all_goals cases y<;>first|(cases hy;done)|skip
   all_goals first|exact .stuck _|exact .pure _
theorem Blind.equal{t:TypeId}(ht:eqTy1 P t=true){x y:Value}(hx:plainV x=true)(hy:plainV y=true):Blind P (Op.equal t x y):=by
 unfold Op.equal;by_cases hxa: ∃cs,x= .agg cs
 ·obtain⟨cs,rfl⟩:=hxa;show Blind P (Op.equalIn (9999+1) t _ _);unfold Op.equalIn;refine Blind.underlying_bind fun q hq=>?_;unfold eqTy1 at ht;rw[hq]at ht;cases q<;>first|(cases ht;done)|skip
  all_goals cases y<;>first|(cases hy;done)|exact .stuck _|exact .unsupported _
 by_cases hya: ∃cs,y= .agg cs
 ·obtain⟨cs,rfl⟩:=hya;show Blind P (Op.equalIn (9999+1) t _ _);unfold Op.equalIn;refine Blind.underlying_bind fun q hq=>?_;unfold eqTy1 at ht;rw[hq]at ht;cases q<;>first|(cases ht;done)|skip
  all_goals cases x<;>first|(cases hx;done)|exact .stuck _|exact .unsupported _
 have h1:plain1 x=true:=by
  cases x<;>first|exact hx|exact absurd ⟨_,rfl⟩ hxa
 have h2:plain1 y=true:=by
  cases y<;>first|exact hy|exact absurd ⟨_,rfl⟩ hya
 exact .equal1 ht h1 h2
theorem Blind.eqGuard{op:BinOp}{t:TypeId}(ho:eqOp op=true)(ht:eqTy1 P t=true)(x y:Operand){a b:Value}(ha:plainV a=true)(hb:plainV b=true):Blind P (Go.eqGuard op t x y a b):=by
 unfold Go.eqGuard;have hg:P.eqGuardType P.depth t=false:=by
  unfold eqTy1 at ht;cases hd:P.depth with
  |zero=>
   exfalso;unfold Program.depth at hd;omega
  |succ d=>
   unfold Program.eqGuardType;cases hq:P.underlying t with
   |none=>rfl
   |some q=>
    rw[hq]at ht;cases q<;>first|rfl|(cases ht;done)
 cases op<;>first|(cases ho;done)|skip
 all_goals
  cases a<;>first|(cases ha;done)|skip
  all_goals cases b<;>first|(cases hb;done)|skip
  all_goals first
   |exact .pure _
   |(refine Blind.program_bind (Blind.program_bind ?_)
     rw[hg]
     exact .pure _)
theorem Blind.ints(k k':IntKind)(s:String)(x:Value):Blind P (if k≠k' then(Go.stuck s:Sem Value)else Pure.pure x):=by
 split
 ·exact .stuck _
 ·exact .pure _
theorem Blind.strs(c:Prop)[Decidable c](s:Unsupported)(x:Value):Blind P (if c then(Go.unsupported s:Sem Value)else Pure.pure x):=by
 split
 ·exact .unsupported _
 ·exact .pure _
theorem Blind.binOp{op:BinOp}{t:TypeId}(ho:eqOp op=true)(ht:eqTy1 P t=true){a b:Value}(ha:plainV a=true)(hb:plainV b=true):Blind P (Go.binOp op t a b):=by
 cases op<;>first|(cases ho;done)|skip
 all_goals
  cases a<;>first|(cases ha;done)|skip
  all_goals cases b<;>first|(cases hb;done)|skip
  all_goals first
   |exact .stuck _
   |(refine Blind.bind (Blind.equal ht ha hb) fun _=>.pure _)
   |exact Blind.ints _ _ _ _
   |exact Blind.pure _
   |exact Blind.strs _ _ _
theorem Blind.sizeOf(t:TypeId):Blind P (Go.sizeOf t):=by
 cases h:P.info? t with
 |some i=>
  intro w v u e w';rw[Calm.run_sized h]at e⊢;injection e with e1 e2;rw[e1]
 |none=>
  refine .never fun w x u e=>?_;unfold Go.sizeOf Go.typeInfo at e;have e:Sem.run P (do let z←(match P.info? t with|some i=>(Pure.pure i:Sem TypeInfo)|none=>Go.stuck "no such type");Pure.pure z.size) w= .ok x u:=e
  rw[h]at e;cases e
theorem Blind.boundsPanic(k:IntKind)(x y:Int)(c:BoundsCode):Blind P (Go.boundsPanic k x y c:Sem α):=by
 refine .never fun w r u=>?_;unfold Go.boundsPanic;dsimp only;split
 ·exact never_bind (fun b w z u=>bounds_never _ _ _ _ w z u) w r u
 ·exact never_bind (fun b w z u=>bounds_never _ _ _ _ w z u) w r u
theorem Blind.asIntOf(x:Value):Blind P (Go.asIntOf x):=by
 unfold Go.asIntOf;split
 ·exact .pure _
 ·exact .unsupported _
 ·exact .stuck _
theorem Blind.asAddr(x:Value):Blind P (Go.asAddr x):=by
 unfold Go.asAddr;split
 ·exact .pure _
 ·exact .nilDeref
 ·exact .stuck _
theorem Blind.indexAt_end(t e:TypeId)(k:IntKind)(i:Int)(b:Option Addr)(n:Nat)(f:TypeDesc→Bool):Blind P (Go.underlying t>>=fun d=>match b with
  |some a=>if 0≤i∧i<n then Go.sizeOf e>>=fun z=>Pure.pure (Value.pointer (some (a.add (i.toNat*z))))else if f d=true then Go.unsupported (.noEntry "op/indexAddr.an index out of range at an array of length 0 or 1 (ledger 616)")else Go.boundsPanic k i n .index
  |none=>Go.boundsPanic k i 0 .index):=by
 refine(Blind.underlying t).bind fun d=>?_;split
 ·split
  ·exact(Blind.sizeOf _).bind fun _=>.pure _
  ·split
   ·exact .unsupported _
   ·exact .boundsPanic _ _ _ _
 ·exact .boundsPanic _ _ _ _
theorem Blind.indexAt(t:TypeId)(x i:Value):Blind P (Instr.indexAt t x i):=by
 unfold Instr.indexAt;refine(Blind.asIntOf i).bind fun p=>?_;obtain⟨k,i⟩:=p;refine(Blind.underlying t).bind fun d=>?_;dsimp only;split
 ·refine(Blind.sureAddr _).bind fun _=>(Blind.pure _).bind fun q=>?_;obtain⟨b,n,e⟩:=q;exact Blind.indexAt_end t e k i b n (fun d=>decide (n≤1)&&match d with| .array _ _=>true|_=>false)
 ·refine(Blind.pure _).bind fun q=>?_;obtain⟨b,n,e⟩:=q;exact Blind.indexAt_end t e k i b n (fun d=>decide (n≤1)&&match d with| .array _ _=>true|_=>false)
 ·refine(Blind.stuck _).bind fun q=>?_;obtain⟨b,n,e⟩:=q;exact Blind.indexAt_end t e k i b n (fun d=>decide (n≤1)&&match d with| .array _ _=>true|_=>false)
theorem Blind.sliceBound(x:Value)(y:Nat)(c:BoundsCode):Blind P (Instr.sliceBound x y c):=by
 unfold Instr.sliceBound;refine(Blind.asIntOf x).bind fun p=>?_;obtain⟨k,i⟩:=p;dsimp only;by_cases h:0≤i∧i≤y
 ·rw[if_pos h];exact .pure _
 ·rw[if_neg h];exact .boundsPanic _ _ _ _
theorem Blind.bounds3(hm hh:Nat)(lo:Option Value)(b:Bool):Blind P (match lo with
  |some v=>Instr.sliceBound v hh (if b=true then .slice3C else .sliceB)>>=fun l=>Pure.pure (l,hh,hm)
  |none=>Pure.pure 0>>=fun l=>Pure.pure (l,hh,hm)):=by
 split
 ·exact(Blind.sliceBound _ _ _).bind fun _=>.pure _
 ·exact(Blind.pure _).bind fun _=>.pure _
theorem Blind.sliceBounds(b:Bool)(n c:Nat)(lo hi mx:Option Value):Blind P (Instr.sliceBounds b n c lo hi mx):=by
 unfold Instr.sliceBounds;dsimp only;cases mx with
 |none=>
  refine(Blind.pure _).bind fun m=>?_;cases hi with
  |none=>exact(Blind.pure _).bind fun h=>Blind.bounds3 _ _ _ _
  |some v=>exact(Blind.sliceBound _ _ _).bind fun h=>Blind.bounds3 _ _ _ _
 |some u=>
  refine(Blind.sliceBound _ _ _).bind fun m=>?_;cases hi with
  |none=>exact(Blind.stuck _).bind fun h=>Blind.bounds3 _ _ _ _
  |some v=>exact(Blind.sliceBound _ _ _).bind fun h=>Blind.bounds3 _ _ _ _
theorem Blind.slice(t:TypeId)(x:Value)(lo hi mx:Option Value):Blind P (Instr.slice t x lo hi mx):=by
 unfold Instr.slice;refine(Blind.underlying t).bind fun d=>?_;split
 ·split
  ·exact Blind.bind (.stuck _) fun _=>(Blind.sliceBounds _ _ _ _ _ _).bind fun _=>.pure _
  ·exact(Blind.sliceBounds _ _ _ _ _ _).bind fun _=>.pure _
 ·exact(Blind.sliceBounds _ _ _ _ _ _).bind fun _=>(Blind.sizeOf _).bind fun _=>.pure _
 ·refine(Blind.asAddr _).bind fun _=>(Blind.underlying _).bind fun d=>?_;split
  ·exact(Blind.sliceBounds _ _ _ _ _ _).bind fun _=>(Blind.sizeOf _).bind fun _=>.pure _
  ·exact .stuck _
 ·exact .stuck _
theorem Blind.sliceAt(t:TypeId)(x:Value)(lo hi mx:Option Value):Blind P (Instr.sliceAt t x lo hi mx):=by
 unfold Instr.sliceAt;refine(Blind.underlying t).bind fun d=>?_;split
 ·exact(Blind.sureAddr _).bind fun _=>(Blind.sliceBounds _ _ _ _ _ _).bind fun _=>(Blind.sizeOf _).bind fun _=>.pure _
 ·exact .slice _ _ _ _ _
theorem Blind.fieldAt{t:TypeId}{f:Nat}(h:sizedField P t f=true)(x:Value):Blind P (Instr.fieldAt t x f):=by
 unfold Instr.fieldAt;unfold sizedField at h;cases hd:P.underlying t with
 |none=>rw[hd]at h;cases h
 |some d=>
  rw[hd]at h;have hu:Blind P (Go.underlying t):=fun w v u e w'=>by
   have r: ∀w,(Go.underlying t).run P w= .ok d w:=fun w=>by
    unfold Go.underlying;show Sem.run P (match P.underlying t with|some d=>Pure.pure d|none=>Go.stuck "no such type") w=_
    rw[hd];rfl
   rw[r]at e⊢;injection e with e1 e2;rw[e1]
  have hv: ∀w v u,(Go.underlying t).run P w= .ok v u→v=d:=fun w v u e=>by
   have r:(Go.underlying t).run P w= .ok d w:=by
    unfold Go.underlying;show Sem.run P (match P.underlying t with|some d=>Pure.pure d|none=>Go.stuck "no such type") w=_
    rw[hd];rfl
   rw[r]at e;injection e with e1 e2;exact e1.symm
  cases d<;>first|(cases h;done)|skip
  rename_i fs;dsimp only at h;cases hf:fs[f]? with
  |none=>rw[hf]at h;cases h
  |some fd=>
   rw[hf]at h;dsimp only at h;intro w y u e w';rw[Sem.run_bind]at e⊢;cases hr:(Go.underlying t).run P w with
   |halt e' v=>rw[hr]at e;cases e
   |ok z v=>
    have hz:=hv _ _ _ hr;subst hz;rw[hr,Result.andThen_ok]at e;rw[hu _ _ _ hr w',Result.andThen_ok];dsimp only at e⊢;rw[hf]at e⊢;dsimp only at e⊢;refine Blind.bind (.sureAddr x) (fun a=>Blind.bind ?_ fun _=>.pure _) v y u e w';unfold fieldPlace;cases hi:P.info? fd.type with
    |none=>rw[hi]at h;cases h
    |some i=>
     rw[hi]at h;have h0:i.size≠0:=by simpa using h
     intro w1 y1 u1 e1 w1';rw[Sem.run_bind,Calm.run_sized hi,Result.andThen_ok]at e1⊢;rw[if_neg h0]at e1⊢;injection e1 with e1 e2;subst e1;rfl
end
def pureB(P:Program)(o:Oper):Bool:=match o.op with
 | .move _| .assign _| .extract _ _| .nilCheck _| .indexAddr _ _ _| .slice _ _ _ _ _=>true
 | .fieldAddr t _ f=>sizedField P t f
 | .binOp op t _ _ _=>eqOp op&&eqTy1 P t
 |_=>false
def isPure(P:Program)(ops:Array Oper)(i:Nat):Bool:=match ops[i]? with|some o=>pureB P o|none=>false
theorem pure_run{o:Oper}{ρ:Operand→Value}{v:Value}{w:World}(h:pureB P o=true)(hp:plainOps ρ o=true)(hr:(execOp ρ o).run P w= .ok (.value v) w)(u:World):(execOp ρ o).run P u= .ok (.value v) u:=by
 obtain⟨dst,op,type,pos,after,guard⟩:=o;cases op<;>first|(cases h;done)|skip
 case move x=>
  have e:Result.ok (Next.value (ρ x)) w=Result.ok (Next.value v) w:=hr;injection e with e;injection e with e;show Result.ok (Next.value (ρ x)) u=_;rw[e]
 case assign x=>
  have e:Result.ok (Next.value (ρ x)) w=Result.ok (Next.value v) w:=hr;injection e with e;injection e with e;show Result.ok (Next.value (ρ x)) u=_;rw[e]
 case extract x i=>
  have e1: ∀u,(execOp ρ ⟨dst,.extract x i,type,pos,after,guard⟩).run P u=(Instr.extract (ρ x) i>>=fun y=>Pure.pure (Next.value y)).run P u:=fun _=>rfl;rw[e1]at hr⊢;unfold Instr.extract at hr⊢;generalize ρ x=y at hr⊢;cases y<;>first|(cases hr;done)|skip
  rename_i vs;simp only[Sem.run_bind]at hr⊢;split at hr
  ·have e:Result.ok _ w=Result.ok (Next.value v) w:=hr;injection e with e;injection e with e;subst e;rfl
  ·cases hr
 case fieldAddr t x f=>
  exact(Blind.fieldAt (show sizedField P t f=true from h) (ρ x)).bind (fun y=>Blind.pure (Next.value y)) w _ w hr u
 case binOp op t x y ty=>
  have hp:(plainV (ρ x)&&plainV (ρ y))=true:=hp;rw[Bool.and_eq_true]at hp;have h:(eqOp op&&eqTy1 P t)=true:=h;rw[Bool.and_eq_true]at h;exact(((Blind.eqGuard h.1 h.2 x y hp.1 hp.2).bind fun _=>Blind.binOp h.1 h.2 hp.1 hp.2).bind fun y=>Blind.pure (Next.value y)) w _ w hr u
 case indexAddr t x i=>exact(Blind.indexAt t (ρ x) (ρ i)).bind (fun y=>Blind.pure (Next.value y)) w _ w hr u
 case slice t x lo hi mx=>exact(Blind.sliceAt t (ρ x) _ _ _).bind (fun y=>Blind.pure (Next.value y)) w _ w hr u
 case nilCheck x=>
  have hp:notMethod (ρ x)=true:=hp;simp only[execOp]at hr⊢;generalize ρ x=y at hp hr⊢;cases y<;>first|(cases hp;done)|skip
  ·rename_i q;cases q with
   |none=>cases hr
   |some q=>exact Blind.pure _ w _ w hr u
  ·rename_i f a b;cases f<;>first|(cases hp;done)|exact Blind.pure _ w _ w hr u
theorem pure_yields{ops:Array Oper}{S:World→Prop}{o:Oper}{v:Value}{a:Act}{w:World}(h:pureB P o=true)(hp:plainOps a.eval o=true)(hS:S w)(hy:YieldsIf P ops S o v a):YieldsIf P ops (fun _=>True) o v a:=
 hy.imp (fun⟨h1,h2⟩=>⟨h1,fun u _=>pure_run h hp (h2 w hS) u⟩) id
def segB(P:Program)(md:Region.Mode)(ops:Array Oper)(late:List Nat):List Nat→Array Bool→Bool
 |[],_=>true
 |i::T,d=>Region.free md ops d i&&(Region.ready md ops d).contains i&&isReader P ops i&&waitC md ops d i (waitSet md ops d i)&&(isPure P ops i||late.all fun j=>d.getD j true||(waitSet md ops d i).contains j)&&segB P md ops late T (d.setIfInBounds i true)
theorem seg_readers: ∀(T:List Nat) (d:Array Bool),segB P md ops late T d=true→∀i∈T,∃o,ops[i]? =some o∧readerB P o=true
 |[],_,_=>fun i hi=>by cases hi
 |i::T,d,h=>fun j hj=>by
  simp only[segB,Bool.and_eq_true]at h;rcases List.mem_cons.1 hj with rfl|hj
  ·have h1:=h.1.1.1.2;unfold isReader at h1;split at h1
   ·rename_i o ho;exact⟨o,ho,h1⟩
   ·cases h1
  ·exact seg_readers T _ h.2 j hj
theorem seg_takes(hs:Region.noSelect ops=true)(hQ: ∀c a d v w,Q (.panic c) (Act.put a d v) w→Q (.panic c) a w){w:World}: ∀(vs:List (Nat × Value)) (n:Nat) (d:Array Bool) (a:Act),
  segB P md ops late (vs.map (·.1)) d=true→TakesB P ops w vs a→anyB P md ops Q late n (doneN (vs.map (·.1)) d) (putB ops vs a) w→anyB P md ops Q late (n+vs.length) d a w
 |[],_,_,_,_,_,h=>h
 |(i,v)::vs,n,d,a,hb,ht,h=>by
  obtain⟨o,ho,hpl,hy,ht⟩:=ht;simp only[List.map_cons,segB,Bool.and_eq_true]at hb;obtain⟨⟨⟨⟨⟨h1,h2⟩,_⟩,h4⟩,h5⟩,h6⟩:=hb;unfold putB at h;rw[ho]at h;have ih:=seg_takes hs hQ vs n (d.setIfInBounds i true) (a.put o.dst v) h6 ht h;have hC:=waitC_spec h4;rcases(Bool.or_eq_true_iff.1 h5)with h5|h5
  ·have hp:pureB P o=true:=by unfold isPure at h5;rw[ho]at h5;exact h5
   exact anyB_first (S:=fun _=>True) (fun _ _ _ _=>trivial) ho (Region.noSelect_spec hs) (fun c a w=>hQ c a _ _ w) (fun c hc=>(hC c hc).2) (n+vs.length) d a w (Region.free_spec ho h1) (fun c hc=>(hC c hc).1)
    (.inl fun _=>trivial) (by simpa using h2) (pure_yields hp hpl (Below.refl w.heap.size w) hy) trivial ih
  ·exact anyB_first (S:=Below w.heap.size w) (fun w' u hS hb=>hS.trans (hb.mono hS.size)) ho (Region.noSelect_spec hs) (fun c a w=>hQ c a _ _ w) (fun c hc=>(hC c hc).2) (n+vs.length) d a w (Region.free_spec ho h1) (fun c hc=>(hC c hc).1)
    (.inr fun j hj=>by have:=List.all_eq_true.1 h5 j hj;simpa using this) (by simpa using h2) hy (Below.refl _ _) ih
theorem anyB_seg(T:List Nat)(n:Nat){N:Nat}{d:Array Bool}{a:Act}{w:World}(hN:N=n+T.length)(hs:Region.noSelect ops=true)(hb:segB P md ops late T d=true)(hssa:ssaB (pickOps ops T)=true)
  (hQ: ∀c a d v w,Q (.panic c) (Act.put a d v) w→Q (.panic c) a w)
  (h:wpList P ops (SegQ w (pickOps ops T) (fun b=>anyB P md ops Q late n (doneN T d) b w)) (pickOps ops T) a w):anyB P md ops Q late N d a w:=by
 subst hN;have hr:=seg_readers T d hb;have hro: ∀o∈pickOps ops T,readerB P o=true:=by
  clear hb hssa h;induction T with
  |nil=>intro o ho;cases ho
  |cons i T ih=>
   intro o ho;obtain⟨q,hq,hrq⟩:=hr i List.mem_cons_self;unfold pickOps at ho;rw[hq]at ho;rcases List.mem_cons.1 ho with rfl|ho
   ·exact hrq
   ·exact ih (fun j hj=>hr j (List.mem_cons_of_mem _ hj)) o ho
 obtain⟨-,h2⟩:=path_takes T a w hr (fun o ho=>ho) hssa (path_of _ a w hro h);obtain⟨vs,rfl,k2,k3⟩:=h2 rfl;rw[List.length_map];exact seg_takes hs hQ vs n d a hb k2 k3
theorem anyB_one{i:Nat}{o:Oper}{n:Nat}{d:Array Bool}{a:Act}{w:World}(hr:Region.ready md ops d=[i])(ho:ops[i]? =some o)
  (h: ∀K:Act→World→Prop,Shut (∀b u,(i∉late→Below w.heap.size w u)→anyB P md ops Q late n (d.setIfInBounds i true) b u→K b u)→if Region.wanted o (yielded ops a.tmps)=true then Oper.wp P o a w K Q else K (a.put o.dst undef) w):
  anyB P md ops Q late (n+1) d a w:=by
 refine⟨fun e=>(by rw[e]at hr;cases hr),fun j hj=>?_⟩
 rw[hr,List.mem_singleton]at hj;subst hj;exact wpOp_step ho fun K hK=>h K fun b u h1 h2=>hK b u ⟨h1,h2⟩
theorem anyB_two{i j:Nat}{o q:Oper}{n:Nat}{d:Array Bool}{a:Act}{w:World}(hr:Region.ready md ops d=[i,j])(ho:ops[i]? =some o)(hq:ops[j]? =some q)
  (h1: ∀K:Act→World→Prop,Shut (∀b u,(i∉late→Below w.heap.size w u)→anyB P md ops Q late n (d.setIfInBounds i true) b u→K b u)→if Region.wanted o (yielded ops a.tmps)=true then Oper.wp P o a w K Q else K (a.put o.dst undef) w)
  (h2: ∀K:Act→World→Prop,Shut (∀b u,(j∉late→Below w.heap.size w u)→anyB P md ops Q late n (d.setIfInBounds j true) b u→K b u)→if Region.wanted q (yielded ops a.tmps)=true then Oper.wp P q a w K Q else K (a.put q.dst undef) w):
  anyB P md ops Q late (n+1) d a w:=by
 refine⟨fun e=>(by rw[e]at hr;cases hr),fun k hk=>?_⟩
 rw[hr]at hk;simp only[List.mem_cons,List.not_mem_nil,or_false]at hk;rcases hk with rfl|rfl
 ·exact wpOp_step ho fun K hK=>h1 K fun b u h1 h2=>hK b u ⟨h1,h2⟩
 ·exact wpOp_step hq fun K hK=>h2 K fun b u h1 h2=>hK b u ⟨h1,h2⟩
theorem anyB_three{i j k:Nat}{o q r:Oper}{n:Nat}{d:Array Bool}{a:Act}{w:World}(hr:Region.ready md ops d=[i,j,k])(ho:ops[i]? =some o)(hq:ops[j]? =some q)(hk:ops[k]? =some r)
  (h1: ∀K:Act→World→Prop,Shut (∀b u,(i∉late→Below w.heap.size w u)→anyB P md ops Q late n (d.setIfInBounds i true) b u→K b u)→if Region.wanted o (yielded ops a.tmps)=true then Oper.wp P o a w K Q else K (a.put o.dst undef) w)
  (h2: ∀K:Act→World→Prop,Shut (∀b u,(j∉late→Below w.heap.size w u)→anyB P md ops Q late n (d.setIfInBounds j true) b u→K b u)→if Region.wanted q (yielded ops a.tmps)=true then Oper.wp P q a w K Q else K (a.put q.dst undef) w)
  (h3: ∀K:Act→World→Prop,Shut (∀b u,(k∉late→Below w.heap.size w u)→anyB P md ops Q late n (d.setIfInBounds k true) b u→K b u)→if Region.wanted r (yielded ops a.tmps)=true then Oper.wp P r a w K Q else K (a.put r.dst undef) w):
  anyB P md ops Q late (n+1) d a w:=by
 refine⟨fun e=>(by rw[e]at hr;cases hr),fun m hm=>?_⟩
 rw[hr]at hm;simp only[List.mem_cons,List.not_mem_nil,or_false]at hm;rcases hm with rfl|rfl|rfl
 ·exact wpOp_step ho fun K hK=>h1 K fun b u h1 h2=>hK b u ⟨h1,h2⟩
 ·exact wpOp_step hq fun K hK=>h2 K fun b u h1 h2=>hK b u ⟨h1,h2⟩
 ·exact wpOp_step hk fun K hK=>h3 K fun b u h1 h2=>hK b u ⟨h1,h2⟩
theorem anyB_done{d:Array Bool}{a:Act}{w:World}(hr:Region.ready md ops d=[])(h:Q .normal a w): ∀n,anyB P md ops Q late n d a w
 |0=>⟨hr,h⟩
 |_+1=>⟨fun _=>h,by rw[hr];simp⟩
theorem region_segs{id:Nat}{a:Act}{w:World}(late:List Nat)(hm:P.follows .mixedOrders=true)(h:anyB P .any ops Q late ops.size (Array.replicate ops.size false) a w.drew):(Code.region id ops true).wp P Q a w:=
 wp_region_any hm (anyB_any _ _ _ _ h)
/-! the same with what the checks prove by themselves -/
theorem anyB_on(i:Nat){o:Oper}{n:Nat}{d:Array Bool}{a:Act}{w:World}
  (h: ∀K:Act→World→Prop,Shut (∀b u,(i∉late→Below w.heap.size w u)→anyB P md ops Q late n (d.setIfInBounds i true) b u→K b u)→if Region.wanted o (yielded ops a.tmps)=true then Oper.wp P o a w K Q else K (a.put o.dst undef) w)
  (hr:Region.ready md ops d=[i]:=by kernel_rfl) (ho:ops[i]? =some o:=by exact rfl):anyB P md ops Q late (n+1) d a w:=anyB_one hr ho h
theorem anyB_tw(i j:Nat){o q:Oper}{n:Nat}{d:Array Bool}{a:Act}{w:World}
  (h1: ∀K:Act→World→Prop,Shut (∀b u,(i∉late→Below w.heap.size w u)→anyB P md ops Q late n (d.setIfInBounds i true) b u→K b u)→if Region.wanted o (yielded ops a.tmps)=true then Oper.wp P o a w K Q else K (a.put o.dst undef) w)
  (h2: ∀K:Act→World→Prop,Shut (∀b u,(j∉late→Below w.heap.size w u)→anyB P md ops Q late n (d.setIfInBounds j true) b u→K b u)→if Region.wanted q (yielded ops a.tmps)=true then Oper.wp P q a w K Q else K (a.put q.dst undef) w)
  (hr:Region.ready md ops d=[i,j]:=by kernel_rfl) (ho:ops[i]? =some o:=by exact rfl) (hq:ops[j]? =some q:=by exact rfl):anyB P md ops Q late (n+1) d a w:=anyB_two hr ho hq h1 h2
theorem anyB_dn{n:Nat}{d:Array Bool}{a:Act}{w:World}(h:Q .normal a w)(hr:Region.ready md ops d=[]:=by kernel_rfl):anyB P md ops Q late n d a w:=anyB_done hr h n
theorem anyB_sg(T:List Nat)(n:Nat){N:Nat}{d:Array Bool}{a:Act}{w:World}{L:List Oper}(h:wpList P ops (SegQ w L (fun b=>anyB P md ops Q late n (doneN T d) b w)) L a w)
  (hL:pickOps ops T=L:=by(try simp only[pickOps,List.getElem?_toArray,List.getElem?_cons_zero,List.getElem?_cons_succ])<;>exact rfl) (hN:N=n+T.length:=by exact rfl) (hs:Region.noSelect ops=true:=by kernel_rfl) (hb:segB P md ops late T d=true:=by kernel_rfl) (hssa:ssaB (pickOps ops T)=true:=by kernel_rfl)
  (hQ: ∀c a d v w,Q (.panic c) (Act.put a d v) w→Q (.panic c) a w:=by exact fun _ _ d _ _ h=>by cases d<;>exact h):anyB P md ops Q late N d a w:=by
 subst hL;exact anyB_seg T n hN hs hb hssa hQ h
theorem region_sg{id:Nat}{a:Act}{w:World}(late:List Nat)(h:anyB P .any ops Q late ops.size (Array.replicate ops.size false) a w.drew)(hm:P.follows .mixedOrders=true:=by kernel_rfl):(Code.region id ops true).wp P Q a w:=region_segs late hm h
theorem lateK{l:List Nat}{i:Nat}{F A K:Act→World→Prop}(hK:Shut (∀b u,(i∉l→F b u)→A b u→K b u)){b:Act}{u:World}(h:A b u)(hm:i∈l:=by decide):K b u:=hK.out b u (fun hn=>absurd hm hn) h
theorem thK{c:Prop}{F A K:Act→World→Prop}(hK:Shut (∀b u,(c→F b u)→A b u→K b u)){b:Act}{u:World}(hf:F b u)(h:A b u):K b u:=hK.out b u (fun _=>hf) h
theorem sg_o{w:World}{L:List Oper}{K:Act→Prop}{a:Act}(h:K a)(hp:(L.all fun o=>plainOps a.eval o)=true:=by rfl):SegQ w L K .normal a w:=⟨rfl,hp,h⟩
end
end
section
variable {P:Program}{ops:Array Oper}{Q:Exit→Act→World→Prop}{md:Region.Mode}{late:List Nat}{B0:Nat}
def anyO(P:Program)(md:Region.Mode)(ops:Array Oper)(Q:Exit→Act→World→Prop)(late:List Nat)(B0:Nat):Nat→Array Bool→Act→World→Prop
 |0,done,a,w=>Region.ready md ops done=[]∧Q .normal a w
 |n+1,done,a,w=>(Region.ready md ops done=[]→Q .normal a w)∧
   ∀j,j∈Region.ready md ops done→wpOp P ops Q j (fun b u=>(j∉late→Below B0 w u)∧anyO P md ops Q late B0 n (done.setIfInBounds j true) b u) a w
theorem anyO_any(n:Nat): ∀(done:Array Bool) (a:Act) (w:World),anyO P md ops Q late B0 n done a w→wpAny P md ops Q n done a w:=by
 induction n with
 |zero=>exact fun _ _ _ h=>h
 |succ n ih=>exact fun done a w h=>⟨h.1,fun j hj=>wpOp_mono (fun b u hb=>ih _ b u hb.2) (h.2 j hj)⟩
theorem anyO_first{i:Nat}{o:Oper}{v:Value}{S:World→Prop}(hSk: ∀w u,S w→Below B0 w u→S u){C:List Nat}(ho:ops[i]? =some o)(hs: ∀(j:Nat) (q:Oper) cs b,ops[j]? =some q→q.op≠.select cs b)
  (hQ: ∀c a w,Q (.panic c) (a.put o.dst v) w→Q (.panic c) a w) (hC: ∀c∈C,∃q,ops[c]? =some q∧∃e∈q.after,Region.binds md e=true∧(e.on=i∨e.on∈C)) (n:Nat):
  ∀(done:Array Bool) (a:Act) (w:World),
   (∀j q,ops[j]? =some q→j≠i→done.getD j true=false→(∀e∈q.after,Region.binds md e=true→e.on≠i)→o.apart ops q=true)→
   (∀c∈C,done.getD c true=false)→((∀w,S w)∨∀j∈late,done.getD j true=true∨j∈C)→
   i∈Region.ready md ops done→YieldsIf P ops S o v a→S w→
   anyO P md ops Q late B0 n (done.setIfInBounds i true) (a.put o.dst v) w→anyO P md ops Q late B0 (n+1) done a w:=by
 induction n with
 |zero=>
  intro done a w _ _ _ hi hy hS h;refine⟨fun e=>(by rw[e]at hi;cases hi),fun j hj=>?_⟩
  rcases Nat.decEq j i with hne|rfl
  ·have hm:=ready_mono hj hne;rw[h.1]at hm;cases hm
  ·exact hy.wpOp ho hS ⟨fun _=>Below.refl _ _,h⟩
 |succ n ih=>
  intro done a w hf hcd hl hi hy hS h;refine⟨fun e=>(by rw[e]at hi;cases hi),fun j hj=>?_⟩
  rcases Nat.decEq j i with hne|rfl
  ·obtain⟨hun,q,hq,hall⟩:=mem_ready.1 hj;have hiu:=openD (mem_ready.1 hi).1;have hno: ∀e∈q.after,Region.binds md e=true→e.on≠i:=by
    intro e he hb hei;have h1:=hall e he hb;rw[hei,hiu]at h1;cases h1
   have hjC:j∉C:=by
    intro hc;obtain⟨q',hq',e,he,hb,hor⟩:=hC j hc;rw[hq]at hq';injection hq' with hq';subst hq';have h1:=hall e he hb;rcases hor with h2|h2
    ·rw[h2,hiu]at h1;cases h1
    ·rw[openD (hcd _ h2)]at h1;cases h1
   have hjl:(∀w,S w)∨j∉late:=hl.imp id fun hl hm=>by
    rcases hl j hm with h1|h1
    ·rw[hun]at h1;cases h1
    ·exact hjC h1
   have hstep:=wpOp_putIf (S:=S) hq (hf j q hq hne hun hno) (fun cs b=>hs i o cs b ho) (fun cs b=>hs j q cs b hq) hQ hy (h.2 j (ready_mono hj hne));refine wpOp_mono (fun b u ⟨hy',hSu,hrest⟩=>⟨hSu,?_⟩) hstep;refine ih (done.setIfInBounds j true) b u (fun k r hr hki hk=>?_) (fun c hc=>?_) (hl.imp id fun hl k hk=>?_) (ready_mono hi (Ne.symm hne)) hy' (hjl.elim (fun hA=>hA u) fun hn=>hSk w u hS (hSu hn)) ?_
   ·refine hf k r hr hki ?_;rcases Nat.decEq j k with hjk|rfl
    ·rwa[getD_set_ne true hjk]at hk
    ·exact hun
   ·rw[getD_set_ne true (fun e:j=c=>hjC (by rw[e];exact hc))]
    exact hcd c hc
   ·rcases hl k hk with h1|h1
    ·refine .inl ?_;rcases Nat.decEq j k with hjk|rfl
     ·rw[getD_set_ne true hjk];exact h1
     ·rw[hun]at h1;cases h1
    ·exact .inr h1
   ·rw[Array.setIfInBounds_comm _ _ hne];exact hrest
  ·exact hy.wpOp ho hS ⟨fun _=>Below.refl _ _,h⟩
def segO(P:Program)(md:Region.Mode)(ops:Array Oper)(late:List Nat)(first:Bool):List Nat→Array Bool→Bool
 |[],_=>true
 |i::T,d=>Region.free md ops d i&&(Region.ready md ops d).contains i&&isReader P ops i&&waitC md ops d i (waitSet md ops d i)&&(isPure P ops i||(first&&late.all fun j=>d.getD j true||(waitSet md ops d i).contains j))&&segO P md ops late first T (d.setIfInBounds i true)
theorem segO_readers{first:Bool}: ∀(T:List Nat) (d:Array Bool),segO P md ops late first T d=true→∀i∈T,∃o,ops[i]? =some o∧readerB P o=true
 |[],_,_=>fun i hi=>by cases hi
 |i::T,d,h=>fun j hj=>by
  simp only[segO,Bool.and_eq_true]at h;rcases List.mem_cons.1 hj with rfl|hj
  ·have h1:=h.1.1.1.2;unfold isReader at h1;split at h1
   ·rename_i o ho;exact⟨o,ho,h1⟩
   ·cases h1
  ·exact segO_readers T _ h.2 j hj
theorem segO_takes{first:Bool}(hs:Region.noSelect ops=true)(hQ: ∀c a d v w,Q (.panic c) (Act.put a d v) w→Q (.panic c) a w){w:World}(hf:first=true→w.heap.size=B0): ∀(vs:List (Nat × Value)) (n:Nat) (d:Array Bool) (a:Act),
  segO P md ops late first (vs.map (·.1)) d=true→TakesB P ops w vs a→anyO P md ops Q late B0 n (doneN (vs.map (·.1)) d) (putB ops vs a) w→anyO P md ops Q late B0 (n+vs.length) d a w
 |[],_,_,_,_,_,h=>h
 |(i,v)::vs,n,d,a,hb,ht,h=>by
  obtain⟨o,ho,hpl,hy,ht⟩:=ht;simp only[List.map_cons,segO,Bool.and_eq_true]at hb;obtain⟨⟨⟨⟨⟨h1,h2⟩,_⟩,h4⟩,h5⟩,h6⟩:=hb;unfold putB at h;rw[ho]at h;have ih:=segO_takes hs hQ hf vs n (d.setIfInBounds i true) (a.put o.dst v) h6 ht h;have hC:=waitC_spec h4;rcases(Bool.or_eq_true_iff.1 h5)with h5|h5
  ·have hp:pureB P o=true:=by unfold isPure at h5;rw[ho]at h5;exact h5
   exact anyO_first (S:=fun _=>True) (fun _ _ _ _=>trivial) ho (Region.noSelect_spec hs) (fun c a w=>hQ c a _ _ w) (fun c hc=>(hC c hc).2) (n+vs.length) d a w (Region.free_spec ho h1) (fun c hc=>(hC c hc).1)
    (.inl fun _=>trivial) (by simpa using h2) (pure_yields hp hpl (Below.refl w.heap.size w) hy) trivial ih
  ·rw[Bool.and_eq_true]at h5;have e:=hf h5.1;rw[e]at hy;exact anyO_first (S:=Below B0 w) (fun w' u hS hb=>hS.trans hb) ho (Region.noSelect_spec hs) (fun c a w=>hQ c a _ _ w) (fun c hc=>(hC c hc).2) (n+vs.length) d a w (Region.free_spec ho h1) (fun c hc=>(hC c hc).1)
    (.inr fun j hj=>by have:=List.all_eq_true.1 h5.2 j hj;simpa using this) (by simpa using h2) hy (Below.refl _ _) ih
theorem anyO_seg(first:Bool)(T:List Nat)(n:Nat){N:Nat}{d:Array Bool}{a:Act}{w:World}(hN:N=n+T.length)(hs:Region.noSelect ops=true)(hb:segO P md ops late first T d=true)(hssa:ssaB (pickOps ops T)=true)
  (hQ: ∀c a d v w,Q (.panic c) (Act.put a d v) w→Q (.panic c) a w) (hf:first=true→w.heap.size=B0)
  (h:wpList P ops (SegQ w (pickOps ops T) (fun b=>anyO P md ops Q late B0 n (doneN T d) b w)) (pickOps ops T) a w):anyO P md ops Q late B0 N d a w:=by
 subst hN;have hr:=segO_readers T d hb;have hro: ∀o∈pickOps ops T,readerB P o=true:=by
  clear hb hssa h;induction T with
  |nil=>intro o ho;cases ho
  |cons i T ih=>
   intro o ho;obtain⟨q,hq,hrq⟩:=hr i List.mem_cons_self;unfold pickOps at ho;rw[hq]at ho;rcases List.mem_cons.1 ho with rfl|ho
   ·exact hrq
   ·exact ih (fun j hj=>hr j (List.mem_cons_of_mem _ hj)) o ho
 obtain⟨-,h2⟩:=path_takes T a w hr (fun o ho=>ho) hssa (path_of _ a w hro h);obtain⟨vs,rfl,k2,k3⟩:=h2 rfl;rw[List.length_map];exact segO_takes hs hQ hf vs n d a hb k2 k3
theorem anyO_one{i:Nat}{o:Oper}{n:Nat}{d:Array Bool}{a:Act}{w:World}(hr:Region.ready md ops d=[i])(ho:ops[i]? =some o)
  (h: ∀K:Act→World→Prop,Shut (∀b u,(i∉late→Below B0 w u)→anyO P md ops Q late B0 n (d.setIfInBounds i true) b u→K b u)→if Region.wanted o (yielded ops a.tmps)=true then Oper.wp P o a w K Q else K (a.put o.dst undef) w):
  anyO P md ops Q late B0 (n+1) d a w:=by
 refine⟨fun e=>(by rw[e]at hr;cases hr),fun j hj=>?_⟩
 rw[hr,List.mem_singleton]at hj;subst hj;exact wpOp_step ho fun K hK=>h K fun b u h1 h2=>hK b u ⟨h1,h2⟩
theorem anyO_two{i j:Nat}{o q:Oper}{n:Nat}{d:Array Bool}{a:Act}{w:World}(hr:Region.ready md ops d=[i,j])(ho:ops[i]? =some o)(hq:ops[j]? =some q)
  (h1: ∀K:Act→World→Prop,Shut (∀b u,(i∉late→Below B0 w u)→anyO P md ops Q late B0 n (d.setIfInBounds i true) b u→K b u)→if Region.wanted o (yielded ops a.tmps)=true then Oper.wp P o a w K Q else K (a.put o.dst undef) w)
  (h2: ∀K:Act→World→Prop,Shut (∀b u,(j∉late→Below B0 w u)→anyO P md ops Q late B0 n (d.setIfInBounds j true) b u→K b u)→if Region.wanted q (yielded ops a.tmps)=true then Oper.wp P q a w K Q else K (a.put q.dst undef) w):
  anyO P md ops Q late B0 (n+1) d a w:=by
 refine⟨fun e=>(by rw[e]at hr;cases hr),fun k hk=>?_⟩
 rw[hr]at hk;simp only[List.mem_cons,List.not_mem_nil,or_false]at hk;rcases hk with rfl|rfl
 ·exact wpOp_step ho fun K hK=>h1 K fun b u h1 h2=>hK b u ⟨h1,h2⟩
 ·exact wpOp_step hq fun K hK=>h2 K fun b u h1 h2=>hK b u ⟨h1,h2⟩
theorem anyO_done{d:Array Bool}{a:Act}{w:World}(hr:Region.ready md ops d=[])(h:Q .normal a w): ∀n,anyO P md ops Q late B0 n d a w
 |0=>⟨hr,h⟩
 |_+1=>⟨fun _=>h,by rw[hr];simp⟩
theorem region_segsO{id:Nat}{a:Act}{w:World}(late:List Nat)(hm:P.follows .mixedOrders=true)(h:anyO P .any ops Q late w.heap.size ops.size (Array.replicate ops.size false) a w.drew):(Code.region id ops true).wp P Q a w:=
 wp_region_any hm (anyO_any _ _ _ _ h)
/-! the same with what the checks prove by themselves -/
theorem anyO_on(i:Nat){o:Oper}{n:Nat}{d:Array Bool}{a:Act}{w:World}
  (h: ∀K:Act→World→Prop,Shut (∀b u,(i∉late→Below B0 w u)→anyO P md ops Q late B0 n (d.setIfInBounds i true) b u→K b u)→if Region.wanted o (yielded ops a.tmps)=true then Oper.wp P o a w K Q else K (a.put o.dst undef) w)
  (hr:Region.ready md ops d=[i]:=by kernel_rfl) (ho:ops[i]? =some o:=by exact rfl):anyO P md ops Q late B0 (n+1) d a w:=anyO_one hr ho h
theorem anyO_tw(i j:Nat){o q:Oper}{n:Nat}{d:Array Bool}{a:Act}{w:World}
  (h1: ∀K:Act→World→Prop,Shut (∀b u,(i∉late→Below B0 w u)→anyO P md ops Q late B0 n (d.setIfInBounds i true) b u→K b u)→if Region.wanted o (yielded ops a.tmps)=true then Oper.wp P o a w K Q else K (a.put o.dst undef) w)
  (h2: ∀K:Act→World→Prop,Shut (∀b u,(j∉late→Below B0 w u)→anyO P md ops Q late B0 n (d.setIfInBounds j true) b u→K b u)→if Region.wanted q (yielded ops a.tmps)=true then Oper.wp P q a w K Q else K (a.put q.dst undef) w)
  (hr:Region.ready md ops d=[i,j]:=by kernel_rfl) (ho:ops[i]? =some o:=by exact rfl) (hq:ops[j]? =some q:=by exact rfl):anyO P md ops Q late B0 (n+1) d a w:=anyO_two hr ho hq h1 h2
theorem anyO_dn{n:Nat}{d:Array Bool}{a:Act}{w:World}(h:Q .normal a w)(hr:Region.ready md ops d=[]:=by kernel_rfl):anyO P md ops Q late B0 n d a w:=anyO_done hr h n
theorem anyO_sg(first:Bool)(T:List Nat)(n:Nat){N:Nat}{d:Array Bool}{a:Act}{w:World}{L:List Oper}(h:wpList P ops (SegQ w L (fun b=>anyO P md ops Q late B0 n (doneN T d) b w)) L a w)(hf:first=true→w.heap.size=B0)
  (hL:pickOps ops T=L:=by(try simp only[pickOps,List.getElem?_toArray,List.getElem?_cons_zero,List.getElem?_cons_succ])<;>exact rfl) (hN:N=n+T.length:=by exact rfl) (hs:Region.noSelect ops=true:=by kernel_rfl) (hb:segO P md ops late first T d=true:=by kernel_rfl) (hssa:ssaB (pickOps ops T)=true:=by kernel_rfl)
  (hQ: ∀c a d v w,Q (.panic c) (Act.put a d v) w→Q (.panic c) a w:=by exact fun _ _ d _ _ h=>by cases d<;>exact h):anyO P md ops Q late B0 N d a w:=by
 subst hL;exact anyO_seg first T n hN hs hb hssa hQ hf h
theorem region_sgO{id:Nat}{a:Act}{w:World}(late:List Nat)(h:anyO P .any ops Q late w.heap.size ops.size (Array.replicate ops.size false) a w.drew)(hm:P.follows .mixedOrders=true:=by kernel_rfl):(Code.region id ops true).wp P Q a w:=region_segsO late hm h
end
end Go.Proofs.YtjbnfigpflambacGreatDoor
